/- For all bytes: two texts, one behind the other, are one; what is bad first stays so; a text cut within a sign is none. Conditions: none beyond the statement's own. -/
import Derived.Test.YtpoeiiimmgnioaaDoorQ3
import Derived.Test.YtpoeiiimmgnioaaDoorUtfScan
namespace Go.Proofs.YtpoeiiimmgnioaaDoor.Pure
open Go.RowKit Go.Proofs.YtpoeiiimmgnioaaDoor.Q Go.Proofs.YtpoeiiimmgnioaaDoorW.PrintWords Go.Proofs.YtpoeiiimmgnioaaDoorW.PrintLast Go.Proofs.YtpoeiiimmgnioaaDoorW.PrintMore Go.Proofs.YtpoeiiimmgnioaaDoor.Ut
def joinN (b : List Int) (k : Nat) : Option Bool := (utf_Next.f b).bind fun bt135 => ((scarflaw01_known.f).bind fun t137 => (if t137 = true then (if bt135.2 < 2 then (some true) else (if 0 ≤ (wrap64 (bt135.2 - 1)) then (if (wrap64 (bt135.2 - 1)) ≤ (b.length : Int) then ((utf_Text.f k (b.take ((wrap64 (bt135.2 - 1)) : Int).toNat)).bind fun t139 => (some (!t139))) else (none)) else (none))) else (some false)))
def joinJ (a b all : List Int) (k : Nat) : Option Bool := (utf_Bad.f k a).bind fun t132 => ((utf_Bad.f k b).bind fun t133 => (if t132 = (a.length : Int) then ((utf_Bad.f k all).bind fun t134 => (if t134 = (wrap64 ((a.length : Int) + t133)) then joinN b k else (some false))) else ((utf_Bad.f k all).bind fun t140 => (if t140 < t132 then (some false) else joinN b k))))
def joinF (a b : List Int) (k : Nat) : Option Bool := (some (([] : List Int) : List Int)).bind fun y123 => (if y123.length + a.length < 140737488355328 then ((some (y123 ++ a : List Int)).bind fun y126 => (if y126.length + b.length < 140737488355328 then ((some (y126 ++ b : List Int)).bind fun y129 => joinJ a b y129 k) else (none))) else (none))
theorem cut_none {n : Int} {rest : List Int} (hn : Sg n) (hr : Bs rest) (h2 : 2 ≤ (Enc n).length) : Ev (fun k => utf_Text.f k ((Enc n ++ rest).take ((Enc n).length - 1))) false := by
  have hb := (Bs.enc hn).append hr
  have h4 := (enc_len hn).2
  obtain ⟨u, r, P⟩ := part_of _ _ (Nat.le_refl _) (hb.take ((Enc n).length - 1))
  have lt : ((Enc n ++ rest).take ((Enc n).length - 1)).length = (Enc n).length - 1 := by rw [List.length_take, List.length_append]; omega
  have := text_runs (hb.take _) P (by omega)
  have hne : r ≠ [] := by
    intro e
    have P2 := P.2.1
    rw [e, List.append_nil] at P2
    cases u with
    | nil =>
      rw [P2] at lt
      have e0 : (Txt []).length = 0 := rfl
      omega
    | cons m u =>
      have hm := P.1.cons
      rw [Txt_cons] at P2
      have q : Enc n ++ rest = Enc m ++ (Txt u ++ (Enc n ++ rest).drop ((Enc n).length - 1)) := by
        rw [← List.append_assoc, ← P2, List.take_append_drop]
      have w := enc_unique (s := Txt u ++ (Enc n ++ rest).drop ((Enc n).length - 1)) hn hm.1 hr ((Bs.txt hm.2).append (hb.drop _)) q
      rw [P2, ← w.1, List.length_append] at lt
      omega
  rw [decide_eq_false hne] at this
  exact this
theorem joinN_runs {b : List Int} (hb : Bs b) : Ev (joinN b) true := by
  rcases next_spec hb with e | ⟨n, rest, hn, e, q⟩
  · refine Ev.congr (fun k => ?_) (Ev.now true)
    unfold joinN
    rw [e, known01]; rfl
  · have hr : Bs rest := fun x hx => hb x (by rw [e]; exact List.mem_append_right _ hx)
    have h4 := enc_len hn
    by_cases c : (Enc n).length < 2
    · refine Ev.congr (fun k => ?_) (Ev.now true)
      unfold joinN
      rw [q, known01, Option.bind_some, Option.bind_some, if_pos rfl, if_pos (by show ((Enc n).length : Int) < 2; omega)]
    · have e1 : wrap64 (((Enc n).length : Int) - 1) = (((Enc n).length - 1 : Nat) : Int) := by rw [w64 (by omega) (by omega)]; omega
      have hle : (Enc n).length ≤ b.length := by rw [e, List.length_append]; omega
      have := cut_none hn hr (by omega)
      rw [← e] at this
      refine Ev.congr (fun k => ?_) (Ev.bind (f := fun _ t139 => some (!t139)) this (Ev.now true))
      unfold joinN
      rw [q, known01, Option.bind_some, Option.bind_some, if_pos rfl]
      show (if ((Enc n).length : Int) < 2 then _ else (if 0 ≤ wrap64 (((Enc n).length : Int) - 1) then (if wrap64 (((Enc n).length : Int) - 1) ≤ (b.length : Int) then ((utf_Text.f k (b.take (wrap64 (((Enc n).length : Int) - 1)).toNat)).bind fun t139 => (some (!t139))) else none) else none)) = _
      rw [if_neg (by omega), e1, if_pos (by omega), if_pos (by omega), Int.toNat_natCast]
theorem part_more {l s r u q : List Int} (P : Part l s r) (m : List Int) (hm : l ++ m = Txt s ++ (r ++ m)) (Q : Part (r ++ m) u q) : Part (l ++ m) (s ++ u) q := by
  refine ⟨fun n hn => (List.mem_append.1 hn).elim (P.1 n) (Q.1 n), ?_, Q.2.2⟩
  rw [hm, Q.2.1, Txt_append, List.append_assoc]
theorem joinJ_runs {a b : List Int} (ha : Bs a) (hb : Bs b) (la : a.length ≤ 50000) (lb : b.length ≤ 50000) : Ev (joinJ a b (a ++ b)) true := by
  obtain ⟨s, ra, P⟩ := part_of _ _ (Nat.le_refl _) ha
  obtain ⟨t, rb, Q⟩ := part_of _ _ (Nat.le_refl _) hb
  have hm : a ++ b = Txt s ++ (ra ++ b) := by rw [P.2.1, List.append_assoc]
  have lP : a.length = (Txt s).length + ra.length := by rw [P.2.1, List.length_append]
  have hab := ha.append hb
  have lab : (a ++ b).length < 1099511627776 := by rw [List.length_append]; omega
  unfold joinJ
  refine Ev.bind (f := fun k t132 => ((utf_Bad.f k b).bind fun t133 => (if t132 = (a.length : Int) then ((utf_Bad.f k (a ++ b)).bind fun t134 => (if t134 = (wrap64 ((a.length : Int) + t133)) then joinN b k else (some false))) else ((utf_Bad.f k (a ++ b)).bind fun t140 => (if t140 < t132 then (some false) else joinN b k))))) (bad_runs ha P (by omega)) ?_
  refine Ev.bind (f := fun k t133 => (if ((Txt s).length : Int) = (a.length : Int) then ((utf_Bad.f k (a ++ b)).bind fun t134 => (if t134 = (wrap64 ((a.length : Int) + t133)) then joinN b k else (some false))) else ((utf_Bad.f k (a ++ b)).bind fun t140 => (if t140 < ((Txt s).length : Int) then (some false) else joinN b k)))) (bad_runs hb Q (by omega)) ?_
  by_cases h : ra = []
  · rw [h] at hm lP
    have R : Part (a ++ b) (s ++ t) rb := part_more (r := []) ⟨P.1, by rw [P.2.1, h], by rw [← h]; exact P.2.2⟩ b hm Q
    have lQ : b.length = (Txt t).length + rb.length := by rw [Q.2.1, List.length_append]
    have lt : (Txt (s ++ t)).length = (Txt s).length + (Txt t).length := by rw [Txt_append, List.length_append]
    have l0 : ([] : List Int).length = 0 := rfl
    have e : wrap64 ((a.length : Int) + ((Txt t).length : Int)) = ((Txt (s ++ t)).length : Int) := by rw [w64 (by omega) (by omega)]; omega
    refine Ev.congr (f := fun k => (utf_Bad.f k (a ++ b)).bind fun t134 => (if t134 = (wrap64 ((a.length : Int) + ((Txt t).length : Int))) then joinN b k else (some false))) (fun k => if_pos (by omega)) ?_
    refine Ev.bind (f := fun k t134 => (if t134 = (wrap64 ((a.length : Int) + ((Txt t).length : Int))) then joinN b k else (some false))) (bad_runs hab R lab) ?_
    exact Ev.congr (fun k => if_pos e.symm) (joinN_runs hb)
  · have hr : 0 < ra.length := List.length_pos_iff.2 h
    obtain ⟨u, q, U⟩ := part_of (ra ++ b).length (ra ++ b) (Nat.le_refl _) ((P.bs ha).append hb)
    have R := part_more P b hm U
    have lt : (Txt (s ++ u)).length = (Txt s).length + (Txt u).length := by rw [Txt_append, List.length_append]
    refine Ev.congr (f := fun k => (utf_Bad.f k (a ++ b)).bind fun t140 => (if t140 < ((Txt s).length : Int) then (some false) else joinN b k)) (fun k => if_neg (by omega)) ?_
    refine Ev.bind (f := fun k t140 => (if t140 < ((Txt s).length : Int) then (some false) else joinN b k)) (bad_runs hab R lab) ?_
    exact Ev.congr (fun k => if_neg (by omega)) (joinN_runs hb)
theorem joinF_runs {a b : List Int} (ha : Bs a) (hb : Bs b) (la : a.length ≤ 50000) (lb : b.length ≤ 50000) : Ev (joinF a b) true := by
  refine Ev.congr (fun k => ?_) (joinJ_runs ha hb la lb)
  unfold joinF
  simp only [Option.bind_some, List.nil_append, List.length_nil, Nat.zero_add]
  rw [if_pos (by omega), if_pos (by omega)]
theorem UtfJoins : scarflaw01_UtfJoins.Pure := by
  intro l b _ _ hv _ _ hw
  have hl := Bs_of hv
  have hb := Bs_of hw
  apply Ev.rounds
  by_cases c : (l.length : Int) > 50000
  · by_cases c2 : (b.length : Int) > 50000
    · refine Ev.congr (fun k => ?_) (joinF_runs (hl.take 50000) (hb.take 50000) (by rw [List.length_take]; omega) (by rw [List.length_take]; omega))
      unfold scarflaw01_UtfJoins.f
      rw [if_pos c, if_pos (by omega), if_pos c2, if_pos (by omega)]
      rfl
    · refine Ev.congr (fun k => ?_) (joinF_runs (hl.take 50000) hb (by rw [List.length_take]; omega) (by omega))
      unfold scarflaw01_UtfJoins.f
      rw [if_pos c, if_pos (by omega), if_neg c2]
      rfl
  · by_cases c2 : (b.length : Int) > 50000
    · refine Ev.congr (fun k => ?_) (joinF_runs hl (hb.take 50000) (by omega) (by rw [List.length_take]; omega))
      unfold scarflaw01_UtfJoins.f
      rw [if_neg c, if_pos c2, if_pos (by omega)]
      rfl
    · refine Ev.congr (fun k => ?_) (joinF_runs hl hb (by omega) (by omega))
      unfold scarflaw01_UtfJoins.f
      rw [if_neg c, if_neg c2]
      rfl
end Go.Proofs.YtpoeiiimmgnioaaDoor.Pure
