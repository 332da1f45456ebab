/- For all rows of numbers and all places: a text's beginning is a text just if it ends behind a sign. Conditions: none beyond the statement's own. -/
import Derived.Test.YtpoeiiimmgnioaaDoorQ7
import Derived.Test.YtpoeiiimmgnioaaDoorUtfScan
namespace Go.Proofs.YtpoeiiimmgnioaaDoor.Pure
open Go.RowKit Go.Proofs.YtpoeiiimmgnioaaDoor.Q Go.Proofs.YtpoeiiimmgnioaaDoorW.PrintWords Go.Proofs.YtpoeiiimmgnioaaDoorW.PrintLast Go.Proofs.YtpoeiiimmgnioaaDoorW.PrintMore Go.Proofs.YtpoeiiimmgnioaaDoor.Ut
def Edge (s : List Int) (i : Nat) (k : Int) : Prop := ∃ j, j ≤ i ∧ ((Txt (s.take j)).length : Int) = k
theorem txt_prefix : ∀ (a s q : List Int), Sgs a → Sgs s → Bs q → Txt a ++ q = Txt s → a = s.take a.length
  | [], _, _, _, _, _, _ => by simp
  | n :: a, [], _, ha, _, _, e => by
    have := (enc_len ha.cons.1).1
    have e2 := congrArg List.length e
    rw [Txt_cons, List.length_append, List.length_append] at e2
    have e3 : (Txt []).length = 0 := rfl
    omega
  | n :: a, m :: s, q, ha, hs, hq, e => by
    rw [Txt_cons, Txt_cons, List.append_assoc] at e
    obtain ⟨e1, e2⟩ := enc_unique ha.cons.1 hs.cons.1 ((Bs.txt ha.cons.2).append hq) (Bs.txt hs.cons.2) e
    rw [List.length_cons, List.take_succ_cons, e1, ← txt_prefix a s q ha.cons.2 hs.cons.2 hq e2]
theorem cut_text {s : List Int} (hs : Sgs s) (hl : s.length ≤ 5000) (k : Nat) (hk : k ≤ (Txt s).length) (x : Bool) (hx : x = true ↔ Edge s s.length k) : Ev (fun r => utf_Text.f r ((Txt s).take k)) x := by
  have L := (Txt_len hs).2
  by_cases h : Edge s s.length k
  · obtain ⟨j, hj, e⟩ := h
    have ex : x = true := hx.2 ⟨j, hj, e⟩
    have ek : k = (Txt (s.take j)).length := by omega
    have et : (Txt s).take k = Txt (s.take j) := by
      conv => lhs; rw [← List.take_append_drop j s]
      rw [Txt_append, ek, List.take_left]
    have hLj := (Txt_len (hs.take j)).2
    have := text_runs (Bs.txt (hs.take j)) (part_txt (hs.take j)) (by rw [List.length_take] at hLj; omega)
    rw [et, ex]
    simpa using this
  · have hb := (Bs.txt hs).take k
    obtain ⟨a, rest, P⟩ := part_of _ _ (Nat.le_refl _) hb
    have := text_runs hb P (by rw [List.length_take]; omega)
    have hr : rest ≠ [] := by
      intro e
      have P2 := P.2.1
      rw [e, List.append_nil] at P2
      have q := txt_prefix a s ((Txt s).drop k) P.1 hs ((Bs.txt hs).drop k) (by rw [← P2, List.take_append_drop])
      refine h ⟨min a.length s.length, by omega, ?_⟩
      have e2 : s.take (min a.length s.length) = a := by rw [← List.take_length (l := s), List.take_take, List.take_length] at *; rw [q]; simp
      rw [e2, ← P2, List.length_take]
      omega
    have ex : x = false := by
      cases x with
      | false => rfl
      | true => exact absurd (hx.1 rfl) h
    rw [ex]
    rw [decide_eq_false hr] at this
    exact this
theorem w64_add {a b c : Nat} (h : c = a + b) (hc : c ≤ 1000000) : wrap64 ((a : Int) + (b : Int)) = (c : Int) := by rw [w64 (by omega) (by omega)]; omega
theorem w64_one (a : Nat) (hc : a ≤ 1000000) : wrap64 ((a : Int) + 1) = ((a + 1 : Nat) : Int) := by rw [w64 (by omega) (by omega)]; omega
theorem cuts_l0 {s : List Int} (hs : Sgs s) (hl : s.length ≤ 5000) (c : Nat) (hc : c ≤ (Txt s).length) (d : Nat) : ∀ (i : Nat) (x : Bool), i ≤ s.length → s.length - i ≤ d → (x = true ↔ Edge s i c) →
    Ev (fun k => scarflaw01_UtfCuts.l0 k (Txt s) s c ((Txt (s.take i)).length : Int) x i) true := by
  have L := (Txt_len hs).2
  have fin : ∀ (x : Bool), (x = true ↔ Edge s s.length c) → Ev (fun k => scarflaw01_UtfCuts.l0 k (Txt s) s c ((Txt (s.take s.length)).length : Int) x s.length) true := by
    intro x hx
    refine Ev.steps 1 (f := fun k => (utf_Text.f k ((Txt s).take c)).bind fun t303 => (if (t303 == x) = true then ((utf_Bad.f k (Txt s)).bind fun t304 => (some (t304 == ((Txt s).length : Int)))) else (some false))) (fun k => ?_) ?_
    · rw [scarflaw01_UtfCuts.l0, if_neg (by omega), known01, Option.bind_some, if_pos rfl, if_pos (by omega), if_pos (by omega), Int.toNat_natCast]
    · refine Ev.bind (f := fun k t303 => (if (t303 == x) = true then ((utf_Bad.f k (Txt s)).bind fun t304 => (some (t304 == ((Txt s).length : Int)))) else (some false))) (cut_text hs hl c hc x hx) ?_
      refine Ev.congr (f := fun k => (utf_Bad.f k (Txt s)).bind fun t304 => (some (t304 == ((Txt s).length : Int)))) (fun k => by rw [if_pos (by simp)]) ?_
      refine Ev.bind (f := fun _ t304 => (some (t304 == ((Txt s).length : Int)))) (bad_runs (Bs.txt hs) (part_txt hs) (by omega)) ?_
      refine Ev.congr (fun k => ?_) (Ev.now true)
      simp
  induction d with
  | zero =>
    intro i x hi hd hx
    obtain rfl : i = s.length := by omega
    exact fin x hx
  | succ d ih =>
    intro i x hi hd hx
    by_cases ci : i < s.length
    · have er : rd s i = s[i]'ci := by unfold rd; rw [Int.toNat_natCast, List.getD_eq_getElem?_getD, List.getElem?_eq_getElem ci]; rfl
      have hsi := hs _ (List.getElem_mem ci)
      have hj : (Txt (s.take (i + 1))).length ≤ 1000000 := by
        have hLj := (Txt_len (hs.take (i + 1))).2
        rw [List.length_take] at hLj
        clear hx L hc
        omega
      have e1 : wrap64 (((Txt (s.take i)).length : Int) + ((Enc s[i]).length : Int)) = ((Txt (s.take (i + 1))).length : Int) := w64_add (Txt_take_succ i ci) hj
      have e2 : wrap64 ((i : Int) + 1) = ((i + 1 : Nat) : Int) := w64_one i (Nat.le_trans (Nat.le_of_lt ci) (Nat.le_trans hl (by decide)))
      clear hj
      have p1 : (i : Int) < (s.length : Int) := Int.ofNat_lt.2 ci
      have p2 : 0 ≤ (i : Int) := Int.natCast_nonneg i
      have step : ∀ k, scarflaw01_UtfCuts.l0 (k + 1) (Txt s) s c ((Txt (s.take i)).length : Int) x i = if x = true then scarflaw01_UtfCuts.l0 k (Txt s) s c ((Txt (s.take (i + 1))).length : Int) true ((i + 1 : Nat) : Int) else scarflaw01_UtfCuts.l0 k (Txt s) s c ((Txt (s.take (i + 1))).length : Int) (((Txt (s.take (i + 1))).length : Int) == (c : Int)) ((i + 1 : Nat) : Int) := by
        intro k
        rw [scarflaw01_UtfCuts.l0, if_pos p1, if_pos p2, er, bytes_yes hsi, Option.bind_some, e2]
        show (if x = true then scarflaw01_UtfCuts.l0 k (Txt s) s c (wrap64 (((Txt (s.take i)).length : Int) + ((Enc s[i]).length : Int))) true _ else scarflaw01_UtfCuts.l0 k (Txt s) s c (wrap64 (((Txt (s.take i)).length : Int) + ((Enc s[i]).length : Int))) (wrap64 (((Txt (s.take i)).length : Int) + ((Enc s[i]).length : Int)) == (c : Int)) _) = _
        rw [e1]
      by_cases cx : x = true
      · obtain ⟨j, hj, ej⟩ := hx.1 cx
        exact Ev.steps 1 (fun k => by rw [step, if_pos cx]) (ih (i + 1) true ci (by clear e1 hx step; omega) ⟨fun _ => ⟨j, Nat.le_succ_of_le hj, ej⟩, fun _ => rfl⟩)
      · refine Ev.steps 1 (fun k => by rw [step, if_neg cx]) (ih (i + 1) _ ci (by clear e1 hx step; omega) ?_)
        rw [beq_iff_eq]
        constructor
        · intro e; exact ⟨i + 1, Nat.le_refl _, e⟩
        · rintro ⟨j, hj, ej⟩
          by_cases q : j = i + 1
          · rw [← q]; exact ej
          · exact absurd (hx.2 ⟨j, by clear e1 hx step; omega, ej⟩) cx
    · obtain rfl : i = s.length := by omega
      exact fin x hx
theorem cuts_same (k : Nat) : ∀ x5 x6 x7 x8 x9 x10, scarflaw01_UtfCuts.l1 k x5 x6 x7 x8 x9 x10 = scarflaw01_UtfCuts.l0 k x5 x6 x7 x8 x9 x10 := by
  induction k with
  | zero => intro _ _ _ _ _ _; rw [scarflaw01_UtfCuts.l0, scarflaw01_UtfCuts.l1]
  | succ k ih => intro _ _ _ _ _ _; rw [scarflaw01_UtfCuts.l0, scarflaw01_UtfCuts.l1]; simp only [ih]
theorem cut_place (a : Int) (n : Nat) (hn : n ≤ 1000000) : ∃ c : Nat, c ≤ n ∧ wrap64 (Int.tmod (IntKind.u64.wrap a) (IntKind.u64.wrap (wrap64 ((n : Int) + 1)))) = (c : Int) ∧ IntKind.u64.wrap (wrap64 ((n : Int) + 1)) ≠ 0 := by
  have e1 : wrap64 ((n : Int) + 1) = (n : Int) + 1 := w64 (by omega) (by omega)
  have e2 : IntKind.u64.wrap ((n : Int) + 1) = (n : Int) + 1 := by
    unfold IntKind.wrap
    simp [IntKind.signed, IntKind.bits]
    omega
  have e3 : 0 ≤ IntKind.u64.wrap a := by
    unfold IntKind.wrap
    simp [IntKind.signed, IntKind.bits]
    omega
  rw [e1, e2, Int.tmod_eq_emod_of_nonneg e3]
  have h1 := Int.emod_nonneg (IntKind.u64.wrap a) (b := (n : Int) + 1) (by omega)
  have h2 := Int.emod_lt_of_pos (IntKind.u64.wrap a) (b := (n : Int) + 1) (by omega)
  refine ⟨(IntKind.u64.wrap a % ((n : Int) + 1)).toNat, by omega, ?_, by omega⟩
  rw [w64 (by omega) (by omega)]
  omega
theorem cuts_tail (l : List Int) (a : Int) : Ev (fun k => (scarflaw01_texts.f k l).bind fun bt305 => (if (IntKind.u64.wrap (wrap64 ((bt305.1.length : Int) + 1))) = 0 then (none) else (scarflaw01_UtfCuts.l0 k bt305.1 bt305.2 (wrap64 (Int.tmod (IntKind.u64.wrap (a)) (IntKind.u64.wrap (wrap64 ((bt305.1.length : Int) + 1))))) 0 ((wrap64 (Int.tmod (IntKind.u64.wrap (a)) (IntKind.u64.wrap (wrap64 ((bt305.1.length : Int) + 1))))) == 0) 0))) true := by
  obtain ⟨s, hs, hl, ev⟩ := texts_runs l
  have L := (Txt_len hs).2
  obtain ⟨c, hc, ec, ne⟩ := cut_place a (Txt s).length (by omega)
  refine Ev.bind (f := fun k bt305 => (if (IntKind.u64.wrap (wrap64 ((bt305.1.length : Int) + 1))) = 0 then (none) else (scarflaw01_UtfCuts.l0 k bt305.1 bt305.2 (wrap64 (Int.tmod (IntKind.u64.wrap (a)) (IntKind.u64.wrap (wrap64 ((bt305.1.length : Int) + 1))))) 0 ((wrap64 (Int.tmod (IntKind.u64.wrap (a)) (IntKind.u64.wrap (wrap64 ((bt305.1.length : Int) + 1))))) == 0) 0))) ev ?_
  have := cuts_l0 hs hl c hc s.length 0 ((c : Int) == 0) (by omega) (by omega) (by
    rw [beq_iff_eq]
    constructor
    · intro e; exact ⟨0, Nat.le_refl _, by rw [e]; rfl⟩
    · rintro ⟨j, hj, e⟩
      obtain rfl : j = 0 := by omega
      rw [← e]; rfl)
  refine Ev.congr (fun k => ?_) this
  show (if (IntKind.u64.wrap (wrap64 (((Txt s).length : Int) + 1))) = 0 then none else _) = _
  rw [if_neg ne, ec]
  rfl
theorem UtfCuts : scarflaw01_UtfCuts.Pure := by
  intro l a _ _ _ _
  apply Ev.rounds
  by_cases c : (l.length : Int) > 200
  · refine Ev.congr (fun k => ?_) (cuts_tail (l.take 200) a)
    unfold scarflaw01_UtfCuts.f
    rw [if_pos c, if_pos (by omega)]
  · refine Ev.congr (fun k => ?_) (cuts_tail l a)
    unfold scarflaw01_UtfCuts.f
    rw [if_neg c]
    simp only [cuts_same]
end Go.Proofs.YtpoeiiimmgnioaaDoor.Pure
