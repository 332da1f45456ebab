/- Plain lists: which bytes are a text. -/
import Derived.Test.YtpoeiiimmgnioaaDoorUtfTxt
import Derived.Test.YtpoeiiimmgnioaaDoorQ1
import Derived.Test.YtpoeiiimmgnioaaDoorQ2
namespace Go.Proofs.YtpoeiiimmgnioaaDoor.Ut
open Go.RowKit Go.Proofs.YtpoeiiimmgnioaaDoor.Q Go.Proofs.YtpoeiiimmgnioaaDoorW.PrintWords Go.Proofs.YtpoeiiimmgnioaaDoorW.PrintLast Go.Proofs.YtpoeiiimmgnioaaDoorW.PrintMore

/-- bytes are signs' bytes, and then, if anything, something with which no sign begins -/
def Part (l s : List Int) (rest : List Int) : Prop := Sgs s ∧ l = Txt s ++ rest ∧ ∀ n r, Sg n → rest ≠ Enc n ++ r
theorem part_of (d : Nat) : ∀ l : List Int, l.length ≤ d → Bs l → ∃ s rest, Part l s rest := by
  induction d with
  | zero =>
    intro l h _
    obtain rfl : l = [] := List.length_eq_zero_iff.1 (by omega)
    refine ⟨[], [], fun n h => by simp at h, rfl, fun n r hn e => ?_⟩
    have := congrArg List.length e
    rw [List.length_append] at this
    have := (enc_len hn).1
    simp at *
    omega
  | succ d ih =>
    intro l h hb
    by_cases H : ∃ n r, Sg n ∧ l = Enc n ++ r
    · obtain ⟨n, r, hn, e⟩ := H
      have hl := enc_len hn
      obtain ⟨s, rest, h1, h2, h3⟩ := ih r (by rw [e, List.length_append] at h; omega) (fun x hx => hb x (by rw [e]; exact List.mem_append_right _ hx))
      refine ⟨n :: s, rest, fun m hm => ?_, by rw [Txt_cons, List.append_assoc, ← h2]; exact e, h3⟩
      rcases List.mem_cons.1 hm with rfl | hm
      · exact hn
      · exact h1 m hm
    · exact ⟨[], l, fun n h => by simp at h, rfl, fun n r hn e => H ⟨n, r, hn, e⟩⟩
theorem Txt_append (a b : List Int) : Txt (a ++ b) = Txt a ++ Txt b := by simp [Txt]
theorem Txt_nonneg {s : List Int} (i : Nat) (h : i < s.length) : (Txt s) = Txt (s.take i) ++ (Enc (s[i]'h) ++ Txt (s.drop (i + 1))) := by
  conv => lhs; rw [← List.take_append_drop i s]
  rw [Txt_append, List.drop_eq_getElem_cons h, Txt_cons]
theorem Part.at_ {l s rest : List Int} (P : Part l s rest) (i : Nat) (h : i < s.length) : l.drop (Txt (s.take i)).length = Enc (s[i]'h) ++ (Txt (s.drop (i + 1)) ++ rest) := by
  rw [P.2.1, Txt_nonneg i h, List.append_assoc, List.drop_left, List.append_assoc]
theorem Part.last {l s rest : List Int} (P : Part l s rest) : l.drop (Txt s).length = rest := by
  rw [P.2.1, List.drop_left]
theorem Part.bs {l s rest : List Int} (P : Part l s rest) (hb : Bs l) : Bs rest := fun x hx => hb x (by rw [P.2.1]; exact List.mem_append_right _ hx)
theorem Sgs.drop {s : List Int} (h : Sgs s) (i : Nat) : Sgs (s.drop i) := fun n hn => h n (List.mem_of_mem_drop hn)
theorem Sgs.take {s : List Int} (h : Sgs s) (i : Nat) : Sgs (s.take i) := fun n hn => h n (List.mem_of_mem_take hn)
theorem Txt_take_succ {s : List Int} (i : Nat) (h : i < s.length) : (Txt (s.take (i + 1))).length = (Txt (s.take i)).length + (Enc (s[i]'h)).length := by
  rw [List.take_succ_eq_append_getElem h, Txt_snoc, List.length_append]

/-- where it is none -/
theorem bad_l0 {l s rest : List Int} (hb : Bs l) (P : Part l s rest) (hl : l.length < 1099511627776) (d : Nat) : ∀ i : Nat, i ≤ s.length → s.length - i ≤ d →
    Ev (fun k => utf_Bad.l0 k l ((Txt (s.take i)).length : Int)) ((Txt s).length : Int) := by
  have hlen : l.length = (Txt s).length + rest.length := by rw [P.2.1, List.length_append]
  have fin : Ev (fun k => utf_Bad.l0 k l ((Txt (s.take s.length)).length : Int)) ((Txt s).length : Int) := by
    rw [List.take_length]
    refine Ev.steps 1 (fun k => ?_) (Ev.now _)
    rw [utf_Bad.l0]
    by_cases c : ((Txt s).length : Int) < (l.length : Int)
    · rw [if_pos c, if_pos (by omega), if_pos (by omega), Int.toNat_natCast, P.last, next_none (P.bs hb) P.2.2]; rfl
    · rw [if_neg c]
  induction d with
  | zero =>
    intro i hi hd
    obtain rfl : i = s.length := by omega
    exact fin
  | succ d ih =>
    intro i hi hd
    by_cases c : i < s.length
    · have hs := P.1 _ (List.getElem_mem c)
      have he := enc_len hs
      have ht := Txt_take_succ i c
      have hle : (Txt (s.take (i + 1))).length ≤ (Txt s).length := by
        conv => rhs; rw [← List.take_append_drop (i + 1) s]
        rw [Txt_append, List.length_append]; omega
      refine Ev.steps 1 (fun k => ?_) (ih (i + 1) (by omega) (by omega))
      rw [utf_Bad.l0, if_pos (by omega), if_pos (by omega), if_pos (by omega), Int.toNat_natCast, P.at_ i c, next_enc hs ((Bs.txt (P.1.drop _)).append (P.bs hb)), Option.bind_some, if_neg (by show ¬ ((Enc s[i]).length : Int) = 0; omega)]
      have e : wrap64 (((Txt (s.take i)).length : Int) + ((Enc s[i]).length : Int)) = ((Txt (s.take (i + 1))).length : Int) := by rw [w64 (by omega) (by omega)]; omega
      rw [e]
    · obtain rfl : i = s.length := by omega
      exact fin
theorem bad_runs {l s rest : List Int} (hb : Bs l) (P : Part l s rest) (hl : l.length < 1099511627776) : Ev (fun k => utf_Bad.f k l) ((Txt s).length : Int) :=
  bad_l0 hb P hl s.length 0 (by omega) (by omega)
theorem text_runs {l s rest : List Int} (hb : Bs l) (P : Part l s rest) (hl : l.length < 1099511627776) : Ev (fun k => utf_Text.f k l) (decide (rest = [])) := by
  unfold utf_Text.f
  refine Ev.bind (f := fun _ t => some (t == (l.length : Int))) (bad_runs hb P hl) ?_
  have e : (((Txt s).length : Int) == (l.length : Int)) = decide (rest = []) := by
    have hlen : l.length = (Txt s).length + rest.length := by rw [P.2.1, List.length_append]
    rw [Bool.eq_iff_iff, beq_iff_eq, decide_eq_true_eq, ← List.length_eq_zero_iff]
    omega
  rw [e]; exact Ev.now _
theorem part_txt {s : List Int} (h : Sgs s) : Part (Txt s) s [] := by
  refine ⟨h, by simp, fun n r hn e => ?_⟩
  have := (enc_len hn).1
  have e2 := congrArg List.length e
  rw [List.length_append] at e2
  simp at e2
  omega
end Go.Proofs.YtpoeiiimmgnioaaDoor.Ut
