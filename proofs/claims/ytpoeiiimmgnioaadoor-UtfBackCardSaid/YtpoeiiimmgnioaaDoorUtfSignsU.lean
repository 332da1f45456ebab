/- Plain lists: the signs of bytes, by the program. -/
import Derived.Test.YtpoeiiimmgnioaaDoorUtfScan
import Derived.Test.YtpoeiiimmgnioaaDoorQ2
import Derived.Test.YtpoeiiimmgnioaaDoorQ3
namespace Go.Proofs.YtpoeiiimmgnioaaDoor.Ut
open Go.RowKit Go.Proofs.YtpoeiiimmgnioaaDoor.Q Go.Proofs.YtpoeiiimmgnioaaDoorW.PrintWords Go.Proofs.YtpoeiiimmgnioaaDoorW.PrintLast Go.Proofs.YtpoeiiimmgnioaaDoorW.PrintMore
def outU (s rest : List Int) : List Int × Int := if rest = [] then (s, 0) else ([], 3)
def outR (l s rest : List Int) : List Int × Int := if rest = [] then (s, (l.length : Int)) else ([], ((Txt s).length : Int))
theorem w64_add {a b c : Nat} (h : c = a + b) (hc : c ≤ 1099511627776) : wrap64 ((a : Int) + (b : Int)) = (c : Int) := by rw [w64 (by omega) (by omega)]; omega
theorem w64_one (a : Nat) (hc : a ≤ 1099511627776) : wrap64 ((a : Int) + 1) = ((a + 1 : Nat) : Int) := by rw [w64 (by omega) (by omega)]; omega
theorem Part.length {l s rest : List Int} (P : Part l s rest) : l.length = (Txt s).length + rest.length := by rw [P.2.1, List.length_append]
theorem Txt_take_le {s : List Int} (i : Nat) : (Txt (s.take i)).length ≤ (Txt s).length := by
  conv => rhs; rw [← List.take_append_drop i s]
  rw [Txt_append, List.length_append]; omega
theorem Part.place {l s rest : List Int} (P : Part l s rest) {i : Nat} (h : i < s.length) : (Txt (s.take i)).length < l.length ∧ (Txt (s.take (i + 1))).length ≤ l.length ∧ 1 ≤ (Enc (s[i]'h)).length ∧ s.length ≤ l.length := by
  have a := P.length
  have b := Txt_take_succ i h
  have c := Txt_take_le (s := s) (i + 1)
  have d := enc_len (P.1 _ (List.getElem_mem h))
  have e := (Txt_len P.1).1
  omega
theorem part_next {l s rest : List Int} (hb : Bs l) (P : Part l s rest) {i : Nat} (h : i < s.length) : utf_Next.f (l.drop (Txt (s.take i)).length) = some (s[i]'h, ((Enc (s[i]'h)).length : Int)) := by
  rw [P.at_ i h]
  exact next_enc (P.1 _ (List.getElem_mem h)) ((Bs.txt (P.1.drop _)).append (P.bs hb))
theorem take_snoc {s : List Int} {i : Nat} (h : i < s.length) : s.take i ++ [s[i]'h] = s.take (i + 1) := (List.take_succ_eq_append_getElem h).symm

theorem signsU_l0 {l s rest : List Int} (hb : Bs l) (P : Part l s rest) (hl : l.length < 1099511627776) (d : Nat) : ∀ i : Nat, i ≤ s.length → s.length - i ≤ d →
    Ev (fun k => utf_Signs.l0 k l (s.take i) ((Txt (s.take i)).length : Int)) (outU s rest) := by
  have fin : Ev (fun k => utf_Signs.l0 k l (s.take s.length) ((Txt (s.take s.length)).length : Int)) (outU s rest) := by
    rw [List.take_length]
    have hp := P.length
    refine Ev.steps 1 (fun k => ?_) (Ev.now _)
    rw [utf_Signs.l0]
    by_cases h : rest = []
    · have e : outU s rest = (s, 0) := if_pos h
      rw [h] at hp
      rw [if_neg (by simp at hp; omega), e]
    · have e : outU s rest = ([], 3) := if_neg h
      have hr : 0 < rest.length := List.length_pos_iff.2 h
      rw [if_pos (by omega), if_pos (by omega), if_pos (by omega), Int.toNat_natCast, P.last, next_none (P.bs hb) P.2.2, Option.bind_some, if_pos rfl, e]
  induction d with
  | zero =>
    intro i hi hd
    obtain rfl : i = s.length := by omega
    exact fin
  | succ d ih =>
    intro i hi hd
    by_cases c : i < s.length
    · have hs := part_next hb P c
      obtain ⟨p1, p2, p3, p4⟩ := P.place c
      have q1 : ((Txt (s.take i)).length : Int) < (l.length : Int) := Int.ofNat_lt.2 p1
      have q2 : (0 : Int) ≤ ((Txt (s.take i)).length : Int) := Int.natCast_nonneg _
      have q3 : ((Txt (s.take i)).length : Int) ≤ (l.length : Int) := Int.le_of_lt q1
      have q4 : ¬ (((Enc (s[i]'c)).length : Int) = 0) := by omega
      have q5 : (s.take i).length < 17592186044416 := by rw [List.length_take]; clear q1 q2 q3 q4; omega
      have e := w64_add (Txt_take_succ i c) (by omega)
      refine Ev.steps 1 (fun k => ?_) (ih (i + 1) c (by clear q1 q2 q3 q4 e; omega))
      rw [utf_Signs.l0, if_pos q1, if_pos q2, if_pos q3, Int.toNat_natCast, hs, Option.bind_some, if_neg q4, if_pos q5, take_snoc c]
      show utf_Signs.l0 k l _ (wrap64 (_ + ((Enc (s[i]'c)).length : Int))) = _
      rw [e]
    · obtain rfl : i = s.length := by omega
      exact fin
theorem signsU_runs {l s rest : List Int} (hb : Bs l) (P : Part l s rest) (hl : l.length < 1099511627776) : Ev (fun k => utf_Signs.f k l) (outU s rest) :=
  signsU_l0 hb P hl s.length 0 (by omega) (by omega)

theorem same_l0 (l : List Int) (hl : l.length < 1099511627776) (d : Nat) : ∀ i : Nat, i ≤ l.length → l.length - i ≤ d → Ev (fun k => scarflaw01_same.l0 k l l i) true := by
  induction d with
  | zero => intro i hi hd; exact Ev.step (fun k => by rw [scarflaw01_same.l0, if_neg (by omega)]) (Ev.now _)
  | succ d ih =>
    intro i hi hd
    by_cases c : i < l.length
    · refine Ev.step (fun k => ?_) (ih (i + 1) (by omega) (by omega))
      rw [scarflaw01_same.l0, if_pos (by omega), if_pos (by omega), if_pos (by omega), if_pos rfl, w64_one i (by omega)]
    · exact Ev.step (fun k => by rw [scarflaw01_same.l0, if_neg (by omega)]) (Ev.now _)
theorem same_runs (l : List Int) (hl : l.length < 1099511627776) : Ev (fun k => scarflaw01_same.f k l l) true := by
  refine Ev.congr (fun k => ?_) (same_l0 l hl l.length 0 (by omega) (by omega))
  unfold scarflaw01_same.f; rw [if_pos rfl]; rfl
end Go.Proofs.YtpoeiiimmgnioaaDoor.Ut
