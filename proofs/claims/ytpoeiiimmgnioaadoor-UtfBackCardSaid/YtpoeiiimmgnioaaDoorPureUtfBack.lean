/- For all rows of numbers and all bytes: signs as bytes are a text of just these signs; the bytes of a text's signs are the text. Conditions: none beyond the statement's own. -/
import Derived.Test.YtpoeiiimmgnioaaDoorQ4
import Derived.Test.YtpoeiiimmgnioaaDoorUtfSignsU
namespace Go.Proofs.YtpoeiiimmgnioaaDoor.Pure
open Go.RowKit Go.Proofs.YtpoeiiimmgnioaaDoor.Q Go.Proofs.YtpoeiiimmgnioaaDoorW.PrintWords Go.Proofs.YtpoeiiimmgnioaaDoorW.PrintLast Go.Proofs.YtpoeiiimmgnioaaDoorW.PrintMore Go.Proofs.YtpoeiiimmgnioaaDoor.Ut
theorem again_l1 {l s : List Int} (hs : Sgs s) (hl : (Txt s).length ≤ 100000) (e : l = Txt s) (d : Nat) : ∀ i : Nat, i ≤ s.length → s.length - i ≤ d → Ev (fun k => scarflaw01_UtfBack.l1 k l s (Txt (s.take i)) i) true := by
  have hL := (Txt_len hs).1
  induction d with
  | zero =>
    intro i hi hd
    obtain rfl : i = s.length := by omega
    refine Ev.steps 1 (fun k => ?_) (Ev.now true)
    rw [scarflaw01_UtfBack.l1, if_neg (by omega), List.take_length, e]
    simp
  | succ d ih =>
    intro i hi hd
    by_cases c : i < s.length
    · have hsi := hs _ (List.getElem_mem c)
      have er : rd s i = s[i]'c := by unfold rd; rw [Int.toNat_natCast, List.getD_eq_getElem?_getD, List.getElem?_eq_getElem c]; rfl
      have p1 : (i : Int) < (s.length : Int) := Int.ofNat_lt.2 c
      have p2 : 0 ≤ (i : Int) := Int.natCast_nonneg i
      have p3 : (Txt (s.take i)).length + (Enc (s[i]'c)).length < 140737488355328 := by
        have := Txt_take_le (s := s) i
        have := (enc_len hsi).2
        clear p1 p2
        omega
      refine Ev.steps 1 (fun k => ?_) (ih (i + 1) c (by clear p1 p2 p3; omega))
      rw [scarflaw01_UtfBack.l1, if_pos p1, if_pos p2, er, bytes_yes hsi, Option.bind_some, if_pos rfl]
      show (if (Txt (s.take i)).length + (Enc (s[i]'c)).length < 140737488355328 then scarflaw01_UtfBack.l1 k l s (Txt (s.take i) ++ Enc (s[i]'c)) (wrap64 ((i : Int) + 1)) else none) = _
      rw [if_pos p3, w64_one i (by clear p1 p2 p3; omega), ← Txt_snoc, take_snoc c]
    · obtain rfl : i = s.length := by omega
      refine Ev.steps 1 (fun k => ?_) (Ev.now true)
      rw [scarflaw01_UtfBack.l1, if_neg (by omega), List.take_length, e]
      simp
theorem back_j1 {l : List Int} (hb : Bs l) (hl : l.length ≤ 100000) : Ev (fun k => scarflaw01_UtfBack.j1 k l false) true := by
  obtain ⟨s, rest, P⟩ := part_of _ _ (Nat.le_refl _) hb
  have hlen := P.length
  refine Ev.steps 1 (f := fun k => (utf_Signs.f k l).bind fun bt150 => (if bt150.2 = 0 then (scarflaw01_UtfBack.l1 k l bt150.1 ([] : List Int) 0) else ((utf_Text.f k l).bind fun t154 => (some (!t154))))) (fun k => by rw [scarflaw01_UtfBack.j1, if_neg (by simp)]) ?_
  refine Ev.bind (f := fun k bt150 => (if bt150.2 = 0 then (scarflaw01_UtfBack.l1 k l bt150.1 ([] : List Int) 0) else ((utf_Text.f k l).bind fun t154 => (some (!t154))))) (signsU_runs hb P (by omega)) ?_
  by_cases h : rest = []
  · have e1 : outU s rest = (s, 0) := if_pos h
    rw [e1]
    refine Ev.congr (f := fun k => scarflaw01_UtfBack.l1 k l s ([] : List Int) 0) (fun k => if_pos rfl) ?_
    have e : l = Txt s := by have := P.2.1; rw [h, List.append_nil] at this; exact this
    exact again_l1 P.1 (by rw [← e]; exact hl) e s.length 0 (by omega) (by omega)
  · have e1 : outU s rest = ([], 3) := if_neg h
    rw [e1]
    refine Ev.congr (f := fun k => (utf_Text.f k l).bind fun t154 => (some (!t154))) (fun k => if_neg (by decide)) ?_
    have ht := text_runs hb P (by omega)
    rw [decide_eq_false h] at ht
    exact Ev.bind (f := fun _ t154 => (some (!t154))) ht (Ev.now true)
theorem back_l0 {l : List Int} (b : List Int) (hb : Bs b) (hlb : b.length ≤ 100000) (hl : l.length ≤ 20000) (d : Nat) : ∀ (i : Nat) (s : List Int), i ≤ l.length → l.length - i ≤ d → s.length ≤ i → Sgs s →
    Ev (fun k => scarflaw01_UtfBack.l0 k l b (Txt s) s i) true := by
  have fin : ∀ s : List Int, s.length ≤ 20000 → Sgs s → Ev (fun k => scarflaw01_UtfBack.l0 k l b (Txt s) s l.length) true := by
    intro s hn hs
    have L := (Txt_len hs).2
    refine Ev.steps 1 (f := fun k => (utf_Signs.f k (Txt s)).bind fun bt143 => (if bt143.2 = 0 then ((scarflaw01_same.f k bt143.1 s).bind fun t148 => (if t148 = true then ((utf_Text.f k (Txt s)).bind fun t149 => (scarflaw01_UtfBack.j1 k b (!t149))) else (scarflaw01_UtfBack.j1 k b true))) else (scarflaw01_UtfBack.j1 k b true))) (fun k => ?_) ?_
    · rw [scarflaw01_UtfBack.l0, if_neg (by omega)]
      simp only [known01, Option.bind_some, if_true]
    · have P := part_txt hs
      refine Ev.bind (f := fun k bt143 => (if bt143.2 = 0 then ((scarflaw01_same.f k bt143.1 s).bind fun t148 => (if t148 = true then ((utf_Text.f k (Txt s)).bind fun t149 => (scarflaw01_UtfBack.j1 k b (!t149))) else (scarflaw01_UtfBack.j1 k b true))) else (scarflaw01_UtfBack.j1 k b true))) (signsU_runs (Bs.txt hs) P (by omega)) ?_
      have e1 : outU s [] = (s, 0) := if_pos rfl
      rw [e1]
      refine Ev.congr (f := fun k => (scarflaw01_same.f k s s).bind fun t148 => (if t148 = true then ((utf_Text.f k (Txt s)).bind fun t149 => (scarflaw01_UtfBack.j1 k b (!t149))) else (scarflaw01_UtfBack.j1 k b true))) (fun k => if_pos rfl) ?_
      refine Ev.bind (f := fun k t148 => (if t148 = true then ((utf_Text.f k (Txt s)).bind fun t149 => (scarflaw01_UtfBack.j1 k b (!t149))) else (scarflaw01_UtfBack.j1 k b true))) (same_runs s (by omega)) ?_
      refine Ev.congr (f := fun k => (utf_Text.f k (Txt s)).bind fun t149 => (scarflaw01_UtfBack.j1 k b (!t149))) (fun k => if_pos rfl) ?_
      have ht := text_runs (Bs.txt hs) P (by omega)
      rw [decide_eq_true rfl] at ht
      exact Ev.bind (f := fun k t149 => scarflaw01_UtfBack.j1 k b (!t149)) ht (back_j1 hb hlb)
  induction d with
  | zero =>
    intro i s hi hd hn hs
    obtain rfl : i = l.length := by omega
    exact fin s (by omega) hs
  | succ d ih =>
    intro i s hi hd hn hs
    by_cases c : i < l.length
    · have e := w64_one i (by omega)
      by_cases g : Sg (rd l i)
      · refine Ev.steps 1 (fun k => ?_) (ih (i + 1) (s ++ [rd l i]) (by omega) (by omega) (by simp; omega) (hs.snoc g))
        have h1 := (Txt_len hs).2
        have h2 := (enc_len g).2
        rw [scarflaw01_UtfBack.l0, if_pos (by omega), if_pos (by omega), bytes_yes g, Option.bind_some, if_pos rfl, if_pos (by show _ + (Enc _).length < _; omega), if_pos (by omega), e, Txt_snoc]
      · refine Ev.steps 1 (fun k => ?_) (ih (i + 1) s (by omega) (by omega) (by omega) hs)
        rw [scarflaw01_UtfBack.l0, if_pos (by omega), if_pos (by omega), bytes_no g, Option.bind_some, if_neg (by simp), e]
    · obtain rfl : i = l.length := by omega
      exact fin s (by omega) hs
theorem same_a (k : Nat) : (∀ x1 x12 x14 x15, scarflaw01_UtfBack.l3 k x1 x12 x14 x15 = scarflaw01_UtfBack.l1 k x1 x12 x14 x15) ∧ (∀ x1 x12 x14 x15, scarflaw01_UtfBack.l5 k x1 x12 x14 x15 = scarflaw01_UtfBack.l1 k x1 x12 x14 x15) ∧ (∀ x1 x12 x14 x15, scarflaw01_UtfBack.l7 k x1 x12 x14 x15 = scarflaw01_UtfBack.l1 k x1 x12 x14 x15) := by
  induction k with
  | zero => exact ⟨fun _ _ _ _ => by rw [scarflaw01_UtfBack.l1, scarflaw01_UtfBack.l3], fun _ _ _ _ => by rw [scarflaw01_UtfBack.l1, scarflaw01_UtfBack.l5], fun _ _ _ _ => by rw [scarflaw01_UtfBack.l1, scarflaw01_UtfBack.l7]⟩
  | succ k ih =>
    obtain ⟨i1, i2, i3⟩ := ih
    exact ⟨fun _ _ _ _ => by rw [scarflaw01_UtfBack.l1, scarflaw01_UtfBack.l3]; simp only [i1], fun _ _ _ _ => by rw [scarflaw01_UtfBack.l1, scarflaw01_UtfBack.l5]; simp only [i2], fun _ _ _ _ => by rw [scarflaw01_UtfBack.l1, scarflaw01_UtfBack.l7]; simp only [i3]⟩
theorem same_b (k : Nat) : (∀ x1 x, scarflaw01_UtfBack.j4 k x1 x = scarflaw01_UtfBack.j1 k x1 x) ∧ (∀ x1 x, scarflaw01_UtfBack.j7 k x1 x = scarflaw01_UtfBack.j1 k x1 x) ∧ (∀ x1 x, scarflaw01_UtfBack.j10 k x1 x = scarflaw01_UtfBack.j1 k x1 x) := by
  cases k with
  | zero => exact ⟨fun _ _ => by rw [scarflaw01_UtfBack.j1, scarflaw01_UtfBack.j4], fun _ _ => by rw [scarflaw01_UtfBack.j1, scarflaw01_UtfBack.j7], fun _ _ => by rw [scarflaw01_UtfBack.j1, scarflaw01_UtfBack.j10]⟩
  | succ k =>
    obtain ⟨i1, i2, i3⟩ := same_a k
    exact ⟨fun _ _ => by rw [scarflaw01_UtfBack.j1, scarflaw01_UtfBack.j4]; simp only [i1], fun _ _ => by rw [scarflaw01_UtfBack.j1, scarflaw01_UtfBack.j7]; simp only [i2], fun _ _ => by rw [scarflaw01_UtfBack.j1, scarflaw01_UtfBack.j10]; simp only [i3]⟩
theorem same_c (k : Nat) : (∀ x0 x1 x5 x6 x7, scarflaw01_UtfBack.l2 k x0 x1 x5 x6 x7 = scarflaw01_UtfBack.l0 k x0 x1 x5 x6 x7) ∧ (∀ x0 x1 x5 x6 x7, scarflaw01_UtfBack.l4 k x0 x1 x5 x6 x7 = scarflaw01_UtfBack.l0 k x0 x1 x5 x6 x7) ∧ (∀ x0 x1 x5 x6 x7, scarflaw01_UtfBack.l6 k x0 x1 x5 x6 x7 = scarflaw01_UtfBack.l0 k x0 x1 x5 x6 x7) := by
  induction k with
  | zero => exact ⟨fun _ _ _ _ _ => by rw [scarflaw01_UtfBack.l0, scarflaw01_UtfBack.l2], fun _ _ _ _ _ => by rw [scarflaw01_UtfBack.l0, scarflaw01_UtfBack.l4], fun _ _ _ _ _ => by rw [scarflaw01_UtfBack.l0, scarflaw01_UtfBack.l6]⟩
  | succ k ih =>
    obtain ⟨i1, i2, i3⟩ := ih
    obtain ⟨b1, b2, b3⟩ := same_b k
    exact ⟨fun _ _ _ _ _ => by rw [scarflaw01_UtfBack.l0, scarflaw01_UtfBack.l2]; simp only [i1, b1], fun _ _ _ _ _ => by rw [scarflaw01_UtfBack.l0, scarflaw01_UtfBack.l4]; simp only [i2, b2], fun _ _ _ _ _ => by rw [scarflaw01_UtfBack.l0, scarflaw01_UtfBack.l6]; simp only [i3, b3]⟩
theorem back_runs {l b : List Int} (hb : Bs b) (hlb : b.length ≤ 100000) (hl : l.length ≤ 20000) : Ev (fun k => scarflaw01_UtfBack.l0 k l b ([] : List Int) ([] : List Int) 0) true :=
  back_l0 b hb hlb hl l.length 0 [] (by omega) (by omega) (by simp) (fun n h => by simp at h)
theorem UtfBack : scarflaw01_UtfBack.Pure := by
  intro l b _ _ _ _ _ hw
  have hb := Bs_of hw
  apply Ev.rounds
  by_cases c : (l.length : Int) > 20000
  · by_cases c2 : (b.length : Int) > 100000
    · refine Ev.congr (fun k => ?_) (back_runs (l := l.take 20000) (hb.take 100000) (by rw [List.length_take]; omega) (by rw [List.length_take]; omega))
      unfold scarflaw01_UtfBack.f
      rw [if_pos c, if_pos (by omega), if_pos c2, if_pos (by omega)]
    · refine Ev.congr (fun k => ?_) (back_runs (l := l.take 20000) hb (by omega) (by rw [List.length_take]; omega))
      unfold scarflaw01_UtfBack.f
      rw [if_pos c, if_pos (by omega), if_neg c2, (same_c k).1]
  · by_cases c2 : (b.length : Int) > 100000
    · refine Ev.congr (fun k => ?_) (back_runs (l := l) (hb.take 100000) (by rw [List.length_take]; omega) (by omega))
      unfold scarflaw01_UtfBack.f
      rw [if_neg c, if_pos c2, if_pos (by omega), (same_c k).2.1]
    · refine Ev.congr (fun k => ?_) (back_runs (l := l) hb (by omega) (by omega))
      unfold scarflaw01_UtfBack.f
      rw [if_neg c, if_neg c2, (same_c k).2.2]
end Go.Proofs.YtpoeiiimmgnioaaDoor.Pure
