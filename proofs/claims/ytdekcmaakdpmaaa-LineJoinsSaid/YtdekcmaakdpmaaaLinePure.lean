/- Lines, starts and places, plainly: what the document's functions tell. -/
import Derived.Test.YtdekcmaakdpmaaaXLineD
import Derived.Test.YtdekcmaakdpmaaaQ1
import Derived.Test.YtdekcmaakdpmaaaQ2
import Derived.Test.YtdekcmaakdpmaaaQ3
import Derived.Test.YtdekcmaakdpmaaaQ5
namespace Go.Proofs.Ytdekcmaakdpmaaa.Pure
open Go.RowKit Go.Proofs.Ytdekcmaakdpmaaa.Q Go.Proofs.YtdekcmaakdpmaaaW.PrintWords Go.Proofs.YtdekcmaakdpmaaaW.PrintLast Go.Proofs.YtdekcmaakdpmaaaW.PrintMore
set_option linter.unusedVariables false

theorem w64 {x : Int} (h0 : -9223372036854775808 ≤ x) (h1 : x < 9223372036854775808) : wrap64 x = x := by unfold wrap64; omega
theorem rd_at (P T : List Int) (x : Int) : rd (P ++ x :: T) (P.length : Int) = x := by unfold rd; simp
theorem bytes_ok {l : List Int} (h : ∀ x ∈ l, (Lit.int .u8 x).wf = true) (n : Nat) : bytesOk (l.take n) = true := by
  unfold bytesOk
  rw [List.all_eq_true]
  intro x hx
  have := h x (List.mem_of_mem_take hx)
  simp [Lit.wf, IntKind.min, IntKind.max, IntKind.signed, IntKind.bits] at this
  simp
  omega
theorem split_is {l : List Int} (h : bytesOk l = true) (hn : l.length ≤ 1000000) : line_Split.f l = some (splitL l) := by
  unfold line_Split.f
  rw [if_pos (by rw [h, decide_eq_true hn]; rfl)]
theorem starts_is {l : List Int} (h : bytesOk l = true) (hn : l.length ≤ 1000000) : line_Starts.f l = some (0 :: startsL 0 l) := by
  unfold line_Starts.f
  rw [if_pos (by rw [h, decide_eq_true hn]; rfl)]
theorem place_is {l : List Int} (h : upL l = true) (hn : l.length ≤ 1000000) (a : Int) : line_Place.f l a = some (placeL l a) := by
  unfold line_Place.f
  rw [if_pos (by rw [h, decide_eq_true hn]; rfl)]

theorem refStarts_run : ∀ (T P acc : List Int), P.length + T.length < 1099511627776 → acc.length + T.length < 1099511627776 → Ev (fun k => scarfref02_Starts.l0 k (P ++ T) acc P.length) (acc ++ startsL P.length T)
  | [], P, acc, h1, h2 => by
    refine Ev.step (fun k => ?_) (Ev.now _)
    rw [scarfref02_Starts.l0, if_neg (by simp)]
    simp [startsL]
  | x :: T, P, acc, h1, h2 => by
    simp only [List.length_cons] at h1 h2
    have hw : wrap64 ((P.length : Int) + 1) = ((P ++ [x]).length : Int) := by rw [w64 (by omega) (by omega)]; simp
    have e : P ++ x :: T = (P ++ [x]) ++ T := by simp
    have e2 : ((P ++ [x]).length : Int) = (P.length : Int) + 1 := by simp
    by_cases hx : x = 10
    · have ih := refStarts_run T (P ++ [x]) (acc ++ [((P ++ [x]).length : Int)]) (by simp; omega) (by simp; omega)
      have e3 : acc ++ [((P ++ [x]).length : Int)] ++ startsL ((P ++ [x]).length : Int) T = acc ++ startsL P.length (x :: T) := by
        rw [startsL, if_pos hx, e2]; simp
      rw [e3, ← e] at ih
      refine Ev.step (fun k => ?_) ih
      rw [scarfref02_Starts.l0, if_pos (by simp; omega), if_pos (by omega), rd_at, if_pos hx, if_pos (by omega), hw]
    · have ih := refStarts_run T (P ++ [x]) acc (by simp; omega) (by omega)
      have e3 : startsL ((P ++ [x]).length : Int) T = startsL P.length (x :: T) := by
        rw [startsL, if_neg hx, e2]
      rw [e3, ← e] at ih
      refine Ev.step (fun k => ?_) ih
      rw [scarfref02_Starts.l0, if_pos (by simp; omega), if_pos (by omega), rd_at, if_neg hx, hw]
theorem refStarts (l : List Int) (h : l.length ≤ 1000000) : Ev (fun k => scarfref02_Starts.f k l) (0 :: startsL 0 l) := refStarts_run l [] [0] (by simp; omega) (by simp; omega)

def preL (p : List Int) : List (List Int) → List (List Int)
  | [] => []
  | l :: ls => (p ++ l) :: ls
theorem preL_nil (ls : List (List Int)) : preL [] ls = ls := by cases ls <;> rfl
theorem preL_glue (p : List Int) (x : Int) (ls : List (List Int)) (h : ls ≠ []) : preL p (glue x ls) = preL (p ++ [x]) ls := by
  cases ls with
  | nil => exact absurd rfl h
  | cons l ls => simp [glue, preL]
theorem refSplit_run : ∀ (T P : List Int) (acc : List (List Int)) (cur : List Int), P.length + T.length < 1099511627776 → acc.length + T.length < 1099511627776 → cur.length + T.length < 1099511627776 →
    Ev (fun k => scarfref02_Split.l0 k (P ++ T) acc cur P.length) (acc ++ preL cur (splitL T))
  | [], P, acc, cur, h1, h2, h3 => by
    refine Ev.step (fun k => ?_) (Ev.now _)
    rw [scarfref02_Split.l0, if_neg (by simp)]
    simp [splitL, preL]
  | x :: T, P, acc, cur, h1, h2, h3 => by
    simp only [List.length_cons] at h1 h2 h3
    have hw : wrap64 ((P.length : Int) + 1) = ((P ++ [x]).length : Int) := by rw [w64 (by omega) (by omega)]; simp
    have hw1 : wrap64 (((P ++ x :: T).length : Int) - 1) = (P.length : Int) + (T.length : Int) := by rw [w64 (by simp; omega) (by simp; omega)]; simp; omega
    have e : P ++ x :: T = (P ++ [x]) ++ T := by simp
    by_cases hx : x = 10
    · have ih := refSplit_run T (P ++ [x]) (acc ++ [cur ++ [x]]) [] (by simp; omega) (by simp; omega) (by simp; omega)
      have e3 : acc ++ [cur ++ [x]] ++ preL [] (splitL T) = acc ++ preL cur (splitL (x :: T)) := by
        rw [splitL_cons, if_pos hx, preL_nil]; simp [preL]
      rw [e3, ← e] at ih
      refine Ev.step (fun k => ?_) ih
      rw [scarfref02_Split.l0, if_pos (by simp; omega), if_pos (by omega), if_pos (by omega), rd_at, Option.bind_some, if_pos hx, if_pos (by omega), hw]
    · by_cases hT : T = []
      · subst hT
        have ih := refSplit_run [] (P ++ [x]) (acc ++ [cur ++ [x]]) [] (by simp; omega) (by simp; omega) (by simp)
        have e3 : acc ++ [cur ++ [x]] ++ preL [] (splitL []) = acc ++ preL cur (splitL [x]) := by
          rw [splitL_cons, if_neg hx]; simp [splitL, glue, preL]
        rw [e3, ← e] at ih
        refine Ev.step (fun k => ?_) ih
        rw [scarfref02_Split.l0, if_pos (by simp; omega), if_pos (by omega), if_pos (by omega), rd_at, Option.bind_some, if_neg hx, hw1, if_pos (by simp), if_pos (by omega), hw]
      · have hTp := List.length_pos_iff.2 hT
        have ih := refSplit_run T (P ++ [x]) acc (cur ++ [x]) (by simp; omega) (by omega) (by simp; omega)
        have e3 : preL (cur ++ [x]) (splitL T) = preL cur (splitL (x :: T)) := by
          rw [splitL_cons, if_neg hx, preL_glue _ _ _ (splitL_ne hT)]
        rw [e3, ← e] at ih
        refine Ev.step (fun k => ?_) ih
        rw [scarfref02_Split.l0, if_pos (by simp; omega), if_pos (by omega), if_pos (by omega), rd_at, Option.bind_some, if_neg hx, hw1, if_neg (by omega), hw]
theorem refSplit (l : List Int) (h : l.length ≤ 1000000) : Ev (fun k => scarfref02_Split.f k l) (splitL l) := by
  have := refSplit_run l [] [] [] (by simp; omega) (by simp; omega) (by simp; omega)
  rw [preL_nil] at this
  exact this

theorem same_run (l : List (List Int)) (h : l.length < 1099511627776) : ∀ (d i : Nat), i ≤ l.length → l.length - i ≤ d → Ev (fun k => scarfref02_Same.l0 k l l i) true
  | d, i, hi, hd => by
    by_cases c : i < l.length
    · have hd0 : 0 < d := by omega
      have ih := same_run l h (d - 1) (i + 1) (by omega) (by omega)
      refine Ev.step (fun k => ?_) ih
      rw [scarfref02_Same.l0, if_pos (by omega), if_pos (by omega), if_pos (by omega), if_pos rfl, w64 (by omega) (by omega)]
      rfl
    · refine Ev.step (fun k => ?_) (Ev.now _)
      rw [scarfref02_Same.l0, if_neg (by omega)]
  termination_by d => d
theorem same_refl (l : List (List Int)) (h : l.length ≤ 1000000) : Ev (fun k => scarfref02_Same.f k l l) true := by
  refine Ev.congr (fun k => ?_) (same_run l (by omega) l.length 0 (by omega) (by omega))
  unfold scarfref02_Same.f
  rw [if_pos rfl]
  rfl

theorem starts_gt : ∀ (i : Int) (l : List Int), ∀ z ∈ startsL i l, i < z
  | i, [], z, h => by simp [startsL] at h
  | i, x :: xs, z, h => by
    unfold startsL at h
    split at h
    · rcases List.mem_cons.1 h with rfl | h
      · omega
      · have := starts_gt (i + 1) xs z h; omega
    · have := starts_gt (i + 1) xs z h; omega
theorem starts_le : ∀ (i : Int) (l : List Int), ∀ z ∈ startsL i l, z ≤ i + l.length
  | i, [], z, h => by simp [startsL] at h
  | i, x :: xs, z, h => by
    simp only [List.length_cons]
    unfold startsL at h
    split at h
    · rcases List.mem_cons.1 h with rfl | h
      · omega
      · have := starts_le (i + 1) xs z h; omega
    · have := starts_le (i + 1) xs z h; omega
theorem up_cons {x : Int} {xs : List Int} : upL (x :: xs) = true ↔ (∀ y ∈ xs, x ≤ y) ∧ upL xs = true := by simp [upL]
theorem starts_up0 : ∀ (i : Int) (l : List Int), upL (startsL i l) = true
  | i, [] => rfl
  | i, x :: xs => by
    unfold startsL
    split
    · exact up_cons.2 ⟨fun y hy => by have := starts_gt _ _ y hy; omega, starts_up0 _ _⟩
    · exact starts_up0 _ _
theorem starts_up (l : List Int) : upL (0 :: startsL 0 l) = true := up_cons.2 ⟨fun y hy => by have := starts_gt _ _ y hy; omega, starts_up0 _ _⟩
theorem up_snoc : ∀ {l : List Int} {x : Int}, upL l = true → (∀ y ∈ l, y ≤ x) → upL (l ++ [x]) = true
  | [], x, _, _ => rfl
  | a :: l, x, h, hx => by
    obtain ⟨h1, h2⟩ := up_cons.1 h
    refine up_cons.2 ⟨fun y hy => ?_, up_snoc h2 (fun y hy => hx y (List.mem_cons_of_mem _ hy))⟩
    rcases List.mem_append.1 hy with hy | hy
    · exact h1 y hy
    · rw [List.mem_singleton.1 hy]; exact hx a (List.mem_cons_self ..)
/-- of a row that rises: how many stand at or below a -/
theorem up_count : ∀ {l : List Int} (a : Int), upL l = true → ∀ j, j < l.length → (l.getD j 0 ≤ a ↔ j < l.countP (fun x => decide (x ≤ a)))
  | [], a, _, j, hj => by simp at hj
  | x :: xs, a, h, j, hj => by
    obtain ⟨h1, h2⟩ := up_cons.1 h
    by_cases hx : x ≤ a
    · rw [List.countP_cons_of_pos (by simpa using hx)]
      cases j with
      | zero => simp [hx]
      | succ j =>
        rw [List.getD_cons_succ]
        have := up_count a h2 j (by simpa using hj)
        omega
    · rw [List.countP_cons_of_neg (by simpa using hx)]
      have h0 : xs.countP (fun x => decide (x ≤ a)) = 0 := by
        rw [List.countP_eq_zero]
        intro y hy
        have := h1 y hy
        simp
        omega
      rw [h0]
      have hle : a < (x :: xs).getD j 0 := by
        cases j with
        | zero => simp; omega
        | succ j =>
          have hj2 : j < xs.length := by simpa using hj
          rw [List.getD_cons_succ, List.getD_eq_getElem?_getD, List.getElem?_eq_getElem hj2]
          have := h1 _ (List.getElem_mem hj2)
          simp
          omega
      omega
theorem refPlace_run {l : List Int} (a : Int) (hu : upL l = true) (hl : l.length ≤ 1000000) : ∀ (i : Nat), i ≤ l.length → l.countP (fun x => decide (x ≤ a)) ≤ i → Ev (fun k => scarfref02_Place.l0 k l a ((i : Int) - 1)) (placeL l a)
  | 0, _, h => by
    refine Ev.step (fun k => ?_) (Ev.now _)
    rw [scarfref02_Place.l0, if_neg (by omega)]
    unfold placeL
    rw [if_pos (by omega)]
  | i + 1, hi, h => by
    have e : ((i + 1 : Nat) : Int) - 1 = (i : Int) := by omega
    rw [e]
    have hc := up_count a hu i (by omega)
    have hr : rd l (i : Int) = l.getD i 0 := by unfold rd; simp
    by_cases c : l.getD i 0 ≤ a
    · refine Ev.step (fun k => ?_) (Ev.now _)
      rw [scarfref02_Place.l0, if_pos (by omega), if_pos (by omega), if_pos (by omega), hr, if_pos c]
      have e2 : l.countP (fun x => decide (x ≤ a)) = i + 1 := by have := hc.1 c; omega
      unfold placeL
      rw [e2, if_neg (by omega), e]
      rfl
    · have ih := refPlace_run a hu hl i (by omega) (by have := mt hc.2 c; omega)
      refine Ev.step (fun k => ?_) ih
      rw [scarfref02_Place.l0, if_pos (by omega), if_pos (by omega), if_pos (by omega), hr, if_neg c, w64 (by omega) (by omega)]
theorem refPlace {l : List Int} (a : Int) (hu : upL l = true) (hl : l.length ≤ 1000000) : Ev (fun k => scarfref02_Place.f k l a) (placeL l a) := by
  refine Ev.congr (fun k => ?_) (refPlace_run a hu hl l.length (Nat.le_refl _) List.countP_le_length)
  unfold scarfref02_Place.f
  rw [w64 (by omega) (by omega)]
theorem mem_flat_len {l : List Int} : ∀ {ls : List (List Int)}, l ∈ ls → l.length ≤ ls.flatten.length
  | [], h => by simp at h
  | a :: ls, h => by
    rw [List.flatten_cons, List.length_append]
    rcases List.mem_cons.1 h with rfl | h
    · omega
    · have := mem_flat_len h; omega
theorem u64_nonneg (x : Int) : 0 ≤ IntKind.u64.wrap x := by
  show 0 ≤ x % 18446744073709551616
  omega
theorem u64_small {x : Int} (h0 : 0 ≤ x) (h1 : x < 9223372036854775808) : IntKind.u64.wrap x = x := by
  show x % 18446744073709551616 = x
  omega
theorem starts_len0 (l : List Int) (h : l.length ≤ 20000) : (0 :: startsL 0 l).length ≤ 1000000 := by
  have := startsL_len 0 l
  simp
  omega
end Go.Proofs.Ytdekcmaakdpmaaa.Pure
