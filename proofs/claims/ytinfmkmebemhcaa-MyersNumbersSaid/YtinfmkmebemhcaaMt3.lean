/- slices.Clone and slices.Reverse over numbers: their walks. -/
import Derived.Test.YtinfmkmebemhcaaMt2
namespace Go.Proofs.Ytinfmkmebemhcaa.Lt
open Go.Proofs.YtinfmkmebemhcaaW.Abs Go
set_option maxRecDepth 100000
set_option maxHeartbeats 4000000
set_option linter.unusedSimpArgs false
set_option linter.unusedVariables false
variable {W0 : World}

theorem grow_new {id : Nat} {ts : List AV} {h : Hp} {ty : TypeId} {s b : Nat} {x y : Arg} {t : Nat} {ns : List (List AV)} (hx : x.ev ts = .sl t 0 0) (hh : h t = some .nocap) (hs : srcElems h (y.ev ts) = some ns) (hne : ns ≠ []) (hl : ∀ e, e ∈ ns → e.length = s) (h1 : ns.length * b ≤ 140737488355328) (h2 : ns.length ≤ 4611686018427387904) :
    SO.ok id ts h (.grow ty s b x y) ∧ SO.val id ts h (.grow ty s b x y) = .sl id 0 ns.length ∧ SO.heap id ts h (.grow ty s b x y) = upd (upd h t none) id (some (.box ty ns)) := by
  refine ⟨growsOk_ok ?_, ?_, ?_⟩
  · rw [hx, hs]; simp only [growsOk, hh, growAt]; exact ⟨trivial, hne, hl, h1, h2⟩
  · simp only [SO.val, hx, hs, Option.getD_some, Nat.zero_add]
  · simp only [SO.heap, hx, hs, Option.getD_some, hh]

theorem clone_spec {A : AV} {l : List Int} (hA : IsRow A (ints l)) (hne : l ≠ []) (hl : l.length ≤ 1000000) (n : Nat) (h0 : Hp) :
    HCalls Try.prog W0 22 [A] ⟨n, h0⟩ (fun o τ' => ∃ i, o = .ret (.sl i 0 l.length) ∧ n ≤ i ∧ i < τ'.next ∧ (∀ q, q < n → τ'.obj q = h0 q) ∧ τ'.obj i = some (.box 3 (ints l))) := by
  refine hcalls cok Try.func22 F22d F22e F22c F22w F22r ?_
  refine ev2I_intro ?_
  have hA' : A = .row (ints l) none := by
    rcases hA with ⟨_, h⟩ | h
    · exact absurd (by cases l with | nil => rfl | cons _ _ => simp [ints] at h) hne
    · exact h
  subst hA'
  simp (disch := first | omega | (simp only [List.length_set]; omega)) [F22s]
  have hne' : ints l ≠ [] := by cases l with | nil => exact absurd rfl hne | cons _ _ => simp [ints]
  have g := fun ts hx hy => grow_new (id := n + 1 + 2 + 2) (ts := ts) (h := upd h0 (n + 3) (some .nocap)) (ty := 3) (s := 1) (b := 8) (x := .t 5) (y := .t 6) (t := n + 3) (ns := ints l) hx (by simp) hy hne' (fun e he => ints_one he) (by simp; omega) (by simp; omega)
  refine andI_intro (g _ ?_ ?_).1 ?_
  · simp
  · simp
  dsimp only
  rw [(g _ ?_ ?_).2.1, (g _ ?_ ?_).2.2]
  · simp (disch := first | omega | (simp only [List.length_set]; omega)) []
    exact ⟨by omega, fun q hq => by rw [upd_ne (by omega), upd_ne (by omega)]⟩
  all_goals simp

theorem reverse_l0 {K : KC2} {hs : Hints} {i n : Nat} {l : List Int} (hn : l.length = n) (hl : n ≤ 1000000) (h0 : Hp)
    (hK : ∀ ts loc (τ : Heap), ts.length = 28 → i < τ.next → (∀ q, q ≠ i → τ.obj q = h0 q) → τ.obj i = some (.box 3 (ints l.reverse)) → K.k (.exit 0) ts loc τ)
    (ts : List AV) (loc : Go.Proofs.YtinfmkmebemhcaaW.Abs.Loc) (τ : Heap) (gl : ts.length = 28) (g0 : tmp ts 0 = .sl i 0 n) (g2 : tmp ts 2 = .int .i64 0) (g3 : tmp ts 3 = .int .i64 ((n : Int) - 1)) (n1 : i < τ.next) (ho : ∀ q, q ≠ i → τ.obj q = h0 q) (hb : τ.obj i = some (.box 3 (ints l))) :
    loop2I Try.prog W0 C hs F23l0 ts loc τ := by
  refine loop2I_ind cok F23l0w (m := fun k => n - k) (I := fun k ts loc τ => 2 * k ≤ n + 1 ∧ ts.length = 28 ∧ tmp ts 0 = .sl i 0 n ∧ tmp ts 2 = .int .i64 k ∧ tmp ts 3 = .int .i64 ((n : Int) - 1 - k) ∧ i < τ.next ∧ (∀ q, q ≠ i → τ.obj q = h0 q) ∧
    ∃ F, τ.obj i = some (.box 3 (ints F)) ∧ F.length = n ∧ ∀ q, q < n → F[q]? = if q < k ∨ n ≤ q + k then l[n - 1 - q]? else l[q]?) ?_ 0
    ⟨by omega, gl, g0, by simpa using g2, by simpa using g3, n1, ho, l, hb, hn, fun q hq => by rw [if_neg (by omega)]⟩
  clear gl g0 g2 g3 n1 ho hb ts loc τ
  rintro k ts loc τ ⟨hk, gl, g0, g2, g3, n1, ho, F, hb, hF, hq⟩ ih'
  simp (disch := first | omega | (simp only [List.length_set]; omega)) [F23l0, gl, g2, g3]
  by_cases hlt : 2 * k + 1 < n
  · have c1 : (k : Int) < (n : Int) - 1 - k := by omega
    have c2 : ((n : Int) - 1 - k).toNat = n - 1 - k := by omega
    have c3 : (0 : Int) ≤ (n : Int) - 1 - k := by omega
    have c4 : IntKind.i64.wrap ((n : Int) - 1 - k - 1) = (n : Int) - 1 - k - 1 := wrap_id (by omega) (by omega)
    have c5 : IntKind.i64.wrap ((k : Int) + 1) = (k : Int) + 1 := wrap_id (by omega) (by omega)
    obtain ⟨x, hx⟩ : ∃ x, l[k]? = some x := ⟨l[k]'(by omega), List.getElem?_eq_getElem _⟩
    obtain ⟨y, hy⟩ : ∃ y, l[n - 1 - k]? = some y := ⟨l[n - 1 - k]'(by omega), List.getElem?_eq_getElem _⟩
    have fx := hq k (by omega)
    have fy := hq (n - 1 - k) (by omega)
    rw [if_neg (by omega), hx] at fx
    rw [if_neg (by omega), hy] at fy
    have ex := nums_at fx
    have ey := nums_at fy
    have eF := elems_boxed hb hF
    have q2 : (ints (F.set k y))[n - 1 - k]? = some [.int .i64 y] := nums_at (by rw [List.getElem?_set, if_neg (by omega)]; exact fy)
    have eF2 : elems (upd τ.obj i (some (.box 3 (ints (F.set k y))))) (.sl i 0 n) = some (ints (F.set k y)) := elems_upd_self (by simp [hF])
    have c6 : (k : Int) ≤ (n : Int) - 1 := by omega
    have d1 : i < τ.next + 3 + 16 := by omega
    have d2 : i < τ.next + 3 := by omega
    simp (disch := first | omega | (simp only [List.length_set]; omega)) [gl, g0, g2, g3, c1, c2, c3, c6, eF, eF2, ex, ey, hb, hF, d1, d2, setAt_ints, q2]
    intro m hm
    simp (disch := first | omega | (simp only [List.length_set]; omega)) [gl, g0, g2, g3, c4, c5]
    refine ih' (k + 1) _ _ _ (by omega) ⟨by omega, ?_⟩
    simp (disch := first | omega | (simp only [List.length_set]; omega)) [gl, g0, g2, g3, c4, c5]
    refine ⟨by omega, by omega, fun q h => ?_, (F.set k y).set (n - 1 - k) x, ?_, by simp [hF], fun q hqn => ?_⟩
    · rw [upd_ne h]; exact ho q h
    · simp [setAt_ints]
    · rw [List.getElem?_set, List.getElem?_set]
      by_cases h1 : n - 1 - k = q
      · subst h1
        have e1 : n - 1 - (n - 1 - k) = k := by omega
        have e2 : n - 1 - k < k + 1 ∨ n ≤ n - 1 - k + (k + 1) := by omega
        have e3 : n - 1 - k < (F.set k y).length := by simp; omega
        rw [if_pos rfl, if_pos e3, if_pos e2, ← List.getElem?_eq_getElem, e1, hx]
      · rw [if_neg h1]
        by_cases h2 : k = q
        · subst h2
          have e2 : k < k + 1 ∨ n ≤ k + (k + 1) := by omega
          have e3 : k < F.length := by omega
          rw [if_pos rfl, if_pos e3, if_pos e2, ← List.getElem?_eq_getElem, hy]
        · rw [if_neg h2, hq q hqn]
          by_cases h3 : q < k ∨ n ≤ q + k
          · rw [if_pos h3, if_pos (by omega), ← List.getElem?_eq_getElem]
          · rw [if_neg h3, if_neg (by omega)]
  · have c1 : ¬ (k : Int) < (n : Int) - 1 - k := by omega
    simp (disch := first | omega | (simp only [List.length_set]; omega)) [gl, g0, g2, g3, c1]
    refine hK _ _ _ (by simp [gl]) (by dsimp only; omega) ho ?_
    dsimp only; rw [hb]
    congr 3
    apply List.ext_getElem?
    intro q
    by_cases hqn : q < n
    · rw [hq q hqn, List.getElem?_reverse (by omega), hn]
      split
      · rfl
      · rename_i h; congr 1; omega
    · rw [List.getElem?_eq_none (by omega), List.getElem?_eq_none (by simp; omega)]

theorem reverse_spec {i n m : Nat} {l : List Int} {h0 : Hp} (hn : l.length = n) (hl : n ≤ 1000000) (hi : i < m) (hb : h0 i = some (.box 3 (ints l))) :
    HCalls Try.prog W0 23 [.sl i 0 n] ⟨m, h0⟩ (fun o τ' => o = .ret (.tup []) ∧ (∀ q, q ≠ i → τ'.obj q = h0 q) ∧ τ'.obj i = some (.box 3 (ints l.reverse))) := by
  refine hcalls cok Try.func23 F23d F23e F23c F23w F23r ?_
  refine ev2I_intro ?_
  simp (disch := first | omega | (simp only [List.length_set]; omega)) [F23s]
  refine reverse_l0 (i := i) (n := n) (l := l) hn hl h0 ?_ _ _ _ (by rfl) (by rfl) (by rfl) (by simp (disch := first | omega | (simp only [List.length_set]; omega)) [wrap_id]) (by dsimp only; omega) (fun q _ => rfl) hb
  intro ts loc τ gl n1 ho hb'
  simp (disch := first | omega | (simp only [List.length_set]; omega)) []
  exact ⟨ho, hb'⟩
end Go.Proofs.Ytinfmkmebemhcaa.Lt
