/- The chunks: what chunk.Of hands back. -/
import Derived.Test.YtbmkgpocnkiibaaChk8
namespace Go.Proofs.Ytbmkgpocnkiibaa.Lt
open Go.Proofs.YtbmkgpocnkiibaaW.Abs Go
set_option maxRecDepth 100000
set_option maxHeartbeats 2000000
set_option linter.unusedSimpArgs false
set_option linter.unusedVariables false
variable {W0 : World}

/-- how far a run goes on -/
def runLen (nb : Nat) (mo mt : List (Int × Int)) (i j k n : Nat) : Nat :=
  if h : i + n < nb then (if findM mo (i + n : Nat) = some ((j + n : Nat) : Int) ∧ findM mt (i + n : Nat) = some ((k + n : Nat) : Int) then runLen nb mo mt i j k (n + 1) else n) else n
termination_by nb - (i + n)
theorem runLen_ge (nb : Nat) (mo mt : List (Int × Int)) (i j k n : Nat) : n ≤ runLen nb mo mt i j k n := by
  rw [runLen]
  split
  · split
    · have := runLen_ge nb mo mt i j k (n + 1); omega
    · omega
  · omega
termination_by nb - (i + n)
theorem runLen_le (nb : Nat) (mo mt : List (Int × Int)) (i j k n : Nat) (hn : i + n ≤ nb) : i + runLen nb mo mt i j k n ≤ nb := by
  rw [runLen]
  split
  · split
    · exact runLen_le nb mo mt i j k (n + 1) (by omega)
    · omega
  · omega
termination_by nb - (i + n)
/-- every place of a run is paired -/
theorem runLen_all (nb : Nat) (mo mt : List (Int × Int)) (i j k n : Nat) : ∀ m, n ≤ m → m < runLen nb mo mt i j k n → findM mo (i + m : Nat) = some ((j + m : Nat) : Int) ∧ findM mt (i + m : Nat) = some ((k + m : Nat) : Int) := by
  intro m h1 h2
  rw [runLen] at h2
  split at h2
  · rename_i hlt
    split at h2
    · rename_i hc
      by_cases e : m = n
      · subst e; exact hc
      · exact runLen_all nb mo mt i j k (n + 1) m (by omega) h2
    · omega
  · omega
termination_by nb - (i + n)

/-- the chunks from place i on; x, y, z: how far the three rows are done -/
def ofM (b o t : List Int) (mo mt : List (Int × Int)) (i x y z : Nat) : List Ck :=
  if h : i < b.length then
    match findM mo i, findM mt i with
    | some j, some k =>
      let n := runLen b.length mo mt i j.toNat k.toNat 1
      betw b o t x y z i j.toNat k.toNat ++ ⟨1, i, i + n, j.toNat, j.toNat + n, k.toNat, k.toNat + n⟩ :: ofM b o t mo mt (i + n) (i + n) (j.toNat + n) (k.toNat + n)
    | _, _ => ofM b o t mo mt (i + 1) x y z
  else betw b o t x y z b.length o.length t.length
termination_by b.length - i
decreasing_by
  · have := runLen_ge b.length mo mt i j.toNat k.toNat 1; omega
  · omega

theorem run_loop {K : KC2} {b : List Int} {B : AV} (hB : IsRow B (ints b)) (hlb : b.length ≤ 1000000) (mo mt : List (Int × Int)) {ib m1 m2 : Nat} {tb : TypeId} {h : Hp} (n0 : Nat) (loc : Go.Proofs.YtbmkgpocnkiibaaW.Abs.Loc) (i j k : Nat) (hj : j ≤ 1000000) (hk : k ≤ 1000000) {v6 v7 v18 v19 v20 : AV}
    (fb : h ib = some (.box tb [[B]])) (f1 : h m1 = some (.map (kvM mo))) (f2 : h m2 = some (.map (kvM mt)))
    (hK : ∀ ts (τ : Heap), ts.length = 186 → tmp ts 5 = .bp ib 0 0 → tmp ts 6 = v6 → tmp ts 7 = v7 → tmp ts 12 = .mp m1 → tmp ts 13 = .mp m2 → tmp ts 18 = v18 → tmp ts 19 = v19 → tmp ts 20 = v20 → tmp ts 21 = .int .i64 i → tmp ts 22 = .int .i64 j → tmp ts 24 = .int .i64 k →
      tmp ts 26 = .int .i64 (runLen b.length mo mt i j k 1) → n0 ≤ τ.next → τ.obj = h → K.k (.exit 6) ts loc τ)
    (ts : List AV) (τ : Heap) (hl : ts.length = 186) (h5 : tmp ts 5 = .bp ib 0 0) (h6 : tmp ts 6 = v6) (h7 : tmp ts 7 = v7) (h12 : tmp ts 12 = .mp m1) (h13 : tmp ts 13 = .mp m2) (h18 : tmp ts 18 = v18) (h19 : tmp ts 19 = v19) (h20 : tmp ts 20 = v20) (h21 : tmp ts 21 = .int .i64 i) (h22 : tmp ts 22 = .int .i64 j) (h24 : tmp ts 24 = .int .i64 k)
    (h26 : tmp ts 26 = .int .i64 1) (hn0 : n0 ≤ τ.next) (hτ : τ.obj = h) (hi : i < b.length) : loop2I Try.prog W0 C [] F8l0 ts loc τ := by
  refine loop2I_ind cok F8l0w (m := fun n => b.length - (i + n)) (I := fun n ts loc' τ => loc' = loc ∧ i + n ≤ b.length ∧ ts.length = 186 ∧ tmp ts 5 = .bp ib 0 0 ∧ tmp ts 6 = v6 ∧ tmp ts 7 = v7 ∧ tmp ts 12 = .mp m1 ∧ tmp ts 13 = .mp m2 ∧ tmp ts 18 = v18 ∧ tmp ts 19 = v19 ∧ tmp ts 20 = v20 ∧ tmp ts 21 = .int .i64 i ∧ tmp ts 22 = .int .i64 j ∧ tmp ts 24 = .int .i64 k ∧
    tmp ts 26 = .int .i64 n ∧ n0 ≤ τ.next ∧ τ.obj = h ∧ runLen b.length mo mt i j k n = runLen b.length mo mt i j k 1) ?_ 1 ⟨rfl, by omega, hl, h5, h6, h7, h12, h13, h18, h19, h20, h21, h22, h24, h26, hn0, hτ, rfl⟩
  clear hl h5 h6 h7 h12 h13 h18 h19 h20 h21 h22 h24 h26 hn0 hτ ts τ
  rintro n ts loc' τ ⟨rfl, hn, hl, h5, h6, h7, h12, h13, h18, h19, h20, h21, h22, h24, h26, hn0, hτ, hR⟩ ih'
  simp (disch := first | omega | (simp only [List.length_set]; omega)) [F8l0, hl, h5, h6, h7, h12, h13, h18, h19, h20, h21, h22, h24, h26, hτ, fb, f1, f2, hB.len, wrap_id, mfind_some, look_kv]
  refine condI_dec (fun hlt => ?_) (fun hlt => ?_)
  · have hr := runLen.eq_1 b.length mo mt i j k n
    rw [dif_pos (show i + n < b.length by omega)] at hr
    by_cases e : findM mo (i + n : Nat) = some ((j + n : Nat) : Int) ∧ findM mt (i + n : Nat) = some ((k + n : Nat) : Int)
    · rw [if_pos e, hR] at hr
      obtain ⟨e1, e2⟩ := e
      simp only [Int.natCast_add] at e1 e2
      simp (disch := first | omega | (simp only [List.length_set]; omega)) [hl, h5, h6, h7, h12, h13, h18, h19, h20, h21, h22, h24, h26, hτ, fb, f1, f2, wrap_id, mfind_some, look_kv, e1, e2]
      refine ih' (n + 1) _ _ _ (by omega) ⟨rfl, by omega, ?_⟩
      simp (disch := first | omega | (simp only [List.length_set]; omega)) [hl, h5, h6, h7, h12, h13, h18, h19, h20, h21, h22, h24, h26, hτ, fb, f1, f2, wrap_id, mfind_some, look_kv, e1, e2]
      exact ⟨by omega, hr.symm⟩
    · rw [if_neg e, hR] at hr
      simp only [Int.natCast_add] at e
      cases e1 : findM mo (↑i + ↑n) with
      | none =>
        simp (disch := first | omega | (simp only [List.length_set]; omega)) [hl, h5, h6, h7, h12, h13, h18, h19, h20, h21, h22, h24, h26, hτ, fb, f1, f2, wrap_id, mfind_some, look_kv, e1]
        exact hK _ _ (by simp [hl]) (by simp (disch := first | omega | (simp only [List.length_set]; omega)) [h5]) (by simp (disch := first | omega | (simp only [List.length_set]; omega)) [h6]) (by simp (disch := first | omega | (simp only [List.length_set]; omega)) [h7]) (by simp (disch := first | omega | (simp only [List.length_set]; omega)) [h12]) (by simp (disch := first | omega | (simp only [List.length_set]; omega)) [h13]) (by simp (disch := first | omega | (simp only [List.length_set]; omega)) [h18]) (by simp (disch := first | omega | (simp only [List.length_set]; omega)) [h19]) (by simp (disch := first | omega | (simp only [List.length_set]; omega)) [h20]) (by simp (disch := first | omega | (simp only [List.length_set]; omega)) [h21]) (by simp (disch := first | omega | (simp only [List.length_set]; omega)) [h22]) (by simp (disch := first | omega | (simp only [List.length_set]; omega)) [h24]) (by simp (disch := first | omega | (simp only [List.length_set]; omega)) [h26, hr]) (by dsimp only; omega) rfl
      | some v =>
        cases e2 : findM mt (↑i + ↑n) with
        | none =>
          simp (disch := first | omega | (simp only [List.length_set]; omega)) [hl, h5, h6, h7, h12, h13, h18, h19, h20, h21, h22, h24, h26, hτ, fb, f1, f2, wrap_id, mfind_some, look_kv, e1, e2]
          exact hK _ _ (by simp [hl]) (by simp (disch := first | omega | (simp only [List.length_set]; omega)) [h5]) (by simp (disch := first | omega | (simp only [List.length_set]; omega)) [h6]) (by simp (disch := first | omega | (simp only [List.length_set]; omega)) [h7]) (by simp (disch := first | omega | (simp only [List.length_set]; omega)) [h12]) (by simp (disch := first | omega | (simp only [List.length_set]; omega)) [h13]) (by simp (disch := first | omega | (simp only [List.length_set]; omega)) [h18]) (by simp (disch := first | omega | (simp only [List.length_set]; omega)) [h19]) (by simp (disch := first | omega | (simp only [List.length_set]; omega)) [h20]) (by simp (disch := first | omega | (simp only [List.length_set]; omega)) [h21]) (by simp (disch := first | omega | (simp only [List.length_set]; omega)) [h22]) (by simp (disch := first | omega | (simp only [List.length_set]; omega)) [h24]) (by simp (disch := first | omega | (simp only [List.length_set]; omega)) [h26, hr]) (by dsimp only; omega) rfl
        | some w =>
          rw [e1, e2] at e
          by_cases hv : v = ↑j + ↑n
          · have hw : ¬ w = ↑k + ↑n := fun hw => e ⟨by rw [hv], by rw [hw]⟩
            simp (disch := first | omega | (simp only [List.length_set]; omega)) [hl, h5, h6, h7, h12, h13, h18, h19, h20, h21, h22, h24, h26, hτ, fb, f1, f2, wrap_id, mfind_some, look_kv, e1, e2, hv, hw]
            exact hK _ _ (by simp [hl]) (by simp (disch := first | omega | (simp only [List.length_set]; omega)) [h5]) (by simp (disch := first | omega | (simp only [List.length_set]; omega)) [h6]) (by simp (disch := first | omega | (simp only [List.length_set]; omega)) [h7]) (by simp (disch := first | omega | (simp only [List.length_set]; omega)) [h12]) (by simp (disch := first | omega | (simp only [List.length_set]; omega)) [h13]) (by simp (disch := first | omega | (simp only [List.length_set]; omega)) [h18]) (by simp (disch := first | omega | (simp only [List.length_set]; omega)) [h19]) (by simp (disch := first | omega | (simp only [List.length_set]; omega)) [h20]) (by simp (disch := first | omega | (simp only [List.length_set]; omega)) [h21]) (by simp (disch := first | omega | (simp only [List.length_set]; omega)) [h22]) (by simp (disch := first | omega | (simp only [List.length_set]; omega)) [h24]) (by simp (disch := first | omega | (simp only [List.length_set]; omega)) [h26, hr]) (by dsimp only; omega) rfl
          · simp (disch := first | omega | (simp only [List.length_set]; omega)) [hl, h5, h6, h7, h12, h13, h18, h19, h20, h21, h22, h24, h26, hτ, fb, f1, f2, wrap_id, mfind_some, look_kv, e1, e2, hv]
            exact hK _ _ (by simp [hl]) (by simp (disch := first | omega | (simp only [List.length_set]; omega)) [h5]) (by simp (disch := first | omega | (simp only [List.length_set]; omega)) [h6]) (by simp (disch := first | omega | (simp only [List.length_set]; omega)) [h7]) (by simp (disch := first | omega | (simp only [List.length_set]; omega)) [h12]) (by simp (disch := first | omega | (simp only [List.length_set]; omega)) [h13]) (by simp (disch := first | omega | (simp only [List.length_set]; omega)) [h18]) (by simp (disch := first | omega | (simp only [List.length_set]; omega)) [h19]) (by simp (disch := first | omega | (simp only [List.length_set]; omega)) [h20]) (by simp (disch := first | omega | (simp only [List.length_set]; omega)) [h21]) (by simp (disch := first | omega | (simp only [List.length_set]; omega)) [h22]) (by simp (disch := first | omega | (simp only [List.length_set]; omega)) [h24]) (by simp (disch := first | omega | (simp only [List.length_set]; omega)) [h26, hr]) (by dsimp only; omega) rfl
  · have hr := runLen.eq_1 b.length mo mt i j k n
    rw [dif_neg (show ¬ i + n < b.length by omega), hR] at hr
    simp (disch := first | omega | (simp only [List.length_set]; omega)) [hl, h5, h6, h7, h12, h13, h18, h19, h20, h21, h22, h24, h26, hτ]
    exact hK _ _ (by simp [hl]) (by simp (disch := first | omega | (simp only [List.length_set]; omega)) [h5]) (by simp (disch := first | omega | (simp only [List.length_set]; omega)) [h6]) (by simp (disch := first | omega | (simp only [List.length_set]; omega)) [h7]) (by simp (disch := first | omega | (simp only [List.length_set]; omega)) [h12]) (by simp (disch := first | omega | (simp only [List.length_set]; omega)) [h13]) (by simp (disch := first | omega | (simp only [List.length_set]; omega)) [h18]) (by simp (disch := first | omega | (simp only [List.length_set]; omega)) [h19]) (by simp (disch := first | omega | (simp only [List.length_set]; omega)) [h20]) (by simp (disch := first | omega | (simp only [List.length_set]; omega)) [h21]) (by simp (disch := first | omega | (simp only [List.length_set]; omega)) [h22]) (by simp (disch := first | omega | (simp only [List.length_set]; omega)) [h24]) (by simp (disch := first | omega | (simp only [List.length_set]; omega)) [h26, hr]) (by dsimp only; omega) rfl
end Go.Proofs.Ytbmkgpocnkiibaa.Lt
