import Derived.Test.YtbmkgpocnkiibaaKc
import Derived.Test.YtbmkgpocnkiibaaMb
/- The document's chunks in plain Lean: runs first, then what lies between. -/
namespace Go.Proofs.Ytbmkgpocnkiibaa.Lt
open Go.Proofs.YtbmkgpocnkiibaaW.Abs Go
set_option maxRecDepth 100000
set_option maxHeartbeats 2000000
set_option linter.unusedSimpArgs false
set_option linter.unusedVariables false

/-- the runs, one place more -/
def stepR (runs : List Ck) (i j k : Nat) : List Ck := match runs.getLast? with
  | some c => if c.b1 = i ∧ c.o1 = j ∧ c.t1 = k then runs.dropLast ++ [⟨c.s, c.b0, c.b1 + 1, c.o0, c.o1 + 1, c.t0, c.t1 + 1⟩] else runs ++ [⟨1, i, i + 1, j, j + 1, k, k + 1⟩]
  | none => [⟨1, i, i + 1, j, j + 1, k, k + 1⟩]
/-- .. of all places from i on -/
def foldR (nb : Nat) (mo mt : List (Int × Int)) (i : Nat) (runs : List Ck) : List Ck :=
  if i < nb then (match findM mo i, findM mt i with
    | some j, some k => foldR nb mo mt (i + 1) (stepR runs i j.toNat k.toNat)
    | _, _ => foldR nb mo mt (i + 1) runs) else runs
termination_by nb - i
theorem foldR_end {nb : Nat} {mo mt : List (Int × Int)} {i : Nat} {runs : List Ck} (h : ¬ i < nb) : foldR nb mo mt i runs = runs := by rw [foldR, if_neg h]
theorem foldR_none {nb : Nat} {mo mt : List (Int × Int)} {i : Nat} {runs : List Ck} (h : i < nb) (e : findM mo i = none ∨ findM mt i = none) : foldR nb mo mt i runs = foldR nb mo mt (i + 1) runs := by
  rw [foldR, if_pos h]
  rcases e with e | e
  · rw [e]
  · rw [e]; cases findM mo i <;> rfl
theorem foldR_some {nb : Nat} {mo mt : List (Int × Int)} {i j k : Nat} {runs : List Ck} (h : i < nb) (e1 : findM mo i = some (j : Int)) (e2 : findM mt i = some (k : Int)) : foldR nb mo mt i runs = foldR nb mo mt (i + 1) (stepR runs i j k) := by
  rw [foldR, if_pos h, e1, e2]; simp
/-- the runs as chunk.Of goes -/
def runsM (nb : Nat) (mo mt : List (Int × Int)) (i : Nat) : List Ck :=
  if h : i < nb then (match findM mo i, findM mt i with
    | some j, some k => ⟨1, i, i + runLen nb mo mt i j.toNat k.toNat 1, j.toNat, j.toNat + runLen nb mo mt i j.toNat k.toNat 1, k.toNat, k.toNat + runLen nb mo mt i j.toNat k.toNat 1⟩ :: runsM nb mo mt (i + runLen nb mo mt i j.toNat k.toNat 1)
    | _, _ => runsM nb mo mt (i + 1)) else []
termination_by nb - i
decreasing_by
  · have := runLen_ge nb mo mt i j.toNat k.toNat 1; omega
  · omega
theorem runsM_end {nb : Nat} {mo mt : List (Int × Int)} {i : Nat} (h : ¬ i < nb) : runsM nb mo mt i = [] := by rw [runsM, dif_neg h]
theorem runsM_none {nb : Nat} {mo mt : List (Int × Int)} {i : Nat} (h : i < nb) (e : findM mo i = none ∨ findM mt i = none) : runsM nb mo mt i = runsM nb mo mt (i + 1) := by
  rw [runsM, dif_pos h]
  rcases e with e | e
  · rw [e]
  · rw [e]; cases findM mo i <;> rfl
theorem runsM_some {nb : Nat} {mo mt : List (Int × Int)} {i j k : Nat} (h : i < nb) (e1 : findM mo i = some (j : Int)) (e2 : findM mt i = some (k : Int)) :
    runsM nb mo mt i = ⟨1, i, i + runLen nb mo mt i j k 1, j, j + runLen nb mo mt i j k 1, k, k + runLen nb mo mt i j k 1⟩ :: runsM nb mo mt (i + runLen nb mo mt i j k 1) := by
  rw [runsM, dif_pos h, e1, e2]; simp

theorem stepR_new (runs : List Ck) (i j k : Nat) (h : ∀ c, runs.getLast? = some c → ¬ (c.b1 = i ∧ c.o1 = j ∧ c.t1 = k)) : stepR runs i j k = runs ++ [⟨1, i, i + 1, j, j + 1, k, k + 1⟩] := by
  unfold stepR
  cases e : runs.getLast? with
  | none => rw [List.getLast?_eq_none_iff] at e; subst e; rfl
  | some c => simp only; rw [if_neg (h c e)]
theorem stepR_old (runs : List Ck) (c : Ck) : stepR (runs ++ [c]) c.b1 c.o1 c.t1 = runs ++ [⟨c.s, c.b0, c.b1 + 1, c.o0, c.o1 + 1, c.t0, c.t1 + 1⟩] := by
  unfold stepR; simp

/-- a run goes on to its end -/
theorem fold_run {nb : Nat} {mo mt : List (Int × Int)} (runs : List Ck) (i j k n : Nat) (hn : i + n ≤ nb) (hall : ∀ m, m < n → findM mo (i + m : Nat) = some ((j + m : Nat) : Int) ∧ findM mt (i + m : Nat) = some ((k + m : Nat) : Int)) :
    ∀ d m, m + d = n → 1 ≤ m → foldR nb mo mt (i + m) (runs ++ [⟨1, i, i + m, j, j + m, k, k + m⟩]) = foldR nb mo mt (i + n) (runs ++ [⟨1, i, i + n, j, j + n, k, k + n⟩])
  | 0, m, h, _ => by have : m = n := by omega
                     subst this; rfl
  | d + 1, m, h, h1 => by
    obtain ⟨e1, e2⟩ := hall m (by omega)
    rw [foldR_some (j := j + m) (k := k + m) (by omega) e1 e2]
    have := stepR_old runs ⟨1, i, i + m, j, j + m, k, k + m⟩
    dsimp only at this
    rw [this]
    exact fold_run runs i j k n hn hall d (m + 1) (by omega) (by omega)

theorem fold_runs {b o t : List Int} {mo mt : List (Int × Int)} (Ho : Good b o mo) (Ht : Good b t mt) : ∀ (i : Nat) (runs : List Ck), (∀ c, runs.getLast? = some c → ¬ (c.b1 = i ∧ findM mo i = some (c.o1 : Int) ∧ findM mt i = some (c.t1 : Int))) → (∀ c, runs.getLast? = some c → c.b1 ≤ i) →
    foldR b.length mo mt i runs = runs ++ runsM b.length mo mt i := by
  intro i runs hc hb
  by_cases hlt : i < b.length
  · have skip : findM mo i = none ∨ findM mt i = none → foldR b.length mo mt i runs = runs ++ runsM b.length mo mt i := fun e => by
      rw [foldR_none hlt e, runsM_none hlt e]
      exact fold_runs Ho Ht (i + 1) runs (fun c e => by have := hb c e; omega) (fun c e => by have := hb c e; omega)
    cases e1 : findM mo i with
    | none => exact skip (.inl e1)
    | some v =>
      cases e2 : findM mt i with
      | none => exact skip (.inr e2)
      | some w =>
        have f1 := Ho.find e1
        have f2 := Ht.find e2
        obtain ⟨j, rfl⟩ : ∃ j : Nat, v = j := ⟨v.toNat, by omega⟩
        obtain ⟨k, rfl⟩ : ∃ k : Nat, w = k := ⟨w.toNat, by omega⟩
        obtain ⟨n1, n2, _⟩ := run_facts Ho Ht e1 e2
        have nst := runLen_stop (nb := b.length) (mo := mo) (mt := mt) i j k 1
        have nall := runLen_all b.length mo mt i j k 1
        have nend : ∀ m, m < runLen b.length mo mt i j k 1 → findM mo (i + m : Nat) = some ((j + m : Nat) : Int) ∧ findM mt (i + m : Nat) = some ((k + m : Nat) : Int) := fun m hm => by
          by_cases h0 : m = 0
          · subst h0; exact ⟨by simpa using e1, by simpa using e2⟩
          · exact nall m (by omega) hm
        rw [runsM_some hlt e1 e2, foldR_some hlt e1 e2, stepR_new]
        · generalize runLen b.length mo mt i j k 1 = n at *
          rw [fold_run runs i j k n n2 nend (n - 1) 1 (by omega) (by omega)]
          rw [fold_runs Ho Ht (i + n) _ (fun c e => ?_) (fun c e => ?_)]
          · simp
          · simp only [List.getLast?_append, List.getLast?_singleton, Option.some_or, Option.some.injEq] at e
            subst e
            dsimp only
            rintro ⟨_, h1, h2⟩
            by_cases hin : i + n < b.length
            · exact nst ⟨hin, h1, h2⟩
            · have := (Ho.find h1).2.2.1; omega
          · simp only [List.getLast?_append, List.getLast?_singleton, Option.some_or, Option.some.injEq] at e
            subst e
            exact Nat.le_refl _
        · intro c e h
          exact hc c e ⟨h.1, by rw [h.2.1]; exact e1, by rw [h.2.2]; exact e2⟩
  · rw [foldR_end hlt, runsM_end hlt]; simp
termination_by i => b.length - i
decreasing_by all_goals omega

/-- what the document tells of runs -/
def outR (b o t : List Int) : List Ck → Nat → Nat → Nat → List Ck
  | [], _, _, _ => []
  | c :: r, x, y, z => (if x < c.b0 ∨ y < c.o0 ∨ z < c.t0 then [⟨sortOf (cut b x c.b0) (cut o y c.o0) (cut t z c.t0), x, c.b0, y, c.o0, z, c.t0⟩] else []) ++ ((if c.s = 1 then [c] else []) ++ outR b o t r c.b1 c.o1 c.t1)
theorem betw_out {b o t : List Int} {x y z i j k : Nat} (hx : x ≤ i) (hy : y ≤ j) (hz : z ≤ k) : (if x < i ∨ y < j ∨ z < k then [(⟨sortOf (cut b x i) (cut o y j) (cut t z k), x, i, y, j, z, k⟩ : Ck)] else []) = betw b o t x y z i j k := by
  unfold betw
  by_cases h : x = i ∧ y = j ∧ z = k
  · rw [if_pos h, if_neg (by omega)]
  · rw [if_neg h, if_pos (by omega)]

theorem out_runs {b o t : List Int} {mo mt : List (Int × Int)} (Ho : Good b o mo) (Ht : Good b t mt) : ∀ (i x y z : Nat), x ≤ i → i ≤ b.length → y ≤ o.length → z ≤ t.length → Ahead mo mt i y z →
    outR b o t (runsM b.length mo mt i ++ [⟨0, b.length, b.length, o.length, o.length, t.length, t.length⟩]) x y z = ofM b o t mo mt i x y z := by
  intro i x y z hx hi hy hz ha
  by_cases hlt : i < b.length
  · cases e1 : findM mo i with
    | none =>
      rw [ofM_skip1 hlt e1, runsM_none hlt (.inl e1)]
      exact out_runs Ho Ht (i + 1) x y z (by omega) (by omega) hy hz (fun i' h => ha i' (by omega))
    | some v =>
      cases e2 : findM mt i with
      | none =>
        rw [ofM_skip2 hlt e2, runsM_none hlt (.inr e2)]
        exact out_runs Ho Ht (i + 1) x y z (by omega) (by omega) hy hz (fun i' h => ha i' (by omega))
      | some w =>
        have f1 := Ho.find e1
        have f2 := Ht.find e2
        obtain ⟨j, rfl⟩ : ∃ j : Nat, v = j := ⟨v.toNat, by omega⟩
        obtain ⟨k, rfl⟩ : ∃ k : Nat, w = k := ⟨w.toNat, by omega⟩
        rw [ofM_run hlt e1 e2, runsM_some hlt e1 e2]
        obtain ⟨n1, n2, n3, n4, _⟩ := run_facts Ho Ht e1 e2
        have nall := runLen_all b.length mo mt i j k 1
        have nend : ∀ m, m < runLen b.length mo mt i j k 1 → findM mo (i + m : Nat) = some ((j + m : Nat) : Int) ∧ findM mt (i + m : Nat) = some ((k + m : Nat) : Int) := fun m hm => by
          by_cases h0 : m = 0
          · subst h0; exact ⟨by simpa using e1, by simpa using e2⟩
          · exact nall m (by omega) hm
        generalize runLen b.length mo mt i j k 1 = n at *
        have hay := (ha i (Nat.le_refl _)).1 _ e1
        have haz := (ha i (Nat.le_refl _)).2 _ e2
        have ih := out_runs Ho Ht (i + n) (i + n) (j + n) (k + n) (by omega) n2 n3 n4 (fun i' h => by
          have m1 := nend (n - 1) (by omega)
          refine ⟨fun v hv => ?_, fun v hv => ?_⟩
          · have := Ho.mono m1.1 hv (by omega); omega
          · have := Ht.mono m1.2 hv (by omega); omega)
        rw [List.cons_append, outR, ih]
        dsimp only
        rw [betw_out hx (by omega) (by omega)]
        simp
  · rw [ofM_end hlt, runsM_end hlt, List.nil_append, outR, outR]
    dsimp only
    rw [betw_out (by omega) hy hz]
    simp
termination_by i => b.length - i
decreasing_by all_goals omega

/-- the document's chunks are the program's -/
theorem ref_of {b o t : List Int} {mo mt : List (Int × Int)} (Ho : Good b o mo) (Ht : Good b t mt) :
    outR b o t (foldR b.length mo mt 0 [] ++ [⟨0, b.length, b.length, o.length, o.length, t.length, t.length⟩]) 0 0 0 = ofM b o t mo mt 0 0 0 0 := by
  rw [fold_runs Ho Ht 0 [] (fun c e => by cases e) (fun c e => by cases e), List.nil_append]
  exact out_runs Ho Ht 0 0 0 0 (by omega) (by omega) (by omega) (by omega) (fun i' _ => ⟨fun v hv => by have := (Ho.find hv).1; omega, fun v hv => by have := (Ht.find hv).1; omega⟩)
end Go.Proofs.Ytbmkgpocnkiibaa.Lt

/- scarfref17.Of: its runs. -/
namespace Go.Proofs.Ytbmkgpocnkiibaa.Lt
open Go.Proofs.YtbmkgpocnkiibaaW.Abs Go
set_option maxRecDepth 100000
set_option maxHeartbeats 4000000
set_option linter.unusedSimpArgs false
set_option linter.unusedVariables false
variable {W0 : World}

theorem toF_find {b o : List Int} {mo : List (Int × Int)} (i : Int) : toF mo i = (findM mo i).getD (-1) := by
  induction mo with
  | nil => rfl
  | cons p r ih => rw [toF, findM]; split <;> simp [ih]
def encs (R : List Ck) : List (List AV) := R.map Ck.enc
@[simp] theorem encs_len (R : List Ck) : (encs R).length = R.length := by simp [encs]
theorem encs_at {R : List Ck} {i : Nat} {c : Ck} (h : R[i]? = some c) : (encs R)[i]? = some c.enc := by simp [encs, h]
theorem encs_app (a b : List Ck) : encs (a ++ b) = encs a ++ encs b := by simp [encs]
/-- the row of runs, under its name -/
def Runs (c : LC) (v : AV) (n : Nat) (R : List Ck) : Prop := (R = [] ∧ v = .nils) ∨ ∃ id, R ≠ [] ∧ c = .box id 52 (encs R) ∧ v = .sl id 0 R.length ∧ id < n
theorem Runs.mono {c : LC} {v : AV} {n m : Nat} {R : List Ck} (h : Runs c v n R) (hm : n ≤ m) : Runs c v m R := by
  rcases h with h | ⟨id, h1, h2, h3, h4⟩
  · exact .inl h
  · exact .inr ⟨id, h1, h2, h3, by omega⟩
theorem Runs.len {c : LC} {v : AV} {n : Nat} {R : List Ck} (h : Runs c v n R) : lenOf v = some R.length := by
  rcases h with ⟨rfl, rfl⟩ | ⟨id, h1, h2, rfl, h4⟩ <;> rfl
theorem encs_seven {R : List Ck} {e : List AV} (h : e ∈ encs R) : e.length = 7 := by
  simp only [encs, List.mem_map] at h; obtain ⟨c, _, rfl⟩ := h; rfl
theorem Runs.ok {c : LC} {v : AV} {n : Nat} {R : List Ck} (h : Runs c v n R) : stkOk c 52 7 v = some (encs R) := by
  rcases h with ⟨rfl, rfl⟩ | ⟨id, h1, rfl, rfl, h4⟩
  · rfl
  · have h5 : ((encs R).all fun e => e.length == 7) = true := List.all_eq_true.2 fun e he => by simpa using encs_seven he
    have h6 : (encs R).length ≠ 0 := by simpa using h1
    simp only [stkOk]
    rw [if_pos ⟨trivial, trivial, by simp, h6, h5⟩]
    simp only [Option.some.injEq]
    exact List.take_of_length_le (by simp)
theorem Runs.next {c : LC} {v : AV} {n m : Nat} {R : List Ck} (h : Runs c v n R) (id : Nat) (k : Ck) {e : List AV} (he : e = k.enc) (hm : id < m) : Runs (stkLoc id 52 c [e] v) (stkRes id [e] v) m (R ++ [k]) := by
  subst he
  rcases h with ⟨rfl, rfl⟩ | ⟨id', h1, rfl, rfl, h4⟩
  · exact .inr ⟨id, by simp, rfl, rfl, hm⟩
  · refine .inr ⟨id, by simp, ?_, by simp [stkRes], hm⟩
    simp only [stkLoc]
    rw [List.take_of_length_le (by simp), encs_app]; rfl
theorem setAt_one {es : List (List AV)} {n off : Nat} {e : List AV} {v : AV} (h : es[n]? = some e) (ho : off < e.length) : setAt es n off [v] = es.set n (e.set off v) := by
  apply List.ext_getElem?
  intro i
  rw [setAt_get, List.getElem?_set]
  by_cases hi : n = i
  · subst hi
    have := (List.getElem?_eq_some_iff.1 h).1
    rw [if_pos rfl, if_pos rfl, if_pos this, h]
    simp only [Option.map_some, Option.some.injEq]
    apply List.ext_getElem?
    intro q
    rw [put_get (by simp; omega), List.getElem?_set]
    by_cases hq : off = q
    · subst hq; simp [ho]
    · rw [if_neg hq]
      by_cases h2 : off ≤ q ∧ q < off + [v].length
      · simp at h2; omega
      · rw [if_neg h2]
  · rw [if_neg hi, if_neg hi]
theorem encs_set (R : List Ck) (c d : Ck) : (encs (R ++ [c])).set R.length d.enc = encs (R ++ [d]) := by
  simp [encs]

theorem rof_l1 {K : KC2} {hs : Hints} {b o t : List Int} {mo mt : List (Int × Int)} {B O T MO MT w12 : AV} (Ho : Good b o mo) (Ht : Good b t mt) (hB : IsRow B (ints b)) (hMO : IsRow MO (prs mo)) (hMT : IsRow MT (prs mt)) (hmo : mo.length ≤ 1000000) (hmt : mt.length ≤ 1000000) (hlb : b.length ≤ 1000000) (hlo : o.length ≤ 1000000) (hlt : t.length ≤ 1000000)
    (hK : ∀ ts loc (τ : Heap), ts.length = 269 → tmp ts 0 = B → tmp ts 1 = O → tmp ts 2 = T → tmp ts 12 = w12 → Runs (loc 2) (tmp ts 13) τ.next (foldR b.length mo mt 0 []) → (foldR b.length mo mt 0 []).length ≤ b.length → K.k (.exit 0) ts loc τ)
    (ts : List AV) (loc : Go.Proofs.YtbmkgpocnkiibaaW.Abs.Loc) (τ : Heap) (gl : ts.length = 269) (g0 : tmp ts 0 = B) (g1 : tmp ts 1 = O) (g2 : tmp ts 2 = T) (g3 : tmp ts 3 = MO) (g4 : tmp ts 4 = MT) (g12 : tmp ts 12 = w12) (g13 : tmp ts 13 = .nils) (g14 : tmp ts 14 = .int .i64 0) :
    loop2I Try.prog W0 C hs F12l1 ts loc τ := by
  refine loop2I_ind cok F12l1w (m := fun i => b.length - i) (I := fun i ts loc τ => i ≤ b.length ∧ ts.length = 269 ∧ tmp ts 0 = B ∧ tmp ts 1 = O ∧ tmp ts 2 = T ∧ tmp ts 3 = MO ∧ tmp ts 4 = MT ∧ tmp ts 12 = w12 ∧ tmp ts 14 = .int .i64 (i : Int) ∧
    ∃ R, Runs (loc 2) (tmp ts 13) τ.next R ∧ R.length ≤ i ∧ foldR b.length mo mt i R = foldR b.length mo mt 0 []) ?_ 0
    ⟨by omega, gl, g0, g1, g2, g3, g4, g12, by simpa using g14, [], .inl ⟨rfl, g13⟩, by simp, rfl⟩
  clear gl g0 g1 g2 g3 g4 g12 g13 g14 ts loc τ
  rintro i ts loc τ ⟨hi, gl, g0, g1, g2, g3, g4, g12, g14, R, hR, hRl, hf⟩ ih'
  have lB := hB.len
  simp only [ints_len] at lB
  simp (disch := first | omega | (simp only [List.length_set]; omega)) [F12l1, gl, g0, g14, lB]
  by_cases hib : i < b.length
  · simp (disch := first | omega | (simp only [List.length_set]; omega)) [hib, gl, g3, g4, g14]
    refine hcallI_pure (to_spec mo i hMO (by omega)) (by simp [hMO.same (prs_bare _)]) (fun m1 hm1 => ?_)
    simp (disch := first | omega | (simp only [List.length_set]; omega)) [gl, g3, g4, g14]
    refine hcallI_pure (to_spec mt i hMT (by omega)) (by simp [hMT.same (prs_bare _)]) (fun m2 hm2 => ?_)
    rw [toF_find (b := b) (o := o), toF_find (b := b) (o := o)]
    dsimp only at hm1 hm2
    have wi : IntKind.i64.wrap ((i : Int) + 1) = ((i + 1 : Nat) : Int) := by rw [wrap_id (by omega) (by omega)]; omega
    cases e1 : findM mo i with
    | none =>
      simp (disch := first | omega | (simp only [List.length_set]; omega)) [gl, g0, g1, g2, g3, g4, g12, g14]
      refine ih' (i + 1) _ _ _ (by omega) ⟨by omega, by simp [gl], by simp (disch := first | omega | (simp only [List.length_set]; omega)) [g0], by simp (disch := first | omega | (simp only [List.length_set]; omega)) [g1], by simp (disch := first | omega | (simp only [List.length_set]; omega)) [g2], by simp (disch := first | omega | (simp only [List.length_set]; omega)) [g3], by simp (disch := first | omega | (simp only [List.length_set]; omega)) [g4], by simp (disch := first | omega | (simp only [List.length_set]; omega)) [g12], by simp (disch := first | omega | (simp only [List.length_set]; omega)) [wi], R, ?_, by omega, by rw [← foldR_none hib (.inl e1)]; exact hf⟩
      simp (disch := first | omega | (simp only [List.length_set]; omega)) []
      exact hR.mono (by omega)
    | some v =>
      have f1 := Ho.find e1
      obtain ⟨j, rfl⟩ : ∃ j : Nat, v = j := ⟨v.toNat, by omega⟩
      have nj : ¬ (j : Int) < 0 := by omega
      cases e2 : findM mt i with
      | none =>
        simp (disch := first | omega | (simp only [List.length_set]; omega)) [gl, g0, g1, g2, g3, g4, g12, g14, nj]
        refine ih' (i + 1) _ _ _ (by omega) ⟨by omega, by simp [gl], by simp (disch := first | omega | (simp only [List.length_set]; omega)) [g0], by simp (disch := first | omega | (simp only [List.length_set]; omega)) [g1], by simp (disch := first | omega | (simp only [List.length_set]; omega)) [g2], by simp (disch := first | omega | (simp only [List.length_set]; omega)) [g3], by simp (disch := first | omega | (simp only [List.length_set]; omega)) [g4], by simp (disch := first | omega | (simp only [List.length_set]; omega)) [g12], by simp (disch := first | omega | (simp only [List.length_set]; omega)) [wi], R, ?_, by omega, by rw [← foldR_none hib (.inr e2)]; exact hf⟩
        simp (disch := first | omega | (simp only [List.length_set]; omega)) []
        exact hR.mono (by omega)
      | some w =>
        have f2 := Ht.find e2
        obtain ⟨k, rfl⟩ : ∃ k : Nat, w = k := ⟨w.toNat, by omega⟩
        have nk : ¬ (k : Int) < 0 := by omega
        have wj : IntKind.i64.wrap ((j : Int) + 1) = ((j + 1 : Nat) : Int) := by rw [wrap_id (by omega) (by omega)]; omega
        have wk : IntKind.i64.wrap ((k : Int) + 1) = ((k + 1 : Nat) : Int) := by rw [wrap_id (by omega) (by omega)]; omega
        rw [foldR_some hib e1 e2] at hf
        have lR := hR.len
        have go : ∀ (ts' : List AV) (loc' : Go.Proofs.YtbmkgpocnkiibaaW.Abs.Loc) (τ' : Heap), ts'.length = 269 → tmp ts' 0 = B → tmp ts' 1 = O → tmp ts' 2 = T → tmp ts' 3 = MO → tmp ts' 4 = MT → tmp ts' 12 = w12 → tmp ts' 14 = .int .i64 ((i + 1 : Nat) : Int) → Runs (loc' 2) (tmp ts' 13) τ'.next (stepR R i j k) → (stepR R i j k).length ≤ i + 1 → loop2I Try.prog W0 C hs F12l1 ts' loc' τ' := fun ts' loc' τ' a0 a1 a2 a3 a4 a5 a6 a7 a8 a9 =>
          ih' (i + 1) _ _ _ (by omega) ⟨by omega, a0, a1, a2, a3, a4, a5, a6, a7, _, a8, a9, hf⟩
        clear ih' hK hf
        rcases List.eq_nil_or_concat R with rfl | ⟨R0, c, rfl⟩
        · have hst : stepR [] i j k = [⟨1, i, i + 1, j, j + 1, k, k + 1⟩] := rfl
          rw [hst] at go
          have hok := hR.ok
          have wm : IntKind.i64.wrap (-1) = -1 := wrap_id (by omega) (by omega)
          have hnx := fun id m hm => hR.next (m := m) id ⟨1, i, i + 1, j, j + 1, k, k + 1⟩ (e := [.int .i64 1, .int .i64 (i : Int), .int .i64 ((i : Int) + 1), .int .i64 (j : Int), .int .i64 ((j : Int) + 1), .int .i64 (k : Int), .int .i64 ((k : Int) + 1)]) (by simp [Ck.enc]) hm
          simp (disch := first | omega | (simp only [List.length_set]; omega)) [gl, g0, g1, g2, g3, g4, g12, g14, nj, nk, lR, hok, wi, wj, wk, wm]
          refine go _ _ _ (by simp [gl]) (by simp (disch := first | omega | (simp only [List.length_set]; omega)) [g0]) (by simp (disch := first | omega | (simp only [List.length_set]; omega)) [g1]) (by simp (disch := first | omega | (simp only [List.length_set]; omega)) [g2]) (by simp (disch := first | omega | (simp only [List.length_set]; omega)) [g3]) (by simp (disch := first | omega | (simp only [List.length_set]; omega)) [g4]) (by simp (disch := first | omega | (simp only [List.length_set]; omega)) [g12]) (by simp (disch := first | omega | (simp only [List.length_set]; omega)) [wi]) ?_ (by simp)
          dsimp only
          simp (disch := first | omega | (simp only [List.length_set]; omega)) []
          simpa [setL] using hnx _ _ (by omega)
        · rw [List.concat_eq_append] at *
          have hok := hR.ok
          have hnx := fun id m hm => hR.next (m := m) id ⟨1, i, i + 1, j, j + 1, k, k + 1⟩ (e := [.int .i64 1, .int .i64 (i : Int), .int .i64 ((i : Int) + 1), .int .i64 (j : Int), .int .i64 ((j : Int) + 1), .int .i64 (k : Int), .int .i64 ((k : Int) + 1)]) (by simp [Ck.enc]) hm
          obtain ⟨id, _, g2c, g13, hid⟩ : ∃ id, R0 ++ [c] ≠ [] ∧ loc 2 = .box id 52 (encs (R0 ++ [c])) ∧ tmp ts 13 = .sl id 0 (R0 ++ [c]).length ∧ id < τ.next := by
            rcases hR with ⟨h, _⟩ | h
            · simp at h
            · exact h
          have hRl' : R0.length + 1 ≤ i := by simpa using hRl
          have w1 : IntKind.i64.wrap (R0.length : Int) = (R0.length : Int) := wrap_id (by omega) (by omega)
          have hel : (encs (R0 ++ [c])).length = R0.length + 1 := by simp
          have hrl : (R0 ++ [c]).length = R0.length + 1 := by simp
          rw [hrl] at g13 lR
          rw [g2c, g13] at hok
          have eT : elOf (.box id 52 (encs (R0 ++ [c]))) (.sl id 0 (R0.length + 1)) = some (encs (R0 ++ [c])) := elOf_all hel
          have hce : (encs (R0 ++ [c]))[R0.length]? = some [.int .i64 c.s, .int .i64 c.b0, .int .i64 c.b1, .int .i64 c.o0, .int .i64 c.o1, .int .i64 c.t0, .int .i64 c.t1] := encs_at (by simp)
          have hce' : ∀ h : R0.length < (encs (R0 ++ [c])).length, (encs (R0 ++ [c]))[R0.length]'h = [.int .i64 c.s, .int .i64 c.b0, .int .i64 c.b1, .int .i64 c.o0, .int .i64 c.o1, .int .i64 c.t0, .int .i64 c.t1] := fun h => by rw [List.getElem?_eq_getElem h] at hce; exact Option.some.inj hce
          generalize hes : encs (R0 ++ [c]) = es at g2c hel eT hce hce' hok
          simp (disch := first | omega | (simp only [List.length_set]; omega)) [gl, g0, g1, g2, g3, g4, g12, g14, nj, nk, lR, w1, g13, g2c, eT, hce, hce', hel]
          by_cases q1 : (c.b1 : Int) = (i : Int)
          · simp (disch := first | omega | (simp only [List.length_set]; omega)) [q1, gl, g0, g1, g2, g3, g4, g12, g14, nj, nk, lR, w1, g13, g2c, eT, hce, hce', hel]
            by_cases q2 : (c.o1 : Int) = (j : Int)
            · simp (disch := first | omega | (simp only [List.length_set]; omega)) [q2, gl, g0, g1, g2, g3, g4, g12, g14, nj, nk, lR, w1, g13, g2c, eT, hce, hce', hel]
              by_cases q3 : (c.t1 : Int) = (k : Int)
              · have d1 : id < m2 + 6 + 4 + 32 := by omega
                have wb : IntKind.i64.wrap ((c.b1 : Int) + 1) = (c.b1 : Int) + 1 := wrap_id (by omega) (by omega)
                have wo : IntKind.i64.wrap ((c.o1 : Int) + 1) = (c.o1 : Int) + 1 := wrap_id (by omega) (by omega)
                have wt : IntKind.i64.wrap ((c.t1 : Int) + 1) = (c.t1 : Int) + 1 := wrap_id (by omega) (by omega)
                obtain ⟨es1, hes1⟩ : ∃ es1, es1 = es.set R0.length [.int .i64 c.s, .int .i64 c.b0, .int .i64 ((c.b1 : Int) + 1), .int .i64 c.o0, .int .i64 c.o1, .int .i64 c.t0, .int .i64 c.t1] := ⟨_, rfl⟩
                have l1 : es1.length = R0.length + 1 := by rw [hes1]; simpa using hel
                have x1 : es1[R0.length]? = some [.int .i64 c.s, .int .i64 c.b0, .int .i64 ((c.b1 : Int) + 1), .int .i64 c.o0, .int .i64 c.o1, .int .i64 c.t0, .int .i64 c.t1] := by rw [hes1, List.getElem?_set, if_pos rfl, if_pos (by omega)]
                have x1' : ∀ h : R0.length < es1.length, es1[R0.length]'h = [.int .i64 c.s, .int .i64 c.b0, .int .i64 ((c.b1 : Int) + 1), .int .i64 c.o0, .int .i64 c.o1, .int .i64 c.t0, .int .i64 c.t1] := fun h => by rw [List.getElem?_eq_getElem h] at x1; exact Option.some.inj x1
                have hs1 : setAt es R0.length 2 [.int .i64 ((c.b1 : Int) + 1)] = es1 := by rw [setAt_one hce (by simp), hes1]; rfl
                have eT1 : elOf (.box id 52 es1) (.sl id 0 (R0.length + 1)) = some es1 := elOf_all l1
                obtain ⟨es2, hes2⟩ : ∃ es2, es2 = es1.set R0.length [.int .i64 c.s, .int .i64 c.b0, .int .i64 ((c.b1 : Int) + 1), .int .i64 c.o0, .int .i64 ((c.o1 : Int) + 1), .int .i64 c.t0, .int .i64 c.t1] := ⟨_, rfl⟩
                have l2 : es2.length = R0.length + 1 := by rw [hes2]; simpa using l1
                have x2 : es2[R0.length]? = some [.int .i64 c.s, .int .i64 c.b0, .int .i64 ((c.b1 : Int) + 1), .int .i64 c.o0, .int .i64 ((c.o1 : Int) + 1), .int .i64 c.t0, .int .i64 c.t1] := by rw [hes2, List.getElem?_set, if_pos rfl, if_pos (by omega)]
                have x2' : ∀ h : R0.length < es2.length, es2[R0.length]'h = [.int .i64 c.s, .int .i64 c.b0, .int .i64 ((c.b1 : Int) + 1), .int .i64 c.o0, .int .i64 ((c.o1 : Int) + 1), .int .i64 c.t0, .int .i64 c.t1] := fun h => by rw [List.getElem?_eq_getElem h] at x2; exact Option.some.inj x2
                have hs2 : setAt es1 R0.length 4 [.int .i64 ((c.o1 : Int) + 1)] = es2 := by rw [setAt_one x1 (by simp), hes2]; rfl
                have eT2 : elOf (.box id 52 es2) (.sl id 0 (R0.length + 1)) = some es2 := elOf_all l2
                obtain ⟨es3, hes3⟩ : ∃ es3, es3 = es2.set R0.length [.int .i64 c.s, .int .i64 c.b0, .int .i64 ((c.b1 : Int) + 1), .int .i64 c.o0, .int .i64 ((c.o1 : Int) + 1), .int .i64 c.t0, .int .i64 ((c.t1 : Int) + 1)] := ⟨_, rfl⟩
                have l3 : es3.length = R0.length + 1 := by rw [hes3]; simpa using l2
                have x3 : es3[R0.length]? = some [.int .i64 c.s, .int .i64 c.b0, .int .i64 ((c.b1 : Int) + 1), .int .i64 c.o0, .int .i64 ((c.o1 : Int) + 1), .int .i64 c.t0, .int .i64 ((c.t1 : Int) + 1)] := by rw [hes3, List.getElem?_set, if_pos rfl, if_pos (by omega)]
                have x3' : ∀ h : R0.length < es3.length, es3[R0.length]'h = [.int .i64 c.s, .int .i64 c.b0, .int .i64 ((c.b1 : Int) + 1), .int .i64 c.o0, .int .i64 ((c.o1 : Int) + 1), .int .i64 c.t0, .int .i64 ((c.t1 : Int) + 1)] := fun h => by rw [List.getElem?_eq_getElem h] at x3; exact Option.some.inj x3
                have hs3 : setAt es2 R0.length 6 [.int .i64 ((c.t1 : Int) + 1)] = es3 := by rw [setAt_one x2 (by simp), hes3]; rfl
                have eT3 : elOf (.box id 52 es3) (.sl id 0 (R0.length + 1)) = some es3 := elOf_all l3
                simp (disch := first | omega | (simp only [List.length_set]; omega)) [q3, d1, gl, g0, g1, g2, g3, g4, g12, g14, nj, nk, lR, w1, g13, g2c, eT, hce, hce', hel, wb, hs1]
                intro m3 hm3
                have d2 : id < m3 := by omega
                simp (disch := first | omega | (simp only [List.length_set]; omega)) [d2, gl, g0, g1, g2, g3, g4, g12, g14, nj, nk, lR, w1, g13, g2c, eT1, x1, x1', l1, wo, hs2]
                intro m4 hm4
                have d3 : id < m4 := by omega
                simp (disch := first | omega | (simp only [List.length_set]; omega)) [d3, gl, g0, g1, g2, g3, g4, g12, g14, nj, nk, lR, w1, g13, g2c, eT2, x2, x2', l2, wt, hs3]
                intro m5 hm5
                have e1 : c.b1 = i := by omega
                have e2 : c.o1 = j := by omega
                have e3 : c.t1 = k := by omega
                have hst := stepR_old R0 c
                rw [e1, e2, e3] at hst
                rw [hst] at go
                have hfin : es3 = encs (R0 ++ [⟨c.s, c.b0, i + 1, c.o0, j + 1, c.t0, k + 1⟩]) := by
                  rw [← encs_set R0 c, hes3, hes2, hes1, ← hes, List.set_set, List.set_set]
                  simp [Ck.enc, e1, e2, e3]
                refine go _ _ _ (by simp [gl]) (by simp (disch := first | omega | (simp only [List.length_set]; omega)) [g0]) (by simp (disch := first | omega | (simp only [List.length_set]; omega)) [g1]) (by simp (disch := first | omega | (simp only [List.length_set]; omega)) [g2]) (by simp (disch := first | omega | (simp only [List.length_set]; omega)) [g3]) (by simp (disch := first | omega | (simp only [List.length_set]; omega)) [g4]) (by simp (disch := first | omega | (simp only [List.length_set]; omega)) [g12]) (by simp (disch := first | omega | (simp only [List.length_set]; omega)) [wi]) (.inr ⟨id, by simp, ?_, ?_, by dsimp only; omega⟩) (by simp; omega)
                · rw [← hfin]; simp (disch := first | omega | (simp only [List.length_set]; omega)) []
                · simp (disch := first | omega | (simp only [List.length_set]; omega)) [g13]
              · simp (disch := first | omega | (simp only [List.length_set]; omega)) [q3]
                have hst : stepR (R0 ++ [c]) i j k = R0 ++ [c] ++ [⟨1, i, i + 1, j, j + 1, k, k + 1⟩] := stepR_new _ _ _ _ (fun c' e => by simp at e; subst e; omega)
                rw [hst] at go
                simp (disch := first | omega | (simp only [List.length_set]; omega)) [gl, g0, g1, g2, g3, g4, g12, g14, nj, nk, lR, w1, g13, g2c, eT, hce, hce', hel, hok, wi, wj, wk]
                refine andI_intro (by omega) ?_
                simp (disch := first | omega | (simp only [List.length_set]; omega)) [gl, g0, g1, g2, g3, g4, g12, g14, wi, wj, wk]
                refine go _ _ _ (by simp [gl]) (by simp (disch := first | omega | (simp only [List.length_set]; omega)) [g0]) (by simp (disch := first | omega | (simp only [List.length_set]; omega)) [g1]) (by simp (disch := first | omega | (simp only [List.length_set]; omega)) [g2]) (by simp (disch := first | omega | (simp only [List.length_set]; omega)) [g3]) (by simp (disch := first | omega | (simp only [List.length_set]; omega)) [g4]) (by simp (disch := first | omega | (simp only [List.length_set]; omega)) [g12]) (by simp (disch := first | omega | (simp only [List.length_set]; omega)) [wi]) ?_ (by simp; omega)
                dsimp only
                simp (disch := first | omega | (simp only [List.length_set]; omega)) []
                simpa [g13] using hnx (m2 + 6 + 4 + 32 + 15) (m2 + 6 + 4 + 32 + 17 + 3) (by omega)
            · simp (disch := first | omega | (simp only [List.length_set]; omega)) [q2]
              have hst : stepR (R0 ++ [c]) i j k = R0 ++ [c] ++ [⟨1, i, i + 1, j, j + 1, k, k + 1⟩] := stepR_new _ _ _ _ (fun c' e => by simp at e; subst e; omega)
              rw [hst] at go
              simp (disch := first | omega | (simp only [List.length_set]; omega)) [gl, g0, g1, g2, g3, g4, g12, g14, nj, nk, lR, w1, g13, g2c, eT, hce, hce', hel, hok, wi, wj, wk]
              refine andI_intro (by omega) ?_
              simp (disch := first | omega | (simp only [List.length_set]; omega)) [gl, g0, g1, g2, g3, g4, g12, g14, wi, wj, wk]
              refine go _ _ _ (by simp [gl]) (by simp (disch := first | omega | (simp only [List.length_set]; omega)) [g0]) (by simp (disch := first | omega | (simp only [List.length_set]; omega)) [g1]) (by simp (disch := first | omega | (simp only [List.length_set]; omega)) [g2]) (by simp (disch := first | omega | (simp only [List.length_set]; omega)) [g3]) (by simp (disch := first | omega | (simp only [List.length_set]; omega)) [g4]) (by simp (disch := first | omega | (simp only [List.length_set]; omega)) [g12]) (by simp (disch := first | omega | (simp only [List.length_set]; omega)) [wi]) ?_ (by simp; omega)
              dsimp only
              simp (disch := first | omega | (simp only [List.length_set]; omega)) []
              simpa [g13] using hnx (m2 + 6 + 4 + 32 + 15) (m2 + 6 + 4 + 32 + 17 + 3) (by omega)
          · simp (disch := first | omega | (simp only [List.length_set]; omega)) [q1]
            have hst : stepR (R0 ++ [c]) i j k = R0 ++ [c] ++ [⟨1, i, i + 1, j, j + 1, k, k + 1⟩] := stepR_new _ _ _ _ (fun c' e => by simp at e; subst e; omega)
            rw [hst] at go
            simp (disch := first | omega | (simp only [List.length_set]; omega)) [gl, g0, g1, g2, g3, g4, g12, g14, nj, nk, lR, w1, g13, g2c, eT, hce, hce', hel, hok, wi, wj, wk]
            refine andI_intro (by omega) ?_
            simp (disch := first | omega | (simp only [List.length_set]; omega)) [gl, g0, g1, g2, g3, g4, g12, g14, wi, wj, wk]
            refine go _ _ _ (by simp [gl]) (by simp (disch := first | omega | (simp only [List.length_set]; omega)) [g0]) (by simp (disch := first | omega | (simp only [List.length_set]; omega)) [g1]) (by simp (disch := first | omega | (simp only [List.length_set]; omega)) [g2]) (by simp (disch := first | omega | (simp only [List.length_set]; omega)) [g3]) (by simp (disch := first | omega | (simp only [List.length_set]; omega)) [g4]) (by simp (disch := first | omega | (simp only [List.length_set]; omega)) [g12]) (by simp (disch := first | omega | (simp only [List.length_set]; omega)) [wi]) ?_ (by simp; omega)
            dsimp only
            simp (disch := first | omega | (simp only [List.length_set]; omega)) []
            simpa [g13] using hnx (m2 + 6 + 4 + 32 + 15) (m2 + 6 + 4 + 32 + 17 + 3) (by omega)
  · simp (disch := first | omega | (simp only [List.length_set]; omega)) [hib, gl]
    have : i = b.length := by omega
    subst this
    rw [foldR_end (by omega)] at hf
    rw [← hf] at hK
    exact hK _ _ _ (by simp [gl]) (by simp (disch := first | omega | (simp only [List.length_set]; omega)) [g0]) (by simp (disch := first | omega | (simp only [List.length_set]; omega)) [g1]) (by simp (disch := first | omega | (simp only [List.length_set]; omega)) [g2]) (by simp (disch := first | omega | (simp only [List.length_set]; omega)) [g12]) (by simp (disch := first | omega | (simp only [List.length_set]; omega)) []; exact hR.mono (by omega)) hRl
end Go.Proofs.Ytbmkgpocnkiibaa.Lt

/- scarfref17.Of: what it tells of its runs. -/
namespace Go.Proofs.Ytbmkgpocnkiibaa.Lt
open Go.Proofs.YtbmkgpocnkiibaaW.Abs Go
set_option maxRecDepth 100000
set_option maxHeartbeats 4000000
set_option linter.unusedSimpArgs false
set_option linter.unusedVariables false
variable {W0 : World}

@[simp] def fsS : S2 → S2 | .seq a _ => a | .block _ a => a | x => x
@[simp] def snS : S2 → S2 | .seq _ b => b | x => x
def rofB : S2 := fsS (fsS (snS F12l0))
def rofD : S2 := fsS rofB
def rofE1 : S2 := fsS (snS rofB)
def rofE2 : S2 := fsS (snS (snS rofB))
def rofE3 : S2 := fsS (snS (snS (snS rofB)))
def rofT : S2 := snS (snS (snS (snS rofB)))
def rofN : S2 := fsS rofT
def rofR : S2 := fsS (snS rofT)
def rofZ : S2 := snS (snS rofT)
theorem rof_eq : F12l0 = .seq (fsS F12l0) (.seq (.block 3 (.seq rofD (.seq rofE1 (.seq rofE2 (.seq rofE3 (.seq rofN (.seq rofR rofZ))))))) (snS (snS F12l0))) := rfl

/-- what the loop keeps -/
structure RofS (ts : List AV) (loc : Go.Proofs.YtbmkgpocnkiibaaW.Abs.Loc) (n : Nat) (B O T : AV) (R acc : List Ck) (x y z i : Nat) : Prop where
  gl : ts.length = 269
  g0 : tmp ts 0 = B
  g1 : tmp ts 1 = O
  g2 : tmp ts 2 = T
  g18 : tmp ts 18 = .int .i64 (x : Int)
  g19 : tmp ts 19 = .int .i64 (y : Int)
  g20 : tmp ts 20 = .int .i64 (z : Int)
  g21 : tmp ts 21 = .int .i64 (i : Int)
  run : ∃ id, loc 2 = .box id 52 (encs R) ∧ tmp ts 13 = .sl id 0 R.length ∧ id < n
  ac : ∃ tok, tmp ts 12 = accV (encs acc) tok ∧ AccL (loc 1) 7 tok (encs acc)
def ckC (s : Int) (x b0 y o0 z t0 : Nat) : List AV := [.int .i64 s, .int .i64 (x : Int), .int .i64 (b0 : Int), .int .i64 (y : Int), .int .i64 (o0 : Int), .int .i64 (z : Int), .int .i64 (t0 : Int)]
def RofC (ts : List AV) (loc : Go.Proofs.YtbmkgpocnkiibaaW.Abs.Loc) (s : Int) (x b0 y o0 z t0 : Nat) : Prop := ∃ id, loc 0 = .box id 52 [ckC s x b0 y o0 z t0] ∧ tmp ts 22 = .bp id 0 0

section
variable {K : KC2} {hs : Hints} {B O T : AV} {R acc : List Ck} {x y z i b0 o0 t0 : Nat} {s : Int}

theorem rof_E1 {b t : List Int} (hB : IsRow B (ints b)) (hT : IsRow T (ints t)) (h1 : x ≤ b0) (h2 : b0 ≤ b.length) (h3 : z ≤ t0) (h4 : t0 ≤ t.length) (hlb : b.length ≤ 1000000) (hlt : t.length ≤ 1000000) {ts : List AV} {loc : Go.Proofs.YtbmkgpocnkiibaaW.Abs.Loc} {τ : Heap} (H : RofS ts loc τ.next B O T R acc x y z i) (Hc : RofC ts loc s x b0 y o0 z t0)
    (hK : ∀ ts loc (τ : Heap), RofS ts loc τ.next B O T R acc x y z i → RofC ts loc (if cut t z t0 = cut b x b0 then 2 else s) x b0 y o0 z t0 → K.k .normal ts loc τ) : @ev2I Try.prog W0 C hs K rofE1 ts loc τ := by
  obtain ⟨gl, g0, g1, g2, g18, g19, g20, g21, ⟨id, r1, r2, r3⟩, tok, a1, a2⟩ := H
  obtain ⟨ic, c1, c2⟩ := Hc
  unfold ckC at c1
  simp (disch := first | omega | (simp only [List.length_set]; omega)) [rofE1, rofB, F12l0, gl, g0, g1, g2, c1, c2]
  refine hcallI_pure (rsame_spec t b z t0 x b0 hT hB h3 h4 h1 h2 hlt hlb) (by simp [hT.same (ints_bare _), hB.same (ints_bare _)]) (fun m hm => ?_)
  by_cases e : cut t z t0 = cut b x b0
  · rw [if_pos e] at hK
    simp (disch := first | omega | (simp only [List.length_set]; omega)) [e, gl, g0, g1, g2, c1, c2]
    refine hK _ _ _ ⟨by simp [gl], by simp (disch := first | omega | (simp only [List.length_set]; omega)) [g0], by simp (disch := first | omega | (simp only [List.length_set]; omega)) [g1], by simp (disch := first | omega | (simp only [List.length_set]; omega)) [g2], by simp (disch := first | omega | (simp only [List.length_set]; omega)) [g18], by simp (disch := first | omega | (simp only [List.length_set]; omega)) [g19], by simp (disch := first | omega | (simp only [List.length_set]; omega)) [g20], by simp (disch := first | omega | (simp only [List.length_set]; omega)) [g21], ⟨id, by simp (disch := first | omega | (simp only [List.length_set]; omega)) [r1], by simp (disch := first | omega | (simp only [List.length_set]; omega)) [r2], by dsimp only at *; omega⟩, tok, by simp (disch := first | omega | (simp only [List.length_set]; omega)) [a1], by simp (disch := first | omega | (simp only [List.length_set]; omega)) []; exact a2⟩ ⟨ic, by simp (disch := first | omega | (simp only [List.length_set]; omega)) [ckC, setAt, List.modify], by simp (disch := first | omega | (simp only [List.length_set]; omega)) [c2]⟩
  · rw [if_neg e] at hK
    simp (disch := first | omega | (simp only [List.length_set]; omega)) [e, gl, g0, g1, g2, c1, c2]
    refine hK _ _ _ ⟨by simp [gl], by simp (disch := first | omega | (simp only [List.length_set]; omega)) [g0], by simp (disch := first | omega | (simp only [List.length_set]; omega)) [g1], by simp (disch := first | omega | (simp only [List.length_set]; omega)) [g2], by simp (disch := first | omega | (simp only [List.length_set]; omega)) [g18], by simp (disch := first | omega | (simp only [List.length_set]; omega)) [g19], by simp (disch := first | omega | (simp only [List.length_set]; omega)) [g20], by simp (disch := first | omega | (simp only [List.length_set]; omega)) [g21], ⟨id, r1, by simp (disch := first | omega | (simp only [List.length_set]; omega)) [r2], by dsimp only at *; omega⟩, tok, by simp (disch := first | omega | (simp only [List.length_set]; omega)) [a1], a2⟩ ⟨ic, by rw [c1]; rfl, by simp (disch := first | omega | (simp only [List.length_set]; omega)) [c2]⟩

theorem rof_E2 {b o : List Int} (hB : IsRow B (ints b)) (hO : IsRow O (ints o)) (h1 : x ≤ b0) (h2 : b0 ≤ b.length) (h3 : y ≤ o0) (h4 : o0 ≤ o.length) (hlb : b.length ≤ 1000000) (hlo : o.length ≤ 1000000) {ts : List AV} {loc : Go.Proofs.YtbmkgpocnkiibaaW.Abs.Loc} {τ : Heap} (H : RofS ts loc τ.next B O T R acc x y z i) (Hc : RofC ts loc s x b0 y o0 z t0)
    (hK : ∀ ts loc (τ : Heap), RofS ts loc τ.next B O T R acc x y z i → RofC ts loc (if cut o y o0 = cut b x b0 then 3 else s) x b0 y o0 z t0 → K.k .normal ts loc τ) : @ev2I Try.prog W0 C hs K rofE2 ts loc τ := by
  obtain ⟨gl, g0, g1, g2, g18, g19, g20, g21, ⟨id, r1, r2, r3⟩, tok, a1, a2⟩ := H
  obtain ⟨ic, c1, c2⟩ := Hc
  unfold ckC at c1
  simp (disch := first | omega | (simp only [List.length_set]; omega)) [rofE2, rofB, F12l0, gl, g0, g1, g2, c1, c2]
  refine hcallI_pure (rsame_spec o b y o0 x b0 hO hB h3 h4 h1 h2 hlo hlb) (by simp [hO.same (ints_bare _), hB.same (ints_bare _)]) (fun m hm => ?_)
  by_cases e : cut o y o0 = cut b x b0
  · rw [if_pos e] at hK
    simp (disch := first | omega | (simp only [List.length_set]; omega)) [e, gl, g0, g1, g2, c1, c2]
    refine hK _ _ _ ⟨by simp [gl], by simp (disch := first | omega | (simp only [List.length_set]; omega)) [g0], by simp (disch := first | omega | (simp only [List.length_set]; omega)) [g1], by simp (disch := first | omega | (simp only [List.length_set]; omega)) [g2], by simp (disch := first | omega | (simp only [List.length_set]; omega)) [g18], by simp (disch := first | omega | (simp only [List.length_set]; omega)) [g19], by simp (disch := first | omega | (simp only [List.length_set]; omega)) [g20], by simp (disch := first | omega | (simp only [List.length_set]; omega)) [g21], ⟨id, by simp (disch := first | omega | (simp only [List.length_set]; omega)) [r1], by simp (disch := first | omega | (simp only [List.length_set]; omega)) [r2], by dsimp only at *; omega⟩, tok, by simp (disch := first | omega | (simp only [List.length_set]; omega)) [a1], by simp (disch := first | omega | (simp only [List.length_set]; omega)) []; exact a2⟩ ⟨ic, by simp (disch := first | omega | (simp only [List.length_set]; omega)) [ckC, setAt, List.modify], by simp (disch := first | omega | (simp only [List.length_set]; omega)) [c2]⟩
  · rw [if_neg e] at hK
    simp (disch := first | omega | (simp only [List.length_set]; omega)) [e, gl, g0, g1, g2, c1, c2]
    refine hK _ _ _ ⟨by simp [gl], by simp (disch := first | omega | (simp only [List.length_set]; omega)) [g0], by simp (disch := first | omega | (simp only [List.length_set]; omega)) [g1], by simp (disch := first | omega | (simp only [List.length_set]; omega)) [g2], by simp (disch := first | omega | (simp only [List.length_set]; omega)) [g18], by simp (disch := first | omega | (simp only [List.length_set]; omega)) [g19], by simp (disch := first | omega | (simp only [List.length_set]; omega)) [g20], by simp (disch := first | omega | (simp only [List.length_set]; omega)) [g21], ⟨id, r1, by simp (disch := first | omega | (simp only [List.length_set]; omega)) [r2], by dsimp only at *; omega⟩, tok, by simp (disch := first | omega | (simp only [List.length_set]; omega)) [a1], a2⟩ ⟨ic, by rw [c1]; rfl, by simp (disch := first | omega | (simp only [List.length_set]; omega)) [c2]⟩

theorem rof_E3 {o t : List Int} (hO : IsRow O (ints o)) (hT : IsRow T (ints t)) (h1 : y ≤ o0) (h2 : o0 ≤ o.length) (h3 : z ≤ t0) (h4 : t0 ≤ t.length) (hlo : o.length ≤ 1000000) (hlt : t.length ≤ 1000000) {ts : List AV} {loc : Go.Proofs.YtbmkgpocnkiibaaW.Abs.Loc} {τ : Heap} (H : RofS ts loc τ.next B O T R acc x y z i) (Hc : RofC ts loc s x b0 y o0 z t0)
    (hK : ∀ ts loc (τ : Heap), RofS ts loc τ.next B O T R acc x y z i → RofC ts loc (if cut o y o0 = cut t z t0 then 4 else s) x b0 y o0 z t0 → K.k .normal ts loc τ) : @ev2I Try.prog W0 C hs K rofE3 ts loc τ := by
  obtain ⟨gl, g0, g1, g2, g18, g19, g20, g21, ⟨id, r1, r2, r3⟩, tok, a1, a2⟩ := H
  obtain ⟨ic, c1, c2⟩ := Hc
  unfold ckC at c1
  simp (disch := first | omega | (simp only [List.length_set]; omega)) [rofE3, rofB, F12l0, gl, g0, g1, g2, c1, c2]
  refine hcallI_pure (rsame_spec o t y o0 z t0 hO hT h1 h2 h3 h4 hlo hlt) (by simp [hT.same (ints_bare _), hO.same (ints_bare _)]) (fun m hm => ?_)
  by_cases e : cut o y o0 = cut t z t0
  · rw [if_pos e] at hK
    simp (disch := first | omega | (simp only [List.length_set]; omega)) [e, gl, g0, g1, g2, c1, c2]
    refine hK _ _ _ ⟨by simp [gl], by simp (disch := first | omega | (simp only [List.length_set]; omega)) [g0], by simp (disch := first | omega | (simp only [List.length_set]; omega)) [g1], by simp (disch := first | omega | (simp only [List.length_set]; omega)) [g2], by simp (disch := first | omega | (simp only [List.length_set]; omega)) [g18], by simp (disch := first | omega | (simp only [List.length_set]; omega)) [g19], by simp (disch := first | omega | (simp only [List.length_set]; omega)) [g20], by simp (disch := first | omega | (simp only [List.length_set]; omega)) [g21], ⟨id, by simp (disch := first | omega | (simp only [List.length_set]; omega)) [r1], by simp (disch := first | omega | (simp only [List.length_set]; omega)) [r2], by dsimp only at *; omega⟩, tok, by simp (disch := first | omega | (simp only [List.length_set]; omega)) [a1], by simp (disch := first | omega | (simp only [List.length_set]; omega)) []; exact a2⟩ ⟨ic, by simp (disch := first | omega | (simp only [List.length_set]; omega)) [ckC, setAt, List.modify], by simp (disch := first | omega | (simp only [List.length_set]; omega)) [c2]⟩
  · rw [if_neg e] at hK
    simp (disch := first | omega | (simp only [List.length_set]; omega)) [e, gl, g0, g1, g2, c1, c2]
    refine hK _ _ _ ⟨by simp [gl], by simp (disch := first | omega | (simp only [List.length_set]; omega)) [g0], by simp (disch := first | omega | (simp only [List.length_set]; omega)) [g1], by simp (disch := first | omega | (simp only [List.length_set]; omega)) [g2], by simp (disch := first | omega | (simp only [List.length_set]; omega)) [g18], by simp (disch := first | omega | (simp only [List.length_set]; omega)) [g19], by simp (disch := first | omega | (simp only [List.length_set]; omega)) [g20], by simp (disch := first | omega | (simp only [List.length_set]; omega)) [g21], ⟨id, r1, by simp (disch := first | omega | (simp only [List.length_set]; omega)) [r2], by dsimp only at *; omega⟩, tok, by simp (disch := first | omega | (simp only [List.length_set]; omega)) [a1], a2⟩ ⟨ic, by rw [c1]; rfl, by simp (disch := first | omega | (simp only [List.length_set]; omega)) [c2]⟩

theorem rof_N {ts : List AV} {loc : Go.Proofs.YtbmkgpocnkiibaaW.Abs.Loc} {τ : Heap} (hal : acc.length ≤ 1000000) (H : RofS ts loc τ.next B O T R acc x y z i) (Hc : RofC ts loc s x b0 y o0 z t0)
    (hK : ∀ ts loc (τ : Heap), RofS ts loc τ.next B O T R (acc ++ if x < b0 ∨ y < o0 ∨ z < t0 then [⟨s, x, b0, y, o0, z, t0⟩] else []) x y z i → K.k .normal ts loc τ) : @ev2I Try.prog W0 C hs K rofN ts loc τ := by
  obtain ⟨gl, g0, g1, g2, g18, g19, g20, g21, ⟨id, r1, r2, r3⟩, tok, a1, a2⟩ := H
  obtain ⟨ic, c1, c2⟩ := Hc
  unfold ckC at c1
  have hel : (encs acc).length = acc.length := encs_len _
  simp (disch := first | omega | (simp only [List.length_set]; omega)) [rofN, rofT, rofB, F12l0, gl, c1, c2]
  by_cases p1 : x < b0
  · rw [if_pos (.inl p1)] at hK
    simp (disch := first | omega | (simp only [List.length_set]; omega)) [p1, gl, c1, c2, a1, a2.grow]
    refine andI_intro (by omega) ?_
    simp (disch := first | omega | (simp only [List.length_set]; omega)) [gl, c1, c2, a1]
    refine hK _ _ _ ⟨by simp [gl], by simp (disch := first | omega | (simp only [List.length_set]; omega)) [g0], by simp (disch := first | omega | (simp only [List.length_set]; omega)) [g1], by simp (disch := first | omega | (simp only [List.length_set]; omega)) [g2], by simp (disch := first | omega | (simp only [List.length_set]; omega)) [g18], by simp (disch := first | omega | (simp only [List.length_set]; omega)) [g19], by simp (disch := first | omega | (simp only [List.length_set]; omega)) [g20], by simp (disch := first | omega | (simp only [List.length_set]; omega)) [g21], ⟨id, by simp (disch := first | omega | (simp only [List.length_set]; omega)) [r1], by simp (disch := first | omega | (simp only [List.length_set]; omega)) [r2], by dsimp only at *; omega⟩, _, by simp (disch := first | omega | (simp only [List.length_set]; omega)) [encs_app]; rfl, ?_⟩
    rw [encs_app]; simp (disch := first | omega | (simp only [List.length_set]; omega)) []; exact AccL.next' _ _ _ rfl
  · by_cases p2 : y < o0
    · rw [if_pos (.inr (.inl p2))] at hK
      simp (disch := first | omega | (simp only [List.length_set]; omega)) [p1, p2, gl, c1, c2, a1, a2.grow]
      refine andI_intro (by omega) ?_
      simp (disch := first | omega | (simp only [List.length_set]; omega)) [gl, c1, c2, a1]
      refine hK _ _ _ ⟨by simp [gl], by simp (disch := first | omega | (simp only [List.length_set]; omega)) [g0], by simp (disch := first | omega | (simp only [List.length_set]; omega)) [g1], by simp (disch := first | omega | (simp only [List.length_set]; omega)) [g2], by simp (disch := first | omega | (simp only [List.length_set]; omega)) [g18], by simp (disch := first | omega | (simp only [List.length_set]; omega)) [g19], by simp (disch := first | omega | (simp only [List.length_set]; omega)) [g20], by simp (disch := first | omega | (simp only [List.length_set]; omega)) [g21], ⟨id, by simp (disch := first | omega | (simp only [List.length_set]; omega)) [r1], by simp (disch := first | omega | (simp only [List.length_set]; omega)) [r2], by dsimp only at *; omega⟩, _, by simp (disch := first | omega | (simp only [List.length_set]; omega)) [encs_app]; rfl, ?_⟩
      rw [encs_app]; simp (disch := first | omega | (simp only [List.length_set]; omega)) []; exact AccL.next' _ _ _ rfl
    · by_cases p3 : z < t0
      · rw [if_pos (.inr (.inr p3))] at hK
        simp (disch := first | omega | (simp only [List.length_set]; omega)) [p1, p2, p3, gl, c1, c2, a1, a2.grow]
        refine andI_intro (by omega) ?_
        simp (disch := first | omega | (simp only [List.length_set]; omega)) [gl, c1, c2, a1]
        refine hK _ _ _ ⟨by simp [gl], by simp (disch := first | omega | (simp only [List.length_set]; omega)) [g0], by simp (disch := first | omega | (simp only [List.length_set]; omega)) [g1], by simp (disch := first | omega | (simp only [List.length_set]; omega)) [g2], by simp (disch := first | omega | (simp only [List.length_set]; omega)) [g18], by simp (disch := first | omega | (simp only [List.length_set]; omega)) [g19], by simp (disch := first | omega | (simp only [List.length_set]; omega)) [g20], by simp (disch := first | omega | (simp only [List.length_set]; omega)) [g21], ⟨id, by simp (disch := first | omega | (simp only [List.length_set]; omega)) [r1], by simp (disch := first | omega | (simp only [List.length_set]; omega)) [r2], by dsimp only at *; omega⟩, _, by simp (disch := first | omega | (simp only [List.length_set]; omega)) [encs_app]; rfl, ?_⟩
        rw [encs_app]; simp (disch := first | omega | (simp only [List.length_set]; omega)) []; exact AccL.next' _ _ _ rfl
      · rw [if_neg (by omega), List.append_nil] at hK
        simp (disch := first | omega | (simp only [List.length_set]; omega)) [p1, p2, p3, gl, c1, c2]
        exact hK _ _ _ ⟨by simp [gl], by simp (disch := first | omega | (simp only [List.length_set]; omega)) [g0], by simp (disch := first | omega | (simp only [List.length_set]; omega)) [g1], by simp (disch := first | omega | (simp only [List.length_set]; omega)) [g2], by simp (disch := first | omega | (simp only [List.length_set]; omega)) [g18], by simp (disch := first | omega | (simp only [List.length_set]; omega)) [g19], by simp (disch := first | omega | (simp only [List.length_set]; omega)) [g20], by simp (disch := first | omega | (simp only [List.length_set]; omega)) [g21], ⟨id, r1, by simp (disch := first | omega | (simp only [List.length_set]; omega)) [r2], by dsimp only at *; omega⟩, tok, by simp (disch := first | omega | (simp only [List.length_set]; omega)) [a1], a2⟩

theorem rof_R {c : Ck} (hc : R[i]? = some c) {ts : List AV} {loc : Go.Proofs.YtbmkgpocnkiibaaW.Abs.Loc} {τ : Heap} (hal : acc.length ≤ 1000000) (H : RofS ts loc τ.next B O T R acc x y z i)
    (hK : ∀ ts loc (τ : Heap), RofS ts loc τ.next B O T R (acc ++ if c.s = 1 then [c] else []) x y z i → K.k .normal ts loc τ) : @ev2I Try.prog W0 C hs K rofR ts loc τ := by
  obtain ⟨gl, g0, g1, g2, g18, g19, g20, g21, ⟨id, r1, r2, r3⟩, tok, a1, a2⟩ := H
  have hel : (encs acc).length = acc.length := encs_len _
  have hrl : (encs R).length = R.length := encs_len _
  have hi := (List.getElem?_eq_some_iff.1 hc).1
  have eT : elOf (.box id 52 (encs R)) (.sl id 0 R.length) = some (encs R) := elOf_all hrl
  have hce : (encs R)[i]? = some [.int .i64 c.s, .int .i64 c.b0, .int .i64 c.b1, .int .i64 c.o0, .int .i64 c.o1, .int .i64 c.t0, .int .i64 c.t1] := encs_at hc
  have hce' : ∀ h : i < (encs R).length, (encs R)[i]'h = [.int .i64 c.s, .int .i64 c.b0, .int .i64 c.b1, .int .i64 c.o0, .int .i64 c.o1, .int .i64 c.t0, .int .i64 c.t1] := fun h => by rw [List.getElem?_eq_getElem h] at hce; exact Option.some.inj hce
  simp (disch := first | omega | (simp only [List.length_set]; omega)) [rofR, rofT, rofB, F12l0, gl, r1, r2, g21, eT, hce, hce', hrl]
  by_cases e : c.s = 1
  · rw [if_pos e] at hK
    have hec : encs [c] = [[.int .i64 1, .int .i64 c.b0, .int .i64 c.b1, .int .i64 c.o0, .int .i64 c.o1, .int .i64 c.t0, .int .i64 c.t1]] := by simp [encs, Ck.enc, e]
    simp (disch := first | omega | (simp only [List.length_set]; omega)) [e, gl, r1, r2, g21, eT, hce, hce', hrl, a1, a2.grow]
    refine andI_intro (by omega) ?_
    simp (disch := first | omega | (simp only [List.length_set]; omega)) [gl, a1]
    refine hK _ _ _ ⟨by simp [gl], by simp (disch := first | omega | (simp only [List.length_set]; omega)) [g0], by simp (disch := first | omega | (simp only [List.length_set]; omega)) [g1], by simp (disch := first | omega | (simp only [List.length_set]; omega)) [g2], by simp (disch := first | omega | (simp only [List.length_set]; omega)) [g18], by simp (disch := first | omega | (simp only [List.length_set]; omega)) [g19], by simp (disch := first | omega | (simp only [List.length_set]; omega)) [g20], by simp (disch := first | omega | (simp only [List.length_set]; omega)) [g21], ⟨id, by simp (disch := first | omega | (simp only [List.length_set]; omega)) [r1], by simp (disch := first | omega | (simp only [List.length_set]; omega)) [r2], by dsimp only at *; omega⟩, _, by simp (disch := first | omega | (simp only [List.length_set]; omega)) [encs_app, hec]; rfl, ?_⟩
    rw [encs_app, hec]; simp (disch := first | omega | (simp only [List.length_set]; omega)) []; exact AccL.next' _ _ _ rfl
  · rw [if_neg e, List.append_nil] at hK
    simp (disch := first | omega | (simp only [List.length_set]; omega)) [e, gl]
    exact hK _ _ _ ⟨by simp [gl], by simp (disch := first | omega | (simp only [List.length_set]; omega)) [g0], by simp (disch := first | omega | (simp only [List.length_set]; omega)) [g1], by simp (disch := first | omega | (simp only [List.length_set]; omega)) [g2], by simp (disch := first | omega | (simp only [List.length_set]; omega)) [g18], by simp (disch := first | omega | (simp only [List.length_set]; omega)) [g19], by simp (disch := first | omega | (simp only [List.length_set]; omega)) [g20], by simp (disch := first | omega | (simp only [List.length_set]; omega)) [g21], ⟨id, r1, by simp (disch := first | omega | (simp only [List.length_set]; omega)) [r2], by dsimp only at *; omega⟩, tok, by simp (disch := first | omega | (simp only [List.length_set]; omega)) [a1], a2⟩

theorem rof_Z {c : Ck} (hc : R[i]? = some c) {ts : List AV} {loc : Go.Proofs.YtbmkgpocnkiibaaW.Abs.Loc} {τ : Heap} (H : RofS ts loc τ.next B O T R acc x y z i)
    (hK : ∀ ts loc (τ : Heap), RofS ts loc τ.next B O T R acc c.b1 c.o1 c.t1 i → K.k .normal ts loc τ) : @ev2I Try.prog W0 C hs K rofZ ts loc τ := by
  obtain ⟨gl, g0, g1, g2, g18, g19, g20, g21, ⟨id, r1, r2, r3⟩, tok, a1, a2⟩ := H
  have hrl : (encs R).length = R.length := encs_len _
  have hi := (List.getElem?_eq_some_iff.1 hc).1
  have eT : elOf (.box id 52 (encs R)) (.sl id 0 R.length) = some (encs R) := elOf_all hrl
  have hce : (encs R)[i]? = some [.int .i64 c.s, .int .i64 c.b0, .int .i64 c.b1, .int .i64 c.o0, .int .i64 c.o1, .int .i64 c.t0, .int .i64 c.t1] := encs_at hc
  have hce' : ∀ h : i < (encs R).length, (encs R)[i]'h = [.int .i64 c.s, .int .i64 c.b0, .int .i64 c.b1, .int .i64 c.o0, .int .i64 c.o1, .int .i64 c.t0, .int .i64 c.t1] := fun h => by rw [List.getElem?_eq_getElem h] at hce; exact Option.some.inj hce
  simp (disch := first | omega | (simp only [List.length_set]; omega)) [rofZ, rofT, rofB, F12l0, gl, r1, r2, g21, eT, hce, hce', hrl, r3]
  intro m hm
  exact hK _ _ _ ⟨by simp [gl], by simp (disch := first | omega | (simp only [List.length_set]; omega)) [g0], by simp (disch := first | omega | (simp only [List.length_set]; omega)) [g1], by simp (disch := first | omega | (simp only [List.length_set]; omega)) [g2], by simp (disch := first | omega | (simp only [List.length_set]; omega)) [], by simp (disch := first | omega | (simp only [List.length_set]; omega)) [], by simp (disch := first | omega | (simp only [List.length_set]; omega)) [], by simp (disch := first | omega | (simp only [List.length_set]; omega)) [g21], ⟨id, r1, by simp (disch := first | omega | (simp only [List.length_set]; omega)) [r2], by dsimp only at *; omega⟩, tok, by simp (disch := first | omega | (simp only [List.length_set]; omega)) [a1], a2⟩

/-- runs that lie one behind the other, within the rows -/
def RunsIn (b o t : List Int) : Nat → Nat → Nat → List Ck → Prop
  | _, _, _, [] => True
  | x, y, z, c :: r => x ≤ c.b0 ∧ c.b0 ≤ b.length ∧ y ≤ c.o0 ∧ c.o0 ≤ o.length ∧ z ≤ c.t0 ∧ c.t0 ≤ t.length ∧ RunsIn b o t c.b1 c.o1 c.t1 r

theorem ite_len (p : Prop) [Decidable p] (a : Ck) : (if p then [a] else []).length ≤ 1 := by split <;> simp
theorem sort_eq (b o t : List Int) : (if o = t then (4 : Int) else if o = b then 3 else if t = b then 2 else 5) = sortOf b o t := by
  unfold sortOf
  simp only [eq_comm]
theorem rof_l0 {b o t : List Int} (hB : IsRow B (ints b)) (hO : IsRow O (ints o)) (hT : IsRow T (ints t)) (hlb : b.length ≤ 1000000) (hlo : o.length ≤ 1000000) (hlt : t.length ≤ 1000000) (hRl : R.length ≤ 400000) (hin : RunsIn b o t 0 0 0 R)
    (hK : ∀ ts loc (τ : Heap) tok, ts.length = 269 → tmp ts 12 = accV (encs (outR b o t R 0 0 0)) tok → K.k (.exit 2) ts loc τ)
    (ts : List AV) (loc : Go.Proofs.YtbmkgpocnkiibaaW.Abs.Loc) (τ : Heap) (H0 : RofS ts loc τ.next B O T R [] 0 0 0 0) : loop2I Try.prog W0 C hs F12l0 ts loc τ := by
  refine loop2I_ind cok F12l0w (m := fun i => R.length - i) (I := fun i ts loc τ => i ≤ R.length ∧ ∃ x y z acc, RofS ts loc τ.next B O T R acc x y z i ∧ RunsIn b o t x y z (R.drop i) ∧ acc.length ≤ 2 * i ∧ acc ++ outR b o t (R.drop i) x y z = outR b o t R 0 0 0) ?_ 0 ⟨by omega, 0, 0, 0, [], H0, hin, by simp, rfl⟩
  clear H0 hin ts loc τ
  rintro i ts loc τ ⟨hi, x, y, z, acc, H, hin, hal, hf⟩ ih'
  obtain ⟨gl, g0, g1, g2, g18, g19, g20, g21, ⟨id, r1, r2, r3⟩, tok, a1, a2⟩ := id H
  have hrl : (encs R).length = R.length := encs_len _
  by_cases hir : i < R.length
  · obtain ⟨c, hc⟩ : ∃ c, R[i]? = some c := ⟨R[i], by simp [hir]⟩
    rw [drop_at hc, outR] at hf
    rw [drop_at hc] at hin
    obtain ⟨i1, i2, i3, i4, i5, i6, i7⟩ := hin
    have eT : elOf (.box id 52 (encs R)) (.sl id 0 R.length) = some (encs R) := elOf_all hrl
    have hce : (encs R)[i]? = some [.int .i64 c.s, .int .i64 c.b0, .int .i64 c.b1, .int .i64 c.o0, .int .i64 c.o1, .int .i64 c.t0, .int .i64 c.t1] := encs_at hc
    have hce' : ∀ h : i < (encs R).length, (encs R)[i]'h = [.int .i64 c.s, .int .i64 c.b0, .int .i64 c.b1, .int .i64 c.o0, .int .i64 c.o1, .int .i64 c.t0, .int .i64 c.t1] := fun h => by rw [List.getElem?_eq_getElem h] at hce; exact Option.some.inj hce
    rw [rof_eq]
    have d1 : id < τ.next + 4 := by omega
    simp (disch := first | omega | (simp only [List.length_set]; omega)) [F12l0, rofD, rofB, gl, r1, r2, g18, g19, g20, g21, eT, hce, hce', hrl, hir, d1]
    intro m hm
    have d2 : id < m := by omega
    refine rof_E1 (O := O) (R := R) (acc := acc) (y := y) (o0 := c.o0) (i := i) (s := 5) hB hT i1 i2 i5 i6 hlb hlt ⟨by simp [gl], by simp (disch := first | omega | (simp only [List.length_set]; omega)) [g0], by simp (disch := first | omega | (simp only [List.length_set]; omega)) [g1], by simp (disch := first | omega | (simp only [List.length_set]; omega)) [g2], by simp (disch := first | omega | (simp only [List.length_set]; omega)) [g18], by simp (disch := first | omega | (simp only [List.length_set]; omega)) [g19], by simp (disch := first | omega | (simp only [List.length_set]; omega)) [g20], by simp (disch := first | omega | (simp only [List.length_set]; omega)) [g21], ⟨id, by simp (disch := first | omega | (simp only [List.length_set]; omega)) [r1], by simp (disch := first | omega | (simp only [List.length_set]; omega)) [r2], d2⟩, tok, by simp (disch := first | omega | (simp only [List.length_set]; omega)) [a1], by simp (disch := first | omega | (simp only [List.length_set]; omega)) []; exact a2⟩ ⟨τ.next + 4 + 25, by simp (disch := first | omega | (simp only [List.length_set]; omega)) [ckC, setAt, List.modify], by simp (disch := first | omega | (simp only [List.length_set]; omega)) []⟩ (fun ts1 loc1 τ1 H1 Hc1 => ?_)
    simp (disch := first | omega | (simp only [List.length_set]; omega)) []
    refine rof_E2 hB hO i1 i2 i3 i4 hlb hlo H1 Hc1 (fun ts2 loc2 τ2 H2 Hc2 => ?_)
    simp (disch := first | omega | (simp only [List.length_set]; omega)) []
    refine rof_E3 hO hT i3 i4 i5 i6 hlo hlt H2 Hc2 (fun ts3 loc3 τ3 H3 Hc3 => ?_)
    simp (disch := first | omega | (simp only [List.length_set]; omega)) []
    refine rof_N (by omega) H3 Hc3 (fun ts4 loc4 τ4 H4 => ?_)
    simp (disch := first | omega | (simp only [List.length_set]; omega)) []
    refine rof_R hc (by split <;> simp <;> omega) H4 (fun ts5 loc5 τ5 H5 => ?_)
    simp (disch := first | omega | (simp only [List.length_set]; omega)) []
    refine rof_Z hc H5 (fun ts6 loc6 τ6 H6 => ?_)
    obtain ⟨u, u0, u1, u2, u18, u19, u20, u21, ⟨id6, v1, v2, v3⟩, tok6, v4, v5⟩ := H6
    have wi : IntKind.i64.wrap ((i : Int) + 1) = ((i + 1 : Nat) : Int) := by rw [wrap_id (by omega) (by omega)]; omega
    simp (disch := first | omega | (simp only [List.length_set]; omega)) [u, u21]
    refine ih' (i + 1) _ _ _ (by omega) ⟨by omega, c.b1, c.o1, c.t1, _, ⟨by simp [u], by simp (disch := first | omega | (simp only [List.length_set]; omega)) [u0], by simp (disch := first | omega | (simp only [List.length_set]; omega)) [u1], by simp (disch := first | omega | (simp only [List.length_set]; omega)) [u2], by simp (disch := first | omega | (simp only [List.length_set]; omega)) [u18], by simp (disch := first | omega | (simp only [List.length_set]; omega)) [u19], by simp (disch := first | omega | (simp only [List.length_set]; omega)) [u20], by simp (disch := first | omega | (simp only [List.length_set]; omega)) [wi], ⟨id6, v1, by simp (disch := first | omega | (simp only [List.length_set]; omega)) [v2], by dsimp only; omega⟩, tok6, by simp (disch := first | omega | (simp only [List.length_set]; omega)) [v4], v5⟩, i7, ?_, ?_⟩
    · simp only [List.length_append]
      have q1 := ite_len (x < c.b0 ∨ y < c.o0 ∨ z < c.t0) ⟨if cut o y c.o0 = cut t z c.t0 then 4 else if cut o y c.o0 = cut b x c.b0 then 3 else if cut t z c.t0 = cut b x c.b0 then 2 else 5, x, c.b0, y, c.o0, z, c.t0⟩
      have q2 := ite_len (c.s = 1) c
      omega
    · rw [← hf, sort_eq]
      simp only [List.append_assoc]
  · simp (disch := first | omega | (simp only [List.length_set]; omega)) [F12l0, gl, r2, g21, hir]
    rw [List.drop_of_length_le (by omega), outR, List.append_nil] at hf
    rw [hf] at a1
    exact hK _ _ _ tok (by simp [gl]) (by simp (disch := first | omega | (simp only [List.length_set]; omega)) [a1])
end
end Go.Proofs.Ytbmkgpocnkiibaa.Lt

/- scarfref17.Of: its contract. -/
namespace Go.Proofs.Ytbmkgpocnkiibaa.Lt
open Go.Proofs.YtbmkgpocnkiibaaW.Abs Go
set_option maxRecDepth 100000
set_option maxHeartbeats 4000000
set_option linter.unusedSimpArgs false
set_option linter.unusedVariables false
variable {W0 : World}

theorem in_runs {b o t : List Int} {mo mt : List (Int × Int)} (Ho : Good b o mo) (Ht : Good b t mt) : ∀ (i x y z : Nat), x ≤ i → i ≤ b.length → y ≤ o.length → z ≤ t.length → Ahead mo mt i y z →
    RunsIn b o t x y z (runsM b.length mo mt i ++ [⟨0, b.length, b.length, o.length, o.length, t.length, t.length⟩]) := by
  intro i x y z hx hi hy hz ha
  by_cases hlt : i < b.length
  · cases e1 : findM mo i with
    | none =>
      rw [runsM_none hlt (.inl e1)]
      exact in_runs Ho Ht (i + 1) x y z (by omega) (by omega) hy hz (fun i' h => ha i' (by omega))
    | some v =>
      cases e2 : findM mt i with
      | none =>
        rw [runsM_none hlt (.inr e2)]
        exact in_runs Ho Ht (i + 1) x y z (by omega) (by omega) hy hz (fun i' h => ha i' (by omega))
      | some w =>
        have f1 := Ho.find e1
        have f2 := Ht.find e2
        obtain ⟨j, rfl⟩ : ∃ j : Nat, v = j := ⟨v.toNat, by omega⟩
        obtain ⟨k, rfl⟩ : ∃ k : Nat, w = k := ⟨w.toNat, by omega⟩
        rw [runsM_some hlt e1 e2]
        obtain ⟨n1, n2, n3, n4, _⟩ := run_facts Ho Ht e1 e2
        have nall := runLen_all b.length mo mt i j k 1
        have nend : ∀ m, m < runLen b.length mo mt i j k 1 → findM mo (i + m : Nat) = some ((j + m : Nat) : Int) ∧ findM mt (i + m : Nat) = some ((k + m : Nat) : Int) := fun m hm => by
          by_cases h0 : m = 0
          · subst h0; exact ⟨by simpa using e1, by simpa using e2⟩
          · exact nall m (by omega) hm
        generalize runLen b.length mo mt i j k 1 = n at *
        have hay := (ha i (Nat.le_refl _)).1 _ e1
        have haz := (ha i (Nat.le_refl _)).2 _ e2
        have ih := in_runs Ho Ht (i + n) (i + n) (j + n) (k + n) (by omega) n2 n3 n4 (fun i' h => by
          have m1 := nend (n - 1) (by omega)
          refine ⟨fun v hv => ?_, fun v hv => ?_⟩
          · have := Ho.mono m1.1 hv (by omega); omega
          · have := Ht.mono m1.2 hv (by omega); omega)
        exact ⟨hx, by dsimp only; omega, by dsimp only; omega, by dsimp only; omega, by dsimp only; omega, by dsimp only; omega, ih⟩
  · rw [runsM_end hlt]
    exact ⟨by dsimp only; omega, Nat.le_refl _, hy, Nat.le_refl _, hz, Nat.le_refl _, trivial⟩
termination_by i => b.length - i
decreasing_by all_goals omega

theorem refOf_spec {b o t : List Int} {B O T : AV} (hB : IsRow B (ints b)) (hO : IsRow O (ints o)) (hT : IsRow T (ints t)) (hlb : b.length ≤ 100000) (hlo : o.length ≤ 100000) (hlt : t.length ≤ 100000) {mo mt : List (Int × Int)} {MO MT : AV} (hMO : IsRow MO (prs mo)) (hMT : IsRow MT (prs mt)) (hlm : mo.length ≤ 1000000) (hln : mt.length ≤ 1000000) :
    PCall Try.prog W0 12 [B, O, T, MO, MT] (ofR b o t mo mt) := by
  refine pcall2 cok Try.func12 F12d F12e F12c F12w F12r (fun N => ?_)
  refine ev2I_intro ?_
  simp (disch := first | omega | (simp only [List.length_set]; omega)) [F12s]
  refine hcallI_pure (refRight_spec b o mo hB hO hMO (by omega)) (by simp [hB.same (ints_bare _), hO.same (ints_bare _), hMO.same (prs_bare _)]) (fun m1 hm1 => ?_)
  rw [← rightM_none]
  by_cases r1 : rightM b o (-1, -1) mo = true
  · simp (disch := first | omega | (simp only [List.length_set]; omega)) [r1]
    refine hcallI_pure (refRight_spec b t mt hB hT hMT (by omega)) (by simp [hB.same (ints_bare _), hT.same (ints_bare _), hMT.same (prs_bare _)]) (fun m2 hm2 => ?_)
    rw [← rightM_none]
    by_cases r2 : rightM b t (-1, -1) mt = true
    · simp (disch := first | omega | (simp only [List.length_set]; omega)) [r2]
      have Ho : Good b o mo := ⟨r1⟩
      have Ht : Good b t mt := ⟨r2⟩
      refine rof_l1 (b := b) (o := o) (t := t) (mo := mo) (mt := mt) (B := B) (O := O) (T := T) (MO := MO) (MT := MT) (w12 := .nils) Ho Ht hB hMO hMT hlm hln (by omega) (by omega) (by omega) ?_ _ _ _ (by rfl) (by rfl) (by rfl) (by rfl) (by rfl) (by rfl) (by rfl) (by rfl) (by rfl)
      intro ts loc τ gl g0 g1 g2 g12 hr hrl
      have hok := hr.ok
      have lB := hB.len
      have lO := hO.len
      have lT := hT.len
      simp only [ints_len] at lB lO lT
      have hel : (encs (foldR b.length mo mt 0 [])).length = (foldR b.length mo mt 0 []).length := encs_len _
      have hnx := fun id m hm => hr.next (m := m) id ⟨0, b.length, b.length, o.length, o.length, t.length, t.length⟩ (e := [.int .i64 0, .int .i64 b.length, .int .i64 b.length, .int .i64 o.length, .int .i64 o.length, .int .i64 t.length, .int .i64 t.length]) rfl hm
      simp (disch := first | omega | (simp only [List.length_set]; omega)) [gl, g0, g1, g2, g12, lB, lO, lT, hok]
      refine andI_intro (by omega) ?_
      simp (disch := first | omega | (simp only [List.length_set]; omega)) [gl, g0, g1, g2, g12]
      have hin : RunsIn b o t 0 0 0 (foldR b.length mo mt 0 [] ++ [⟨0, b.length, b.length, o.length, o.length, t.length, t.length⟩]) := by
        rw [fold_runs Ho Ht 0 [] (fun c e => by cases e) (fun c e => by cases e), List.nil_append]
        exact in_runs Ho Ht 0 0 0 0 (by omega) (by omega) (by omega) (by omega) (fun i' _ => ⟨fun v hv => by have := (Ho.find hv).1; omega, fun v hv => by have := (Ht.find hv).1; omega⟩)
      have hfo := ref_of Ho Ht
      have hq := hnx (τ.next + 18) (τ.next + 20) (by omega)
      have hRl : (foldR b.length mo mt 0 [] ++ [(⟨0, b.length, b.length, o.length, o.length, t.length, t.length⟩ : Ck)]).length ≤ 400000 := by simp; omega
      have hRne : foldR b.length mo mt 0 [] ++ [(⟨0, b.length, b.length, o.length, o.length, t.length, t.length⟩ : Ck)] ≠ [] := by simp
      generalize foldR b.length mo mt 0 [] ++ [(⟨0, b.length, b.length, o.length, o.length, t.length, t.length⟩ : Ck)] = R at hin hfo hq hRl hRne
      rcases hq with ⟨rfl, hq⟩ | ⟨id, _, q1, q2, q3⟩
      · exact absurd rfl hRne
      refine rof_l0 (B := B) (O := O) (T := T) (R := R) hB hO hT (by omega) (by omega) (by omega) hRl hin ?_ _ _ _ ⟨by simp [gl], by simp (disch := first | omega | (simp only [List.length_set]; omega)) [g0], by simp (disch := first | omega | (simp only [List.length_set]; omega)) [g1], by simp (disch := first | omega | (simp only [List.length_set]; omega)) [g2], by simp (disch := first | omega | (simp only [List.length_set]; omega)) [], by simp (disch := first | omega | (simp only [List.length_set]; omega)) [], by simp (disch := first | omega | (simp only [List.length_set]; omega)) [], by simp (disch := first | omega | (simp only [List.length_set]; omega)) [], ⟨id, by simp (disch := first | omega | (simp only [List.length_set]; omega)) []; exact q1, by simp (disch := first | omega | (simp only [List.length_set]; omega)) []; exact q2, by dsimp only; omega⟩, 0, by simp (disch := first | omega | (simp only [List.length_set]; omega)) [g12, encs], by simp [encs]⟩
      intro ts2 loc2 τ2 tok2 u u12
      have hR : ofR b o t mo mt = .tup [rowV ((ofM b o t mo mt 0 0 0 0).map Ck.enc), .int .i64 0] := by rw [ofR, if_pos ⟨r1, r2⟩]
      rw [hR, ← hfo]
      simp (disch := first | omega | (simp only [List.length_set]; omega)) [u, u12, encs]
      congr 1
    · simp (disch := first | omega | (simp only [List.length_set]; omega)) [r2, ofR, r1]
  · simp (disch := first | omega | (simp only [List.length_set]; omega)) [r1, ofR]
end Go.Proofs.Ytbmkgpocnkiibaa.Lt

/- ChunkRows: three rows' chunks. -/
namespace Go.Proofs.Ytbmkgpocnkiibaa.Lt
open Go.Proofs.YtbmkgpocnkiibaaW.Abs Go
set_option maxRecDepth 100000
set_option maxHeartbeats 4000000
set_option linter.unusedSimpArgs false
set_option linter.unusedVariables false
variable {W0 : World}

theorem myOf_spec {A B : AV} {a b : List Int} (hA : IsRow A (ints a)) (hB : IsRow B (ints b)) (ha : a.length ≤ 20000) (hb : b.length ≤ 20000) : PCall Try.prog W0 14 [A, B] (.tup [rowV (prs (np (hvO a b 0 0))), .int .i64 0]) := by
  refine pcall2 cok Try.func14 F14d F14e F14c F14w F14r (fun N => ?_)
  refine ev2I_intro ?_
  have lA := hA.len
  have lB := hB.len
  simp only [ints_len] at lA lB
  have c1 : ¬ (20000 : Int) < (a.length : Int) := by omega
  have c2 : ¬ (20000 : Int) < (b.length : Int) := by omega
  simp (disch := first | omega | (simp only [List.length_set]; omega)) [F14s, lA, lB, c1, c2]
  have hp : PR (N + 2 + 8 + 1 + 3) (upd (fun _ => none) (N + 10) (some (AObj.box 55 [[AV.nils]]))) (N + 10) [] := ⟨0, none, by omega, by simp, fun h => absurd rfl h⟩
  refine hcallI_use (halves_spec (a.length + 1) a b 0 0 _ A B _ _ [] (by omega) hA hB (by omega) (by omega) (by omega) (by omega) (by simp; omega) hp) (by simp [hA.same (ints_bare _), hB.same (ints_bare _)]) (fun o τ hn hQ => ?_)
  obtain ⟨rfl, tok, te, hq⟩ := hQ
  have hbx := hq.box
  rw [List.nil_append] at hbx
  simp (disch := first | omega | (simp only [List.length_set]; omega)) [hbx]

theorem cr_right {a b : List Int} : ∀ (l : List (Nat × Nat)) (i k i2 k2 : Nat) (q : Option (Int × Int)), cr a b i k i2 k2 l → i2 ≤ a.length → k2 ≤ b.length → (∀ p, q = some p → p.1 < (i : Int) ∧ p.2 < (k : Int)) → rightR a b q (np l) = true
  | [], _, _, _, _, _, _, _, _, _ => by simp [np, rightR_nil]
  | (p1, p2) :: r, i, k, i2, k2, q, h, h1, h2, hq => by
    obtain ⟨g1, g2, ⟨x, ha, hb⟩, g3⟩ := h
    have e : np ((p1, p2) :: r) = ((p1 : Int), (p2 : Int)) :: np r := rfl
    have hp1 := (List.getElem?_eq_some_iff.1 ha).1
    have hp2 := (List.getElem?_eq_some_iff.1 hb).1
    have hr := cr_right r (p1 + 1) (p2 + 1) i2 k2 (some ((p1 : Int), (p2 : Int))) g3 h1 h2 (fun p hp => by cases hp; exact ⟨by dsimp only; omega, by dsimp only; omega⟩)
    have hok : pairOk a b ((p1 : Int), (p2 : Int)) = true := by simp [pairOk, ha, hb]; omega
    rw [e, rightR_cons, hr, hok]
    cases q with
    | none => rfl
    | some q0 =>
      have := hq q0 rfl
      have c1 : q0.1 < (p1 : Int) := by omega
      have c2 : q0.2 < (p2 : Int) := by omega
      simp [c1, c2]
theorem my_good (a b : List Int) : Good a b (np (hvO a b 0 0)) := ⟨by rw [rightM_none]; exact cr_right _ _ _ _ _ _ (hvO_cr a b) (Nat.le_refl _) (Nat.le_refl _) (fun p h => by cases h)⟩

theorem lsame_spec (l : List Ck) {L M : AV} (hL : IsRow L (l.map Ck.enc)) (hM : IsRow M (l.map Ck.enc)) (hl : l.length ≤ 1000000) : PCall Try.prog W0 13 [L, M] (.bool true) := by
  refine pcall2 cok Try.func13 F13d F13e F13c F13w F13r (fun N => ?_)
  refine ev2I_intro ?_
  have lL := hL.len
  have lM := hM.len
  simp only [List.length_map] at lL lM
  simp (disch := first | omega | (simp only [List.length_set]; omega)) [F13s, lL, lM]
  refine loop2I_ind cok F13l0w (m := fun i => l.length - i) (I := fun i ts loc τ => i ≤ l.length ∧ ts.length = 67 ∧ tmp ts 0 = L ∧ tmp ts 1 = M ∧ tmp ts 5 = .int .i64 (i : Int)) ?_ 0 ?_
  · rintro i ts loc τ ⟨hi, gl, g0, g1, g5⟩ ih'
    simp (disch := first | omega | (simp only [List.length_set]; omega)) [F13l0, gl, g0, g5, lL]
    by_cases hlt : i < l.length
    · obtain ⟨c, hc⟩ : ∃ c, l[i]? = some c := ⟨l[i], by simp [hlt]⟩
      have hce : (l.map Ck.enc)[i]? = some [.int .i64 c.s, .int .i64 c.b0, .int .i64 c.b1, .int .i64 c.o0, .int .i64 c.o1, .int .i64 c.t0, .int .i64 c.t1] := by rw [List.getElem?_map, hc]; rfl
      have eL := hL.elems τ.obj
      have eM := hM.elems τ.obj
      have tL := hL.at hce
      have tM := hM.at hce
      generalize hes : l.map Ck.enc = es at hce eL eM tL tM
      simp (disch := first | omega | (simp only [List.length_set]; omega)) [hlt, gl, g0, g1, g5, eL, eM, tL, tM, hce, hL.chk, hM.chk]
      intro m hm
      refine ih' (i + 1) _ _ _ (by omega) ⟨by omega, ?_⟩
      simp (disch := first | omega | (simp only [List.length_set]; omega)) [gl, g0, g1, g5, wrap_id]
    · simp (disch := first | omega | (simp only [List.length_set]; omega)) [hlt, gl]
  · exact ⟨by omega, by rfl, by rfl, by rfl, by rfl⟩
end Go.Proofs.Ytbmkgpocnkiibaa.Lt

/- ChunkRows: the law. -/
namespace Go.Proofs.Ytbmkgpocnkiibaa.Lt
open Go.Proofs.YtbmkgpocnkiibaaW.Abs Go
set_option maxRecDepth 100000
set_option maxHeartbeats 4000000
set_option linter.unusedSimpArgs false
set_option linter.unusedVariables false
variable {W0 : World}

theorem fewL_le (l : List Int) : (fewL l).length ≤ 80 := by simp [fewL]; omega
theorem pairsF_ok (a b : List Int) : ∀ (l acc : List (Int × Int)), rightR a b none acc = true → rightR a b none (pairsF a b acc l) = true
  | [], acc, h => by simpa [pairsF] using h
  | p :: r, acc, h => by
    rw [pairsF]
    split
    · rename_i h'; exact pairsF_ok a b r _ h'
    · exact pairsF_ok a b r _ h
theorem pairsF_le (a b : List Int) : ∀ (l acc : List (Int × Int)), (pairsF a b acc l).length ≤ acc.length + l.length
  | [], acc => by simp [pairsF]
  | p :: r, acc => by
    rw [pairsF]
    split
    · have := pairsF_le a b r (acc ++ [p]); simp at this ⊢; omega
    · have := pairsF_le a b r acc; simp at this ⊢; omega
theorem pairs_ok (a b : List Int) (l : List (Int × Int)) : Good a b (pairsF a b [] l) := ⟨by rw [rightM_none]; exact pairsF_ok a b l [] (rightR_nil a b none)⟩
theorem pairs_le (a b : List Int) (l : List (Int × Int)) : (pairsF a b [] (l.take 100)).length ≤ 100 := by
  have := pairsF_le a b (l.take 100) []
  simp at this; omega
theorem ofM_len_bd {b o t : List Int} {mo mt : List (Int × Int)} (Ho : Good b o mo) (Ht : Good b t mt) : ∀ (q : Option Int) (i j k : Nat) (l : List Ck), Cov b o t q i j k l → l.length + (i + j + k) ≤ b.length + o.length + t.length
  | _, i, j, k, [], h => by obtain ⟨h1, h2, h3⟩ := h; simp; omega
  | _, i, j, k, c :: r, h => by
    obtain ⟨h1, h2, h3, h4, h5, h6, h7, _, _, _, _, _, _, _, h8⟩ := h
    have := ofM_len_bd Ho Ht _ _ _ _ r h8
    simp; omega
/-- what both tell of any pairs -/
theorem of_tells (b o t : List Int) (mo mt : List (Int × Int)) (h1 : b.length ≤ 80) (h2 : o.length ≤ 80) (h3 : t.length ≤ 80) : ∃ (l : List Ck) (e : Int) (L : AV), ofR b o t mo mt = .tup [L, .int .i64 e] ∧ IsRow L (l.map Ck.enc) ∧ l.length ≤ 1000 := by
  unfold ofR
  split
  · rename_i h
    have := ofM_len_bd ⟨h.1⟩ ⟨h.2⟩ _ _ _ _ _ (cov_all ⟨h.1⟩ ⟨h.2⟩)
    exact ⟨_, _, _, rfl, IsRow.rowV _, by omega⟩
  · exact ⟨[], _, _, rfl, IsRow.nils, by simp⟩
theorem of_good {b o t : List Int} {mo mt : List (Int × Int)} (Ho : Good b o mo) (Ht : Good b t mt) : ofR b o t mo mt = .tup [rowV ((ofM b o t mo mt 0 0 0 0).map Ck.enc), .int .i64 0] := by rw [ofR, if_pos ⟨Ho.r, Ht.r⟩]
theorem encs_bare (l : List Ck) : bareLL (l.map Ck.enc) = l.map Ck.enc := by
  rw [bareLL_eq, List.map_map]
  refine List.map_congr_left fun x _ => ?_
  simp [Ck.enc]

theorem chunkRows_spec (x : List Int) {X : AV} (hX : IsRow X (ints x)) (_ : ∀ v ∈ x, (Lit.int .i64 v).wf = true) (_ : x.length * 8 ≤ 140737488351232) (y : List Int) {Y : AV} (hY : IsRow Y (ints y)) (_ : ∀ v ∈ y, (Lit.int .i64 v).wf = true) (_ : y.length * 8 ≤ 140737488351232)
    (z : List Int) {Z : AV} (hZ : IsRow Z (ints z)) (_ : ∀ v ∈ z, (Lit.int .i64 v).wf = true) (_ : z.length * 8 ≤ 140737488351232)
    (mo : List (Int × Int)) {MO : AV} (hMO : IsRow MO (prs mo)) (_ : ∀ v ∈ mo, (Lit.int .i64 v.1).wf = true ∧ (Lit.int .i64 v.2).wf = true) (_ : mo.length * 16 ≤ 140737488351232)
    (mt : List (Int × Int)) {MT : AV} (hMT : IsRow MT (prs mt)) (_ : ∀ v ∈ mt, (Lit.int .i64 v.1).wf = true ∧ (Lit.int .i64 v.2).wf = true) (_ : mt.length * 16 ≤ 140737488351232) (long : Bool) :
    PCall Try.prog W0 6 [X, Y, Z, MO, MT, .bool long] (.bool true) := by
  refine pcall2 cok Try.func6 F6d F6e F6c F6w F6r (fun N => ?_)
  refine ev2I_intro ?_
  simp (disch := first | omega | (simp only [List.length_set]; omega)) [F6s]
  refine hcallI_pure (few_spec x hX) (by simp [bareL, hX.same (ints_bare x)]) (fun M hM => ?_)
  simp (disch := first | omega | (simp only [List.length_set]; omega)) []
  refine hcallI_pure (few_spec y hY) (by simp [bareL, hY.same (ints_bare y)]) (fun M hM => ?_)
  simp (disch := first | omega | (simp only [List.length_set]; omega)) []
  refine hcallI_pure (few_spec z hZ) (by simp [bareL, hZ.same (ints_bare z)]) (fun M hM => ?_)
  have hb := fewL_le x
  have ho := fewL_le y
  have ht := fewL_le z
  obtain ⟨b, hbe⟩ : ∃ b, b = fewL x := ⟨_, rfl⟩
  obtain ⟨o, hoe⟩ : ∃ o, o = fewL y := ⟨_, rfl⟩
  obtain ⟨t, hte⟩ : ∃ t, t = fewL z := ⟨_, rfl⟩
  rw [← hbe] at hb ⊢; rw [← hoe] at ho ⊢; rw [← hte] at ht ⊢
  have iB : IsRow (rowV (ints b)) (ints b) := IsRow.rowV _
  have iO : IsRow (rowV (ints o)) (ints o) := IsRow.rowV _
  have iT : IsRow (rowV (ints t)) (ints t) := IsRow.rowV _
  have lO := hMO.len
  have lT := hMT.len
  simp only [prs_len] at lO lT
  by_cases c1 : (100 : Int) < (mo.length : Int)
  · simp (disch := first | omega | (simp only [List.length_set]; omega)) [lO, lT, c1]
    exact hcallI_pure known_spec (by simp) (fun M hM => by simp (disch := first | omega | (simp only [List.length_set]; omega)) [])
  · by_cases c2 : (100 : Int) < (mt.length : Int)
    · simp (disch := first | omega | (simp only [List.length_set]; omega)) [lO, lT, c1, c2]
      exact hcallI_pure known_spec (by simp) (fun M hM => by simp (disch := first | omega | (simp only [List.length_set]; omega)) [])
    · simp (disch := first | omega | (simp only [List.length_set]; omega)) [lO, lT, c1, c2]
      obtain ⟨l, e, L, hR, hL, hl⟩ := of_tells b o t mo mt hb ho ht
      have bL := hL.same (encs_bare l)
      refine hcallI_pure (Go.Proofs.Ytbmkgpocnkiibaa.Lt.of_spec iB iO iT (by omega) (by omega) (by omega) hMO hMT (by omega) (by omega)) (by simp [bareL, hMO.same (prs_bare _), hMT.same (prs_bare _)]) (fun M hM => ?_)
      rw [hR]
      simp (disch := first | omega | (simp only [List.length_set]; omega)) []
      refine hcallI_pure (refOf_spec iB iO iT (by omega) (by omega) (by omega) hMO hMT (by omega) (by omega)) (by simp [bareL, hMO.same (prs_bare _), hMT.same (prs_bare _)]) (fun M hM => ?_)
      rw [hR]
      simp (disch := first | omega | (simp only [List.length_set]; omega)) []
      refine hcallI_pure known_spec (by simp) (fun M hM => ?_)
      simp (disch := first | omega | (simp only [List.length_set]; omega)) []
      refine hcallI_pure (lsame_spec l hL hL (by omega)) (by simp [bareL, bL]) (fun M hM => ?_)
      simp (disch := first | omega | (simp only [List.length_set]; omega)) []
      refine hcallI_pure (pairs_spec b o mo iB iO hMO) (by simp [bareL, hMO.same (prs_bare _)]) (fun M hM => ?_)
      simp (disch := first | omega | (simp only [List.length_set]; omega)) []
      refine hcallI_pure (pairs_spec b t mt iB iT hMT) (by simp [bareL, hMT.same (prs_bare _)]) (fun M hM => ?_)
      have pb := pairs_le b o mo
      have qb := pairs_le b t mt
      have pg := pairs_ok b o (mo.take 100)
      have qg := pairs_ok b t (mt.take 100)
      generalize pairsF b o [] (mo.take 100) = p at pb pg ⊢
      generalize pairsF b t [] (mt.take 100) = q at qb qg ⊢
      cases long
      · simp (disch := first | omega | (simp only [List.length_set]; omega)) []
        refine hcallI_pure (Go.Proofs.Ytbmkgpocnkiibaa.Lt.of_spec iB iO iT (by omega) (by omega) (by omega) (IsRow.rowV (prs p)) (IsRow.rowV (prs q)) (by omega) (by omega)) (by simp [bareL]) (fun M hM => ?_)
        rw [of_good pg qg]
        simp (disch := first | omega | (simp only [List.length_set]; omega)) []
        refine hcallI_pure (refOf_spec iB iO iT (by omega) (by omega) (by omega) (IsRow.rowV (prs p)) (IsRow.rowV (prs q)) (by omega) (by omega)) (by simp [bareL]) (fun M hM => ?_)
        rw [of_good pg qg]
        have hbd := ofM_len_bd pg qg _ _ _ _ _ (cov_all pg qg)
        have bE := encs_bare (ofM b o t p q 0 0 0 0)
        simp (disch := first | omega | (simp only [List.length_set]; omega)) []
        refine hcallI_pure (lsame_spec (ofM b o t p q 0 0 0 0) (IsRow.rowV _) (IsRow.rowV _) (by omega)) (by simp [bareL, bE]) (fun M hM => ?_)
        simp (disch := first | omega | (simp only [List.length_set]; omega)) []
        refine hcallI_pure (few_spec x hX) (by simp [bareL, hX.same (ints_bare x)]) (fun M hM => ?_)
        rw [← hbe]
        simp (disch := first | omega | (simp only [List.length_set]; omega)) []
        refine hcallI_pure (same_spec b b iB iB (by omega)) (by simp [bareL]) (fun M hM => ?_)
        simp (disch := first | omega | (simp only [List.length_set]; omega)) []
      · simp (disch := first | omega | (simp only [List.length_set]; omega)) []
        refine hcallI_pure (myOf_spec iB iO (by omega) (by omega)) (by simp) (fun M hM => ?_)
        simp (disch := first | omega | (simp only [List.length_set]; omega)) []
        refine hcallI_pure (myOf_spec iB iT (by omega) (by omega)) (by simp) (fun M hM => ?_)
        have pb : (np (hvO b o 0 0)).length ≤ 100 := by rw [np_len, hvO_len]; have := (lcs_bd b o).1; omega
        have qb : (np (hvO b t 0 0)).length ≤ 100 := by rw [np_len, hvO_len]; have := (lcs_bd b t).1; omega
        have pg := my_good b o
        have qg := my_good b t
        generalize np (hvO b o 0 0) = p at pb pg ⊢
        generalize np (hvO b t 0 0) = q at qb qg ⊢
        simp (disch := first | omega | (simp only [List.length_set]; omega)) []
        refine hcallI_pure (Go.Proofs.Ytbmkgpocnkiibaa.Lt.of_spec iB iO iT (by omega) (by omega) (by omega) (IsRow.rowV (prs p)) (IsRow.rowV (prs q)) (by omega) (by omega)) (by simp [bareL]) (fun M hM => ?_)
        rw [of_good pg qg]
        simp (disch := first | omega | (simp only [List.length_set]; omega)) []
        refine hcallI_pure (refOf_spec iB iO iT (by omega) (by omega) (by omega) (IsRow.rowV (prs p)) (IsRow.rowV (prs q)) (by omega) (by omega)) (by simp [bareL]) (fun M hM => ?_)
        rw [of_good pg qg]
        have hbd := ofM_len_bd pg qg _ _ _ _ _ (cov_all pg qg)
        have bE := encs_bare (ofM b o t p q 0 0 0 0)
        simp (disch := first | omega | (simp only [List.length_set]; omega)) []
        refine hcallI_pure (lsame_spec (ofM b o t p q 0 0 0 0) (IsRow.rowV _) (IsRow.rowV _) (by omega)) (by simp [bareL, bE]) (fun M hM => ?_)
        simp (disch := first | omega | (simp only [List.length_set]; omega)) []
        refine hcallI_pure (few_spec x hX) (by simp [bareL, hX.same (ints_bare x)]) (fun M hM => ?_)
        rw [← hbe]
        simp (disch := first | omega | (simp only [List.length_set]; omega)) []
        refine hcallI_pure (same_spec b b iB iB (by omega)) (by simp [bareL]) (fun M hM => ?_)
        simp (disch := first | omega | (simp only [List.length_set]; omega)) []
end Go.Proofs.Ytbmkgpocnkiibaa.Lt
