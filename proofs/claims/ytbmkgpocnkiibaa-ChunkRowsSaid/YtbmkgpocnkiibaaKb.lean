import Derived.Test.YtbmkgpocnkiibaaKa
/- What lies between two runs: the closure of chunk.Of. -/
namespace Go.Proofs.Ytbmkgpocnkiibaa.Lt
open Go.Proofs.YtbmkgpocnkiibaaW.Abs Go
set_option maxRecDepth 100000
set_option maxHeartbeats 2000000
set_option linter.unusedSimpArgs false
set_option linter.unusedVariables false
variable {W0 : World}

structure Ck where
  s : Int
  b0 : Nat
  b1 : Nat
  o0 : Nat
  o1 : Nat
  t0 : Nat
  t1 : Nat
  deriving DecidableEq
def Ck.enc (c : Ck) : List AV := [.int .i64 c.s, .int .i64 c.b0, .int .i64 c.b1, .int .i64 c.o0, .int .i64 c.o1, .int .i64 c.t0, .int .i64 c.t1]
def betw (b o t : List Int) (x y z i j k : Nat) : List Ck :=
  if x = i ∧ y = j ∧ z = k then [] else [⟨sortOf (cut b x i) (cut o y j) (cut t z k), x, i, y, j, z, k⟩]

theorem between_spec {l a ib io it tok : Nat} {ta tl tb to tt : TypeId} {τ : Heap} {b o t : List Int} {B O T : AV} (hB : IsRow B (ints b)) (hO : IsRow O (ints o)) (hT : IsRow T (ints t)) (ea : List Ck) {x y z i j k : Nat}
    (hx : x ≤ i) (hi : i ≤ b.length) (hy : y ≤ j) (hj : j ≤ o.length) (hz : z ≤ k) (hk : k ≤ t.length) (hlb : b.length ≤ 1000000) (hlo : o.length ≤ 1000000) (hlt : t.length ≤ 1000000)
    (fl : τ.obj l = some (.box tl [[accV (ea.map Ck.enc) tok]])) (fa : τ.obj a = some (.box ta [[.int .i64 x, .int .i64 y, .int .i64 z]]))
    (fb : τ.obj ib = some (.box tb [[B]])) (fo : τ.obj io = some (.box to [[O]])) (ft : τ.obj it = some (.box tt [[T]])) (hacc : AccOk τ.obj 7 tok (ea.map Ck.enc))
    (bl : l < τ.next) (ba : a < τ.next) (bb : ib < τ.next) (bo : io < τ.next) (bt : it < τ.next) (hal : a ≠ l) (btok : ea ≠ [] → tok < τ.next) (hea : ea.length ≤ 10000000) :
    HCalls Try.prog W0 16 [.int .i64 i, .int .i64 j, .int .i64 k, .bp a 0 0, .bp l 0 0, .bp ib 0 0, .bp io 0 0, .bp it 0 0] τ (fun r τ' => r = .ret (.tup []) ∧ ∃ tok',
      τ'.obj l = some (.box tl [[accV ((ea ++ betw b o t x y z i j k).map Ck.enc) tok']]) ∧ τ'.obj a = some (.box ta [[.int .i64 i, .int .i64 j, .int .i64 k]]) ∧ AccOk τ'.obj 7 tok' ((ea ++ betw b o t x y z i j k).map Ck.enc) ∧
      (ea ++ betw b o t x y z i j k ≠ [] → tok' < τ'.next) ∧ ∀ q v, q < τ.next → q ≠ a → q ≠ l → τ.obj q = some v → (∀ ty s, v ≠ .tail ty s) → τ'.obj q = some v) := by
  refine hcalls cok Try.func16 F16d F16e F16c F16w F16r ?_
  refine ev2I_intro ?_
  simp (disch := first | omega | (simp only [List.length_set]; omega)) [F16s, fl, fa, fb, fo, ft]
  by_cases h : x = i ∧ y = j ∧ z = k
  · obtain ⟨rfl, rfl, rfl⟩ := h
    have hE : betw b o t x y z x y z = [] := by unfold betw; rw [if_pos ⟨rfl, rfl, rfl⟩]
    have atok : ea ≠ [] → tok ≠ a := fun hne e => by
      have := hacc (by simpa using hne); rw [e, fa] at this; exact this
    rw [hE]
    simp (disch := first | omega | (simp only [List.length_set]; omega)) [fl, fa, fb, fo, ft]
    refine ⟨tok, by rw [upd_ne hal.symm]; exact fl, hacc.upd (fun hne => atok (by simpa using hne)) _, fun hne => by have := btok hne; omega, fun q v h0 h1 h2 h3 h4 => by rw [upd_ne h1]; exact h3⟩
  have hh : x ≠ i ∨ (x = i ∧ y ≠ j) ∨ (x = i ∧ y = j ∧ z ≠ k) := by omega
  have hE : betw b o t x y z i j k = [⟨sortOf (cut b x i) (cut o y j) (cut t z k), x, i, y, j, z, k⟩] := by unfold betw; rw [if_neg h]
  rw [hE]
  rcases hh with h1 | ⟨rfl, h1⟩ | ⟨rfl, rfl, h1⟩
  all_goals
    have h9 := mt Int.ofNat_inj.1 h1
    simp (disch := first | omega | (simp only [List.length_set]; omega)) [h9, fl, fa, fb, fo, ft]
    repeat (first | (refine andI_intro (by omega) ?_) | simp (disch := first | omega | (simp only [List.length_set]; omega)) [h9, fl, fa, fb, fo, ft])
    refine pcallI_pure' (sorted_spec b o t 0 _ _ _ _ _ _ hB hO hT hx hi hy hj hz hk hlo hlb) (by simp [bareL, hB.same (ints_bare _), hO.same (ints_bare _), hT.same (ints_bare _)]) ?_
    repeat (first | (refine andI_intro (by omega) ?_) | simp (disch := first | omega | (simp only [List.length_set]; omega)) [h9, fl, fa, fb, fo, ft])
    refine andI_intro (by rw [appOk_acc hacc]; simp; omega) ?_
    repeat (first | (refine andI_intro (by omega) ?_) | simp (disch := first | omega | (simp only [List.length_set]; omega)) [h9, fl, fa, fb, fo, ft])
    refine andI_intro (by cases ea with | nil => simp | cons c r => have := btok (by simp); simp [accV]; omega) ?_
    repeat (first | (refine andI_intro (by omega) ?_) | simp (disch := first | omega | (simp only [List.length_set]; omega)) [h9, fl, fa, fb, fo, ft])
    have atok : ea ≠ [] → tok ≠ a := fun hne e => by
      have := hacc (by simpa using hne); rw [e, fa] at this; exact this
    have ltok : ea ≠ [] → tok ≠ l := fun hne e => by
      have := hacc (by simpa using hne); rw [e, fl] at this; exact this
    have p1 : ∀ (id : Nat) (ty : TypeId) (ns : List (List AV)), τ.next ≤ id → accHeap id ty 7 τ.obj ns (ea.map Ck.enc) tok l = some (.box tl [[accV (ea.map Ck.enc) tok]]) := fun id ty ns hid => by
      rw [accHeap_ne (by omega) (fun hne => (ltok (by simpa using hne)).symm)]; exact fl
    have p2 : ∀ (id : Nat) (ty : TypeId) (ns : List (List AV)), τ.next ≤ id → accHeap id ty 7 τ.obj ns (ea.map Ck.enc) tok a = some (.box ta [[.int .i64 x, .int .i64 y, .int .i64 z]]) := fun id ty ns hid => by
      rw [accHeap_ne (by omega) (fun hne => (atok (by simpa using hne)).symm)]; exact fa
    repeat (first | (refine andI_intro (by omega) ?_) | simp (disch := first | omega | (simp only [List.length_set]; omega)) [p1, p2, upd_ne, hal, hal.symm])
    intro m hm
    refine ⟨τ.next + 15 + 12 + 7, rfl, ?_, by omega, fun q v q0 q1 q2 q3 q4 => ?_⟩
    · refine (AccOk.upd (AccOk.upd (accHeap_ok _ _ _ _ _ _ _) (fun _ => by omega) _) (fun _ => by omega) _)
    · rw [upd_ne q1, upd_ne q2, accHeap_ne]
      · exact q3
      · omega
      · intro hne e
        have h0 := hacc hne
        rw [← e, q3] at h0
        cases v with
        | tail ty s => exact q4 ty s rfl
        | _ => exact h0
end Go.Proofs.Ytbmkgpocnkiibaa.Lt

/- Maps of numbers; common rows as partners. -/
namespace Go.Proofs.Ytbmkgpocnkiibaa.Lt
open Go.Proofs.YtbmkgpocnkiibaaW.Abs Go
set_option maxRecDepth 100000
set_option maxHeartbeats 2000000
set_option linter.unusedSimpArgs false
set_option linter.unusedVariables false
variable {W0 : World}

def kvM (m : List (Int × Int)) : List (AV × AV) := m.map fun p => (.int .i64 p.1, .int .i64 p.2)
def findM : List (Int × Int) → Int → Option Int
  | [], _ => none
  | p :: r, k => if p.1 = k then some p.2 else findM r k
theorem mfind_kv (k : Int) : ∀ m : List (Int × Int), ∃ j, mfind .int (.int .i64 k) (kvM m) = some ((findM m k).map fun v => (j, AV.int .i64 v))
  | [] => ⟨0, rfl⟩
  | p :: r => by
    obtain ⟨j, hj⟩ := mfind_kv k r
    by_cases h : p.1 = k
    · exact ⟨0, by simp [kvM, mfind, findM, h, eqCell]⟩
    · have h' : ¬ k = p.1 := fun e => h e.symm
      refine ⟨j + 1, ?_⟩
      have hj' := hj
      unfold kvM at hj'
      simp only [kvM, List.map_cons, mfind, findM, eqCell, h, if_false]
      simp only [if_true]
      rw [show (k == p.1) = false by simpa using h', hj']
      cases findM r k <;> simp
theorem mset_new {k v : Int} {m : List (Int × Int)} (h : findM m k = none) : mset .int (.int .i64 k) (.int .i64 v) (kvM m) = kvM (m ++ [(k, v)]) := by
  obtain ⟨j, hj⟩ := mfind_kv k m
  rw [h] at hj
  simp only [mset, hj, Option.map_none]
  simp [kvM]
theorem mfind_some (k : Int) (m : List (Int × Int)) : (mfind .int (.int .i64 k) (kvM m)).isSome = true := by
  obtain ⟨j, hj⟩ := mfind_kv k m; rw [hj]; rfl
theorem look_kv (k : Int) (m : List (Int × Int)) : lookVal (.int .i64 0) true ((mfind .int (.int .i64 k) (kvM m)).getD none) = .tup [.int .i64 ((findM m k).getD 0), .bool (findM m k).isSome] := by
  obtain ⟨j, hj⟩ := mfind_kv k m; rw [hj]
  cases findM m k <;> rfl

/-- common rows: both grow, all within -/
theorem right_from (a b : List Int) : ∀ (l : List (Int × Int)) (q : Int × Int), rightM a b q l = true → ∀ p ∈ l, q.1 < p.1 ∧ q.2 < p.2 ∧ p.1 < a.length ∧ p.2 < b.length ∧ a[p.1.toNat]? = b[p.2.toNat]?
  | [], _, _ => by simp
  | x :: r, q, h => by
    rw [rightM_cons] at h
    simp only [Bool.and_eq_true] at h
    have h1 := h.1
    simp only [stepM, Bool.and_eq_true, decide_eq_true_eq] at h1
    intro p hp
    rcases List.mem_cons.1 hp with rfl | hp
    · exact ⟨h1.1.1.1.1, h1.1.1.1.2, h1.1.1.2, h1.1.2, h1.2⟩
    · have := right_from a b r x h.2 p hp
      exact ⟨by omega, by omega, this.2.2⟩
theorem findM_none {m : List (Int × Int)} {k : Int} (h : ∀ p ∈ m, p.1 ≠ k) : findM m k = none := by
  induction m with
  | nil => rfl
  | cons p r ih => rw [findM, if_neg (h p (by simp)), ih (fun q hq => h q (by simp [hq]))]
theorem findM_mem {m : List (Int × Int)} {k v : Int} (h : findM m k = some v) : (k, v) ∈ m := by
  induction m with
  | nil => simp [findM] at h
  | cons p r ih =>
    rw [findM] at h
    by_cases hp : p.1 = k
    · rw [if_pos hp] at h; injection h with h; subst hp; subst h; simp
    · rw [if_neg hp] at h; exact List.mem_cons_of_mem _ (ih h)
/-- what came before is smaller -/
theorem right_take (a b : List Int) : ∀ (l : List (Int × Int)) (q : Int × Int), rightM a b q l = true → ∀ (i : Nat) (p : Int × Int), l[i]? = some p → ∀ x ∈ l.take i, x.1 < p.1 ∧ x.2 < p.2
  | [], _, _, _, _, hp => by simp at hp
  | y :: r, q, h, 0, p, hp => by simp
  | y :: r, q, h, i + 1, p, hp => by
    rw [rightM_cons] at h
    simp only [Bool.and_eq_true] at h
    simp only [List.getElem?_cons_succ] at hp
    intro x hx
    simp only [List.take_succ_cons, List.mem_cons] at hx
    rcases hx with rfl | hx
    · have := right_from a b r x h.2 p (List.mem_of_getElem? hp); exact ⟨this.1, this.2.1⟩
    · exact right_take a b r y h.2 i p hp x hx
end Go.Proofs.Ytbmkgpocnkiibaa.Lt

/- The chunks: what chunk.Of hands back. -/
namespace Go.Proofs.Ytbmkgpocnkiibaa.Lt
open Go.Proofs.YtbmkgpocnkiibaaW.Abs Go
set_option maxRecDepth 100000
set_option maxHeartbeats 2000000
set_option linter.unusedSimpArgs false
set_option linter.unusedVariables false
variable {W0 : World}

/-- how far a run goes on -/
def runLen (nb : Nat) (mo mt : List (Int × Int)) (i j k n : Nat) : Nat :=
  if h : i + n < nb then (if findM mo (i + n : Nat) = some ((j + n : Nat) : Int) ∧ findM mt (i + n : Nat) = some ((k + n : Nat) : Int) then runLen nb mo mt i j k (n + 1) else n) else n
termination_by nb - (i + n)
theorem runLen_ge (nb : Nat) (mo mt : List (Int × Int)) (i j k n : Nat) : n ≤ runLen nb mo mt i j k n := by
  rw [runLen]
  split
  · split
    · have := runLen_ge nb mo mt i j k (n + 1); omega
    · omega
  · omega
termination_by nb - (i + n)
theorem runLen_le (nb : Nat) (mo mt : List (Int × Int)) (i j k n : Nat) (hn : i + n ≤ nb) : i + runLen nb mo mt i j k n ≤ nb := by
  rw [runLen]
  split
  · split
    · exact runLen_le nb mo mt i j k (n + 1) (by omega)
    · omega
  · omega
termination_by nb - (i + n)
/-- every place of a run is paired -/
theorem runLen_all (nb : Nat) (mo mt : List (Int × Int)) (i j k n : Nat) : ∀ m, n ≤ m → m < runLen nb mo mt i j k n → findM mo (i + m : Nat) = some ((j + m : Nat) : Int) ∧ findM mt (i + m : Nat) = some ((k + m : Nat) : Int) := by
  intro m h1 h2
  rw [runLen] at h2
  split at h2
  · rename_i hlt
    split at h2
    · rename_i hc
      by_cases e : m = n
      · subst e; exact hc
      · exact runLen_all nb mo mt i j k (n + 1) m (by omega) h2
    · omega
  · omega
termination_by nb - (i + n)

/-- the chunks from place i on; x, y, z: how far the three rows are done -/
def ofM (b o t : List Int) (mo mt : List (Int × Int)) (i x y z : Nat) : List Ck :=
  if h : i < b.length then
    match findM mo i, findM mt i with
    | some j, some k =>
      let n := runLen b.length mo mt i j.toNat k.toNat 1
      betw b o t x y z i j.toNat k.toNat ++ ⟨1, i, i + n, j.toNat, j.toNat + n, k.toNat, k.toNat + n⟩ :: ofM b o t mo mt (i + n) (i + n) (j.toNat + n) (k.toNat + n)
    | _, _ => ofM b o t mo mt (i + 1) x y z
  else betw b o t x y z b.length o.length t.length
termination_by b.length - i
decreasing_by
  · have := runLen_ge b.length mo mt i j.toNat k.toNat 1; omega
  · omega

theorem run_loop {K : KC2} {b : List Int} {B : AV} (hB : IsRow B (ints b)) (hlb : b.length ≤ 1000000) (mo mt : List (Int × Int)) {ib m1 m2 : Nat} {tb : TypeId} {h : Hp} (n0 : Nat) (loc : Go.Proofs.YtbmkgpocnkiibaaW.Abs.Loc) (i j k : Nat) (hj : j ≤ 1000000) (hk : k ≤ 1000000) {v6 v7 v18 v19 v20 : AV}
    (fb : h ib = some (.box tb [[B]])) (f1 : h m1 = some (.map (kvM mo))) (f2 : h m2 = some (.map (kvM mt)))
    (hK : ∀ ts (τ : Heap), ts.length = 186 → tmp ts 5 = .bp ib 0 0 → tmp ts 6 = v6 → tmp ts 7 = v7 → tmp ts 12 = .mp m1 → tmp ts 13 = .mp m2 → tmp ts 18 = v18 → tmp ts 19 = v19 → tmp ts 20 = v20 → tmp ts 21 = .int .i64 i → tmp ts 22 = .int .i64 j → tmp ts 24 = .int .i64 k →
      tmp ts 26 = .int .i64 (runLen b.length mo mt i j k 1) → n0 ≤ τ.next → τ.obj = h → K.k (.exit 6) ts loc τ)
    (ts : List AV) (τ : Heap) (hl : ts.length = 186) (h5 : tmp ts 5 = .bp ib 0 0) (h6 : tmp ts 6 = v6) (h7 : tmp ts 7 = v7) (h12 : tmp ts 12 = .mp m1) (h13 : tmp ts 13 = .mp m2) (h18 : tmp ts 18 = v18) (h19 : tmp ts 19 = v19) (h20 : tmp ts 20 = v20) (h21 : tmp ts 21 = .int .i64 i) (h22 : tmp ts 22 = .int .i64 j) (h24 : tmp ts 24 = .int .i64 k)
    (h26 : tmp ts 26 = .int .i64 1) (hn0 : n0 ≤ τ.next) (hτ : τ.obj = h) (hi : i < b.length) : loop2I Try.prog W0 C [] F8l0 ts loc τ := by
  refine loop2I_ind cok F8l0w (m := fun n => b.length - (i + n)) (I := fun n ts loc' τ => loc' = loc ∧ i + n ≤ b.length ∧ ts.length = 186 ∧ tmp ts 5 = .bp ib 0 0 ∧ tmp ts 6 = v6 ∧ tmp ts 7 = v7 ∧ tmp ts 12 = .mp m1 ∧ tmp ts 13 = .mp m2 ∧ tmp ts 18 = v18 ∧ tmp ts 19 = v19 ∧ tmp ts 20 = v20 ∧ tmp ts 21 = .int .i64 i ∧ tmp ts 22 = .int .i64 j ∧ tmp ts 24 = .int .i64 k ∧
    tmp ts 26 = .int .i64 n ∧ n0 ≤ τ.next ∧ τ.obj = h ∧ runLen b.length mo mt i j k n = runLen b.length mo mt i j k 1) ?_ 1 ⟨rfl, by omega, hl, h5, h6, h7, h12, h13, h18, h19, h20, h21, h22, h24, h26, hn0, hτ, rfl⟩
  clear hl h5 h6 h7 h12 h13 h18 h19 h20 h21 h22 h24 h26 hn0 hτ ts τ
  rintro n ts loc' τ ⟨rfl, hn, hl, h5, h6, h7, h12, h13, h18, h19, h20, h21, h22, h24, h26, hn0, hτ, hR⟩ ih'
  simp (disch := first | omega | (simp only [List.length_set]; omega)) [F8l0, hl, h5, h6, h7, h12, h13, h18, h19, h20, h21, h22, h24, h26, hτ, fb, f1, f2, hB.len, wrap_id, mfind_some, look_kv]
  refine condI_dec (fun hlt => ?_) (fun hlt => ?_)
  · have hr := runLen.eq_1 b.length mo mt i j k n
    rw [dif_pos (show i + n < b.length by omega)] at hr
    by_cases e : findM mo (i + n : Nat) = some ((j + n : Nat) : Int) ∧ findM mt (i + n : Nat) = some ((k + n : Nat) : Int)
    · rw [if_pos e, hR] at hr
      obtain ⟨e1, e2⟩ := e
      simp only [Int.natCast_add] at e1 e2
      simp (disch := first | omega | (simp only [List.length_set]; omega)) [hl, h5, h6, h7, h12, h13, h18, h19, h20, h21, h22, h24, h26, hτ, fb, f1, f2, wrap_id, mfind_some, look_kv, e1, e2]
      refine ih' (n + 1) _ _ _ (by omega) ⟨rfl, by omega, ?_⟩
      simp (disch := first | omega | (simp only [List.length_set]; omega)) [hl, h5, h6, h7, h12, h13, h18, h19, h20, h21, h22, h24, h26, hτ, fb, f1, f2, wrap_id, mfind_some, look_kv, e1, e2]
      exact ⟨by omega, hr.symm⟩
    · rw [if_neg e, hR] at hr
      simp only [Int.natCast_add] at e
      cases e1 : findM mo (↑i + ↑n) with
      | none =>
        simp (disch := first | omega | (simp only [List.length_set]; omega)) [hl, h5, h6, h7, h12, h13, h18, h19, h20, h21, h22, h24, h26, hτ, fb, f1, f2, wrap_id, mfind_some, look_kv, e1]
        exact hK _ _ (by simp [hl]) (by simp (disch := first | omega | (simp only [List.length_set]; omega)) [h5]) (by simp (disch := first | omega | (simp only [List.length_set]; omega)) [h6]) (by simp (disch := first | omega | (simp only [List.length_set]; omega)) [h7]) (by simp (disch := first | omega | (simp only [List.length_set]; omega)) [h12]) (by simp (disch := first | omega | (simp only [List.length_set]; omega)) [h13]) (by simp (disch := first | omega | (simp only [List.length_set]; omega)) [h18]) (by simp (disch := first | omega | (simp only [List.length_set]; omega)) [h19]) (by simp (disch := first | omega | (simp only [List.length_set]; omega)) [h20]) (by simp (disch := first | omega | (simp only [List.length_set]; omega)) [h21]) (by simp (disch := first | omega | (simp only [List.length_set]; omega)) [h22]) (by simp (disch := first | omega | (simp only [List.length_set]; omega)) [h24]) (by simp (disch := first | omega | (simp only [List.length_set]; omega)) [h26, hr]) (by dsimp only; omega) rfl
      | some v =>
        cases e2 : findM mt (↑i + ↑n) with
        | none =>
          simp (disch := first | omega | (simp only [List.length_set]; omega)) [hl, h5, h6, h7, h12, h13, h18, h19, h20, h21, h22, h24, h26, hτ, fb, f1, f2, wrap_id, mfind_some, look_kv, e1, e2]
          exact hK _ _ (by simp [hl]) (by simp (disch := first | omega | (simp only [List.length_set]; omega)) [h5]) (by simp (disch := first | omega | (simp only [List.length_set]; omega)) [h6]) (by simp (disch := first | omega | (simp only [List.length_set]; omega)) [h7]) (by simp (disch := first | omega | (simp only [List.length_set]; omega)) [h12]) (by simp (disch := first | omega | (simp only [List.length_set]; omega)) [h13]) (by simp (disch := first | omega | (simp only [List.length_set]; omega)) [h18]) (by simp (disch := first | omega | (simp only [List.length_set]; omega)) [h19]) (by simp (disch := first | omega | (simp only [List.length_set]; omega)) [h20]) (by simp (disch := first | omega | (simp only [List.length_set]; omega)) [h21]) (by simp (disch := first | omega | (simp only [List.length_set]; omega)) [h22]) (by simp (disch := first | omega | (simp only [List.length_set]; omega)) [h24]) (by simp (disch := first | omega | (simp only [List.length_set]; omega)) [h26, hr]) (by dsimp only; omega) rfl
        | some w =>
          rw [e1, e2] at e
          by_cases hv : v = ↑j + ↑n
          · have hw : ¬ w = ↑k + ↑n := fun hw => e ⟨by rw [hv], by rw [hw]⟩
            simp (disch := first | omega | (simp only [List.length_set]; omega)) [hl, h5, h6, h7, h12, h13, h18, h19, h20, h21, h22, h24, h26, hτ, fb, f1, f2, wrap_id, mfind_some, look_kv, e1, e2, hv, hw]
            exact hK _ _ (by simp [hl]) (by simp (disch := first | omega | (simp only [List.length_set]; omega)) [h5]) (by simp (disch := first | omega | (simp only [List.length_set]; omega)) [h6]) (by simp (disch := first | omega | (simp only [List.length_set]; omega)) [h7]) (by simp (disch := first | omega | (simp only [List.length_set]; omega)) [h12]) (by simp (disch := first | omega | (simp only [List.length_set]; omega)) [h13]) (by simp (disch := first | omega | (simp only [List.length_set]; omega)) [h18]) (by simp (disch := first | omega | (simp only [List.length_set]; omega)) [h19]) (by simp (disch := first | omega | (simp only [List.length_set]; omega)) [h20]) (by simp (disch := first | omega | (simp only [List.length_set]; omega)) [h21]) (by simp (disch := first | omega | (simp only [List.length_set]; omega)) [h22]) (by simp (disch := first | omega | (simp only [List.length_set]; omega)) [h24]) (by simp (disch := first | omega | (simp only [List.length_set]; omega)) [h26, hr]) (by dsimp only; omega) rfl
          · simp (disch := first | omega | (simp only [List.length_set]; omega)) [hl, h5, h6, h7, h12, h13, h18, h19, h20, h21, h22, h24, h26, hτ, fb, f1, f2, wrap_id, mfind_some, look_kv, e1, e2, hv]
            exact hK _ _ (by simp [hl]) (by simp (disch := first | omega | (simp only [List.length_set]; omega)) [h5]) (by simp (disch := first | omega | (simp only [List.length_set]; omega)) [h6]) (by simp (disch := first | omega | (simp only [List.length_set]; omega)) [h7]) (by simp (disch := first | omega | (simp only [List.length_set]; omega)) [h12]) (by simp (disch := first | omega | (simp only [List.length_set]; omega)) [h13]) (by simp (disch := first | omega | (simp only [List.length_set]; omega)) [h18]) (by simp (disch := first | omega | (simp only [List.length_set]; omega)) [h19]) (by simp (disch := first | omega | (simp only [List.length_set]; omega)) [h20]) (by simp (disch := first | omega | (simp only [List.length_set]; omega)) [h21]) (by simp (disch := first | omega | (simp only [List.length_set]; omega)) [h22]) (by simp (disch := first | omega | (simp only [List.length_set]; omega)) [h24]) (by simp (disch := first | omega | (simp only [List.length_set]; omega)) [h26, hr]) (by dsimp only; omega) rfl
  · have hr := runLen.eq_1 b.length mo mt i j k n
    rw [dif_neg (show ¬ i + n < b.length by omega), hR] at hr
    simp (disch := first | omega | (simp only [List.length_set]; omega)) [hl, h5, h6, h7, h12, h13, h18, h19, h20, h21, h22, h24, h26, hτ]
    exact hK _ _ (by simp [hl]) (by simp (disch := first | omega | (simp only [List.length_set]; omega)) [h5]) (by simp (disch := first | omega | (simp only [List.length_set]; omega)) [h6]) (by simp (disch := first | omega | (simp only [List.length_set]; omega)) [h7]) (by simp (disch := first | omega | (simp only [List.length_set]; omega)) [h12]) (by simp (disch := first | omega | (simp only [List.length_set]; omega)) [h13]) (by simp (disch := first | omega | (simp only [List.length_set]; omega)) [h18]) (by simp (disch := first | omega | (simp only [List.length_set]; omega)) [h19]) (by simp (disch := first | omega | (simp only [List.length_set]; omega)) [h20]) (by simp (disch := first | omega | (simp only [List.length_set]; omega)) [h21]) (by simp (disch := first | omega | (simp only [List.length_set]; omega)) [h22]) (by simp (disch := first | omega | (simp only [List.length_set]; omega)) [h24]) (by simp (disch := first | omega | (simp only [List.length_set]; omega)) [h26, hr]) (by dsimp only; omega) rfl
end Go.Proofs.Ytbmkgpocnkiibaa.Lt

/- chunk.Of: the maps are filled. -/
namespace Go.Proofs.Ytbmkgpocnkiibaa.Lt
open Go.Proofs.YtbmkgpocnkiibaaW.Abs Go
set_option maxRecDepth 100000
set_option maxHeartbeats 2000000
set_option linter.unusedSimpArgs false
set_option linter.unusedVariables false
variable {W0 : World}

theorem take_snoc' {α : Type} {l : List α} {i : Nat} {x : α} (h : l[i]? = some x) : l.take (i + 1) = l.take i ++ [x] := by
  rw [List.take_add_one, h]; rfl
theorem upd_upd_same (h : Hp) (i : Nat) (x y : Option AObj) : upd (upd h i x) i y = upd h i y := by
  funext q; simp only [upd]; split <;> rfl
theorem upd_id {h : Hp} {i : Nat} {x : Option AObj} (e : h i = x) : upd h i x = h := by
  funext q; simp only [upd]; split
  · subst_vars; rfl
  · rfl

theorem fill3 {K : KC2} {a b : List Int} {mo : List (Int × Int)} {MO : AV} (hMO : IsRow MO (prs mo)) (hml : mo.length ≤ 140737488355328) (hr : rightM a b (-1, -1) mo = true) {m1 : Nat} {h : Hp} (n0 : Nat) {v4 v5 v6 v7 v13 : AV}
    (hK : ∀ ts loc (τ : Heap), ts.length = 186 → tmp ts 4 = v4 → tmp ts 5 = v5 → tmp ts 6 = v6 → tmp ts 7 = v7 → tmp ts 12 = .mp m1 → tmp ts 13 = v13 → n0 ≤ τ.next → τ.obj = upd h m1 (some (.map (kvM mo))) → K.k (.exit 0) ts loc τ)
    (ts : List AV) (loc : Go.Proofs.YtbmkgpocnkiibaaW.Abs.Loc) (τ : Heap) (hl : ts.length = 186) (h4 : tmp ts 4 = v4) (h5 : tmp ts 5 = v5) (h6 : tmp ts 6 = v6) (h7 : tmp ts 7 = v7) (h12 : tmp ts 12 = .mp m1) (h13 : tmp ts 13 = v13) (h45 : tmp ts 45 = MO) (h46 : tmp ts 46 = .int .i64 mo.length) (h47 : tmp ts 47 = .int .i64 0)
    (hn0 : n0 ≤ τ.next) (hτ : τ.obj = h) (f1 : h m1 = some (.map [])) : loop2I Try.prog W0 C [] F8l3 ts loc τ := by
  refine loop2I_ind cok F8l3w (m := fun i => mo.length - i) (I := fun i ts loc τ => i ≤ mo.length ∧ ts.length = 186 ∧ tmp ts 4 = v4 ∧ tmp ts 5 = v5 ∧ tmp ts 6 = v6 ∧ tmp ts 7 = v7 ∧ tmp ts 12 = .mp m1 ∧ tmp ts 13 = v13 ∧ tmp ts 45 = MO ∧ tmp ts 46 = .int .i64 mo.length ∧ tmp ts 47 = .int .i64 i ∧
    n0 ≤ τ.next ∧ τ.obj = upd h m1 (some (.map (kvM (mo.take i))))) ?_ 0 ⟨by omega, hl, h4, h5, h6, h7, h12, h13, h45, h46, by simpa using h47, hn0, by rw [hτ]; exact (upd_id f1).symm⟩
  clear hl h4 h5 h6 h7 h12 h13 h45 h46 h47 hn0 hτ ts loc τ
  rintro i ts loc τ ⟨hi, hl, h4, h5, h6, h7, h12, h13, h45, h46, h47, hn0, hτ⟩ ih'
  simp (disch := first | omega | (simp only [List.length_set]; omega)) [F8l3, hl, h4, h5, h6, h7, h12, h13, h45, h46, h47, hτ]
  by_cases hlt : i < mo.length
  · obtain ⟨p, hp⟩ : ∃ p, mo[i]? = some p := ⟨mo[i], by simp [hlt]⟩
    have hpe := prs_at hp
    have hnew : findM (mo.take i) p.1 = none := findM_none fun x hx => by have := (right_take a b mo (-1, -1) hr i p hp x hx).1; omega
    simp (disch := first | omega | (simp only [List.length_set]; omega)) [hlt, hl, h4, h5, h6, h7, h12, h13, h45, h46, h47, hτ, hMO.elems, hMO.at hpe, hpe, mfind_some, mset_new hnew, upd_upd_same]
    refine ih' (i + 1) _ _ _ (by omega) ⟨by omega, ?_⟩
    simp (disch := first | omega | (simp only [List.length_set]; omega)) [hl, h4, h5, h6, h7, h12, h13, h45, h46, h47, wrap_id, take_snoc' hp]
    omega
  · simp (disch := first | omega | (simp only [List.length_set]; omega)) [hlt, hl, h4, h5, h6, h7, h12, h13, h45, h46, h47, hτ]
    rw [List.take_of_length_le (by omega)] at hτ
    exact hK _ _ _ (by simp [hl]) (by simp (disch := first | omega | (simp only [List.length_set]; omega)) [h4]) (by simp (disch := first | omega | (simp only [List.length_set]; omega)) [h5]) (by simp (disch := first | omega | (simp only [List.length_set]; omega)) [h6]) (by simp (disch := first | omega | (simp only [List.length_set]; omega)) [h7]) (by simp (disch := first | omega | (simp only [List.length_set]; omega)) [h12]) (by simp (disch := first | omega | (simp only [List.length_set]; omega)) [h13]) (by dsimp only; omega) (by first | rfl | exact hτ | (dsimp only; rw [List.take_of_length_le (by omega)]))
theorem fill2 {K : KC2} {a b : List Int} {mo : List (Int × Int)} {MO : AV} (hMO : IsRow MO (prs mo)) (hml : mo.length ≤ 140737488355328) (hr : rightM a b (-1, -1) mo = true) {m1 : Nat} {h : Hp} (n0 : Nat) {v5 v6 v7 v12 : AV}
    (hK : ∀ ts loc (τ : Heap), ts.length = 186 → tmp ts 5 = v5 → tmp ts 6 = v6 → tmp ts 7 = v7 → tmp ts 12 = v12 → tmp ts 13 = .mp m1 → n0 ≤ τ.next → τ.obj = upd h m1 (some (.map (kvM mo))) → K.k (.exit 2) ts loc τ)
    (ts : List AV) (loc : Go.Proofs.YtbmkgpocnkiibaaW.Abs.Loc) (τ : Heap) (hl : ts.length = 186) (h5 : tmp ts 5 = v5) (h6 : tmp ts 6 = v6) (h7 : tmp ts 7 = v7) (h12 : tmp ts 12 = v12) (h13 : tmp ts 13 = .mp m1) (h57 : tmp ts 57 = MO) (h58 : tmp ts 58 = .int .i64 mo.length) (h59 : tmp ts 59 = .int .i64 0)
    (hn0 : n0 ≤ τ.next) (hτ : τ.obj = h) (f1 : h m1 = some (.map [])) : loop2I Try.prog W0 C [] F8l2 ts loc τ := by
  refine loop2I_ind cok F8l2w (m := fun i => mo.length - i) (I := fun i ts loc τ => i ≤ mo.length ∧ ts.length = 186 ∧ tmp ts 5 = v5 ∧ tmp ts 6 = v6 ∧ tmp ts 7 = v7 ∧ tmp ts 12 = v12 ∧ tmp ts 13 = .mp m1 ∧ tmp ts 57 = MO ∧ tmp ts 58 = .int .i64 mo.length ∧ tmp ts 59 = .int .i64 i ∧
    n0 ≤ τ.next ∧ τ.obj = upd h m1 (some (.map (kvM (mo.take i))))) ?_ 0 ⟨by omega, hl, h5, h6, h7, h12, h13, h57, h58, by simpa using h59, hn0, by rw [hτ]; exact (upd_id f1).symm⟩
  clear hl h5 h6 h7 h12 h13 h57 h58 h59 hn0 hτ ts loc τ
  rintro i ts loc τ ⟨hi, hl, h5, h6, h7, h12, h13, h57, h58, h59, hn0, hτ⟩ ih'
  simp (disch := first | omega | (simp only [List.length_set]; omega)) [F8l2, hl, h5, h6, h7, h12, h13, h57, h58, h59, hτ]
  by_cases hlt : i < mo.length
  · obtain ⟨p, hp⟩ : ∃ p, mo[i]? = some p := ⟨mo[i], by simp [hlt]⟩
    have hpe := prs_at hp
    have hnew : findM (mo.take i) p.1 = none := findM_none fun x hx => by have := (right_take a b mo (-1, -1) hr i p hp x hx).1; omega
    simp (disch := first | omega | (simp only [List.length_set]; omega)) [hlt, hl, h5, h6, h7, h12, h13, h57, h58, h59, hτ, hMO.elems, hMO.at hpe, hpe, mfind_some, mset_new hnew, upd_upd_same]
    refine ih' (i + 1) _ _ _ (by omega) ⟨by omega, ?_⟩
    simp (disch := first | omega | (simp only [List.length_set]; omega)) [hl, h5, h6, h7, h12, h13, h57, h58, h59, wrap_id, take_snoc' hp]
    omega
  · simp (disch := first | omega | (simp only [List.length_set]; omega)) [hlt, hl, h5, h6, h7, h12, h13, h57, h58, h59, hτ]
    rw [List.take_of_length_le (by omega)] at hτ
    exact hK _ _ _ (by simp [hl]) (by simp (disch := first | omega | (simp only [List.length_set]; omega)) [h5]) (by simp (disch := first | omega | (simp only [List.length_set]; omega)) [h6]) (by simp (disch := first | omega | (simp only [List.length_set]; omega)) [h7]) (by simp (disch := first | omega | (simp only [List.length_set]; omega)) [h12]) (by simp (disch := first | omega | (simp only [List.length_set]; omega)) [h13]) (by dsimp only; omega) (by first | rfl | exact hτ | (dsimp only; rw [List.take_of_length_le (by omega)]))
end Go.Proofs.Ytbmkgpocnkiibaa.Lt
