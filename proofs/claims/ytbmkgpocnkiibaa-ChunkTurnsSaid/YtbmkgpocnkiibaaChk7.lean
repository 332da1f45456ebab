/- What lies between two runs: the closure of chunk.Of. -/
import Derived.Test.YtbmkgpocnkiibaaChk6
namespace Go.Proofs.Ytbmkgpocnkiibaa.Lt
open Go.Proofs.YtbmkgpocnkiibaaW.Abs Go
set_option maxRecDepth 100000
set_option maxHeartbeats 2000000
set_option linter.unusedSimpArgs false
set_option linter.unusedVariables false
variable {W0 : World}

structure Ck where
  s : Int
  b0 : Nat
  b1 : Nat
  o0 : Nat
  o1 : Nat
  t0 : Nat
  t1 : Nat
  deriving DecidableEq
def Ck.enc (c : Ck) : List AV := [.int .i64 c.s, .int .i64 c.b0, .int .i64 c.b1, .int .i64 c.o0, .int .i64 c.o1, .int .i64 c.t0, .int .i64 c.t1]
def betw (b o t : List Int) (x y z i j k : Nat) : List Ck :=
  if x = i ∧ y = j ∧ z = k then [] else [⟨sortOf (cut b x i) (cut o y j) (cut t z k), x, i, y, j, z, k⟩]

theorem between_spec {l a ib io it tok : Nat} {ta tl tb to tt : TypeId} {τ : Heap} {b o t : List Int} {B O T : AV} (hB : IsRow B (ints b)) (hO : IsRow O (ints o)) (hT : IsRow T (ints t)) (ea : List Ck) {x y z i j k : Nat}
    (hx : x ≤ i) (hi : i ≤ b.length) (hy : y ≤ j) (hj : j ≤ o.length) (hz : z ≤ k) (hk : k ≤ t.length) (hlb : b.length ≤ 1000000) (hlo : o.length ≤ 1000000) (hlt : t.length ≤ 1000000)
    (fl : τ.obj l = some (.box tl [[accV (ea.map Ck.enc) tok]])) (fa : τ.obj a = some (.box ta [[.int .i64 x, .int .i64 y, .int .i64 z]]))
    (fb : τ.obj ib = some (.box tb [[B]])) (fo : τ.obj io = some (.box to [[O]])) (ft : τ.obj it = some (.box tt [[T]])) (hacc : AccOk τ.obj 7 tok (ea.map Ck.enc))
    (bl : l < τ.next) (ba : a < τ.next) (bb : ib < τ.next) (bo : io < τ.next) (bt : it < τ.next) (hal : a ≠ l) (btok : ea ≠ [] → tok < τ.next) (hea : ea.length ≤ 10000000) :
    HCalls Try.prog W0 16 [.int .i64 i, .int .i64 j, .int .i64 k, .bp a 0 0, .bp l 0 0, .bp ib 0 0, .bp io 0 0, .bp it 0 0] τ (fun r τ' => r = .ret (.tup []) ∧ ∃ tok',
      τ'.obj l = some (.box tl [[accV ((ea ++ betw b o t x y z i j k).map Ck.enc) tok']]) ∧ τ'.obj a = some (.box ta [[.int .i64 i, .int .i64 j, .int .i64 k]]) ∧ AccOk τ'.obj 7 tok' ((ea ++ betw b o t x y z i j k).map Ck.enc) ∧
      (ea ++ betw b o t x y z i j k ≠ [] → tok' < τ'.next) ∧ ∀ q v, q < τ.next → q ≠ a → q ≠ l → τ.obj q = some v → (∀ ty s, v ≠ .tail ty s) → τ'.obj q = some v) := by
  refine hcalls cok Try.func16 F16d F16e F16c F16w F16r ?_
  refine ev2I_intro ?_
  simp (disch := first | omega | (simp only [List.length_set]; omega)) [F16s, fl, fa, fb, fo, ft]
  by_cases h : x = i ∧ y = j ∧ z = k
  · obtain ⟨rfl, rfl, rfl⟩ := h
    have hE : betw b o t x y z x y z = [] := by unfold betw; rw [if_pos ⟨rfl, rfl, rfl⟩]
    have atok : ea ≠ [] → tok ≠ a := fun hne e => by
      have := hacc (by simpa using hne); rw [e, fa] at this; exact this
    rw [hE]
    simp (disch := first | omega | (simp only [List.length_set]; omega)) [fl, fa, fb, fo, ft]
    refine ⟨tok, by rw [upd_ne hal.symm]; exact fl, hacc.upd (fun hne => atok (by simpa using hne)) _, fun hne => by have := btok hne; omega, fun q v h0 h1 h2 h3 h4 => by rw [upd_ne h1]; exact h3⟩
  have hh : x ≠ i ∨ (x = i ∧ y ≠ j) ∨ (x = i ∧ y = j ∧ z ≠ k) := by omega
  have hE : betw b o t x y z i j k = [⟨sortOf (cut b x i) (cut o y j) (cut t z k), x, i, y, j, z, k⟩] := by unfold betw; rw [if_neg h]
  rw [hE]
  rcases hh with h1 | ⟨rfl, h1⟩ | ⟨rfl, rfl, h1⟩
  all_goals
    have h9 := mt Int.ofNat_inj.1 h1
    simp (disch := first | omega | (simp only [List.length_set]; omega)) [h9, fl, fa, fb, fo, ft]
    repeat (first | (refine andI_intro (by omega) ?_) | simp (disch := first | omega | (simp only [List.length_set]; omega)) [h9, fl, fa, fb, fo, ft])
    refine pcallI_pure' (sorted_spec b o t 0 _ _ _ _ _ _ hB hO hT hx hi hy hj hz hk hlo hlb) (by simp [bareL, hB.same (ints_bare _), hO.same (ints_bare _), hT.same (ints_bare _)]) ?_
    repeat (first | (refine andI_intro (by omega) ?_) | simp (disch := first | omega | (simp only [List.length_set]; omega)) [h9, fl, fa, fb, fo, ft])
    refine andI_intro (by rw [appOk_acc hacc]; simp; omega) ?_
    repeat (first | (refine andI_intro (by omega) ?_) | simp (disch := first | omega | (simp only [List.length_set]; omega)) [h9, fl, fa, fb, fo, ft])
    refine andI_intro (by cases ea with | nil => simp | cons c r => have := btok (by simp); simp [accV]; omega) ?_
    repeat (first | (refine andI_intro (by omega) ?_) | simp (disch := first | omega | (simp only [List.length_set]; omega)) [h9, fl, fa, fb, fo, ft])
    have atok : ea ≠ [] → tok ≠ a := fun hne e => by
      have := hacc (by simpa using hne); rw [e, fa] at this; exact this
    have ltok : ea ≠ [] → tok ≠ l := fun hne e => by
      have := hacc (by simpa using hne); rw [e, fl] at this; exact this
    have p1 : ∀ (id : Nat) (ty : TypeId) (ns : List (List AV)), τ.next ≤ id → accHeap id ty 7 τ.obj ns (ea.map Ck.enc) tok l = some (.box tl [[accV (ea.map Ck.enc) tok]]) := fun id ty ns hid => by
      rw [accHeap_ne (by omega) (fun hne => (ltok (by simpa using hne)).symm)]; exact fl
    have p2 : ∀ (id : Nat) (ty : TypeId) (ns : List (List AV)), τ.next ≤ id → accHeap id ty 7 τ.obj ns (ea.map Ck.enc) tok a = some (.box ta [[.int .i64 x, .int .i64 y, .int .i64 z]]) := fun id ty ns hid => by
      rw [accHeap_ne (by omega) (fun hne => (atok (by simpa using hne)).symm)]; exact fa
    repeat (first | (refine andI_intro (by omega) ?_) | simp (disch := first | omega | (simp only [List.length_set]; omega)) [p1, p2, upd_ne, hal, hal.symm])
    intro m hm
    refine ⟨τ.next + 15 + 12 + 7, rfl, ?_, by omega, fun q v q0 q1 q2 q3 q4 => ?_⟩
    · refine (AccOk.upd (AccOk.upd (accHeap_ok _ _ _ _ _ _ _) (fun _ => by omega) _) (fun _ => by omega) _)
    · rw [upd_ne q1, upd_ne q2, accHeap_ne]
      · exact q3
      · omega
      · intro hne e
        have h0 := hacc hne
        rw [← e, q3] at h0
        cases v with
        | tail ty s => exact q4 ty s rfl
        | _ => exact h0
end Go.Proofs.Ytbmkgpocnkiibaa.Lt
