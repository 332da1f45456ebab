import Derived.Test.YtoeonamjbohokaaDa
import Derived.Test.YtoeonamjbohokaaA21
/- A document's pieces; documents joined. -/
namespace Go.Proofs.Ytoeonamjbohokaa.Lt
open Go.Proofs.YtoeonamjbohokaaW.Abs Go
set_option maxRecDepth 100000
set_option maxHeartbeats 400000
set_option linter.unusedSimpArgs false
set_option linter.unusedVariables false
variable {W0 : World}

mutual
def plain : T → List Pc
  | .mk k s _ kids => (if 0 < k then [⟨k, s⟩] else []) ++ plainL kids ++ (if 4 < k then [⟨IntKind.i64.wrap (k + 1), []⟩] else [])
def plainL : List T → List Pc
  | [] => []
  | t :: r => plain t ++ plainL r
end

/-- the list that grows, in its box, and the closure in its own, and nothing else -/
def wh (lid wid : Nat) (t1 t2 : TypeId) (te : Option TypeId) (tok : Nat) (acc : List Pc) : Hp := fun i =>
  if i = lid then some (.box t1 [[accV (acc.map Pc.enc) tok]]) else if i = wid then some (.box t2 [[.fn (.func 35) [] [.bp lid 0 0, .bp wid 0 0]]])
  else if acc ≠ [] ∧ i = tok then some (.tail te 2) else none
structure WOk (n lid wid tok : Nat) (acc : List Pc) : Prop where
  l : lid < n
  w : wid < n
  ne : lid ≠ wid
  tk : acc ≠ [] → tok < n ∧ tok ≠ lid ∧ tok ≠ wid
theorem WOk.mono {n m lid wid tok : Nat} {acc : List Pc} (h : WOk n lid wid tok acc) (hm : n ≤ m) : WOk m lid wid tok acc :=
  ⟨Nat.lt_of_lt_of_le h.l hm, Nat.lt_of_lt_of_le h.w hm, h.ne, fun q => by have := h.tk q; exact ⟨by omega, this.2⟩⟩
@[simp] theorem wh_l (lid wid : Nat) (t1 t2 : TypeId) (te : Option TypeId) (tok : Nat) (acc : List Pc) : wh lid wid t1 t2 te tok acc lid = some (.box t1 [[accV (acc.map Pc.enc) tok]]) := by simp [wh]
theorem wh_w {n lid wid tok : Nat} {acc : List Pc} (h : WOk n lid wid tok acc) (t1 t2 : TypeId) (te : Option TypeId) : wh lid wid t1 t2 te tok acc wid = some (.box t2 [[.fn (.func 35) [] [.bp lid 0 0, .bp wid 0 0]]]) := by
  simp [wh, h.ne.symm]
theorem wh_t {n lid wid tok : Nat} {acc : List Pc} (h : WOk n lid wid tok acc) (t1 t2 : TypeId) (te : Option TypeId) (hne : acc ≠ []) : wh lid wid t1 t2 te tok acc tok = some (.tail te 2) := by
  have := h.tk hne
  simp [wh, this.2.1, this.2.2, hne]
theorem wh_acc {n lid wid tok : Nat} {acc : List Pc} (h : WOk n lid wid tok acc) (t1 t2 : TypeId) (te : Option TypeId) : AccOk (wh lid wid t1 t2 te tok acc) 2 tok (acc.map Pc.enc) := by
  intro hne
  rw [wh_t h t1 t2 te (by simpa using hne)]; rfl
theorem wh_push {n lid wid tok : Nat} {acc : List Pc} (h : WOk n lid wid tok acc) (t1 t2 ty : TypeId) (te : Option TypeId) (p : Pc) {id : Nat} (hid : n ≤ id) {e : List AV} (he : e = p.enc) :
    accHeap id ty 2 (wh lid wid t1 t2 te tok acc) [e] (acc.map Pc.enc) tok lid = some (.box t1 [[accV (acc.map Pc.enc) tok]]) ∧
    ∃ te', upd (accHeap id ty 2 (wh lid wid t1 t2 te tok acc) [e] (acc.map Pc.enc) tok) lid (some (.box t1 [[accV (acc.map Pc.enc ++ [e]) id]])) = wh lid wid t1 t2 te' id (acc ++ [p]) := by
  subst he
  have h1 := h.l; have h2 := h.w
  refine ⟨by rw [accHeap_ne (by omega) (fun q => (h.tk (by simpa using q)).2.1.symm)]; simp, ?_⟩
  refine ⟨if acc = [] then some ty else tailTy ty (some (.tail te 2)), ?_⟩
  funext i
  by_cases h0 : i = lid
  · subst h0; simp
  · rw [upd_ne h0]
    by_cases hac : acc = []
    · subst hac
      simp only [accHeap, List.map_nil, if_true, List.nil_append]
      by_cases h3 : i = id
      · subst h3; simp [wh, h0, show i ≠ wid by omega]
      · simp [upd_ne h3, wh, h0, h3]
    · have h4 := h.tk hac
      have h5 : acc.map Pc.enc ≠ [] := by simpa using hac
      simp only [accHeap, h5, if_false, hac]
      by_cases h3 : i = id
      · subst h3
        rw [upd_same, wh_t h t1 t2 te hac]
        simp [wh, h0, show i ≠ wid by omega]
      · rw [upd_ne h3]
        by_cases h6 : i = tok
        · subst h6; simp [wh, h4.2.1, h4.2.2, h3]
        · simp [upd_ne h6, wh, h0, h3, h6]
theorem WOk.push {n lid wid tok id m : Nat} {acc : List Pc} (h : WOk n lid wid tok acc) (p : Pc) (hid : n ≤ id) (hm : id < m) : WOk m lid wid id (acc ++ [p]) := by
  have h1 := h.l; have h2 := h.w
  exact ⟨by omega, by omega, h.ne, fun _ => by omega⟩

abbrev WR (lid wid : Nat) (t1 t2 : TypeId) (acc : List Pc) : AOut → Heap → Prop := fun o τ' => o = .ret (.tup []) ∧ ∃ te tok, WOk τ'.next lid wid tok acc ∧ τ'.obj = wh lid wid t1 t2 te tok acc

theorem walk_loop {K : KC2} (N : Nat) (k : Int) (s : List UInt8) (nil : Bool) (kids : List T) (hk : kids.length * 48 ≤ 140737488355328) (hkids : ∀ x ∈ kids, x.ok) (lid wid : Nat) (t1 t2 : TypeId)
    (ih : ∀ x ∈ kids, ∀ (acc : List Pc) (tok n : Nat) (te : Option TypeId), x.ok → WOk n lid wid tok acc → (acc.length + (plain x).length) * 24 ≤ 140737488355328 →
      HCalls Try.prog W0 35 [.agg x.enc, .bp lid 0 0, .bp wid 0 0] ⟨n, wh lid wid t1 t2 te tok acc⟩ (WR lid wid t1 t2 (acc ++ plain x)))
    (A : List Pc) (hb : A.length * 24 ≤ 140737488355328)
    (hK : ∀ ts loc (τ : Heap) te tok, loc 0 = .box N 34 [[.int .i64 k, .str s, kidsV nil kids]] → ts.length = 38 → tmp ts 1 = .bp lid 0 0 → tmp ts 3 = .bp N 0 0 → WOk τ.next lid wid tok A → τ.obj = wh lid wid t1 t2 te tok A → K.k (.exit 0) ts loc τ)
    (ts : List AV) (loc : Go.Proofs.YtoeonamjbohokaaW.Abs.Loc) (τ : Heap) (h0 : loc 0 = .box N 34 [[.int .i64 k, .str s, kidsV nil kids]]) (hl : ts.length = 38) (h1 : tmp ts 1 = .bp lid 0 0) (h2 : tmp ts 2 = .bp wid 0 0) (h3 : tmp ts 3 = .bp N 0 0)
    (h18 : tmp ts 18 = kidsV nil kids) (h19 : tmp ts 19 = .int .i64 kids.length) (h20 : tmp ts 20 = .int .i64 0)
    (hL : ∃ acc te tok, WOk τ.next lid wid tok acc ∧ τ.obj = wh lid wid t1 t2 te tok acc ∧ acc ++ plainL kids = A) :
    loop2I Try.prog W0 C [] F35l0 ts loc τ := by
  refine loop2I_ind cok F35l0w (m := fun i => kids.length - i) (I := fun i ts loc τ => i ≤ kids.length ∧ (loc 0 = .box N 34 [[.int .i64 k, .str s, kidsV nil kids]]) ∧ ts.length = 38 ∧ tmp ts 1 = .bp lid 0 0 ∧ tmp ts 2 = .bp wid 0 0 ∧ tmp ts 3 = .bp N 0 0 ∧ tmp ts 18 = kidsV nil kids ∧ tmp ts 19 = .int .i64 kids.length ∧ tmp ts 20 = .int .i64 i ∧
    ∃ acc te tok, WOk τ.next lid wid tok acc ∧ τ.obj = wh lid wid t1 t2 te tok acc ∧ acc ++ plainL (kids.drop i) = A) ?_ 0
    ⟨by omega, h0, hl, h1, h2, h3, h18, h19, h20, by simpa using hL⟩
  clear h0 hl h1 h2 h3 h18 h19 h20 hL ts loc τ
  rintro i ts loc τ ⟨hi, h0, hl, h1, h2, h3, h18, h19, h20, acc, te, tok, hw, hτ, hR⟩ ih'
  simp (disch := first | omega | (simp only [List.length_set]; omega)) [F35l0, h1, h2, h3, h18, h19, h20, hl, h0]
  by_cases hlt : i < kids.length
  · obtain ⟨t, ht⟩ : ∃ t, kids[i]? = some t := ⟨kids[i], by simp [hlt]⟩
    rw [drop_at ht, plainL, ← List.append_assoc] at hR
    have hb' : (acc.length + (plain t).length) * 24 ≤ 140737488355328 := by
      rw [← hR] at hb; simp at hb; omega
    simp (disch := first | omega | (simp only [List.length_set]; omega)) [hlt, h1, h2, h3, h18, h19, h20, hl, h0, ht, kidsV_at ht, wrap_id, hτ, wh_w hw]
    refine hcallI_use (ih t (List.mem_of_getElem? ht) acc tok _ te (hkids t (List.mem_of_getElem? ht)) (hw.mono (by omega)) hb') (by simp [bareL]) (fun o τ' hn' hQ => ?_)
    obtain ⟨rfl, te2, tok2, hw2, hτ2⟩ := hQ
    simp (disch := first | omega | (simp only [List.length_set]; omega)) [hlt, h1, h2, h3, h18, h19, h20, hl, h0, wrap_id]
    refine ih' (i + 1) _ _ _ (by omega) ⟨by omega, ?_⟩
    simp (disch := first | omega | (simp only [List.length_set]; omega)) [h1, h2, h3, h18, h19, h20, hl, h0, wrap_id]
    exact ⟨_, te2, tok2, hw2.mono (by omega), hτ2, hR⟩
  · simp (disch := first | omega | (simp only [List.length_set]; omega)) [hlt, h1, h2, h3, h18, h19, h20, hl, h0]
    have he : acc = A := by rw [List.drop_of_length_le (by omega), plainL] at hR; simpa using hR
    subst he
    exact hK _ _ _ te tok h0 (by simp [hl]) (by simp (disch := first | omega | (simp only [List.length_set]; omega)) [h1]) (by simp (disch := first | omega | (simp only [List.length_set]; omega)) [h3]) (hw.mono (by dsimp only; omega)) hτ

theorem walk_bd {k : Int} {s : List UInt8} {acc m : List Pc} {m2 : List Pc} (hb : (acc.length + ((if 0 < k then [(⟨k, s⟩ : Pc)] else []) ++ m ++ m2 : List Pc).length) * 24 ≤ 140737488355328) : (0 < k → (acc.length + 1) * 24 ≤ 140737488355328) ∧ (acc ++ (if 0 < k then [(⟨k, s⟩ : Pc)] else []) ++ m).length * 24 ≤ 140737488355328 := by
  simp only [List.length_append] at hb ⊢
  refine ⟨fun h => ?_, by omega⟩
  rw [if_pos h] at hb
  simp only [List.length_cons, List.length_nil] at hb
  omega
theorem walk_end (k : Int) (s : List UInt8) (nil : Bool) (kids : List T) (acc : List Pc) (lid wid n : Nat) (t1 t2 : TypeId) (hb : (acc.length + ((if 0 < k then [⟨k, s⟩] else []) ++ plainL kids ++ (if 4 < k then [⟨IntKind.i64.wrap (k + 1), []⟩] else []) : List Pc).length) * 24 ≤ 140737488355328) : ∀ (B : List Pc), B = acc ++ (if 0 < k then [⟨k, s⟩] else []) ++ plainL kids → ∀ (ts : List AV) (loc : Go.Proofs.YtoeonamjbohokaaW.Abs.Loc) (τ : Heap) te tok, loc 0 = .box n 34 [[.int .i64 k, .str s, kidsV nil kids]] → ts.length = 38 → tmp ts 1 = .bp lid 0 0 → tmp ts 3 = .bp n 0 0 → WOk τ.next lid wid tok B → τ.obj = wh lid wid t1 t2 te tok B →
        @ev2I Try.prog W0 C [] ⟨Fin2 F35q (WR lid wid t1 t2 (acc ++ ((if 0 < k then [⟨k, s⟩] else []) ++ plainL kids ++ (if 4 < k then [⟨IntKind.i64.wrap (k + 1), []⟩] else []))))⟩ (.seq (.ops 3 [⟨0, (.some 28), .none, (.o (.s (.fa 0 (.t 3))))⟩, ⟨1, (.some 29), .none, (.lload 0 .none (.t 28))⟩, ⟨2, (.some 30), .none, (.o (.s (.bin .gtr (.t 29) (.k (.int .i64 (4))))))⟩]) (.cond (.t 30) (.ops 8 [⟨0, (.some 31), .none,
    (.o (.s (.load .none (.t 1))))⟩, ⟨1, (.some 32), .none, (.o (.s (.fa 0 (.t 3))))⟩, ⟨2, (.some 33), .none, (.lload 0 .none (.t 32))⟩, ⟨3, (.some 34), .none,
    (.o (.s (.bin .add (.t 33) (.k (.int .i64 (1))))))⟩, ⟨4, (.some 35), .none, (.o (.s (.build [(.int .i64 (0)), (.str [])] [(0, (1, (.t 34)))])))⟩, ⟨5, (.some 36),
    .none, (.lbsl 2 45 2 1 [(.int .i64 (0)), (.str [])] [(0, (.t 35))] .false)⟩, ⟨6, (.some 37), .none, (.o (.s (.app 45 2 24 (.t 31) (.t 36))))⟩, ⟨7, .none,
    .none, (.o (.s (.store 1 (.t 1) (.t 37))))⟩]) .skip)) ts loc τ := by
  intro B hB ts loc τ te tok h0 hl h1 h3 hw1 hτ
  simp (disch := first | omega | (simp only [List.length_set]; omega)) [h0, hl, h1, h3, hτ]
  by_cases h4 : 4 < k
  · have hb4 : (B.length + 1) * 24 ≤ 140737488355328 := by
      rw [hB]; simp [h4] at hb ⊢; omega
    obtain ⟨p1, te', p2⟩ := wh_push hw1 t1 t2 45 te ⟨IntKind.i64.wrap (k + 1), []⟩ (id := τ.next + 3 + 6) (by omega) (e := [.int .i64 (IntKind.i64.wrap (k + 1)), .str []]) rfl
    simp (disch := first | omega | (simp only [List.length_set]; omega)) [h4, h0, hl, h1, h3, hτ]
    refine andI_intro ?_ ?_
    · rw [appOk_acc (wh_acc hw1 t1 t2 te)]; simp at hb4 ⊢; omega
    simp (disch := first | omega | (simp only [List.length_set]; omega)) [h4, h0, hl, h1, h3, hτ, p1, p2]
    have hw2 := hw1.push (id := τ.next + 3 + 6) (m := τ.next + 3 + 8) ⟨IntKind.i64.wrap (k + 1), []⟩ (by omega) (by omega)
    refine ⟨rfl, te', τ.next + 3 + 6, ?_, ?_⟩
    · rw [hB] at hw2; simpa using hw2
    · rw [hB]; simp
  · simp (disch := first | omega | (simp only [List.length_set]; omega)) [h4, h0, hl, h1, h3, hτ]
    exact ⟨rfl, te, tok, by rw [hB] at hw1; simpa using hw1.mono (by omega), by rw [hB]; simp⟩

theorem walk_spec : ∀ (t : T), t.ok → ∀ (acc : List Pc) (lid wid tok n : Nat) (t1 t2 : TypeId) (te : Option TypeId), WOk n lid wid tok acc → (acc.length + (plain t).length) * 24 ≤ 140737488355328 →
    HCalls Try.prog W0 35 [.agg t.enc, .bp lid 0 0, .bp wid 0 0] ⟨n, wh lid wid t1 t2 te tok acc⟩ (WR lid wid t1 t2 (acc ++ plain t))
  | .mk k s nil kids, hok => by
    obtain ⟨hs, hk, hkids⟩ := T.ok_mk.1 hok
    intro acc lid wid tok n t1 t2 te hw hb
    have ih : ∀ x ∈ kids, ∀ (acc : List Pc) (tok n : Nat) (te : Option TypeId), x.ok → WOk n lid wid tok acc → (acc.length + (plain x).length) * 24 ≤ 140737488355328 →
      HCalls Try.prog W0 35 [.agg x.enc, .bp lid 0 0, .bp wid 0 0] ⟨n, wh lid wid t1 t2 te tok acc⟩ (WR lid wid t1 t2 (acc ++ plain x)) := fun x hx acc tok n te hx' hw' hb' => walk_spec x hx' acc lid wid tok n t1 t2 te hw' hb'
    refine hcalls cok Try.func35 F35d F35e F35c F35w F35r ?_
    refine ev2I_intro ?_
    rw [plain] at hb ⊢
    simp [F35s, T.enc_mk]
    refine condI_dec (fun hk0 => ?_) (fun hk0 => ?_)
    · have hb1 := (walk_bd hb).1 hk0
      have hb2 : ((acc ++ [(⟨k, s⟩ : Pc)]) ++ plainL kids).length * 24 ≤ 140737488355328 := by have h := (walk_bd hb).2; rw [if_pos hk0] at h; exact h
      have hw2 : ∀ m, n + 1 + 3 + 7 < m → WOk m lid wid (n + 1 + 3 + 7) (acc ++ [⟨k, s⟩]) := fun m hm => hw.push _ (by omega) hm
      obtain ⟨p1, te', p2⟩ := wh_push hw t1 t2 45 te ⟨k, s⟩ (id := n + 1 + 3 + 7) (by omega) (e := [.int .i64 k, .str s]) rfl
      simp
      refine andI_intro ?_ ?_
      · rw [appOk_acc (wh_acc hw t1 t2 te)]; clear p1 p2 hb hb2 ih; simp; omega
      simp [p1, p2]
      refine walk_loop n k s nil kids hk hkids lid wid t1 t2 ih _ hb2 ?_ _ _ _ (by simp) (by simp) (by simp) (by simp) (by simp) (by simp) (by simp) (by simp)
        ⟨acc ++ [(⟨k, s⟩ : Pc)], te', _, hw2 _ (by clear p1 p2 hb hb1 hb2 hw hw2 ih; dsimp only; omega), rfl, rfl⟩
      intro ts loc τ te2 tok2 q1 q2 q3 q4 q5 q6
      have hfin := walk_end (W0 := W0) k s nil kids acc lid wid n t1 t2 hb _ (by simp [hk0]) ts loc τ te2 tok2 q1 q2 q3 q4 q5 q6
      exact hfin
    · have hb2 : (acc ++ plainL kids).length * 24 ≤ 140737488355328 := by have h := (walk_bd hb).2; rw [if_neg hk0, List.append_nil] at h; exact h
      simp
      refine walk_loop n k s nil kids hk hkids lid wid t1 t2 ih _ hb2 ?_ _ _ _ (by simp) (by simp) (by simp) (by simp) (by simp) (by simp) (by simp) (by simp)
        ⟨acc, te, tok, hw.mono (by dsimp only; omega), rfl, rfl⟩
      intro ts loc τ te2 tok2 q1 q2 q3 q4 q5 q6
      have hfin := walk_end (W0 := W0) k s nil kids acc lid wid n t1 t2 hb _ (by simp [hk0]) ts loc τ te2 tok2 q1 q2 q3 q4 q5 q6
      exact hfin
termination_by t => SizeOf.sizeOf t
decreasing_by
  have := List.sizeOf_lt_of_mem hx
  simp; omega

theorem plain_spec (t : T) (hok : t.ok) (hb : (plain t).length * 24 ≤ 140737488355328) : PCall Try.prog W0 18 [.agg t.enc] (rowV ((plain t).map Pc.enc)) := by
  refine pcall2 cok Try.func18 F18d F18e F18c F18w F18r (fun N => ?_)
  refine ev2I_intro ?_
  obtain ⟨k, s, nil, kids⟩ := t
  simp [F18s, T.enc_mk, upd_ne]
  have hh : ∀ t1 t2, upd (upd (fun _ => none) (N + 2) (some (AObj.box t1 [[AV.nils]]))) (N + 3) (some (AObj.box t2 [[AV.fn (Fn.func 35) [] [AV.bp (N + 2) 0 0, AV.bp (N + 3) 0 0]]])) = wh (N + 2) (N + 3) t1 t2 none 0 [] := fun t1 t2 => by
    funext i
    simp only [upd, wh]
    by_cases h1 : i = N + 3
    · subst h1; simp
    · by_cases h2 : i = N + 2
      · subst h2; simp
      · simp [h1, h2]
  rw [hh]
  refine hcallI_use (walk_spec (.mk k s nil kids) hok [] (N + 2) (N + 3) 0 _ _ _ none ⟨by omega, by omega, by omega, fun h => absurd rfl h⟩ (by simpa using hb)) (by simp [T.enc_mk]) (fun o τ' hn hQ => ?_)
  obtain ⟨rfl, te, tok, hw, hτ⟩ := hQ
  simp [hτ]
end Go.Proofs.Ytoeonamjbohokaa.Lt

/- A document's flat text; documents joined; pieces compared. -/
namespace Go.Proofs.Ytoeonamjbohokaa.Lt
open Go.Proofs.YtoeonamjbohokaaW.Abs Go
set_option maxRecDepth 100000
set_option maxHeartbeats 1000000
set_option linter.unusedSimpArgs false
set_option linter.unusedVariables false
variable {W0 : World}

def flatOf : List Pc → List UInt8 → List UInt8 × Bool
  | [], s => (s, true)
  | p :: r, s => if p.k = 4 then ([], false) else flatOf r (if p.k = 1 then s ++ p.s else if p.k = 2 then s ++ [32] else s)
/-- how long a flat text may be -/
def wid : List Pc → Nat
  | [] => 0
  | p :: r => p.s.length + 1 + wid r

theorem dflat_spec (t : T) (hok : t.ok) (hb : (plain t).length * 24 ≤ 140737488355328) (hw : wid (plain t) ≤ 140737488355328) : PCall Try.prog W0 24 [.agg t.enc] (.tup [.str (flatOf (plain t) []).1, .bool (flatOf (plain t) []).2]) := by
  have hp := plain_spec (W0 := W0) t hok hb
  obtain ⟨k, s, nil, kids⟩ := t
  generalize plain (.mk k s nil kids) = l at hb hw hp ⊢
  refine pcall2 cok Try.func24 F24d F24e F24c F24w F24r (fun N => ?_)
  refine ev2I_intro ?_
  simp [F24s, T.enc_mk]
  refine hcallI_pure hp (by simp [T.enc_mk]) (fun M hM => ?_)
  simp
  have hM' : N + 3 + 1 + 4 ≤ M := hM
  have hh : ∀ ty, upd (fun _ => none) (N + 3) (some (AObj.box ty [[AV.nilp, AV.nils]])) = bh (N + 3) ty [] .nilp 0 [] := fun ty => by
    funext i
    by_cases h1 : i = N + 3
    · subst h1; simp; rfl
    · simp [upd, bh, h1]
  rw [hh]
  have hty : (64, ([] : List AV).length + 2) ∈ [(63, 2), (64, 2), (65, 5), (66, 5)] := by decide
  refine loop2I_ind cok F24l0w (m := fun i => l.length - i) (I := fun i ts loc τ => i ≤ l.length ∧ ts.length = 28 ∧ tmp ts 4 = .bp (N + 3) 0 0 ∧ tmp ts 8 = rowV (l.map Pc.enc) ∧ tmp ts 9 = .int .i64 l.length ∧ tmp ts 10 = .int .i64 i ∧
    ∃ a tok s, BOk τ.next (N + 3) a tok s ∧ τ.obj = bh (N + 3) 64 [] a tok s ∧ s.length + wid (l.drop i) ≤ 140737488355328 ∧ flatOf (l.drop i) s = flatOf l []) ?_ 0 ?_
  · rintro i ts loc τ ⟨hi, hl, h4, h8, h9, h10, a, tok, s, hB, hτ, hw, hs⟩ ih'
    simp (disch := first | omega | (simp only [List.length_set]; omega)) [F24l0, h4, h8, h9, h10, hl]
    by_cases hlt : i < l.length
    · obtain ⟨p, hp⟩ : ∃ p, l[i]? = some p := ⟨l[i], by simp [hlt]⟩
      have hpe : (l.map Pc.enc)[i]? = some p.enc := by simp [hp]
      rw [drop_at hp] at hs hw
      rw [flatOf] at hs
      rw [wid] at hw
      obtain ⟨pk, ps⟩ := p
      dsimp only at hs hw
      simp (disch := first | omega | (simp only [List.length_set]; omega)) [hlt, h4, h8, h9, h10, hl, hp, rowV_at hpe]
      by_cases hk1 : pk = 1
      · subst hk1
        simp at hs
        simp (disch := first | omega | (simp only [List.length_set]; omega)) [hlt, h4, h8, h9, h10, hl, hτ]
        refine hcallI_use (writeString_spec (hB.mono (by omega)) hty ps (by omega)) (by simp [bareL]) (fun o τ' hn hQ => ?_)
        obtain ⟨rfl, tok', hB', hτ'⟩ := hQ
        simp (disch := first | omega | (simp only [List.length_set]; omega)) [hlt, h4, h8, h9, h10, hl]
        refine ih' (i + 1) _ _ _ (by omega) ⟨by omega, ?_⟩
        simp (disch := first | omega | (simp only [List.length_set]; omega)) [h4, h8, h9, h10, hl, wrap_id]
        exact ⟨_, tok', s ++ ps, hB'.mono (by omega), hτ', by simp; omega, hs⟩
      · by_cases hk2 : pk = 2
        · subst hk2
          simp at hs
          simp (disch := first | omega | (simp only [List.length_set]; omega)) [hlt, h4, h8, h9, h10, hl, hτ]
          refine hcallI_use (writeByte_spec (hB.mono (by omega)) hty 32 (by omega)) (by simp [bareL]) (fun o τ' hn hQ => ?_)
          obtain ⟨rfl, tok', hB', hτ'⟩ := hQ
          simp (disch := first | omega | (simp only [List.length_set]; omega)) [hlt, h4, h8, h9, h10, hl]
          refine ih' (i + 1) _ _ _ (by omega) ⟨by omega, ?_⟩
          simp (disch := first | omega | (simp only [List.length_set]; omega)) [h4, h8, h9, h10, hl, wrap_id]
          exact ⟨_, tok', s ++ [32], hB'.mono (by omega), hτ', by simp; omega, hs⟩
        · by_cases hk4 : pk = 4
          · subst hk4
            simp at hs
            simp (disch := first | omega | (simp only [List.length_set]; omega)) [hlt, h4, h8, h9, h10, hl]
            simp [← hs]
          · simp [hk1, hk2, hk4] at hs
            simp (disch := first | omega | (simp only [List.length_set]; omega)) [hlt, h4, h8, h9, h10, hl, hk1, hk2, hk4]
            refine ih' (i + 1) _ _ _ (by omega) ⟨by omega, ?_⟩
            simp (disch := first | omega | (simp only [List.length_set]; omega)) [h4, h8, h9, h10, hl, wrap_id]
            exact ⟨_, tok, s, hB.mono (by omega), hτ, by omega, hs⟩
    · simp (disch := first | omega | (simp only [List.length_set]; omega)) [hlt, h4, h8, h9, h10, hl, hτ]
      rw [List.drop_of_length_le (by omega)] at hs hw
      rw [flatOf] at hs
      refine hcallI_use (string_spec (hB.mono (by omega)) (by omega)) (by simp) (fun o τ' hn hQ => ?_)
      obtain ⟨rfl, hτ'⟩ := hQ
      simp (disch := first | omega | (simp only [List.length_set]; omega)) [h4, h8, h9, h10, hl]
      simp [← hs]
  · simp
    exact ⟨.nilp, 0, [], ⟨by omega, .inl rfl, fun h => absurd rfl h⟩, rfl, by simpa using hw, rfl⟩

def between (by' : T) : List T → List T
  | [] => []
  | t :: r => by' :: t :: between by' r
def joined (by' : T) : List T → List T
  | [] => []
  | t :: r => t :: between by' r

end Go.Proofs.Ytoeonamjbohokaa.Lt

/- A plan that came in. -/
namespace Go.Proofs.Ytoeonamjbohokaa.Lt
open Go.Proofs.YtoeonamjbohokaaW.Abs Go
set_option maxRecDepth 100000
set_option linter.unusedSimpArgs false
set_option linter.unusedVariables false

/-- the types that hold a plan: it is named and it is what it stands for -/
def isPlan (t : TypeId) : Prop := Try.prog.underlying t = Try.prog.underlying 27 ∧ Try.prog.cellsOf t = 3

theorem agg3 {H : Type} {W : World} {enc : TypeId × Value → H} {t : TypeId} (hp : isPlan t) (fuel : Nat) {cs : List Value} {d : DataW H} {ps : List MemPlace} (h : DataW.trod enc Try.prog W 0 (fun _ => true) true fuel t cs = some (d, ps)) :
    ∃ c0 c1 c2 d0 d1 d2 p0 p1 p2 n, fuel = n + 1 ∧ cs = [c0, c1, c2] ∧ d = .agg [d0, d1, d2] ∧ DataW.trod enc Try.prog W 0 (fun _ => true) true n 3 [c0] = some (d0, p0) ∧ DataW.trod enc Try.prog W 0 (fun _ => true) true n 9 [c1] = some (d1, p1) ∧ DataW.trod enc Try.prog W 0 (fun _ => true) true n 25 [c2] = some (d2, p2) := by
  have hu := hp.1.trans Try.underlying27
  obtain ⟨xs, n, hf, hx, hl, hlen, hfs⟩ := DataW.trod_struct hu h
  rw [hp.2] at hl
  match cs, hl with
  | [c0, c1, c2], _ =>
    match xs, hlen with
    | [y0, y1, y2], _ =>
      have e3 : Try.prog.cellsOf 3 = 1 := by kernel_rfl
      have e9 : Try.prog.cellsOf 9 = 1 := by kernel_rfl
      have e22 : Try.prog.cellsOf 25 = 1 := by kernel_rfl
      have h0 := hfs 0 _ rfl
      have h1 := hfs 1 _ rfl
      have h2 := hfs 2 _ rfl
      cases hx
      refine ⟨c0, c1, c2, y0.1, y1.1, y2.1, y0.2, y1.2, y2.2, n, hf, rfl, rfl, ?_, ?_, ?_⟩
      · simpa [e3] using h0
      · simpa [e9] using h1
      · simpa [e22] using h2

theorem rd_T {H : Type} {W : World} {enc : TypeId × Value → H} : ∀ (fuel : Nat) (t : TypeId), isPlan t → ∀ (cs : List Value) (d : DataW H) (ps : List MemPlace), DataW.trod enc Try.prog W 0 (fun _ => true) true fuel t cs = some (d, ps) →
    ∃ x : T, Reps (inE W) x.enc cs ∧ ((∀ n ∈ d.weights Try.prog t, n ≤ reachBytes) → x.ok) := by
  intro fuel
  induction fuel using Nat.strongRecOn with
  | _ fuel ih =>
    intro t hp cs d ps h
    obtain ⟨c0, c1, c2, d0, d1, d2, p0, p1, p2, n, rfl, rfl, rfl, h0, h1, h2⟩ := agg3 hp fuel h
    obtain ⟨k, e0, rfl, _⟩ := inInt Try.underlying3 h0
    cases e0
    obtain ⟨s, e1, rfl⟩ := inString Try.underlying9 h1
    cases e1
    have hu := hp.1.trans Try.underlying27
    have hw : ∀ m ∈ DataW.weights Try.prog t (.agg [DataW.lit (.int .i64 k), .lit (.string s), d2] : DataW H), m ∈ DataW.weights Try.prog t (.agg [DataW.lit (.int .i64 k), .lit (.string s), d2] : DataW H) := fun m hm => hm
    have he22 := Try.underlying25
    have hc24 : Try.prog.cellsOf 27 = 3 := by kernel_rfl
    have hpe : isPlan 27 := ⟨rfl, hc24⟩
    have hb : Try.prog.bytesOf 27 = 48 := by kernel_rfl
    rcases inSlice he22 (by rw [hpe.2]; decide) h2 (Q := fun x di => ∃ y : T, x = y.enc ∧ ((∀ n ∈ di.weights Try.prog 27, n ≤ reachBytes) → y.ok)) (fun m hm cs d ps hh => by
      obtain ⟨y, hy, hok⟩ := ih m (by omega) 27 hpe cs d ps hh
      exact ⟨y.enc, hy, by simp, y, rfl, hok⟩) with ⟨e2, rfl⟩ | ⟨a, cap, elems, rest, es, e2, rfl, hlen, hrow, hel⟩
    · cases e2
      refine ⟨.mk k s true [], ?_, fun hw => T.ok_mk.2 ⟨?_, by simp, by simp⟩⟩
      · rw [T.enc_mk]; exact .cons (.int _ _) (.cons (.str _) (.cons .nils .nil))
      · have := hw s.length (by simp [DataW.weights, hu, Try.underlying27, DataW.weightsEach])
        simp [reachBytes] at this; omega
    · cases e2
      obtain ⟨ys, hyl, hys⟩ := list_of (R := fun i (y : T) => ∃ di, es[i]? = some y.enc ∧ elems[i]? = some di ∧ ((∀ n ∈ di.weights Try.prog 27, n ≤ reachBytes) → y.ok)) es.length (fun i hi => by
        obtain ⟨di, hdi, y, hy, hok⟩ := hel i es[i] (List.getElem?_eq_getElem hi)
        exact ⟨y, di, by rw [List.getElem?_eq_getElem hi, hy], hdi, hok⟩)
      have hes : es = ys.map T.enc := by
        apply List.ext_getElem?
        intro i
        rw [List.getElem?_map]
        rcases Nat.lt_or_ge i ys.length with hi | hi
        · obtain ⟨di, h1, _, _⟩ := hys i ys[i] (List.getElem?_eq_getElem hi)
          rw [h1, List.getElem?_eq_getElem hi]; rfl
        · rw [List.getElem?_eq_none hi, List.getElem?_eq_none (by omega)]; rfl
      refine ⟨.mk k s false ys, ?_, fun hw => T.ok_mk.2 ⟨?_, ?_, fun y hy => ?_⟩⟩
      · rw [T.enc_mk, kidsV_false, ← hes]; exact .cons (.int _ _) (.cons (.str _) (.cons hrow .nil))
      · have := hw s.length (by simp [DataW.weights, hu, Try.underlying27, DataW.weightsEach])
        simp [reachBytes] at this; omega
      · have := hw ((elems.length + rest.length) * Try.prog.bytesOf 27) (by simp [DataW.weights, hu, Try.underlying27, DataW.weightsEach, he22])
        rw [hb] at this
        simp [reachBytes] at this; omega
      · obtain ⟨i, hi⟩ := List.mem_iff_getElem?.1 hy
        obtain ⟨di, _, h4, h5⟩ := hys i y hi
        refine h5 fun n hn => hw n ?_
        have hall : ∀ (l : List (DataW H)) (i : Nat), l[i]? = some di → n ∈ DataW.weightsAll Try.prog 27 l := by
          intro l
          induction l with
          | nil => intro i h; simp at h
          | cons x r ihr =>
            intro i h
            cases i with
            | zero => simp at h; subst h; simp [DataW.weightsAll, hn]
            | succ j => simp [DataW.weightsAll, ihr j (by simpa using h)]
        simp [DataW.weights, hu, Try.underlying27, DataW.weightsEach, he22, hall elems i h4]
end Go.Proofs.Ytoeonamjbohokaa.Lt
