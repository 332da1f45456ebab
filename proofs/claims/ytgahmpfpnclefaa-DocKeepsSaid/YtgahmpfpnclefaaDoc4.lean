/- A document's pieces; documents joined. -/
import Derived.Test.YtgahmpfpnclefaaDoc3
namespace Go.Proofs.Ytgahmpfpnclefaa.Lt
open Go.Proofs.YtgahmpfpnclefaaW.Abs Go
set_option maxRecDepth 100000
set_option maxHeartbeats 400000
set_option linter.unusedSimpArgs false
set_option linter.unusedVariables false
variable {W0 : World}

mutual
def plain : T → List Pc
  | .mk k s _ kids => (if 0 < k then [⟨k, s⟩] else []) ++ plainL kids ++ (if 4 < k then [⟨IntKind.i64.wrap (k + 1), []⟩] else [])
def plainL : List T → List Pc
  | [] => []
  | t :: r => plain t ++ plainL r
end

/-- the list that grows, in its box, and the closure in its own, and nothing else -/
def wh (lid wid : Nat) (t1 t2 : TypeId) (te : Option TypeId) (tok : Nat) (acc : List Pc) : Hp := fun i =>
  if i = lid then some (.box t1 [[accV (acc.map Pc.enc) tok]]) else if i = wid then some (.box t2 [[.fn (.func 29) [] [.bp lid 0 0, .bp wid 0 0]]])
  else if acc ≠ [] ∧ i = tok then some (.tail te 2) else none
structure WOk (n lid wid tok : Nat) (acc : List Pc) : Prop where
  l : lid < n
  w : wid < n
  ne : lid ≠ wid
  tk : acc ≠ [] → tok < n ∧ tok ≠ lid ∧ tok ≠ wid
theorem WOk.mono {n m lid wid tok : Nat} {acc : List Pc} (h : WOk n lid wid tok acc) (hm : n ≤ m) : WOk m lid wid tok acc :=
  ⟨Nat.lt_of_lt_of_le h.l hm, Nat.lt_of_lt_of_le h.w hm, h.ne, fun q => by have := h.tk q; exact ⟨by omega, this.2⟩⟩
@[simp] theorem wh_l (lid wid : Nat) (t1 t2 : TypeId) (te : Option TypeId) (tok : Nat) (acc : List Pc) : wh lid wid t1 t2 te tok acc lid = some (.box t1 [[accV (acc.map Pc.enc) tok]]) := by simp [wh]
theorem wh_w {n lid wid tok : Nat} {acc : List Pc} (h : WOk n lid wid tok acc) (t1 t2 : TypeId) (te : Option TypeId) : wh lid wid t1 t2 te tok acc wid = some (.box t2 [[.fn (.func 29) [] [.bp lid 0 0, .bp wid 0 0]]]) := by
  simp [wh, h.ne.symm]
theorem wh_t {n lid wid tok : Nat} {acc : List Pc} (h : WOk n lid wid tok acc) (t1 t2 : TypeId) (te : Option TypeId) (hne : acc ≠ []) : wh lid wid t1 t2 te tok acc tok = some (.tail te 2) := by
  have := h.tk hne
  simp [wh, this.2.1, this.2.2, hne]
theorem wh_acc {n lid wid tok : Nat} {acc : List Pc} (h : WOk n lid wid tok acc) (t1 t2 : TypeId) (te : Option TypeId) : AccOk (wh lid wid t1 t2 te tok acc) 2 tok (acc.map Pc.enc) := by
  intro hne
  rw [wh_t h t1 t2 te (by simpa using hne)]; rfl
theorem wh_push {n lid wid tok : Nat} {acc : List Pc} (h : WOk n lid wid tok acc) (t1 t2 ty : TypeId) (te : Option TypeId) (p : Pc) {id : Nat} (hid : n ≤ id) {e : List AV} (he : e = p.enc) :
    accHeap id ty 2 (wh lid wid t1 t2 te tok acc) [e] (acc.map Pc.enc) tok lid = some (.box t1 [[accV (acc.map Pc.enc) tok]]) ∧
    ∃ te', upd (accHeap id ty 2 (wh lid wid t1 t2 te tok acc) [e] (acc.map Pc.enc) tok) lid (some (.box t1 [[accV (acc.map Pc.enc ++ [e]) id]])) = wh lid wid t1 t2 te' id (acc ++ [p]) := by
  subst he
  have h1 := h.l; have h2 := h.w
  refine ⟨by rw [accHeap_ne (by omega) (fun q => (h.tk (by simpa using q)).2.1.symm)]; simp, ?_⟩
  refine ⟨if acc = [] then some ty else tailTy ty (some (.tail te 2)), ?_⟩
  funext i
  by_cases h0 : i = lid
  · subst h0; simp
  · rw [upd_ne h0]
    by_cases hac : acc = []
    · subst hac
      simp only [accHeap, List.map_nil, if_true, List.nil_append]
      by_cases h3 : i = id
      · subst h3; simp [wh, h0, show i ≠ wid by omega]
      · simp [upd_ne h3, wh, h0, h3]
    · have h4 := h.tk hac
      have h5 : acc.map Pc.enc ≠ [] := by simpa using hac
      simp only [accHeap, h5, if_false, hac]
      by_cases h3 : i = id
      · subst h3
        rw [upd_same, wh_t h t1 t2 te hac]
        simp [wh, h0, show i ≠ wid by omega]
      · rw [upd_ne h3]
        by_cases h6 : i = tok
        · subst h6; simp [wh, h4.2.1, h4.2.2, h3]
        · simp [upd_ne h6, wh, h0, h3, h6]
theorem WOk.push {n lid wid tok id m : Nat} {acc : List Pc} (h : WOk n lid wid tok acc) (p : Pc) (hid : n ≤ id) (hm : id < m) : WOk m lid wid id (acc ++ [p]) := by
  have h1 := h.l; have h2 := h.w
  exact ⟨by omega, by omega, h.ne, fun _ => by omega⟩

abbrev WR (lid wid : Nat) (t1 t2 : TypeId) (acc : List Pc) : AOut → Heap → Prop := fun o τ' => o = .ret (.tup []) ∧ ∃ te tok, WOk τ'.next lid wid tok acc ∧ τ'.obj = wh lid wid t1 t2 te tok acc

theorem walk_loop {K : KC2} (N : Nat) (k : Int) (s : List UInt8) (nil : Bool) (kids : List T) (hk : kids.length * 48 ≤ 140737488355328) (hkids : ∀ x ∈ kids, x.ok) (lid wid : Nat) (t1 t2 : TypeId)
    (ih : ∀ x ∈ kids, ∀ (acc : List Pc) (tok n : Nat) (te : Option TypeId), x.ok → WOk n lid wid tok acc → (acc.length + (plain x).length) * 24 ≤ 140737488355328 →
      HCalls Try.prog W0 29 [.agg x.enc, .bp lid 0 0, .bp wid 0 0] ⟨n, wh lid wid t1 t2 te tok acc⟩ (WR lid wid t1 t2 (acc ++ plain x)))
    (A : List Pc) (hb : A.length * 24 ≤ 140737488355328)
    (hK : ∀ ts loc (τ : Heap) te tok, loc 0 = .box N 29 [[.int .i64 k, .str s, kidsV nil kids]] → ts.length = 38 → tmp ts 1 = .bp lid 0 0 → tmp ts 3 = .bp N 0 0 → WOk τ.next lid wid tok A → τ.obj = wh lid wid t1 t2 te tok A → K.k (.exit 0) ts loc τ)
    (ts : List AV) (loc : Go.Proofs.YtgahmpfpnclefaaW.Abs.Loc) (τ : Heap) (h0 : loc 0 = .box N 29 [[.int .i64 k, .str s, kidsV nil kids]]) (hl : ts.length = 38) (h1 : tmp ts 1 = .bp lid 0 0) (h2 : tmp ts 2 = .bp wid 0 0) (h3 : tmp ts 3 = .bp N 0 0)
    (h18 : tmp ts 18 = kidsV nil kids) (h19 : tmp ts 19 = .int .i64 kids.length) (h20 : tmp ts 20 = .int .i64 0)
    (hL : ∃ acc te tok, WOk τ.next lid wid tok acc ∧ τ.obj = wh lid wid t1 t2 te tok acc ∧ acc ++ plainL kids = A) :
    loop2I Try.prog W0 C [] F29l0 ts loc τ := by
  refine loop2I_ind cok F29l0w (m := fun i => kids.length - i) (I := fun i ts loc τ => i ≤ kids.length ∧ (loc 0 = .box N 29 [[.int .i64 k, .str s, kidsV nil kids]]) ∧ ts.length = 38 ∧ tmp ts 1 = .bp lid 0 0 ∧ tmp ts 2 = .bp wid 0 0 ∧ tmp ts 3 = .bp N 0 0 ∧ tmp ts 18 = kidsV nil kids ∧ tmp ts 19 = .int .i64 kids.length ∧ tmp ts 20 = .int .i64 i ∧
    ∃ acc te tok, WOk τ.next lid wid tok acc ∧ τ.obj = wh lid wid t1 t2 te tok acc ∧ acc ++ plainL (kids.drop i) = A) ?_ 0
    ⟨by omega, h0, hl, h1, h2, h3, h18, h19, h20, by simpa using hL⟩
  clear h0 hl h1 h2 h3 h18 h19 h20 hL ts loc τ
  rintro i ts loc τ ⟨hi, h0, hl, h1, h2, h3, h18, h19, h20, acc, te, tok, hw, hτ, hR⟩ ih'
  simp (disch := first | omega | (simp only [List.length_set]; omega)) [F29l0, h1, h2, h3, h18, h19, h20, hl, h0]
  by_cases hlt : i < kids.length
  · obtain ⟨t, ht⟩ : ∃ t, kids[i]? = some t := ⟨kids[i], by simp [hlt]⟩
    rw [drop_at ht, plainL, ← List.append_assoc] at hR
    have hb' : (acc.length + (plain t).length) * 24 ≤ 140737488355328 := by
      rw [← hR] at hb; simp at hb; omega
    simp (disch := first | omega | (simp only [List.length_set]; omega)) [hlt, h1, h2, h3, h18, h19, h20, hl, h0, ht, kidsV_at ht, wrap_id, hτ, wh_w hw]
    refine hcallI_use (ih t (List.mem_of_getElem? ht) acc tok _ te (hkids t (List.mem_of_getElem? ht)) (hw.mono (by omega)) hb') (by simp [bareL]) (fun o τ' hn' hQ => ?_)
    obtain ⟨rfl, te2, tok2, hw2, hτ2⟩ := hQ
    simp (disch := first | omega | (simp only [List.length_set]; omega)) [hlt, h1, h2, h3, h18, h19, h20, hl, h0, wrap_id]
    refine ih' (i + 1) _ _ _ (by omega) ⟨by omega, ?_⟩
    simp (disch := first | omega | (simp only [List.length_set]; omega)) [h1, h2, h3, h18, h19, h20, hl, h0, wrap_id]
    exact ⟨_, te2, tok2, hw2.mono (by omega), hτ2, hR⟩
  · simp (disch := first | omega | (simp only [List.length_set]; omega)) [hlt, h1, h2, h3, h18, h19, h20, hl, h0]
    have he : acc = A := by rw [List.drop_of_length_le (by omega), plainL] at hR; simpa using hR
    subst he
    exact hK _ _ _ te tok h0 (by simp [hl]) (by simp (disch := first | omega | (simp only [List.length_set]; omega)) [h1]) (by simp (disch := first | omega | (simp only [List.length_set]; omega)) [h3]) (hw.mono (by dsimp only; omega)) hτ

theorem walk_bd {k : Int} {s : List UInt8} {acc m : List Pc} {m2 : List Pc} (hb : (acc.length + ((if 0 < k then [(⟨k, s⟩ : Pc)] else []) ++ m ++ m2 : List Pc).length) * 24 ≤ 140737488355328) : (0 < k → (acc.length + 1) * 24 ≤ 140737488355328) ∧ (acc ++ (if 0 < k then [(⟨k, s⟩ : Pc)] else []) ++ m).length * 24 ≤ 140737488355328 := by
  simp only [List.length_append] at hb ⊢
  refine ⟨fun h => ?_, by omega⟩
  rw [if_pos h] at hb
  simp only [List.length_cons, List.length_nil] at hb
  omega
theorem walk_end (k : Int) (s : List UInt8) (nil : Bool) (kids : List T) (acc : List Pc) (lid wid n : Nat) (t1 t2 : TypeId) (hb : (acc.length + ((if 0 < k then [⟨k, s⟩] else []) ++ plainL kids ++ (if 4 < k then [⟨IntKind.i64.wrap (k + 1), []⟩] else []) : List Pc).length) * 24 ≤ 140737488355328) : ∀ (B : List Pc), B = acc ++ (if 0 < k then [⟨k, s⟩] else []) ++ plainL kids → ∀ (ts : List AV) (loc : Go.Proofs.YtgahmpfpnclefaaW.Abs.Loc) (τ : Heap) te tok, loc 0 = .box n 29 [[.int .i64 k, .str s, kidsV nil kids]] → ts.length = 38 → tmp ts 1 = .bp lid 0 0 → tmp ts 3 = .bp n 0 0 → WOk τ.next lid wid tok B → τ.obj = wh lid wid t1 t2 te tok B →
        @ev2I Try.prog W0 C [] ⟨Fin2 F29q (WR lid wid t1 t2 (acc ++ ((if 0 < k then [⟨k, s⟩] else []) ++ plainL kids ++ (if 4 < k then [⟨IntKind.i64.wrap (k + 1), []⟩] else []))))⟩ (.seq (.ops 3 [⟨0, (.some 28), .none, (.o (.s (.fa 0 (.t 3))))⟩, ⟨1, (.some 29), .none, (.lload 0 .none (.t 28))⟩, ⟨2, (.some 30), .none, (.o (.s (.bin .gtr (.t 29) (.k (.int .i64 (4))))))⟩]) (.cond (.t 30) (.ops 8 [⟨0, (.some 31), .none,
    (.o (.s (.load .none (.t 1))))⟩, ⟨1, (.some 32), .none, (.o (.s (.fa 0 (.t 3))))⟩, ⟨2, (.some 33), .none, (.lload 0 .none (.t 32))⟩, ⟨3, (.some 34), .none,
    (.o (.s (.bin .add (.t 33) (.k (.int .i64 (1))))))⟩, ⟨4, (.some 35), .none, (.o (.s (.build [(.int .i64 (0)), (.str [])] [(0, (1, (.t 34)))])))⟩, ⟨5, (.some 36),
    .none, (.lbsl 2 43 2 1 [(.int .i64 (0)), (.str [])] [(0, (.t 35))] .false)⟩, ⟨6, (.some 37), .none, (.o (.s (.app 43 2 24 (.t 31) (.t 36))))⟩, ⟨7, .none,
    .none, (.o (.s (.store 1 (.t 1) (.t 37))))⟩]) .skip)) ts loc τ := by
  intro B hB ts loc τ te tok h0 hl h1 h3 hw1 hτ
  simp (disch := first | omega | (simp only [List.length_set]; omega)) [h0, hl, h1, h3, hτ]
  by_cases h4 : 4 < k
  · have hb4 : (B.length + 1) * 24 ≤ 140737488355328 := by
      rw [hB]; simp [h4] at hb ⊢; omega
    obtain ⟨p1, te', p2⟩ := wh_push hw1 t1 t2 43 te ⟨IntKind.i64.wrap (k + 1), []⟩ (id := τ.next + 3 + 6) (by omega) (e := [.int .i64 (IntKind.i64.wrap (k + 1)), .str []]) rfl
    simp (disch := first | omega | (simp only [List.length_set]; omega)) [h4, h0, hl, h1, h3, hτ]
    refine andI_intro ?_ ?_
    · rw [appOk_acc (wh_acc hw1 t1 t2 te)]; simp at hb4 ⊢; omega
    simp (disch := first | omega | (simp only [List.length_set]; omega)) [h4, h0, hl, h1, h3, hτ, p1, p2]
    have hw2 := hw1.push (id := τ.next + 3 + 6) (m := τ.next + 3 + 8) ⟨IntKind.i64.wrap (k + 1), []⟩ (by omega) (by omega)
    refine ⟨rfl, te', τ.next + 3 + 6, ?_, ?_⟩
    · rw [hB] at hw2; simpa using hw2
    · rw [hB]; simp
  · simp (disch := first | omega | (simp only [List.length_set]; omega)) [h4, h0, hl, h1, h3, hτ]
    exact ⟨rfl, te, tok, by rw [hB] at hw1; simpa using hw1.mono (by omega), by rw [hB]; simp⟩

theorem walk_spec : ∀ (t : T), t.ok → ∀ (acc : List Pc) (lid wid tok n : Nat) (t1 t2 : TypeId) (te : Option TypeId), WOk n lid wid tok acc → (acc.length + (plain t).length) * 24 ≤ 140737488355328 →
    HCalls Try.prog W0 29 [.agg t.enc, .bp lid 0 0, .bp wid 0 0] ⟨n, wh lid wid t1 t2 te tok acc⟩ (WR lid wid t1 t2 (acc ++ plain t))
  | .mk k s nil kids, hok => by
    obtain ⟨hs, hk, hkids⟩ := T.ok_mk.1 hok
    intro acc lid wid tok n t1 t2 te hw hb
    have ih : ∀ x ∈ kids, ∀ (acc : List Pc) (tok n : Nat) (te : Option TypeId), x.ok → WOk n lid wid tok acc → (acc.length + (plain x).length) * 24 ≤ 140737488355328 →
      HCalls Try.prog W0 29 [.agg x.enc, .bp lid 0 0, .bp wid 0 0] ⟨n, wh lid wid t1 t2 te tok acc⟩ (WR lid wid t1 t2 (acc ++ plain x)) := fun x hx acc tok n te hx' hw' hb' => walk_spec x hx' acc lid wid tok n t1 t2 te hw' hb'
    refine hcalls cok Try.func29 F29d F29e F29c F29w F29r ?_
    refine ev2I_intro ?_
    rw [plain] at hb ⊢
    simp [F29s, T.enc_mk]
    refine condI_dec (fun hk0 => ?_) (fun hk0 => ?_)
    · have hb1 := (walk_bd hb).1 hk0
      have hb2 : ((acc ++ [(⟨k, s⟩ : Pc)]) ++ plainL kids).length * 24 ≤ 140737488355328 := by have h := (walk_bd hb).2; rw [if_pos hk0] at h; exact h
      have hw2 : ∀ m, n + 1 + 3 + 7 < m → WOk m lid wid (n + 1 + 3 + 7) (acc ++ [⟨k, s⟩]) := fun m hm => hw.push _ (by omega) hm
      obtain ⟨p1, te', p2⟩ := wh_push hw t1 t2 43 te ⟨k, s⟩ (id := n + 1 + 3 + 7) (by omega) (e := [.int .i64 k, .str s]) rfl
      simp
      refine andI_intro ?_ ?_
      · rw [appOk_acc (wh_acc hw t1 t2 te)]; clear p1 p2 hb hb2 ih; simp; omega
      simp [p1, p2]
      refine walk_loop n k s nil kids hk hkids lid wid t1 t2 ih _ hb2 ?_ _ _ _ (by simp) (by simp) (by simp) (by simp) (by simp) (by simp) (by simp) (by simp)
        ⟨acc ++ [(⟨k, s⟩ : Pc)], te', _, hw2 _ (by clear p1 p2 hb hb1 hb2 hw hw2 ih; dsimp only; omega), rfl, rfl⟩
      intro ts loc τ te2 tok2 q1 q2 q3 q4 q5 q6
      have hfin := walk_end (W0 := W0) k s nil kids acc lid wid n t1 t2 hb _ (by simp [hk0]) ts loc τ te2 tok2 q1 q2 q3 q4 q5 q6
      exact hfin
    · have hb2 : (acc ++ plainL kids).length * 24 ≤ 140737488355328 := by have h := (walk_bd hb).2; rw [if_neg hk0, List.append_nil] at h; exact h
      simp
      refine walk_loop n k s nil kids hk hkids lid wid t1 t2 ih _ hb2 ?_ _ _ _ (by simp) (by simp) (by simp) (by simp) (by simp) (by simp) (by simp) (by simp)
        ⟨acc, te, tok, hw.mono (by dsimp only; omega), rfl, rfl⟩
      intro ts loc τ te2 tok2 q1 q2 q3 q4 q5 q6
      have hfin := walk_end (W0 := W0) k s nil kids acc lid wid n t1 t2 hb _ (by simp [hk0]) ts loc τ te2 tok2 q1 q2 q3 q4 q5 q6
      exact hfin
termination_by t => SizeOf.sizeOf t
decreasing_by
  have := List.sizeOf_lt_of_mem hx
  simp; omega

theorem plain_spec (t : T) (hok : t.ok) (hb : (plain t).length * 24 ≤ 140737488355328) : PCall Try.prog W0 15 [.agg t.enc] (rowV ((plain t).map Pc.enc)) := by
  refine pcall2 cok Try.func15 F15d F15e F15c F15w F15r (fun N => ?_)
  refine ev2I_intro ?_
  obtain ⟨k, s, nil, kids⟩ := t
  simp [F15s, T.enc_mk, upd_ne]
  have hh : ∀ t1 t2, upd (upd (fun _ => none) (N + 2) (some (AObj.box t1 [[AV.nils]]))) (N + 3) (some (AObj.box t2 [[AV.fn (Fn.func 29) [] [AV.bp (N + 2) 0 0, AV.bp (N + 3) 0 0]]])) = wh (N + 2) (N + 3) t1 t2 none 0 [] := fun t1 t2 => by
    funext i
    simp only [upd, wh]
    by_cases h1 : i = N + 3
    · subst h1; simp
    · by_cases h2 : i = N + 2
      · subst h2; simp
      · simp [h1, h2]
  rw [hh]
  refine hcallI_use (walk_spec (.mk k s nil kids) hok [] (N + 2) (N + 3) 0 _ _ _ none ⟨by omega, by omega, by omega, fun h => absurd rfl h⟩ (by simpa using hb)) (by simp [T.enc_mk]) (fun o τ' hn hQ => ?_)
  obtain ⟨rfl, te, tok, hw, hτ⟩ := hQ
  simp [hτ]
end Go.Proofs.Ytgahmpfpnclefaa.Lt
