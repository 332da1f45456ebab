/- The closure of Plain with its pieces in a box: its walk. -/
import Derived.Test.YtgahmpfpnclefaaKp1
namespace Go.Proofs.Ytgahmpfpnclefaa.Lt
open Go.Proofs.YtgahmpfpnclefaaW.Abs Go
set_option maxRecDepth 100000
set_option maxHeartbeats 400000
set_option linter.unusedSimpArgs false
set_option linter.unusedVariables false
variable {W0 : World}

theorem walk_loopB {K : KC2} (N : Nat) (k : Int) (s : List UInt8) (nil : Bool) (kids : List T) (hk : kids.length * 48 ≤ 140737488355328) (hkids : ∀ x ∈ kids, x.ok) (lid wid : Nat) (t1 t2 : TypeId)
    (ih : ∀ x ∈ kids, ∀ (acc : List Pc) (tok n : Nat), x.ok → WOk n lid wid tok acc → (acc.length + (plain x).length) * 24 ≤ 140737488355328 →
      HCalls Try.prog W0 29 [.agg x.enc, .bp lid 0 0, .bp wid 0 0] ⟨n, wb lid wid t1 t2 tok acc⟩ (WB lid wid t1 t2 (acc ++ plain x)))
    (A : List Pc) (hb : A.length * 24 ≤ 140737488355328)
    (hK : ∀ ts loc (τ : Heap) tok, loc 0 = .box N 29 [[.int .i64 k, .str s, kidsV nil kids]] → ts.length = 38 → tmp ts 1 = .bp lid 0 0 → tmp ts 3 = .bp N 0 0 → WOk τ.next lid wid tok A → τ.obj = wb lid wid t1 t2 tok A → K.k (.exit 0) ts loc τ)
    (ts : List AV) (loc : Go.Proofs.YtgahmpfpnclefaaW.Abs.Loc) (τ : Heap) (h0 : loc 0 = .box N 29 [[.int .i64 k, .str s, kidsV nil kids]]) (hl : ts.length = 38) (h1 : tmp ts 1 = .bp lid 0 0) (h2 : tmp ts 2 = .bp wid 0 0) (h3 : tmp ts 3 = .bp N 0 0)
    (h18 : tmp ts 18 = kidsV nil kids) (h19 : tmp ts 19 = .int .i64 kids.length) (h20 : tmp ts 20 = .int .i64 0)
    (hL : ∃ acc tok, WOk τ.next lid wid tok acc ∧ τ.obj = wb lid wid t1 t2 tok acc ∧ acc ++ plainL kids = A) :
    loop2I Try.prog W0 C [(2, 7), (9, 6)] G29l0 ts loc τ := by
  refine loop2I_ind cok G29l0w (m := fun i => kids.length - i) (I := fun i ts loc τ => i ≤ kids.length ∧ (loc 0 = .box N 29 [[.int .i64 k, .str s, kidsV nil kids]]) ∧ ts.length = 38 ∧ tmp ts 1 = .bp lid 0 0 ∧ tmp ts 2 = .bp wid 0 0 ∧ tmp ts 3 = .bp N 0 0 ∧ tmp ts 18 = kidsV nil kids ∧ tmp ts 19 = .int .i64 kids.length ∧ tmp ts 20 = .int .i64 i ∧
    ∃ acc tok, WOk τ.next lid wid tok acc ∧ τ.obj = wb lid wid t1 t2 tok acc ∧ acc ++ plainL (kids.drop i) = A) ?_ 0
    ⟨by omega, h0, hl, h1, h2, h3, h18, h19, h20, by simpa using hL⟩
  clear h0 hl h1 h2 h3 h18 h19 h20 hL ts loc τ
  rintro i ts loc τ ⟨hi, h0, hl, h1, h2, h3, h18, h19, h20, acc, tok, hw, hτ, hR⟩ ih'
  simp (disch := first | omega | (simp only [List.length_set]; omega)) [G29l0, h1, h2, h3, h18, h19, h20, hl, h0]
  by_cases hlt : i < kids.length
  · obtain ⟨t, ht⟩ : ∃ t, kids[i]? = some t := ⟨kids[i], by simp [hlt]⟩
    rw [drop_at ht, plainL, ← List.append_assoc] at hR
    have hb' : (acc.length + (plain t).length) * 24 ≤ 140737488355328 := by
      rw [← hR] at hb; simp at hb; omega
    simp (disch := first | omega | (simp only [List.length_set]; omega)) [hlt, h1, h2, h3, h18, h19, h20, hl, h0, ht, kidsV_at ht, wrap_id, hτ, wb_w hw]
    refine hcallI_use (ih t (List.mem_of_getElem? ht) acc tok _ (hkids t (List.mem_of_getElem? ht)) (hw.mono (by omega)) hb') (by simp [bareL]) (fun o τ' hn' hQ => ?_)
    obtain ⟨rfl, tok2, hw2, hτ2⟩ := hQ
    simp (disch := first | omega | (simp only [List.length_set]; omega)) [hlt, h1, h2, h3, h18, h19, h20, hl, h0, wrap_id]
    refine ih' (i + 1) _ _ _ (by omega) ⟨by omega, ?_⟩
    simp (disch := first | omega | (simp only [List.length_set]; omega)) [h1, h2, h3, h18, h19, h20, hl, h0, wrap_id]
    exact ⟨_, tok2, hw2.mono (by omega), hτ2, hR⟩
  · simp (disch := first | omega | (simp only [List.length_set]; omega)) [hlt, h1, h2, h3, h18, h19, h20, hl, h0]
    have he : acc = A := by rw [List.drop_of_length_le (by omega), plainL] at hR; simpa using hR
    subst he
    exact hK _ _ _ tok h0 (by simp [hl]) (by simp (disch := first | omega | (simp only [List.length_set]; omega)) [h1]) (by simp (disch := first | omega | (simp only [List.length_set]; omega)) [h3]) (hw.mono (by dsimp only; omega)) hτ

theorem walk_endB (k : Int) (s : List UInt8) (nil : Bool) (kids : List T) (acc : List Pc) (lid wid n : Nat) (t1 t2 : TypeId) (hb : (acc.length + ((if 0 < k then [⟨k, s⟩] else []) ++ plainL kids ++ (if 4 < k then [⟨IntKind.i64.wrap (k + 1), []⟩] else []) : List Pc).length) * 24 ≤ 140737488355328) : ∀ (B : List Pc), B = acc ++ (if 0 < k then [⟨k, s⟩] else []) ++ plainL kids → ∀ (ts : List AV) (loc : Go.Proofs.YtgahmpfpnclefaaW.Abs.Loc) (τ : Heap) tok, loc 0 = .box n 29 [[.int .i64 k, .str s, kidsV nil kids]] → ts.length = 38 → tmp ts 1 = .bp lid 0 0 → tmp ts 3 = .bp n 0 0 → WOk τ.next lid wid tok B → τ.obj = wb lid wid t1 t2 tok B →
        @ev2I Try.prog W0 C [(2, 7), (9, 6)] ⟨Fin2 G29q (WB lid wid t1 t2 (acc ++ ((if 0 < k then [⟨k, s⟩] else []) ++ plainL kids ++ (if 4 < k then [⟨IntKind.i64.wrap (k + 1), []⟩] else []))))⟩ (.seq (.ops 3 [⟨0, (.some 28), .none, (.o (.s (.fa 0 (.t 3))))⟩, ⟨1, (.some 29), .none, (.lload 0 .none (.t 28))⟩, ⟨2, (.some 30), .none, (.o (.s (.bin .gtr (.t 29) (.k (.int .i64 (4))))))⟩]) (.cond (.t 30) (.ops 8 [⟨0, (.some 31), .none,
    (.o (.s (.load .none (.t 1))))⟩, ⟨1, (.some 32), .none, (.o (.s (.fa 0 (.t 3))))⟩, ⟨2, (.some 33), .none, (.lload 0 .none (.t 32))⟩, ⟨3, (.some 34), .none,
    (.o (.s (.bin .add (.t 33) (.k (.int .i64 (1))))))⟩, ⟨4, (.some 35), .none, (.o (.s (.build [(.int .i64 (0)), (.str [])] [(0, (1, (.t 34)))])))⟩, ⟨5, (.some 36),
    .none, (.lbsl 2 43 2 1 [(.int .i64 (0)), (.str [])] [(0, (.t 35))] .false)⟩, ⟨6, (.some 37), .none, (.o (.s (.grow 43 2 24 (.t 31) (.t 36))))⟩, ⟨7, .none,
    .none, (.o (.s (.store 1 (.t 1) (.t 37))))⟩]) .skip)) ts loc τ := by
  intro B hB ts loc τ tok h0 hl h1 h3 hw1 hτ
  simp (disch := first | omega | (simp only [List.length_set]; omega)) [h0, hl, h1, h3, hτ]
  by_cases h4 : 4 < k
  · have hb4 : (B.length + 1) * 24 ≤ 140737488355328 := by
      rw [hB]; simp [h4] at hb ⊢; omega
    have g := fun ts hx hy => wb_push hw1 t1 t2 ⟨IntKind.i64.wrap (k + 1), []⟩ (id := τ.next + 3 + 6) (ts := ts) (x := .t 31) (y := .t 36) hb4 hx hy
    have p1 := wg_l hw1 t1 t2 ⟨IntKind.i64.wrap (k + 1), []⟩ (id := τ.next + 3 + 6) (by omega)
    have p2 := wg_upd hw1 t1 t2 ⟨IntKind.i64.wrap (k + 1), []⟩ (id := τ.next + 3 + 6) (by omega)
    simp (disch := first | omega | (simp only [List.length_set]; omega)) [h4, h0, hl, h1, h3, hτ]
    refine andI_intro (g _ ?_ ?_).1 ?_
    · simp (disch := first | omega | (simp only [List.length_set]; omega)) [hl]
    · simp (disch := first | omega | (simp only [List.length_set]; omega)) [hl]
    dsimp only
    rw [(g _ ?_ ?_).2.1, (g _ ?_ ?_).2.2]
    · simp (disch := first | omega | (simp only [List.length_set]; omega)) [h4, h0, hl, h1, h3, hτ, p1, p2]
      have hw2 := hw1.push (id := τ.next + 3 + 6) (m := τ.next + 3 + 8) ⟨IntKind.i64.wrap (k + 1), []⟩ (by omega) (by omega)
      refine ⟨rfl, τ.next + 3 + 6, ?_, ?_⟩
      · rw [hB] at hw2; simpa using hw2
      · rw [hB]; simp
    all_goals simp (disch := first | omega | (simp only [List.length_set]; omega)) [hl]
  · simp (disch := first | omega | (simp only [List.length_set]; omega)) [h4, h0, hl, h1, h3, hτ]
    exact ⟨rfl, tok, by rw [hB] at hw1; simpa using hw1.mono (by omega), by rw [hB]; simp⟩

theorem walk_specB : ∀ (t : T), t.ok → ∀ (acc : List Pc) (lid wid tok n : Nat) (t1 t2 : TypeId), WOk n lid wid tok acc → (acc.length + (plain t).length) * 24 ≤ 140737488355328 →
    HCalls Try.prog W0 29 [.agg t.enc, .bp lid 0 0, .bp wid 0 0] ⟨n, wb lid wid t1 t2 tok acc⟩ (WB lid wid t1 t2 (acc ++ plain t))
  | .mk k s nil kids, hok => by
    obtain ⟨hs, hk, hkids⟩ := T.ok_mk.1 hok
    intro acc lid wid tok n t1 t2 hw hb
    have ih : ∀ x ∈ kids, ∀ (acc : List Pc) (tok n : Nat), x.ok → WOk n lid wid tok acc → (acc.length + (plain x).length) * 24 ≤ 140737488355328 →
      HCalls Try.prog W0 29 [.agg x.enc, .bp lid 0 0, .bp wid 0 0] ⟨n, wb lid wid t1 t2 tok acc⟩ (WB lid wid t1 t2 (acc ++ plain x)) := fun x hx acc tok n hx' hw' hb' => walk_specB x hx' acc lid wid tok n t1 t2 hw' hb'
    refine hcalls cok Try.func29 G29d G29e G29c G29w G29r ?_
    refine ev2I_intro ?_
    rw [plain] at hb ⊢
    simp [G29s, T.enc_mk]
    refine condI_dec (fun hk0 => ?_) (fun hk0 => ?_)
    · have hb1 := (walk_bd hb).1 hk0
      have hb2 : ((acc ++ [(⟨k, s⟩ : Pc)]) ++ plainL kids).length * 24 ≤ 140737488355328 := by have h := (walk_bd hb).2; rw [if_pos hk0] at h; exact h
      have hw2 : ∀ m, n + 1 + 3 + 7 < m → WOk m lid wid (n + 1 + 3 + 7) (acc ++ [⟨k, s⟩]) := fun m hm => hw.push _ (by omega) hm
      have g := fun ts hx hy => wb_push hw t1 t2 ⟨k, s⟩ (id := n + 1 + 3 + 7) (ts := ts) (x := .t 9) (y := .t 15) hb1 hx hy
      have p1 := wg_l hw t1 t2 ⟨k, s⟩ (id := n + 1 + 3 + 7) (by omega)
      have p2 := wg_upd hw t1 t2 ⟨k, s⟩ (id := n + 1 + 3 + 7) (by omega)
      simp
      refine andI_intro (g _ ?_ ?_).1 ?_
      · simp
      · simp
      dsimp only
      rw [(g _ ?_ ?_).2.1, (g _ ?_ ?_).2.2]
      · simp [p1, p2]
        refine walk_loopB n k s nil kids hk hkids lid wid t1 t2 ih _ hb2 ?_ _ _ _ (by simp) (by simp) (by simp) (by simp) (by simp) (by simp) (by simp) (by simp)
          ⟨acc ++ [(⟨k, s⟩ : Pc)], _, hw2 _ (by clear p1 p2 hb hb1 hb2 hw hw2 ih; dsimp only; omega), rfl, rfl⟩
        intro ts loc τ tok2 q1 q2 q3 q4 q5 q6
        have hfin := walk_endB (W0 := W0) k s nil kids acc lid wid n t1 t2 hb _ (by simp [hk0]) ts loc τ tok2 q1 q2 q3 q4 q5 q6
        exact hfin
      all_goals simp
    · have hb2 : (acc ++ plainL kids).length * 24 ≤ 140737488355328 := by have h := (walk_bd hb).2; rw [if_neg hk0, List.append_nil] at h; exact h
      simp
      refine walk_loopB n k s nil kids hk hkids lid wid t1 t2 ih _ hb2 ?_ _ _ _ (by simp) (by simp) (by simp) (by simp) (by simp) (by simp) (by simp) (by simp)
        ⟨acc, tok, hw.mono (by dsimp only; omega), rfl, rfl⟩
      intro ts loc τ tok2 q1 q2 q3 q4 q5 q6
      have hfin := walk_endB (W0 := W0) k s nil kids acc lid wid n t1 t2 hb _ (by simp [hk0]) ts loc τ tok2 q1 q2 q3 q4 q5 q6
      exact hfin
termination_by t => SizeOf.sizeOf t
decreasing_by
  have := List.sizeOf_lt_of_mem hx
  simp; omega

end Go.Proofs.Ytgahmpfpnclefaa.Lt
