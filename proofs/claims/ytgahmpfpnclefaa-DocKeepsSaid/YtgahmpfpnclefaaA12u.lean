/- What strings.Builder is made of: a row's first byte, a string that shares a row's bytes, pointers without a type. -/
import Derived.Test.YtgahmpfpnclefaaA12m
import Derived.Lib.UnsafeStr
import Derived.Lib.Builder
namespace Go.Proofs.YtgahmpfpnclefaaW.Abs
open Go.RowKit
set_option linter.unusedVariables false
set_option linter.unusedSimpArgs false

section
variable {P : Program} {W0 : World} {o : Oper} {a : Act} {E : Env} {U : Nat → Prop} {id : Nat} {h : Hp} {w : World} {ts : List AV}

theorem sdata_res {x : Operand} {x' : Arg} {c : Call} (r : Rel W0 E U h w) (ht : Reps E ts a.tmps.toList) (hx : compA x = some x') (ho : o.op = .call c) (hc : c.callee = .builtin .unsafeSliceData) (hca : c.args = #[x])
    (hok : SO.ok id ts h (.sdata x')) : Res P W0 o a E U id w (SO.val id ts h (.sdata x')) h := by
  have rx := compA_rep ht hx
  simp only [SO.val]
  rcases hok with hX | ⟨es, tok, hX, hne⟩
  · rw [hX] at rx ⊢
    generalize hv : a.eval x = V at rx
    cases rx with
    | nils =>
      refine .pure r (v := .pointer none) ?_ .nilp
      unfold execOp; rw [ho]
      simp [resolve, hc, hca, hv, invoke, builtin, Lib.run_unsafeSliceData_nil]
  · rw [hX] at rx ⊢
    generalize hv : a.eval x = V at rx
    have rx0 := rx
    cases rx with
    | @row _ _ A blk off cap s f hA hl h1 hcp hm hre htk =>
      refine .pure r (v := .pointer (some A)) ?_ (.dp hne rx0)
      have hcap : cap ≠ 0 := by
        have : 0 < es.length := List.length_pos_iff.2 hne
        omega
      unfold execOp; rw [ho]
      simp [resolve, hc, hca, hv, invoke, builtin, Lib.run_unsafeSliceData_row w _ _ A _ cap hcap]

theorem liesAt_row {e : TypeId} (hc : P.cellsOf e = 1) (count off n : Nat) (hn : off + n ≤ count) : liesAt P P.depth e count off e n = true := by
  have hd : P.depth = (2 * (P.types.size + Made.depth) + 1) + 1 := rfl
  rw [hd]
  simp only [liesAt, Bool.or_eq_true]
  left
  rw [hd]
  simp [rowAt, hc, hn, sameLayout, Nat.mod_one]

theorem ustr_res {tp e tn : TypeId} {x y : Operand} {x' y' : Arg} {c : Call} (r : Rel W0 E U h w) (ht : Reps E ts a.tmps.toList) (hx : compA x = some x') (hy : compA y = some y') (ho : o.op = .call c) (hc : c.callee = .builtin .unsafeString) (hca : c.args = #[x, y]) (hct : c.argTypes = #[tp, tn])
    (htp : P.underlying tp = some (.pointer e)) (hce : P.cellsOf e = 1)
    (hok : SO.ok id ts h (.ustr e x' y')) : Res P W0 o a E U id w (SO.val id ts h (.ustr e x' y')) h := by
  have rx := compA_rep ht hx
  have ry := compA_rep ht hy
  simp only [SO.val]
  rcases hok with ⟨hX, hY⟩ | ⟨es, t, l, hX, htl, hY, hl, hmx⟩
  · rw [hX] at rx; rw [hY] at ry
    rw [hX]
    generalize hv : a.eval x = V at rx
    generalize hu : a.eval y = Y at ry
    cases rx; cases ry
    refine .pure r (v := .string (bytes [])) ?_ (.str _)
    unfold execOp; rw [ho]
    simp [resolve, hc, hca, hct, hv, hu, invoke, builtin, Lib.run_unsafeString_none, bytes]
    rfl
  · rw [hX] at rx; rw [hY] at ry
    rw [hX]
    simp only [hl, Option.getD_some]
    generalize hv : a.eval x = V at rx
    generalize hu : a.eval y = Y at ry
    cases ry
    cases rx with
    | @dp _ _ A cap hne hrow =>
      cases hrow with
      | @row _ _ A blk off cap s f hA hls h1 hcp hm hre htk =>
        have hA' := hA (.inr rfl)
        subst hA'
        obtain ⟨b, hb, hbs, hbc, hbb⟩ := htk t rfl
        obtain ⟨b', hb', hcl, hss, hown⟩ := r.objs t _ htl
        rw [hb] at hb'; cases hb'
        obtain ⟨c0, lo, hi, h0, hhi, hex⟩ := hcl e rfl
        obtain ⟨hb1, hb2⟩ := hbb (.inr hne)
        have hs1 : s = 1 := by omega
        subst hs1
        have hlen : ∀ i, i < es.length → ∃ y, es[i]? = some [y] := fun i hi => by
          have he := List.getElem?_eq_getElem hi
          have := hls _ (List.getElem_mem hi)
          match hq : es[i], this with
          | [y], _ => exact ⟨y, by rw [he, hq]⟩
        -- the bytes
        have hbytes : ∀ (es : List (List AV)) (l : List UInt8), bytesOf es = some l → l.length = es.length ∧ ∀ (i : Nat) (x : UInt8), l[i]? = some x → es[i]? = some [AV.int .u8 x.toNat] := by
          intro es
          induction es with
          | nil => intro l hl; cases hl; exact ⟨rfl, fun i x h => by simp at h⟩
          | cons e0 r0 ih =>
            intro l hl
            unfold bytesOf at hl
            split at hl
            · rename_i he; cases he
            · rename_i n r1 he
              cases he
              split at hl
              · rename_i hn
                simp only [Option.map_eq_some_iff] at hl
                obtain ⟨l', hl', rfl⟩ := hl
                obtain ⟨i1, i2⟩ := ih l' hl'
                refine ⟨by simp [i1], fun i x hx => ?_⟩
                cases i with
                | zero =>
                  simp at hx; subst hx
                  have : n.toNat % 256 = n.toNat := Nat.mod_eq_of_lt (by omega)
                  simp [this]; omega
                | succ i => simpa using i2 i x (by simpa using hx)
              · cases hl
            · cases hl
        obtain ⟨hl1, hl2⟩ := hbytes es l hl
        have hcells : ∀ i x, l[i]? = some x → w.cell? ⟨blk, off + i, none⟩ = some (.int .u8 x.toNat) := by
          intro i x hx
          have he := hl2 i x hx
          have hmm := hm i 0 _ _ he rfl
          have hrr := hre i 0 _ _ he rfl
          have := r.imm _ _ _ hmm
          generalize f i 0 = q at this hrr
          cases hrr
          simpa using this
        have hpos : 0 < es.length := List.length_pos_iff.2 hne
        have hsz : off + es.length ≤ c0.size := by
          obtain ⟨x, hx⟩ : ∃ x, l[es.length - 1]? = some x := ⟨l[es.length - 1]'(by omega), List.getElem?_eq_getElem (by omega)⟩
          have := hcells _ x hx
          rw [hb1] at h0
          simp only [World.cell?, h0] at this
          have h3 : off + (es.length - 1) < c0.size := by
            rcases Nat.lt_or_ge (off + (es.length - 1)) c0.size with q | q
            · exact q
            · rw [Array.getElem?_eq_none q] at this; cases this
          omega
        rw [hb1] at h0 hex
        obtain ⟨lo1, hi1, hfz, hle⟩ : ∃ lo1 hi1, (w.freeze ⟨blk, off, none⟩ es.length).heap[blk]? = some (.cells c0 e (lo1, hi1)) ∧ (hi1 ≤ hi ∨ hi1 ≤ off + es.length) := by
          unfold World.freeze
          rw [if_neg (by omega)]
          simp only [Array.getElem?_modify, if_true, h0, Option.map_some]
          by_cases q : lo == hi
          · exact ⟨off, off + es.length, by rw [if_pos q], .inr (Nat.le_refl _)⟩
          · exact ⟨_, _, by rw [if_neg q], by rcases Nat.le_total hi (off + es.length) with z | z <;> (simp only [Nat.max_def]; split <;> omega)⟩
        have hwf : Rel W0 E U h (w.freeze ⟨blk, off, none⟩ es.length) := by
          refine r.freeze (hb1 ▸ r.low t b hb) (fun o' i hq => ?_) (fun es' c' hm' => by rw [h0] at hm'; cases hm') (fun i bi t0 s0 hi' hbi hbb' => ?_)
          · obtain ⟨q1, q2, q3⟩ := hex o' i hq
            have hcs : 0 < b.cap * b.s := by
              rcases Nat.eq_zero_or_pos (b.cap * b.s) with z | z
              · rw [z] at q3; omega
              · exact z
            have := hhi hcs
            rw [hb2] at q2 this
            have n1 : ¬ o' < hi := by omega
            have n2 : ¬ o' < hi1 := by omega
            simp only [World.frozen?, hfz, h0]
            simp [n1, n2]
          · obtain ⟨bi', hbi', hcli, _, howni⟩ := r.objs i _ hi'
            rw [hbi] at hbi'; cases hbi'
            obtain ⟨ci, loi, hii, gi, gi2, _⟩ := hcli t0 rfl
            rw [hbb', h0] at gi
            cases gi
            refine ⟨c0, _, _, hfz, fun hp => ?_⟩
            have hoi := (howni 0 hp).1
            rw [hbb'] at hoi
            obtain ⟨q1, q2, q3⟩ := hex _ i hoi
            subst q1
            rw [hb] at hbi; cases hbi
            have := hhi hp
            rw [hb2] at this ⊢
            omega
        refine ⟨.value (.string (bytes l)), _, _, E, ?_, .inl rfl, .refl E, fun _ _ e => .inl e, hwf.used fun _ => .inl, .str _⟩
        have hvar : (variablesAt ⟨blk, off, none⟩ e es.length).run P w = .ok true w := by
          have hshape : w.shape? blk = some (e, c0.size) := by simp [World.shape?, h0]
          simp [variablesAt, hshape, hce, liesAt_row hce c0.size off es.length hsz]
        have hload : (loadBytes ⟨blk, off, none⟩ .empty es.length).run P w = .ok (bytes l) w := by
          have := Lib.run_loadBytes (P := P) w l ⟨blk, off, none⟩ .empty (fun j x hx => by
            have := hcells j x hx
            rw [Addr.add_lit]; exact this)
          rw [hl1] at this
          rw [this]; simp [bytes]
        have hk1 : ¬ ((es.length : Int) < 0) := by omega
        have hmax : IntKind.i64.max = 9223372036854775807 := rfl
        have hk2 : ¬ ((9223372036854775807 : Int) < (es.length : Int)) := by omega
        have hk3 : ¬ (es.length = 0) := by omega
        have hrun : ∀ ty, (Builtin.unsafeString_ #[tp, tn] ty #[.pointer (some ⟨blk, off, none⟩), .int .i64 es.length]).run P w = .ok (.string (bytes l)) (w.freeze ⟨blk, off, none⟩ es.length) := fun ty => by
          conv => lhs; arg 2; whnf
          generalize (IntKind.i64, (es.length : Int)).snd.decLt 0 = D
          cases D with
          | isTrue q => exact absurd q hk1
          | isFalse q =>
            simp [hk3, elemOf]
            generalize IntKind.i64.max.decLt (es.length : Int) = D
            cases D with
            | isTrue q => exact absurd q (by rw [hmax]; exact hk2)
            | isFalse q => simp [run_underlying htp, hvar, hload]
        unfold execOp; rw [ho]
        simp [resolve, hc, hca, hct, hv, hu, invoke, builtin, hrun]

/-- a pointer to a box's head turned into one without a type -/
theorem cvpu_res {s d u : TypeId} {x : Operand} {x' : Arg} {j : TypeInfo} (r : Rel W0 E U h w) (ht : Reps E ts a.tmps.toList) (hx : compA x = some x') (ho : o.op = .convert s d x) (hs : P.underlying s = some (.pointer u)) (hd : P.underlying d = some .unsafePointer) (hu : P.info? u = some j) (hj : j.size ≠ 0)
    (hok : SO.ok id ts h (.cvpu x')) : Res P W0 o a E U id w (SO.val id ts h (.cvpu x')) h := by
  have rx := compA_rep ht hx
  simp only [SO.val]
  rcases hok with hX | ⟨id', ty, es, e, hX, hb, he, hne⟩
  · rw [hX] at rx ⊢
    generalize hv : a.eval x = V at rx
    cases rx
    refine .pure r (v := .pointer none) ?_ .nilp
    unfold execOp; rw [ho]
    simp [hv, convert, run_underlying hs, run_underlying hd, Conv.unsafePointer]
  · rw [hX] at rx ⊢
    generalize hv : a.eval x = V at rx
    have rx0 := rx
    cases rx with
    | @bp _ _ _ b hι =>
      obtain ⟨b', hb', ⟨c0, fz, h0, hof⟩, h1, h2, hon, h3, f, h4⟩ := r.objs id' _ hb
      rw [hι] at hb'; cases hb'
      refine .pure r (v := .pointer (some ⟨b.blk, b.off + 0 * b.s + 0, none⟩)) ?_ rx0
      have hpos : 0 < c0.size := by
        obtain ⟨y, hy⟩ : ∃ y, e[0]? = some y := by cases e with | nil => exact absurd rfl hne | cons y _ => exact ⟨y, rfl⟩
        have := (h4 0 0 e y he hy).1
        simp only [World.cell?, h0] at this
        rcases Nat.eq_zero_or_pos c0.size with z | z
        · rw [Array.getElem?_eq_none (by omega)] at this; cases this
        · exact z
      unfold execOp; rw [ho]
      have hsh : w.shape? b.blk = some (ty, c0.size) := by simp [World.shape?, h0]
      have := Lib.run_to_unsafe (P := P) w ⟨b.blk, b.off + 0 * b.s + 0, none⟩ hs hd hu hj hsh (by dsimp only; omega)
      simp only [Nat.zero_mul, Nat.add_zero] at this ⊢
      simp only [hv, Nat.zero_mul, Nat.add_zero]
      simp [this]

theorem rowAt_head {fits : TypeId → Bool} {t : TypeId} (hc : P.cellsOf t ≠ 0) (d count : Nat) (h1 : 1 ≤ count) (h : rowAt P fits d t 1 0 1 = true) : rowAt P fits d t count 0 1 = true := by
  cases d with
  | zero => simp [rowAt] at h
  | succ d =>
    simp only [rowAt, hc, if_false, Nat.zero_div, Nat.zero_mod, beq_self_eq_true, Bool.true_and, Bool.or_eq_true, Bool.and_eq_true, decide_eq_true_eq] at h ⊢
    rcases h with ⟨_, h⟩ | ⟨_, h⟩
    · exact .inl ⟨by omega, h⟩
    · exact .inr ⟨by omega, h⟩

/-- .. and back -/
theorem cvup_res {s d u : TypeId} {x : Operand} {x' : Arg} {j : TypeInfo} {tys : List (TypeId × Nat)} (r : Rel W0 E U h w) (ht : Reps E ts a.tmps.toList) (hx : compA x = some x') (ho : o.op = .convert s d x) (hs : P.underlying s = some .unsafePointer) (hd : P.underlying d = some (.pointer u)) (hu : P.info? u = some j)
    (hty : ∀ t n, (t, n) ∈ tys → P.cellsOf t = n ∧ n ≠ 0 ∧ rowAt P (sameLayout P P.depth · u) P.depth t 1 0 1 = true)
    (hok : SO.ok id ts h (.cvup tys x')) : Res P W0 o a E U id w (SO.val id ts h (.cvup tys x')) h := by
  have rx := compA_rep ht hx
  simp only [SO.val]
  rcases hok with hX | ⟨id', ty, es, e, hX, hb, he, hne, hm⟩
  · rw [hX] at rx ⊢
    generalize hv : a.eval x = V at rx
    cases rx
    refine .pure r (v := .pointer none) ?_ .nilp
    unfold execOp; rw [ho]
    simp [hv, convert, run_underlying hs, run_underlying hd, Conv.unsafePointer]
  · rw [hX] at rx ⊢
    generalize hv : a.eval x = V at rx
    have rx0 := rx
    cases rx with
    | @bp _ _ _ b hι =>
      obtain ⟨b', hb', ⟨c0, fz, h0, hof⟩, h1, h2, hon, h3, f, h4⟩ := r.objs id' _ hb
      rw [hι] at hb'; cases hb'
      obtain ⟨t1, t2, t3⟩ := hty ty _ hm
      refine .pure r (v := .pointer (some ⟨b.blk, b.off + 0 * b.s + 0, none⟩)) ?_ rx0
      have hsz : e.length ≤ c0.size := by
        obtain ⟨y, hy⟩ : ∃ y, e[e.length - 1]? = some y := ⟨_, List.getElem?_eq_getElem (by omega)⟩
        have := (h4 0 _ e y he hy).1
        simp only [World.cell?, h0] at this
        rcases Nat.lt_or_ge (b.off + 0 * b.s + (e.length - 1)) c0.size with z | z
        · omega
        · rw [Array.getElem?_eq_none z] at this; cases this
      have hsh : w.shape? b.blk = some (ty, c0.size) := by simp [World.shape?, h0]
      have hcnt : 1 ≤ c0.size / P.cellsOf ty := by rw [t1]; exact (Nat.le_div_iff_mul_le (by omega)).2 (by omega)
      have hlies : liesAt P P.depth ty (c0.size / P.cellsOf ty) 0 u 1 = true := by
        have hd' : P.depth = (2 * (P.types.size + Made.depth) + 1) + 1 := rfl
        have hr := rowAt_head (P := P) (t := ty) (fits := (sameLayout P P.depth · u)) (by omega) P.depth (c0.size / P.cellsOf ty) hcnt t3
        generalize c0.size / P.cellsOf ty = cnt at hr
        generalize hD : P.depth = D at hr hd'
        subst hd'
        simp only [liesAt, Bool.or_eq_true]
        left
        rw [hD]; exact hr
      have := Lib.run_from_unsafe (P := P) w (dst := d) (src := s) ⟨b.blk, 0, none⟩ hs hd hu hsh hlies
      unfold execOp; rw [ho]
      simp only [hof, Nat.zero_mul, Nat.add_zero] at hv ⊢
      simp [hv, this]
end
end Go.Proofs.YtgahmpfpnclefaaW.Abs
