/- Light operations: cuts, appends, conversions, comparisons. -/
import Derived.Test.YtgahmpfpnclefaaA7
namespace Go.Proofs.YtgahmpfpnclefaaW.Abs
open Go.RowKit
set_option linter.unusedVariables false
set_option linter.unusedSimpArgs false

section
variable {t : TypeId} {P : Program} {W0 : World} {o : Oper} {a : Act} {E : Env} {U : Nat → Prop} {id : Nat} {h : Hp} {w : World} {ts : List AV}

def compM : Option Operand → Option (Option Arg)
  | none => some none
  | some x => (compA x).map some

theorem bound_rep {x : Option Operand} {y : Option Arg} (ht : Reps E ts a.tmps.toList) (hx : compM x = some y) (hok : boundOk ts y) (d : Int) : (x = none ∧ bound ts d y = d) ∨ ∃ z k, x = some z ∧ a.eval z = .int k (bound ts d y) := by
  cases x with
  | none => cases hx; exact .inl ⟨rfl, rfl⟩
  | some z =>
    simp only [compM, Option.map_eq_some_iff] at hx
    obtain ⟨q, hq, rfl⟩ := hx
    obtain ⟨k, hk⟩ := isInt_inv hok
    have := compA_rep ht hq
    rw [hk] at this
    exact .inr ⟨z, k, rfl, this.int_inv⟩

/-- the bounds of a cut, where they are in order -/
theorem run_bounds {x y : Option Operand} {x' y' : Option Arg} (ht : Reps E ts a.tmps.toList) (hx : compM x = some x') (hy : compM y = some y') (h1 : boundOk ts x') (h2 : boundOk ts y') (isS : Bool) (n cap : Nat)
    (g0 : 0 ≤ bound ts 0 x') (g1 : bound ts 0 x' ≤ bound ts n y') (g2 : bound ts n y' ≤ n) (hc : n ≤ cap) :
    (Instr.sliceBounds isS n cap (x.map a.eval) (y.map a.eval) none).run P w = .ok ((bound ts 0 x').toNat, (bound ts n y').toNat, cap) w := by
  rcases bound_rep ht hx h1 0 with ⟨rfl, e1⟩ | ⟨z1, k1, rfl, e1⟩ <;> rcases bound_rep ht hy h2 n with ⟨rfl, e2⟩ | ⟨z2, k2, rfl, e2⟩
  · rw [e1, e2]; simp [Instr.sliceBounds]
  · have c1 : 0 ≤ bound ts n y' ∧ bound ts n y' ≤ (cap : Int) := ⟨by omega, by omega⟩
    rw [e1]; simp [Instr.sliceBounds, Instr.sliceBound, e2, asIntOf, c1]
  · have c1 : 0 ≤ bound ts 0 x' ∧ bound ts 0 x' ≤ (n : Int) := ⟨by omega, by omega⟩
    rw [e2]; simp [Instr.sliceBounds, Instr.sliceBound, e1, asIntOf, c1]
  · have c1 : 0 ≤ bound ts n y' ∧ bound ts n y' ≤ (cap : Int) := ⟨by omega, by omega⟩
    have c2 : 0 ≤ bound ts 0 x' ∧ bound ts 0 x' ≤ ((bound ts n y').toNat : Int) := ⟨by omega, by omega⟩
    have c3 : 0 ≤ bound ts n y' := by omega
    have c4 : bound ts n y' ≤ (cap : Int) := by omega
    simp [Instr.sliceBounds, Instr.sliceBound, e1, e2, asIntOf, c3, c4, g0]
    have c5 : bound ts 0 x' ≤ max (bound ts n y') 0 := by omega
    intro hlt; omega

theorem bytes_extract (l : List UInt8) (x y : Nat) : (bytes l).extract x y = bytes ((l.take y).drop x) := by
  apply ByteArray.ext
  simp [bytes, ByteArray.data_extract, List.extract_eq_take_drop, List.drop_take]

theorem subs_res {ty : TypeId} {x : Operand} {lo hi : Option Operand} {x' : Arg} {lo' hi' : Option Arg} (r : Rel W0 E U h w) (ht : Reps E ts a.tmps.toList) (hx : compA x = some x') (hlo : compM lo = some lo') (hhi : compM hi = some hi') (ho : o.op = .slice ty x lo hi none) (hd : P.underlying ty = some .string)
    (hok : SO.ok id ts h (.subs x' lo' hi')) : Res P W0 o a E U id w (SO.val id ts h (.subs x' lo' hi')) h := by
  have rx := compA_rep ht hx
  obtain ⟨b1, b2, l, hl, g0, g1, g2⟩ := hok
  rw [hl] at rx
  simp only [SO.val, hl]
  have hb := run_bounds (P := P) (w := w) ht hlo hhi b1 b2 false l.length l.length g0 g1 g2 (Nat.le_refl _)
  refine .pure r (v := .string (bytes ((l.take (bound ts l.length hi').toNat).drop (bound ts 0 lo').toNat))) ?_ (.str _)
  unfold execOp; rw [ho]
  simp [rx.str_inv, Instr.sliceAt, Instr.slice, run_underlying hd, bytes_size, hb, bytes_extract]

theorem sub_res {ty e : TypeId} {ei : TI} {x : Operand} {lo hi : Option Operand} {x' : Arg} {lo' hi' : Option Arg} (r : Rel W0 E U h w) (ht : Reps E ts a.tmps.toList) (hx : compA x = some x') (hlo : compM lo = some lo') (hhi : compM hi = some hi') (ho : o.op = .slice ty x lo hi none) (hd : P.underlying ty = some (.slice e)) (hei : TIok P e ei)
    (hok : SO.ok id ts h (.sub ei.size x' lo' hi')) : Res P W0 o a E U id w (SO.val id ts h (.sub ei.size x' lo' hi')) h := by
  have rx := compA_rep ht hx
  obtain ⟨b1, b2, n, es, hn, hes, g0, g1, g2, hls⟩ := hok
  obtain ⟨j, z, hj, hsz, _⟩ := hei.info
  simp only [SO.val]
  generalize x'.ev ts = X at hn hes rx ⊢
  have key : ∀ (A : Option Addr) (cap : Nat), n ≤ cap → a.eval x = .slice A n cap → (execOp a.eval o).run P w =
      .ok (.value (.slice (if cap = (bound ts 0 lo').toNat then A else A.map (·.add ((bound ts 0 lo').toNat * ei.size))) ((bound ts n hi').toNat - (bound ts 0 lo').toNat) (cap - (bound ts 0 lo').toNat))) w := by
    intro A cap hc hA
    have hb := run_bounds (P := P) (w := w) ht hlo hhi b1 b2 true n cap g0 g1 g2 hc
    unfold execOp; rw [ho]
    simp [hA, Instr.sliceAt, Instr.slice, run_underlying hd, hb, sizeOf, typeInfo, hj, hsz]
  generalize hv : a.eval x = V at rx
  cases rx <;> simp only [lenOf] at hn <;> try (cases hn; done)
  case nils =>
    cases hn
    have q1 : (bound ts 0 lo').toNat = 0 := by omega
    have q2 : (bound ts (0 : Nat) hi').toNat = 0 := by omega
    refine .pure r (key none 0 (Nat.le_refl _) hv) ?_
    simp only [q1, q2, if_true]
    exact .nils
  case row es tok A0 blk off cap s f hA0 hl h1 hc hm hh htk =>
    cases hn; cases hes
    refine .pure r (key _ cap hc hv) ?_
    dsimp only
    generalize hp : (bound ts 0 lo').toNat = p
    generalize hq : (bound ts es.length hi').toNat = q
    have hpq : p ≤ q := by omega
    have hqn : q ≤ es.length := by omega
    have hlen : ((es.take q).drop p).length = q - p := by simp; omega
    -- where elements are, their size is the type's
    have hss : es = [] ∨ s = ei.size := by
      cases es with
      | nil => exact .inl rfl
      | cons y ys => right; rw [← hl y (by simp), hls y (by simp)]
    have hA : ∃ off' A', (if cap = p then some A0 else (some A0).map (·.add (p * ei.size))) = some A' ∧ (p < cap → off' = off + p * s) ∧ ((0 < cap ∨ tok.isSome = true) → A' = ⟨blk, off', none⟩) := by
      by_cases hcp : cap = p
      · exact ⟨off, A0, by rw [if_pos hcp], fun h => by omega, hA0⟩
      · have hA1 := hA0 (.inl (by omega))
        subst hA1
        refine ⟨off + p * ei.size, _, by rw [if_neg hcp, Option.map_some, Addr.add_lit], fun _ => ?_, fun _ => rfl⟩
        rcases hss with hnil | hs
        · have : p = 0 := by rw [hnil] at hqn; simp at hqn; omega
          rw [this]; simp
        · rw [hs]
    obtain ⟨off', A', hA1, hA2, hA3⟩ := hA
    have hcl : ((es.take q).drop p).length ≤ cap - p := by rw [hlen]; omega
    rw [hA1, ← hlen]
    refine .row (s := s) (off := off') (fun i j => f (p + i) j) (fun hh => hA3 (by rcases hh with hh | hh; (· left; omega); (· right; split at hh; (· exact hh); (· cases hh)))) (fun e he => hl e (List.mem_of_mem_take (List.mem_of_mem_drop he))) (fun e he => h1 e (List.mem_of_mem_take (List.mem_of_mem_drop he))) hcl (fun i j e c hi hj => ?_) (fun i j e c hi hj => ?_) (fun t' e => ?_)
    · have hlt : i < q - p := by have := (List.getElem?_eq_some_iff.1 hi).1; omega
      rw [List.getElem?_drop, List.getElem?_take_of_lt (by omega)] at hi
      have := hm (p + i) j e c hi hj
      rw [hA2 (by omega), show off + p * s + i * s + j = off + (p + i) * s + j by rw [Nat.add_mul]; omega]
      exact this
    · have hlt : i < q - p := by have := (List.getElem?_eq_some_iff.1 hi).1; omega
      rw [List.getElem?_drop, List.getElem?_take_of_lt (by omega)] at hi
      exact hh (p + i) j e c hi hj
    · split at e
      · rename_i hqe
        obtain ⟨b, c1, c2, c3, c4⟩ := htk t' e
        refine ⟨b, c1, c2, by rw [hlen]; omega, fun hp0 => ?_⟩
        have hcp : p < cap := by
          rcases hp0 with hp0 | hp0
          · omega
          · have hq0 : 0 < ((es.take q).drop p).length := List.length_pos_iff.2 hp0
            omega
        obtain ⟨d1, d2⟩ := c4 (by
          rcases hp0 with hp0 | hp0
          · exact .inl hp0
          · exact .inr (fun e => hp0 (by simp [e])))
        refine ⟨d1, ?_⟩
        rw [d2, hA2 hcp, hlen]
        have : es.length * s = p * s + (q - p) * s := by rw [← Nat.add_mul]; congr 1; omega
        omega
      · cases e
  case sl i st m b A hb hc hA =>
    cases hn
    have hsl : ∃ es0 : List (List AV), st + n ≤ es0.length ∧ es = (es0.drop st).take n ∧ es0.length ≤ b.cap ∧ (∀ e, e ∈ es0 → e.length = b.s) := by
      simp only [elems] at hes
      cases ho' : h i with
      | none => simp [ho'] at hes
      | some ob =>
        obtain ⟨b', hb', hrep⟩ := r.objs i _ ho'
        rw [hb] at hb'; cases hb'
        cases ob with
        | box ty0 es0 =>
          simp only [ho'] at hes
          split at hes
          · rename_i hle; cases hes
            obtain ⟨_, g1, g2, g3, _, f, g4⟩ := hrep
            exact ⟨es0, hle, rfl, g1, g2⟩
          · cases hes
        | froz es0 =>
          simp only [ho'] at hes
          split at hes
          · rename_i hle; cases hes
            obtain ⟨g1, g2, g3, f, g4⟩ := hrep
            exact ⟨es0, hle, rfl, g1, g2⟩
          · cases hes
        | tail s => simp [ho'] at hes
        | map k => simp [ho'] at hes
        | nocap => simp [ho'] at hes
    obtain ⟨es0, q1, rfl, q2, q3⟩ := hsl
    refine .pure r (key _ (b.cap - st) (by omega) hv) ?_
    dsimp only
    generalize hp : (bound ts 0 lo').toNat = p
    generalize hq : (bound ts n hi').toNat = q
    have hpq : p ≤ q := by omega
    have hqn : q ≤ n := by omega
    have hss : p = 0 ∨ b.s = ei.size := by
      rcases Nat.eq_zero_or_pos n with hz | hz
      · left; omega
      · right
        cases hes0 : (es0.drop st).take n with
        | nil => have : ((es0.drop st).take n).length = 0 := by rw [hes0]; rfl
                 simp at this; omega
        | cons y ys =>
          rw [← hls y (by rw [hes0]; simp)]
          exact (q3 y (List.mem_of_mem_drop (List.mem_of_mem_take (by rw [hes0]; simp)))).symm
    have hA' : ∃ A', (if b.cap - st = p then some A else (some A).map (·.add (p * ei.size))) = some A' ∧ (st + p < b.cap → A' = ⟨b.blk, b.off + (st + p) * b.s, none⟩) := by
      by_cases hcp : b.cap - st = p
      · exact ⟨A, by rw [if_pos hcp], fun hh => by omega⟩
      · refine ⟨A.add (p * ei.size), by rw [if_neg hcp, Option.map_some], fun hlt => ?_⟩
        rw [hA (by omega), Addr.add_lit]
        rcases hss with hz | hs
        · rw [hz]; simp
        · rw [hs, Nat.add_mul]; simp [Nat.add_assoc]
    obtain ⟨A', hA1, hA2⟩ := hA'
    rw [hA1, show b.cap - st - p = b.cap - (st + p) by omega]
    have hfin : st + p + (q - p) ≤ b.cap := by omega
    exact .sl hb hfin hA2

theorem mx_res {x y : Operand} {x' y' : Arg} {c : Call} (r : Rel W0 E U h w) (ht : Reps E ts a.tmps.toList) (hx : compA x = some x') (hy : compA y = some y') (ho : o.op = .call c) (hc : c.callee = .builtin .max) (hca : c.args = #[x, y])
    (hok : SO.ok id ts h (.mx x' y')) : Res P W0 o a E U id w (SO.val id ts h (.mx x' y')) h := by
  obtain ⟨h1, h2⟩ := hok
  obtain ⟨k1, e1⟩ := isInt_inv h1
  obtain ⟨k2, e2⟩ := isInt_inv h2
  have r1 := compA_rep ht hx
  have r2 := compA_rep ht hy
  simp only [SO.val]
  generalize (x'.ev ts).toInt = m at e1
  generalize (y'.ev ts).toInt = n at e2
  rw [e1] at r1 ⊢; rw [e2] at r2 ⊢
  refine .pure r (v := .int k1 (if n > m then n else m)) ?_ (.int _ _)
  unfold execOp; rw [ho]
  simp [resolve, hc, hca, invoke, builtin, Builtin.max_, Builtin.max2, r1.int_inv, r2.int_inv]

theorem mn_res {x y : Operand} {x' y' : Arg} {c : Call} (r : Rel W0 E U h w) (ht : Reps E ts a.tmps.toList) (hx : compA x = some x') (hy : compA y = some y') (ho : o.op = .call c) (hc : c.callee = .builtin .min) (hca : c.args = #[x, y])
    (hok : SO.ok id ts h (.mn x' y')) : Res P W0 o a E U id w (SO.val id ts h (.mn x' y')) h := by
  obtain ⟨h1, h2⟩ := hok
  obtain ⟨k1, e1⟩ := isInt_inv h1
  obtain ⟨k2, e2⟩ := isInt_inv h2
  have r1 := compA_rep ht hx
  have r2 := compA_rep ht hy
  simp only [SO.val]
  generalize (x'.ev ts).toInt = m at e1
  generalize (y'.ev ts).toInt = n at e2
  rw [e1] at r1 ⊢; rw [e2] at r2 ⊢
  refine .pure r (v := .int k1 (if n < m then n else m)) ?_ (.int _ _)
  unfold execOp; rw [ho]
  simp [resolve, hc, hca, invoke, builtin, Builtin.min_, Builtin.min2, r1.int_inv, r2.int_inv]

theorem tas_res {t0 ty : TypeId} {d : TypeDesc} {ok : Bool} {x : Operand} {x' : Arg} (r : Rel W0 E U h w) (ht : Reps E ts a.tmps.toList) (hx : compA x = some x') (ho : o.op = .typeAssert x t0 ty ok) (hd : P.underlying ty = some d) (hi : ∀ ms, d ≠ .interface ms)
    (hok : SO.ok id ts h (.tas ty ok x')) : Res P W0 o a E U id w (SO.val id ts h (.tas ty ok x')) h := by
  have rx := compA_rep ht hx
  obtain ⟨v, hv⟩ := hok
  rw [hv] at rx
  simp only [SO.val, hv]
  generalize he : a.eval x = V at rx
  cases rx with
  | @ifc _ _ u hu =>
    cases ok with
    | true =>
      refine .pure r (v := .tuple #[u, .bool true]) ?_ (.tup' (.cons hu (.cons (.bool _) .nil)))
      unfold execOp; rw [ho]
      cases d <;> first | (exact absurd rfl (hi _)) | simp [Instr.typeAssert, he, run_underlying hd]
    | false =>
      refine .pure r (v := u) ?_ hu
      unfold execOp; rw [ho]
      cases d <;> first | (exact absurd rfl (hi _)) | simp [Instr.typeAssert, he, run_underlying hd]
end
end Go.Proofs.YtgahmpfpnclefaaW.Abs
