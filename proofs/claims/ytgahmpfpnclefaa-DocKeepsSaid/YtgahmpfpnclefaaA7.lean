/- Light operations that lay or write memory, cut slices and strings. -/
import Derived.Test.YtgahmpfpnclefaaA6
namespace Go.Proofs.YtgahmpfpnclefaaW.Abs
open Go.RowKit
set_option linter.unusedVariables false
set_option linter.unusedSimpArgs false

section
variable {t : TypeId} {P : Program} {W0 : World} {o : Oper} {a : Act} {E : Env} {U : Nat → Prop} {id : Nat} {h : Hp} {w : World} {ts : List AV}

theorem ones_cells {c : List AV} (hc : c.all AV.one = true) : ones [c] := by
  intro e he x hx
  simp at he; subst he
  exact List.all_eq_true.1 hc x hx

/-- a new box of one element -/
theorem newBox1 (r : Rel W0 E U h w) (hid : ¬ U id) {x : AV} {v : Value} (hx : Rep E x v) (ho : x.cells.all AV.one = true) (ty : TypeId) :
    ∃ E', Ext E E' ∧ (∀ i b, E'.ι i = some b → E.ι i = some b ∨ i = id) ∧ Rep E' (.bp id 0 0) (.pointer (some ⟨w.heap.size, 0, none⟩)) ∧ Rel W0 E' (fun i => U i ∨ i = id) (upd h id (some (.box ty [x.cells]))) (w.alloc (.cells v.cells ty)) := by
  have hc := Reps.cells hx
  obtain ⟨E', h1, h2, h3, h4⟩ := r.newBox hid v.cells ty x.cells.length 1 [x.cells] (by have := hc.1; simp at this; omega) (by simp) (by simp) (ones_cells ho) (fun i j e y hi hj => by
    cases i with
    | zero =>
      simp at hi; subst hi
      obtain ⟨u, hu, hr⟩ := hc.get hj
      exact ⟨u, by simpa using hu, hr⟩
    | succ i => simp at hi)
  exact ⟨E', h1, h3, by simpa using Rep.bp (idx := 0) (off := 0) h2, h4⟩

theorem alloc_res {ty : TypeId} {i : TI} (r : Rel W0 E U h w) (hid : ¬ U id) (ho : o.op = .alloc ty) (hi : TIok P ty i)
    (hok : SO.ok id ts h (.alloc ty i.zero.cells)) : Res P W0 o a E U id w (SO.val id ts h (.alloc ty i.zero.cells)) (SO.heap id ts h (.alloc ty i.zero.cells)) := by
  obtain ⟨j, z, hj, hsz, _, hz, hr⟩ := hi.info
  obtain ⟨E', h1, h2, h3, h4⟩ := newBox1 r hid (hr E) hok ty
  refine ⟨_, _, _, E', ?_, .inl rfl, h1, h2, h4, h3⟩
  unfold execOp; rw [ho]
  simp [Instr.alloc, zeroValue, typeInfo, hj, hz, newVar, newRow]

theorem box_res {ty : TypeId} {x : Operand} {x' : Arg} (r : Rel W0 E U h w) (hid : ¬ U id) (ht : Reps E ts a.tmps.toList) (hx : compA x = some x') (ho : o.op = .box ty x)
    (hok : SO.ok id ts h (.box ty x')) : Res P W0 o a E U id w (SO.val id ts h (.box ty x')) (SO.heap id ts h (.box ty x')) := by
  obtain ⟨E', h1, h2, h3, h4⟩ := newBox1 r hid (compA_rep ht hx) hok ty
  refine ⟨_, _, _, E', ?_, .inl rfl, h1, h2, h4, h3⟩
  unfold execOp; rw [ho]
  simp [Instr.box, newVar, newRow]

theorem store_res {ty : TypeId} {i : TI} {p x : Operand} {p' x' : Arg} (r : Rel W0 E U h w) (ht : Reps E ts a.tmps.toList) (hp : compA p = some p') (hx : compA x = some x') (ho : o.op = .store ty p x) (hi : TIok P ty i)
    (hok : SO.ok id ts h (.store i.size p' x')) : Res P W0 o a E U id w (SO.val id ts h (.store i.size p' x')) (SO.heap id ts h (.store i.size p' x')) := by
  obtain ⟨id', k, off, ty0, es, e, hpe, hbox, he, hlen, hle, hone⟩ := hok
  have rp := compA_rep ht hp
  have rx := compA_rep ht hx
  obtain ⟨j, z, hj, hsz, _⟩ := hi.info
  rw [hpe] at rp
  simp only [SO.val, SO.heap, hpe, hbox]
  generalize hv : a.eval p = V at rp
  cases rp with
  | @bp _ _ _ b hb =>
    have hc := Reps.cells rx
    have hone' : ∀ y, y ∈ (x'.ev ts).cells → y.one = true := fun y hy => List.all_eq_true.1 hone y hy
    obtain ⟨c1, c2, c3⟩ := r.write hbox hb he (cs := (x'.ev ts).cells) (vs := (a.eval x).cells.toList) (off := off) (by omega) hc hone'
    have hst := run_storeCells_cells (P := P) b.blk (b.off + k * b.s + off) (a.eval x).cells.toList 0 w (by simpa using c1) (by simpa using c2) (fun v hv => by
      obtain ⟨q, hq⟩ := List.mem_iff_getElem?.1 hv
      have hq' : q < (x'.ev ts).cells.length := by rw [hc.1]; exact (List.getElem?_eq_some_iff.1 hq).1
      exact (hc.2 q _ v (List.getElem?_eq_getElem hq') hq).one (hone' _ (List.getElem_mem hq')))
    simp only [Nat.add_zero] at hst
    refine ⟨.skip, undef, _, E, ?_, .inr ⟨rfl, rfl⟩, .refl E, fun _ _ e => .inl e, c3.used fun _ => .inl, .undef⟩
    unfold execOp; rw [ho]
    have hsz' : (a.eval x).cells.size = i.size := by have := hc.1; simp at this; omega
    simp [hv, Instr.storeAt, Instr.sureAddr, storeVar, sizeOf, typeInfo, hj, hsz, hsz', hst]

/-! literals -/
theorem foldl_set (off : Nat) : ∀ (vs : List Value) (k : Nat) (cells : Array Value), off + k + vs.length ≤ cells.size →
    ((vs.zipIdx k).foldl (fun cs (x : Value × Nat) => cs.setIfInBounds (off + x.2) x.1) cells).toList = cells.toList.take (off + k) ++ vs ++ cells.toList.drop (off + k + vs.length)
  | [], k, cells, _ => by simp
  | v :: r, k, cells, hle => by
    simp only [List.length_cons] at hle
    rw [List.zipIdx_cons, List.foldl_cons, foldl_set off r (k + 1) _ (by simp; omega)]
    have hlt : off + k < cells.toList.length := by simp; omega
    simp only [Array.toList_setIfInBounds, List.length_cons]
    rw [show off + (k + 1) = off + k + 1 by omega, List.take_succ_eq_append_getElem (by simpa using by omega)]
    have e1 : (cells.toList.set (off + k) v).take (off + k) = cells.toList.take (off + k) := by
      rw [List.take_set_of_le (Nat.le_refl _)]
    have e2 : (cells.toList.set (off + k) v).drop (off + k + 1 + r.length) = cells.toList.drop (off + k + 1 + r.length) := by
      rw [List.drop_set_of_lt (by omega)]
    rw [e1, e2]
    simp [List.append_assoc, Nat.add_assoc, Nat.add_comm 1]

theorem Reps.splice {E : Env} {as cs : List AV} {vs us : List Value} (h1 : Reps E as vs) (h2 : Reps E cs us) (off : Nat) : Reps E (as.take off ++ cs ++ as.drop (off + cs.length)) (vs.take off ++ us ++ vs.drop (off + us.length)) := by
  refine ((Reps.append ?_ h2).append ?_)
  · refine ⟨by simp [h1.1], fun i a v ha hv => ?_⟩
    have : i < off := by have := (List.getElem?_eq_some_iff.1 ha).1; simp at this; omega
    rw [List.getElem?_take_of_lt this] at ha hv
    exact h1.2 i a v ha hv
  · refine ⟨by simp [h1.1, h2.1], fun i a v ha hv => ?_⟩
    rw [List.getElem?_drop] at ha hv
    rw [← h2.1] at hv
    exact h1.2 _ a v ha hv

def compB : List (Nat × Operand) → (Nat → Option (Nat × Nat)) → Option (List (Nat × Nat × Arg))
  | [], _ => some []
  | (k, x) :: r, f => match f k, compA x, compB r f with
    | some (off, n), some y, some ys => some ((off, n, y) :: ys)
    | _, _, _ => none

theorem fill_build (ht : Reps E ts a.tmps.toList) : ∀ (ps : List (Nat × Operand)) (place : Nat → Option (Nat × Nat)) (qs : List (Nat × Nat × Arg)) (z : List AV) (cells : Array Value),
    compB ps place = some qs → Reps E z cells.toList → fillOk ts z.length qs → ∃ cells', Instr.fill place cells (ps.map fun (i, x) => (i, a.eval x)) = some cells' ∧ Reps E (fillA ts z qs) cells'.toList
  | [], place, qs, z, cells, hc, hz, hok => by cases hc; exact ⟨cells, rfl, hz⟩
  | (k, x) :: r, place, qs, z, cells, hc, hz, hok => by
    unfold compB at hc
    split at hc
    · rename_i off n y ys h1 h2 h3
      cases hc
      obtain ⟨⟨g1, g2⟩, g3⟩ := hok
      have rx := Reps.cells (compA_rep ht h2)
      have hsz : (a.eval x).cells.size = n := by have := rx.1; simp at this; omega
      have hcs : cells.size = z.length := by have := hz.1; simp at this; omega
      have hf := foldl_set off (a.eval x).cells.toList 0 cells (by simp; omega)
      simp only [Nat.add_zero] at hf
      have hz' := hz.splice rx off
      rw [← hf] at hz'
      obtain ⟨c', e1, e2⟩ := fill_build ht r place ys _ _ h3 hz' (by
        have : (z.take off ++ (y.ev ts).cells ++ z.drop (off + (y.ev ts).cells.length)).length = z.length := by simp; omega
        rw [this]; exact g3)
      refine ⟨c', ?_, e2⟩
      rw [← e1]
      simp only [List.map_cons, Instr.fill, h1]
      rw [if_neg (by simp [hsz]; omega)]
      congr 1
      rw [← Array.foldl_toList, Array.toList_zipIdx]
    · cases hc

theorem build_res {ty : TypeId} {i : TI} {ps : Array (Nat × Operand)} {qs : List (Nat × Nat × Arg)} (r : Rel W0 E U h w) (ht : Reps E ts a.tmps.toList) (ho : o.op = .build ty ps) (hi : TIok P ty i) (place : Nat → Option (Nat × Nat))
    (hpl : (∃ fs, i.d = .struct fs ∧ ∃ pls : Array (Nat × Nat), (fs.mapM (m := Sem) fun f => do pure (f.offset, ← sizeOf f.type)).run P w = .ok pls w ∧ place = (pls[·]?)) ∨ (∃ n e, i.d = .array n e ∧ ∃ ei, TIok P e ei ∧ place = fun k => some (k * ei.size, ei.size)))
    (hc : compB ps.toList place = some qs) (hok : SO.ok id ts h (.build i.zero.cells qs)) : Res P W0 o a E U id w (SO.val id ts h (.build i.zero.cells qs)) h := by
  obtain ⟨j, z, hj, hsz, _, hz, hr⟩ := hi.info
  obtain ⟨c', e1, e2⟩ := fill_build ht ps.toList place qs i.zero.cells z.cells hc (Reps.cells (hr E)) hok
  have e1' : Instr.fill place z.cells (ps.map fun (i, x) => (i, a.eval x)).toList = some c' := by rw [Array.toList_map]; exact e1
  refine .pure r (v := .agg c') ?_ (.agg' e2)
  unfold execOp; rw [ho]
  rcases hpl with ⟨fs, hd, pls, hm, rfl⟩ | ⟨n, e, hd, ei, hei, rfl⟩
  · have hu := hi.und
    rw [hd] at hu
    simp only [Sem.run_bind, Instr.build, zeroValue, typeInfo, run_program, Result.andThen_ok, hj, Sem.run_pure, hz, run_underlying hu, hm]
    rw [e1']; rfl
  · have hu := hi.und
    rw [hd] at hu
    obtain ⟨je, ze, hje, hsze, _⟩ := hei.info
    simp only [Sem.run_bind, Instr.build, zeroValue, typeInfo, run_program, Result.andThen_ok, hj, Sem.run_pure, hz, run_underlying hu, sizeOf, hje, hsze]
    rw [e1']; rfl

theorem flat_set {s : Nat} : ∀ (es : List (List AV)) (i : Nat) (c : List AV), (∀ e, e ∈ es → e.length = s) → c.length = s → i < es.length → flat (es.set i c) = (flat es).take (i * s) ++ c ++ (flat es).drop (i * s + c.length)
  | x :: es, 0, c, hl, hc, _ => by
    have hx := hl x (by simp)
    simp [flat, hc, List.drop_left' hx]
  | x :: es, i + 1, c, hl, hc, hi => by
    have hx := hl x (by simp)
    have ih := flat_set es i c (fun e he => hl e (by simp [he])) hc (by simpa using hi)
    simp only [flat, List.set_cons_succ, List.flatten_cons] at ih ⊢
    have e1 : (i + 1) * s = s + i * s := by rw [Nat.add_mul]; omega
    rw [ih, e1, List.take_append, List.drop_append, hx, List.take_of_length_le (l := x) (by omega), List.drop_eq_nil_of_le (as := x) (by omega), show s + i * s - s = i * s by omega, show s + i * s + c.length - s = i * s + c.length by omega]
    simp [List.append_assoc]

theorem set_len {s : Nat} {es : List (List AV)} {i : Nat} {c : List AV} (hl : ∀ e, e ∈ es → e.length = s) (hc : c.length = s) : ∀ e, e ∈ es.set i c → e.length = s := by
  intro e he
  rcases List.mem_or_eq_of_mem_set he with h | h
  · exact hl e h
  · rw [h]; exact hc
theorem set_ones {es : List (List AV)} {i : Nat} {c : List AV} (hl : ones es) (hc : ∀ a, a ∈ c → a.one = true) : ones (es.set i c) := by
  intro e he
  rcases List.mem_or_eq_of_mem_set he with h | h
  · exact hl e h
  · rw [h]; exact hc

def compS : List (Nat × Operand) → Option (List (Nat × Arg))
  | [] => some []
  | (k, x) :: r => match compA x, compS r with
    | some y, some ys => some ((k, y) :: ys)
    | _, _ => none

theorem fill_slice (ht : Reps E ts a.tmps.toList) (s n : Nat) : ∀ (ps : List (Nat × Operand)) (qs : List (Nat × Arg)) (es : List (List AV)) (cells : Array Value),
    compS ps = some qs → es.length = n → (∀ e, e ∈ es → e.length = s) → ones es → Reps E (flat es) cells.toList → fillSOk ts s n qs →
    ∃ cells', Instr.fill (fun i => some (i * s, s)) cells (ps.map fun (i, x) => (i, a.eval x)) = some cells' ∧ (fillS ts es qs).length = n ∧ (∀ e, e ∈ fillS ts es qs → e.length = s) ∧ ones (fillS ts es qs) ∧ Reps E (flat (fillS ts es qs)) cells'.toList
  | [], qs, es, cells, hc, hn, hl, h1, hz, hok => by cases hc; exact ⟨cells, rfl, hn, hl, h1, hz⟩
  | (k, x) :: r, qs, es, cells, hc, hn, hl, h1, hz, hok => by
    unfold compS at hc
    split at hc
    · rename_i y ys h2 h3
      cases hc
      obtain ⟨⟨g1, g2, g4⟩, g3⟩ := hok
      have rx := Reps.cells (compA_rep ht h2)
      have hsz : (a.eval x).cells.size = s := by have := rx.1; simp at this; omega
      have hfl := flat_len es hl
      have hcs : cells.size = n * s := by have := hz.1; simp at this; rw [← hn]; omega
      have hks : k * s + s ≤ n * s := by
        have : (k + 1) * s ≤ n * s := Nat.mul_le_mul_right _ (by omega)
        rw [Nat.add_mul] at this; omega
      have hf := foldl_set (k * s) (a.eval x).cells.toList 0 cells (by simp; omega)
      simp only [Nat.add_zero] at hf
      have hz' := hz.splice rx (k * s)
      rw [← hf, ← flat_set es k _ hl g1 (by omega)] at hz'
      obtain ⟨c', e1, e2⟩ := fill_slice ht s n r ys _ _ h3 (by simpa using hn) (set_len hl g1) (set_ones h1 (fun q hq => List.all_eq_true.1 g4 q hq)) hz' g3
      refine ⟨c', ?_, e2⟩
      rw [← e1]
      simp only [List.map_cons, Instr.fill]
      rw [if_neg (by simp [hsz]; omega)]
      congr 1
      rw [← Array.foldl_toList, Array.toList_zipIdx]
    · cases hc

theorem flat_replicate {s n : Nat} {z : List AV} (hz : z.length = s) {vz : Array Value} (hr : Reps E z vz.toList) : Reps E (flat (List.replicate n z)) ((Array.range (n * s)).map (vz[· % vz.size]!)).toList := by
  have hvz : vz.size = s := by have := hr.1; simp at this; omega
  have hl : ∀ e, e ∈ List.replicate n z → e.length = s := fun e he => by rw [(List.mem_replicate.1 he).2]; exact hz
  refine ⟨by rw [flat_len _ hl]; simp, fun q x v hx hv => ?_⟩
  have hq : q < n * s := by have := (List.getElem?_eq_some_iff.1 hx).1; rw [flat_len _ hl] at this; simpa using this
  have hs : 0 < s := by rcases Nat.eq_zero_or_pos s with h0 | h0; (· rw [h0] at hq; simp at hq); exact h0
  have e1 : q = (q / s) * s + q % s := by rw [Nat.mul_comm]; exact (Nat.div_add_mod q s).symm
  have hm : q % s < s := Nat.mod_lt _ hs
  have hd : q / s < n := (Nat.div_lt_iff_lt_mul hs).2 hq
  have hx' : z[q % s]? = some x := by
    have hg := flat_get _ hl (q / s) (q % s) z _ (by rw [List.getElem?_replicate, if_pos hd]) (List.getElem?_eq_getElem (by omega))
    rw [← e1] at hg
    rw [hg] at hx; cases hx
    exact List.getElem?_eq_getElem (by omega)
  have hv' : v = vz[q % s]! := by
    simp [hq, hvz] at hv; exact hv.symm
  refine hr.2 (q % s) x v hx' ?_
  rw [hv', getElem!_pos vz (q % s) (by omega)]
  simp [hvz, hm]

/-- cells laid flat are the elements' cells -/
theorem of_flat {s : Nat} {es : List (List AV)} {c : Array Value} (hl : ∀ e, e ∈ es → e.length = s) (hr : Reps E (flat es) c.toList) : ∀ i j e x, es[i]? = some e → e[j]? = some x → ∃ v, c[i * s + j]? = some v ∧ Rep E x v := by
  intro i j e x hi hj
  obtain ⟨v, hv, h2⟩ := hr.get (flat_get es hl i j e x hi hj)
  exact ⟨v, by simpa using hv, h2⟩

theorem newElems (r : Rel W0 E U h w) (hid : ¬ U id) {s n cap : Nat} {es : List (List AV)} {c : Array Value} (bx : Bool) (hn : es.length = n) (hcap : n ≤ cap) (hl : ∀ e, e ∈ es → e.length = s) (h1 : ones es) (hs : cap * s ≤ c.size)
    (hr : ∀ i j e x, es[i]? = some e → e[j]? = some x → ∃ v, c[i * s + j]? = some v ∧ Rep E x v) (ty : TypeId) :
    ∃ E', Ext E E' ∧ (∀ i b, E'.ι i = some b → E.ι i = some b ∨ i = id) ∧ Rep E' (if bx = true then .sl id 0 n else .row es (some id)) (.slice (some ⟨w.heap.size, 0, none⟩) n cap) ∧
      Rel W0 E' (fun i => U i ∨ i = id) (upd h id (some (if bx = true then .box ty es else .tail (some ty) s))) (w.alloc (.cells c ty)) := by
  cases bx with
  | true =>
    obtain ⟨E', a1, a2, a3, a4⟩ := r.newBox hid c ty s cap es hs (by omega) hl h1 hr
    refine ⟨E', a1, a3, ?_, by simpa using a4⟩
    have := Rep.sl (E := E') (start := 0) (len := n) (a := ⟨w.heap.size, 0, none⟩) a2 (by simpa using hcap) (fun _ => by simp)
    simpa using this
  | false =>
    obtain ⟨E', a1, a2, a3, a4⟩ := r.newRow hid c ty s cap es hs (by omega) hl h1 hr
    exact ⟨E', a1, a2, by simpa [hn] using a3, by simpa using a4⟩

theorem run_bslice0 {ty e : TypeId} {n : Nat} {j : TypeInfo} {c' : Array Value} (hd : P.underlying ty = some (.slice e)) (hj : P.info? e = some j) (h0 : n * j.size = 0) (parts : Array (Nat × Value))
    (hx : Instr.fill (fun i => some (i * j.size, j.size)) #[] parts.toList = some c') : (Instr.buildSlice ty n parts).run P w = .ok (.slice (some ⟨w.heap.size, 0, none⟩) n n) (w.alloc (.cells c' e)) := by
  simp [Instr.buildSlice, run_underlying hd, sizeOf, typeInfo, hj, h0, newRow, Array.range_zero', hx]

theorem bslice_res {ty e : TypeId} {ei : TI} {n : Nat} {ps : Array (Nat × Operand)} {qs : List (Nat × Arg)} {bx : Bool} (r : Rel W0 E U h w) (hid : ¬ U id) (ht : Reps E ts a.tmps.toList) (ho : o.op = .buildSlice ty n ps) (hd : P.underlying ty = some (.slice e)) (hei : TIok P e ei)
    (hc : compS ps.toList = some qs) (hok : SO.ok id ts h (.bslice e ei.size n ei.zero.cells qs bx)) : Res P W0 o a E U id w (SO.val id ts h (.bslice e ei.size n ei.zero.cells qs bx)) (SO.heap id ts h (.bslice e ei.size n ei.zero.cells qs bx)) := by
  obtain ⟨hf, hzl, hz1, hsm⟩ := hok
  obtain ⟨j, z, hj, hsz, _, hz, hr⟩ := hei.info
  have hz0 := Reps.cells (hr E)
  obtain ⟨c', e1, e2, e3, e4, e5⟩ := fill_slice ht ei.size n ps.toList qs (List.replicate n ei.zero.cells) _ hc (by simp) (fun e he => by rw [(List.mem_replicate.1 he).2]; exact hzl) (fun e he x hx => by
    rw [(List.mem_replicate.1 he).2] at hx; exact List.all_eq_true.1 hz1 x hx) (flat_replicate hzl hz0) hf
  have e1' : Instr.fill (fun i => some (i * ei.size, ei.size)) ((Array.range (n * ei.size)).map (z.cells[· % z.cells.size]!)) (ps.map fun (i, x) => (i, a.eval x)).toList = some c' := by rw [Array.toList_map]; exact e1
  have hcs : c'.size = n * ei.size := by have := e5.1; rw [flat_len _ e3, e2] at this; simpa using this.symm
  obtain ⟨E', a1, a2, a3, a4⟩ := newElems r hid bx e2 (Nat.le_refl n) e3 e4 (by omega) (of_flat e3 e5) e
  refine ⟨_, _, _, E', ?_, .inl rfl, a1, a2, a4, a3⟩
  unfold execOp; rw [ho]
  by_cases h0 : n * ei.size = 0
  · have hge : ((Array.range (n * ei.size)).map (z.cells[· % z.cells.size]!)) = #[] := by simp [h0]
    rw [hge] at e1'
    have hrun := run_bslice0 (P := P) (w := w) (c' := c') hd hj (by rw [hsz]; exact h0) (ps.map fun (i, x) => (i, a.eval x)) (by rw [hsz]; exact e1')
    simp [hrun]
  · have hrun := run_buildSlice (P := P) w ty e n (ps.map fun (i, x) => (i, a.eval x)) c' j z hd hj hz (by rw [hsz]; omega) (by rw [hsz]; omega) (by rw [hsz]; exact e1')
    simp [hrun]

theorem empt_res {ty e : TypeId} {ei : TI} (r : Rel W0 E U h w) (hid : ¬ U id) (ho : o.op = .buildSlice ty 0 #[]) (hd : P.underlying ty = some (.slice e)) (hei : TIok P e ei) : Res P W0 o a E U id w (SO.val id ts h .empt) (SO.heap id ts h .empt) := by
  obtain ⟨j, z, hj, hsz, _, hz, hr⟩ := hei.info
  have hrun := run_bslice0 (P := P) (w := w) (n := 0) (c' := #[]) hd hj (by simp) #[] (by simp [Instr.fill])
  have hx := r.ext_add hid ⟨w.heap.size, 0, 0, 0⟩ (fun _ => none)
  have hn := r.newObj hid (.cells #[] e) ⟨w.heap.size, 0, 0, 0⟩ (fun _ => none) .nocap (fun o v e => by cases e) (fun o k e => by cases e) rfl rfl
  refine ⟨_, .slice (some ⟨w.heap.size, 0, none⟩) 0 0, _, _, ?_, .inl rfl, hx, fun i b q => ?_, hn, ?_⟩
  · unfold execOp; rw [ho]
    simp [hrun]
  · by_cases hi : i = id
    · exact Or.inr hi
    · simp [Env.add, hi] at q; exact Or.inl q
  · exact Rep.sl (b := ⟨w.heap.size, 0, 0, 0⟩) (by simp [Env.add]) (by simp) (fun h => by simp at h)

theorem mks_res {ty e : TypeId} {ei : TI} {l c : Operand} {l' c' : Arg} {bx : Bool} (r : Rel W0 E U h w) (hid : ¬ U id) (ht : Reps E ts a.tmps.toList) (hl : compA l = some l') (hc : compA c = some c') (ho : o.op = .makeSlice ty l c) (hd : P.underlying ty = some (.slice e)) (hei : TIok P e ei)
    (hok : SO.ok id ts h (.mks e ei.size ei.bytes ei.zero.cells l' c' bx)) : Res P W0 o a E U id w (SO.val id ts h (.mks e ei.size ei.bytes ei.zero.cells l' c' bx)) (SO.heap id ts h (.mks e ei.size ei.bytes ei.zero.cells l' c' bx)) := by
  obtain ⟨hzl, hz1, hn1, hn2, h0, hlc, hby, h63⟩ := hok
  obtain ⟨j, z, hj, hsz, hjb, hz, hr⟩ := hei.info
  obtain ⟨k1, ek1⟩ := isInt_inv hn1
  obtain ⟨k2, ek2⟩ := isInt_inv hn2
  have r1 := compA_rep ht hl
  have r2 := compA_rep ht hc
  simp only [SO.val, SO.heap]
  generalize (l'.ev ts).toInt = x at ek1 h0 hlc ⊢
  generalize (c'.ev ts).toInt = y at ek2 hlc hby h63 ⊢
  rw [ek1] at r1; rw [ek2] at r2
  have e1 := r1.int_inv; have e2 := r2.int_inv
  have hrun := run_make (P := P) w ty e j z hd hj hz k1 k2 x y h0 hlc (by rw [hjb, Int.mul_comm]; omega) h63
  have hz0 := Reps.cells (hr E)
  have hf := flat_replicate (n := y.toNat) hzl hz0
  have hle : ∀ e, e ∈ List.replicate x.toNat ei.zero.cells → e.length = ei.size := fun e he => by rw [(List.mem_replicate.1 he).2]; exact hzl
  have hle2 : ∀ e, e ∈ List.replicate y.toNat ei.zero.cells → e.length = ei.size := fun e he => by rw [(List.mem_replicate.1 he).2]; exact hzl
  obtain ⟨E', a1, a2, a3, a4⟩ := newElems r hid bx (s := ei.size) (n := x.toNat) (cap := y.toNat) (es := List.replicate x.toNat ei.zero.cells) (c := madeCells z.cells (y.toNat * j.size)) (by simp) (by omega) hle (fun e he q hq => by
    rw [(List.mem_replicate.1 he).2] at hq; exact List.all_eq_true.1 hz1 q hq) (by rw [size_madeCells, hsz]; exact Nat.le_refl _) (fun i q e' v hi hq => by
      have hi' := (List.getElem?_eq_some_iff.1 hi).1
      have := of_flat hle2 hf i q e' v (by
        rw [List.getElem?_replicate] at hi ⊢
        simp at hi'
        rw [if_pos (by omega)] at hi
        rw [if_pos (by omega)]; exact hi) hq
      rw [← hsz] at this ⊢
      exact this) e
  refine ⟨_, _, _, E', ?_, .inl rfl, a1, a2, a4, a3⟩
  unfold execOp; rw [ho]
  simp [e1, e2, hrun]
end
end Go.Proofs.YtgahmpfpnclefaaW.Abs
