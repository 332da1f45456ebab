/- Maps whose keys are integers, truth values or strings. -/
import Derived.Test.YtgahmpfpnclefaaA12
import Derived.MapKept
namespace Go.Proofs.YtgahmpfpnclefaaW.Abs
open Go.RowKit
set_option linter.unusedVariables false
set_option linter.unusedSimpArgs false

def CKof (d : TypeDesc) : CK → Prop
  | .int => ∃ k, d = .int k
  | .bool => d = .bool
  | .str => d = .string

theorem bytes_inj {a b : List UInt8} : (bytes a == bytes b) = (a == b) := by
  rw [Bool.eq_iff_iff, MapKept.bytes_beq]
  simp [bytes]

section
variable {P : Program} {W0 : World} {o : Oper} {a : Act} {E : Env} {U : Nat → Prop} {id : Nat} {h : Hp} {w : World} {ts : List AV}

theorem sameNow_of {d : TypeDesc} {ck : CK} (hd : CKof d ck) {x y : AV} {u v : Value} (hx : Rep E x u) (hy : Rep E y v) {b : Bool} (he : eqCell ck x y = some b) : Instr.sameNow d u v = some b := by
  cases ck with
  | int =>
    obtain ⟨k, rfl⟩ := hd
    cases x <;> simp only [eqCell] at he <;> try (cases he; done)
    cases y <;> simp only [eqCell] at he <;> try (cases he; done)
    rw [hx.int_inv, hy.int_inv]
    simpa [Instr.sameNow] using he
  | bool =>
    cases hd
    cases x <;> simp only [eqCell] at he <;> try (cases he; done)
    cases y <;> simp only [eqCell] at he <;> try (cases he; done)
    rw [hx.bool_inv, hy.bool_inv]
    simpa [Instr.sameNow] using he
  | str =>
    cases hd
    cases x <;> simp only [eqCell] at he <;> try (cases he; done)
    cases y <;> simp only [eqCell] at he <;> try (cases he; done)
    rw [hx.str_inv, hy.str_inv]
    simp only [Instr.sameNow, bytes_inj]
    exact he
theorem sameBits_of {ck : CK} {x y : AV} {u v : Value} (hx : Rep E x u) (hy : Rep E y v) (he : eqCell ck x y = some true) (n : Nat) : Instr.sameBits n v u = true := by
  cases ck with
  | int =>
    cases x <;> simp only [eqCell] at he <;> try (cases he; done)
    cases y <;> simp only [eqCell] at he <;> try (cases he; done)
    rw [hx.int_inv, hy.int_inv]
    split at he
    · rename_i hk; subst hk; simp at he; subst he; cases n <;> simp [Instr.sameBits]
    · cases he
  | bool =>
    cases x <;> simp only [eqCell] at he <;> try (cases he; done)
    cases y <;> simp only [eqCell] at he <;> try (cases he; done)
    rw [hx.bool_inv, hy.bool_inv]
    simp at he; subst he; cases n <;> simp [Instr.sameBits]
  | str =>
    cases x <;> simp only [eqCell] at he <;> try (cases he; done)
    cases y <;> simp only [eqCell] at he <;> try (cases he; done)
    rw [hx.str_inv, hy.str_inv]
    simp at he; subst he
    rename_i l
    have := (MapKept.bytes_beq (bytes l) (bytes l)).2 rfl
    cases n <;> simp only [Instr.sameBits] <;> exact this
theorem isKey_of {d : TypeDesc} {ck : CK} (hd : CKof d ck) {x : AV} {u : Value} (hx : Rep E x u) (hk : ckOf ck x) (e : Bool) (n : Nat) {kt : TypeId} (hu : P.underlying kt = some d) (w : World) : (Instr.checkKey e (n + 1) kt u).run P w = .ok () w := by
  unfold Instr.checkKey
  simp only [Sem.run_bind, run_underlying hu, Result.andThen]
  cases ck with
  | int => obtain ⟨k, rfl⟩ := hd; rfl
  | bool => cases hd; rfl
  | str => cases hd; rfl

/-- the model's search finds what the light one finds -/
theorem findNow_of {d : TypeDesc} {ck : CK} (hd : CKof d ck) {x : AV} {u : Value} (hx : Rep E x u) : ∀ (kvs : List (AV × AV)) (es : List MapEntry) (i : Nat) (r : Option (Nat × AV)), Reps E (kvs.map (·.1)) (es.map (·.key)) → Reps E (kvs.map (·.2)) (es.map (·.val)) → mfind ck x kvs = some r →
    match r with
    | none => Instr.findNow d u es i = some none
    | some (j, v) => ∃ e, es[j]? = some e ∧ Instr.findNow d u es i = some (some (i + j, e.val)) ∧ Rep E v e.val ∧ Instr.sameBits 10000 e.key u = true
  | [], es, i, r, h1, h2, hm => by
    have : es = [] := by have := h1.1; simp at this; exact List.eq_nil_of_length_eq_zero this.symm
    subst this; simp [mfind] at hm; subst hm; rfl
  | (k, v) :: kvs, es, i, r, h1, h2, hm => by
    cases es with
    | nil => have := h1.1; simp at this
    | cons e es =>
      have hk : Rep E k e.key := h1.2 0 _ _ rfl rfl
      have hv : Rep E v e.val := h2.2 0 _ _ rfl rfl
      have h1' : Reps E (kvs.map (·.1)) (es.map (·.key)) := ⟨by have := h1.1; simpa using this, fun i a v ha hv => h1.2 (i + 1) a v (by simpa using ha) (by simpa using hv)⟩
      have h2' : Reps E (kvs.map (·.2)) (es.map (·.val)) := ⟨by have := h2.1; simpa using this, fun i a v ha hv => h2.2 (i + 1) a v (by simpa using ha) (by simpa using hv)⟩
      simp only [mfind] at hm
      cases hq : eqCell ck x k with
      | none => rw [hq] at hm; cases hm
      | some b =>
        have hs := sameNow_of hd hx hk hq
        cases b with
        | true =>
          rw [hq] at hm; cases hm
          exact ⟨e, rfl, by simp [Instr.findNow, hs], hv, sameBits_of hx hk hq _⟩
        | false =>
          rw [hq] at hm
          simp only [Option.map_eq_some_iff] at hm
          obtain ⟨r', hr', rfl⟩ := hm
          have ih := findNow_of hd hx kvs es (i + 1) r' h1' h2' hr'
          cases r' with
          | none => simp only [Option.map_none]; simp only at ih; simp [Instr.findNow, hs, ih]
          | some p =>
            obtain ⟨j, v'⟩ := p
            obtain ⟨e', a1, a2, a3, a4⟩ := ih
            exact ⟨e', by simpa using a1, by simp [Instr.findNow, hs, a2]; omega, a3, a4⟩

theorem mapAt_rep (r : Rel W0 E U h w) {X : AV} {V : Value} (hx : Rep E X V) {kvs : List (AV × AV)} (hm : mapAt h X = some kvs) :
    (V = .map none ∧ kvs = []) ∨ ∃ blk es clock, V = .map (some blk) ∧ w.heap[blk]? = some (.map es clock) ∧ Reps E (kvs.map (·.1)) (es.toList.map (·.key)) ∧ Reps E (kvs.map (·.2)) (es.toList.map (·.val)) := by
  cases hx <;> simp only [mapAt] at hm <;> try (cases hm; done)
  · cases hm; exact .inl ⟨rfl, rfl⟩
  · rename_i id' b hb
    cases ho : h id' with
    | none => simp [ho] at hm
    | some y =>
      cases y <;> simp [ho] at hm
      subst hm
      obtain ⟨b', hb', h1, es, c, h2, h3, h4⟩ := r.objs _ _ ho
      rw [hb] at hb'; cases hb'
      exact .inr ⟨_, es, c, rfl, h2, h3, h4⟩

theorem mkm_res {ty kt et : TypeId} {hint : Option Operand} {hint' : Option Arg} (r : Rel W0 E U h w) (hid : ¬ U id) (ht : Reps E ts a.tmps.toList) (hm : compM hint = some hint') (ho : o.op = .makeMap ty hint) (hu : P.underlying ty = some (.map kt et))
    (hok : SO.ok id ts h (.mkm hint')) : Res P W0 o a E U id w (SO.val id ts h (.mkm hint')) (SO.heap id ts h (.mkm hint')) := by
  have hx := r.ext_add hid ⟨w.heap.size, 0, 1, 1⟩ (fun o => if o = 0 then some (.own id) else none)
  refine ⟨.value (.map (some w.heap.size)), .map (some w.heap.size), w.alloc (.map #[] 0), E.add id ⟨w.heap.size, 0, 1, 1⟩ w.heap.size (fun o => if o = 0 then some (.own id) else none), ?_, .inl rfl, hx, ?_, r.newObj hid _ _ _ _ ?_ ?_ rfl ?_, ?_⟩
  · have hb := bound_rep ht hm hok 0
    unfold execOp; rw [ho]
    rcases hb with ⟨rfl, _⟩ | ⟨z, k, rfl, hz⟩
    · simp [Instr.makeMap]
    · simp [Instr.makeMap, run_underlying hu, hz, asInt, asIntOf]
  · intro i b e
    by_cases hi : i = id
    · exact Or.inr hi
    · simp [Env.add, hi] at e; exact Or.inl e
  · intro o v e; by_cases q : o = 0 <;> simp [q] at e
  · intro o k e; by_cases q : o = 0 <;> simp [q] at e; exact e.symm
  · exact ⟨by simp [Env.add], #[], 0, (MapKept.heap_alloc w _).1, .nil, .nil⟩
  · exact .mp (b := ⟨w.heap.size, 0, 1, 1⟩) (by simp [Env.add])

theorem look_res {ty kt et : TypeId} {d : TypeDesc} {ck : CK} {i : TI} {ok : Bool} {m k : Operand} {m' k' : Arg} (r : Rel W0 E U h w) (ht : Reps E ts a.tmps.toList) (hm : compA m = some m') (hk : compA k = some k') (ho : o.op = .lookup ty m k ok)
    (hu : P.underlying ty = some (.map kt et)) (hkt : P.underlying kt = some d) (hd : CKof d ck) (hi : TIok P et i)
    (hok : SO.ok id ts h (.look ck i.zero ok m' k')) : Res P W0 o a E U id w (SO.val id ts h (.look ck i.zero ok m' k')) h := by
  obtain ⟨hck, kvs, res, hmap, hf⟩ := hok
  have rm := compA_rep ht hm
  have rk := compA_rep ht hk
  simp only [SO.val, hmap, hf, Option.getD_some]
  obtain ⟨j, z, hj, _, _, hz, hzr⟩ := hi.info
  have hck' := fun e => isKey_of (P := P) hd rk hck e 9999 hkt w
  have core : ∀ (V : Value) (es : Array MapEntry), Reps E (kvs.map (·.1)) (es.toList.map (·.key)) → Reps E (kvs.map (·.2)) (es.toList.map (·.val)) → (V = .map none ∧ es = #[] ∨ ∃ blk c, V = .map (some blk) ∧ w.heap[blk]? = some (.map es c)) → a.eval m = V →
      ∃ v, (execOp a.eval o).run P w = .ok (.value v) w ∧ Rep E (lookVal i.zero ok res) v := by
    intro V es h1 h2 hV hme
    have hfn := findNow_of hd rk kvs es.toList 0 res h1 h2 hf
    cases res with
    | none =>
      refine ⟨if ok then .tuple #[z, .bool false] else z, ?_, ?_⟩
      · unfold execOp; rw [ho]
        simp only at hfn
        have hff := fun w => MapKept.run_findKey (P := P) (w := w) hkt hfn
        rcases hV with ⟨rfl, rfl⟩ | ⟨blk, c, rfl, hb⟩
        · cases ok <;> simp [Instr.lookup, run_underlying hu, hme, hck', hff, zeroValue, typeInfo, hj, hz] <;> simp_all [MapKept.run_findKey hkt hfn, zeroValue, typeInfo]
        · cases ok <;> simp [Instr.lookup, run_underlying hu, hme, hck', hff, MapKept.run_getObj_map hb, zeroValue, typeInfo, hj, hz]
      · cases ok
        · exact hzr E
        · exact .tup' (.cons (hzr E) (.cons (.bool _) .nil))
    | some p =>
      obtain ⟨jj, v'⟩ := p
      obtain ⟨e, e1, e2, e3, _⟩ := hfn
      have hff := fun w => MapKept.run_findKey (P := P) (w := w) hkt e2
      refine ⟨if ok then .tuple #[e.val, .bool true] else e.val, ?_, ?_⟩
      · unfold execOp; rw [ho]
        rcases hV with ⟨rfl, rfl⟩ | ⟨blk, c, rfl, hb⟩
        · simp at e1
        · cases ok <;> simp [Instr.lookup, run_underlying hu, hme, hck', hff, MapKept.run_getObj_map hb]
      · cases ok
        · exact e3
        · exact .tup' (.cons e3 (.cons (.bool _) .nil))
  rcases mapAt_rep r rm hmap with ⟨hV, rfl⟩ | ⟨blk, es, c, hV, hb, h1, h2⟩
  · obtain ⟨v, e1, e2⟩ := core _ #[] .nil .nil (.inl ⟨rfl, rfl⟩) hV
    exact .pure r e1 e2
  · obtain ⟨v, e1, e2⟩ := core _ es h1 h2 (.inr ⟨blk, c, rfl, hb⟩) hV
    exact .pure r e1 e2

theorem mput_res {ty kt et : TypeId} {d : TypeDesc} {ck : CK} {m k v : Operand} {m' k' v' : Arg} (r : Rel W0 E U h w) (ht : Reps E ts a.tmps.toList) (hm : compA m = some m') (hk : compA k = some k') (hv : compA v = some v') (ho : o.op = .mapUpdate ty m k v ∨ o.op = .insert ty m k v)
    (hu : P.underlying ty = some (.map kt et)) (hkt : P.underlying kt = some d) (hd : CKof d ck)
    (hok : SO.ok id ts h (.mput ck m' k' v')) : Res P W0 o a E U id w (SO.val id ts h (.mput ck m' k' v')) (SO.heap id ts h (.mput ck m' k' v')) := by
  obtain ⟨hck, id', kvs, res, hmp, hobj, hf⟩ := hok
  have rm := compA_rep ht hm
  have rk := compA_rep ht hk
  have rv := compA_rep ht hv
  rw [hmp] at rm
  simp only [SO.heap, hmp, hobj]
  obtain ⟨b, hb, h1, es, c, h2, h3, h4⟩ := r.objs _ _ hobj
  have hme : a.eval m = .map (some b.blk) := by
    generalize a.eval m = V at rm
    cases rm with
    | mp hb' => rw [hb] at hb'; cases hb'; rfl
  have hck' := fun e => isKey_of (P := P) hd rk hck e 9999 hkt w
  have hfn := findNow_of hd rk kvs es.toList 0 res h3 h4 hf
  have hlt : b.blk < w.heap.size := r.lt _ _ _ h1
  have fin : ∀ (es' : Array MapEntry) (c' : Nat), (execOp a.eval o).run P w = .ok .skip { w with heap := w.heap.setIfInBounds b.blk (.map es' c') } → Reps E ((mset ck (k'.ev ts) (v'.ev ts) kvs).map (·.1)) (es'.toList.map (·.key)) → Reps E ((mset ck (k'.ev ts) (v'.ev ts) kvs).map (·.2)) (es'.toList.map (·.val)) →
      Res P W0 o a E U id w (SO.val id ts h (.mput ck m' k' v')) (upd h id' (some (.map (mset ck (k'.ev ts) (v'.ev ts) kvs)))) := by
    intro es' c' hrun hr1 hr2
    have hheap : ({ w with heap := w.heap.setIfInBounds b.blk (.map es' c') } : World).heap[b.blk]? = some (.map es' c') := (MapKept.heap_set h2).1
    have hother : ∀ q, q ≠ b.blk → ({ w with heap := w.heap.setIfInBounds b.blk (.map es' c') } : World).heap[q]? = w.heap[q]? := (MapKept.heap_set h2).2
    have hcell : ∀ q o, ({ w with heap := w.heap.setIfInBounds b.blk (.map es' c') } : World).cell? ⟨q, o, none⟩ = w.cell? ⟨q, o, none⟩ := by
      intro q o
      by_cases hq : q = b.blk
      · subst hq; simp only [World.cell?, hheap, h2]
      · simp only [World.cell?, hother q hq]
    have hfroz : ∀ q o, ({ w with heap := w.heap.setIfInBounds b.blk (.map es' c') } : World).frozen? ⟨q, o, none⟩ = w.frozen? ⟨q, o, none⟩ := by
      intro q o
      by_cases hq : q = b.blk
      · subst hq; simp only [World.frozen?, hheap, h2]
      · simp only [World.frozen?, hother q hq]
    refine ⟨.skip, undef, _, E, hrun, .inr ⟨rfl, rfl⟩, .refl E, fun _ _ e => .inl e, ?_, .undef⟩
    refine Rel.used (r.put (V := U) id' _ ⟨.refl E, fun q o kk hkk hne => ⟨hkk, hcell q o, hfroz q o, fun h0 es2 c2 hes => ?_⟩, fun q c t fz hh => ⟨c, by rw [hother q (fun e => by rw [e, h2] at hh; cases hh)]; exact hh⟩, fun _ _ _ _ e => e⟩ ?_ (fun q o x hx => by rw [hcell]; exact r.imm q o x hx) (fun q o x hx => by simpa using r.lt q o x hx) r.own r.ids r.low (fun y hy => ?_)) (fun _ => .inl)
    · have hq : q ≠ b.blk := by
        rintro rfl; subst h0; rw [h1] at hkk; cases hkk; exact hne rfl
      rw [hother q hq]; exact hes
    · refine r.below.trans ⟨rfl, rfl, rfl, by simp, fun q hq => hother q ?_⟩
      have := r.own _ _ _ h1; omega
    · cases hy
      exact ⟨b, hb, h1, es', c', hheap, hr1, hr2⟩
  cases res with
  | none =>
    simp only at hfn
    have hms : mset ck (k'.ev ts) (v'.ev ts) kvs = kvs ++ [(k'.ev ts, v'.ev ts)] := by simp [mset, hf]
    refine fin (es.push { key := a.eval k, val := a.eval v, born := c }) (c + 1) ?_ ?_ ?_
    · unfold execOp
      rcases ho with ho | ho <;> rw [ho] <;> simp [Instr.mapUpdate, run_underlying hu, hme, MapKept.run_getObj_map h2, hck', MapKept.run_findKey hkt hfn, MapKept.run_setObj_map _ h2]
    · rw [hms]; simpa using h3.append (.cons rk .nil)
    · rw [hms]; simpa using h4.append (.cons rv .nil)
  | some p =>
    obtain ⟨j, u⟩ := p
    obtain ⟨e, e1, e2, e3, e4⟩ := hfn
    have hms : mset ck (k'.ev ts) (v'.ev ts) kvs = kvs.set j (k'.ev ts, v'.ev ts) := by simp [mset, hf]
    have he' : es[j]? = some e := by simpa using e1
    have hmod : ∀ (g : MapEntry → Value), (es.modify j fun e => { e with key := a.eval k, val := a.eval v }).toList.map g = (es.toList.map g).set j (g { e with key := a.eval k, val := a.eval v }) := by
      intro g
      apply List.ext_getElem?
      intro n
      rw [Array.toList_modify, List.getElem?_map, List.getElem?_modify, List.getElem?_set, List.getElem?_map]
      by_cases hn : j = n
      · subst hn
        have hl : j < es.toList.length := (List.getElem?_eq_some_iff.1 e1).1
        have hl' : j < es.size := by simpa using hl
        have hee : es[j] = e := by have := he'; rw [Array.getElem?_eq_getElem hl'] at this; exact Option.some.inj this
        simp [e1, hl, he', hl', hee]
      · simp [hn]
    refine fin (es.modify j fun e => { e with key := a.eval k, val := a.eval v }) c ?_ ?_ ?_
    · unfold execOp
      rcases ho with ho | ho <;> rw [ho] <;> simp [Instr.mapUpdate, run_underlying hu, hme, MapKept.run_getObj_map h2, hck', MapKept.run_findKey hkt e2, MapKept.run_setObj_map _ h2, Instr.keyThatStays, he', e4]
    · rw [hms, hmod, List.map_set]; exact h3.set rk j
    · rw [hms, hmod, List.map_set]; exact h4.set rv j

theorem mlen_res {ty kt et : TypeId} {x : Operand} {x' : Arg} {c : Call} (r : Rel W0 E U h w) (ht : Reps E ts a.tmps.toList) (hx : compA x = some x') (ho : o.op = .call c) (hc : c.callee = .builtin .len) (hca : c.args = #[x]) (hct : c.argTypes = #[ty]) (hd : P.underlying ty = some (.map kt et))
    (hok : SO.ok id ts h (.mlen x')) : Res P W0 o a E U id w (SO.val id ts h (.mlen x')) h := by
  obtain ⟨kvs, hm⟩ := hok
  simp only [SO.val, hm, Option.getD_some]
  refine .pure r (v := .int .i64 (kvs.length : Nat)) ?_ (.int _ _)
  unfold execOp; rw [ho]
  rcases mapAt_rep r (compA_rep ht hx) hm with ⟨hV, rfl⟩ | ⟨blk, es, c', hV, hb, h1, h2⟩
  · simp [resolve, hc, hca, hct, invoke, builtin, Builtin.len_, hV, run_underlying hd, goInt]
  · have := h1.1
    simp at this
    simp [resolve, hc, hca, hct, invoke, builtin, Builtin.len_, hV, run_underlying hd, goInt, MapKept.run_getObj_map hb, this]
end
end Go.Proofs.YtgahmpfpnclefaaW.Abs
