/- Light operations: bytes and strings, equality. -/
import Derived.Test.YtgahmpfpnclefaaA9
import Derived.Laws.BytesString
namespace Go.Proofs.YtgahmpfpnclefaaW.Abs
open Go.RowKit
set_option linter.unusedVariables false
set_option linter.unusedSimpArgs false

section
variable {t : TypeId} {P : Program} {W0 : World} {o : Oper} {a : Act} {E : Env} {U : Nat → Prop} {id : Nat} {h : Hp} {w : World} {ts : List AV}

theorem push_all : ∀ (l : List UInt8) (s : ByteArray), ((l.map fun b => ((b.toNat : Nat) : Int)).foldl (fun r n => r.push (UInt8.ofNat n.toNat)) s) = ⟨s.data ++ l.toArray⟩
  | [], s => by simp
  | b :: l, s => by
    simp only [List.map_cons, List.foldl_cons]
    rw [push_all l]
    have : UInt8.ofNat (b.toNat : Int).toNat = b := by simp
    rw [this]
    congr 1
    simp [ByteArray.push]

theorem b2s_res {s d e : TypeId} {x : Operand} {x' : Arg} (r : Rel W0 E U h w) (ht : Reps E ts a.tmps.toList) (hx : compA x = some x') (ho : o.op = .convert s d x) (hs : P.underlying s = some (.slice e)) (he : P.underlying e = some (.int .u8)) (hd : P.underlying d = some .string)
    (hok : SO.ok id ts h (.b2s x')) : Res P W0 o a E U id w (SO.val id ts h (.b2s x')) h := by
  have rx := compA_rep ht hx
  obtain ⟨es, l, hes, hl⟩ := hok
  simp only [SO.val, hes, hl, Option.getD_some]
  have hle : ∀ e, e ∈ es → e.length = 1 := by rw [bytesOf_spec hl]; exact ind_len l
  obtain ⟨base, cap, news, hv, g1, g2, g3, g4⟩ := cells_list r rx hes hle
  obtain ⟨_, hnil, hload⟩ := g4 P w (fun _ _ h => h)
  rw [bytesOf_spec hl, flat_ind] at g1
  have hnews : news = (l.map fun b => ((b.toNat : Nat) : Int)).map (Value.int .u8) := by
    apply List.ext_getElem?
    intro q
    rcases Nat.lt_or_ge q l.length with hq | hq
    · have hlt : q < news.length := by rw [← g1.1]; simpa using hq
      have := g1.2 q (.int .u8 l[q].toNat) news[q] (by simp [hq]) (List.getElem?_eq_getElem hlt)
      rw [List.getElem?_eq_getElem hlt, this.int_inv]; simp [hq]
    · rw [List.getElem?_eq_none (by rw [← g1.1]; simpa using hq), List.getElem?_eq_none (by simpa using hq)]
  have hlen : es.length = l.length := by rw [bytesOf_spec hl]; simp [ind]
  refine .pure r (v := .string (bytes l)) ?_ (.str _)
  unfold execOp; rw [ho]
  cases base with
  | none =>
    have h0 := hnil rfl
    have : l = [] := by
      rw [h0] at hnews
      have := congrArg List.length hnews
      simp at this; exact List.eq_nil_of_length_eq_zero this.symm
    subst this
    simp [hv, convert, run_underlying hs, run_underlying hd, run_underlying he, Conv.bytesToString]
    rfl
  | some A =>
    have hh := hload A rfl
    rw [Nat.mul_one, hnews] at hh
    have := run_bytesToString (P := P) w A es.length cap (l.map fun b => ((b.toNat : Nat) : Int)) hh
    rw [push_all] at this
    simp [hv, run_convert_bytes_string w s d e (some A) es.length cap hs he hd, this]
    rfl

theorem freeze_cell (w : World) (p : Addr) (n : Nat) (q : Addr) : (w.freeze p n).cell? q = w.cell? q := by
  unfold World.freeze
  by_cases h0 : n = 0
  · rw [if_pos h0]
  · rw [if_neg h0]
    simp only [World.cell?, Array.getElem?_modify]
    by_cases hb : p.block = q.block
    · rw [if_pos hb]
      cases w.heap[q.block]? with
      | none => rfl
      | some x => cases x <;> rfl
    · rw [if_neg hb]
theorem freeze_size (w : World) (p : Addr) (n : Nat) : (w.freeze p n).heap.size = w.heap.size := by
  unfold World.freeze; split <;> simp
theorem freeze_other (w : World) (p : Addr) (n k : Nat) (hk : k ≠ p.block) : (w.freeze p n).heap[k]? = w.heap[k]? := by
  unfold World.freeze
  split
  · rfl
  · simp only [Array.getElem?_modify]; rw [if_neg (fun e => hk e.symm)]

theorem Rel.freeze (r : Rel W0 E U h w) {blk p n : Nat} (hb : W0.heap.size ≤ blk) (hno : ∀ o id, E.M blk o = some (.own id) → (w.freeze ⟨blk, p, none⟩ n).frozen? ⟨blk, o, none⟩ = w.frozen? ⟨blk, o, none⟩) (hmap : ∀ es c, w.heap[blk]? ≠ some (.map es c))
    (hcl : ∀ i b t s, h i = some (.tail (some t) s) → E.ι i = some b → b.blk = blk → ∃ c lo hi, (w.freeze ⟨blk, p, none⟩ n).heap[blk]? = some (.cells c t (lo, hi)) ∧ (0 < b.cap * b.s → hi ≤ b.off)) :
    Rel W0 E U h (w.freeze ⟨blk, p, none⟩ n) := by
  have hbel : Below W0.heap.size w (w.freeze ⟨blk, p, none⟩ n) := by
    refine ⟨?_, ?_, ?_, by rw [freeze_size]; exact Nat.le_refl _, fun k hk => freeze_other _ _ _ _ (by show k ≠ blk; omega)⟩ <;> (unfold World.freeze; split <;> rfl)
  refine ⟨r.below.trans hbel, fun b o v e => by rw [freeze_cell]; exact r.imm b o v e, fun b o k e => by rw [freeze_size]; exact r.lt b o k e, r.own, r.ids, fun i x e => ?_, r.low⟩
  obtain ⟨b, h1, h2⟩ := r.objs i x e
  have hkeep : ∀ q o, E.M q o = some (.own i) → E.M q o = some (.own i) ∧ (w.freeze ⟨blk, p, none⟩ n).cell? ⟨q, o, none⟩ = w.cell? ⟨q, o, none⟩ ∧ (w.freeze ⟨blk, p, none⟩ n).frozen? ⟨q, o, none⟩ = w.frozen? ⟨q, o, none⟩ ∧
      (o = 0 → ∀ es c, w.heap[q]? = some (.map es c) → (w.freeze ⟨blk, p, none⟩ n).heap[q]? = some (.map es c)) := fun q o hq => ⟨hq, freeze_cell _ _ _ _, ?_, fun _ es c hm => ?_⟩
  · refine ⟨b, h1, ?_⟩
    by_cases hb2 : b.blk = blk
    · cases x with
      | box ty es =>
        obtain ⟨⟨c0, fz, h0, hof⟩, a1, a2, a3, a4, f, a5⟩ := h2
        obtain ⟨c1, fz1, g1⟩ : ∃ c1 fz1, (w.freeze ⟨blk, p, none⟩ n).heap[b.blk]? = some (.cells c1 ty fz1) := by
          rw [hb2] at h0 ⊢
          unfold World.freeze; split
          · exact ⟨_, _, h0⟩
          · simp only [Array.getElem?_modify, if_true, h0, Option.map_some]; exact ⟨_, _, rfl⟩
        refine ⟨⟨c1, fz1, g1, hof⟩, a1, a2, a3, fun k hk => ?_, f, fun i j e a hi hj => ?_⟩
        · obtain ⟨o1, o2, o3⟩ := a4 k hk
          obtain ⟨_, k2, k3, _⟩ := hkeep _ _ o1
          exact ⟨o1, by rw [k2]; exact o2, by rw [k3]; exact o3⟩
        · rw [freeze_cell]; exact a5 i j e a hi hj
      | tail ty s =>
        obtain ⟨a1, a2, a3⟩ := h2
        refine ⟨fun t ht => ?_, a2, fun k hk => ?_⟩
        · obtain ⟨c0, lo, hi, g0, g1, g2⟩ := a1 t ht
          subst ht
          obtain ⟨c1, lo1, hi1, q1, q2⟩ := hcl i b t s e h1 hb2
          exact ⟨c1, lo1, hi1, by rw [hb2]; exact q1, q2, g2⟩
        · obtain ⟨o1, o2, o3⟩ := a3 k hk
          obtain ⟨_, k2, k3, _⟩ := hkeep _ _ o1
          exact ⟨o1, by rw [k2]; exact o2, by rw [k3]; exact o3⟩
      | froz es => exact h2
      | nocap => exact h2
      | map kvs =>
        obtain ⟨a1, es, c, a2, a3, a4⟩ := h2
        exact absurd (hb2 ▸ a2) (hmap es c)
    · exact h2.keepOne (Ext.refl E) hkeep (fun c t fz hh => ⟨c, by rw [freeze_other w ⟨blk, p, none⟩ n b.blk hb2]; exact hh⟩) (fun _ _ o k' hk => hk)
  · by_cases hqb : q = blk
    · subst hqb; exact hno o i hq
    · simp only [World.frozen?, freeze_other w ⟨blk, p, none⟩ n q hqb]
  · by_cases hqb : q = blk
    · subst hqb; exact absurd hm (hmap es c)
    · rw [freeze_other w ⟨blk, p, none⟩ n q hqb]; exact hm

theorem s2b_res {s d e : TypeId} {x : Operand} {x' : Arg} (r : Rel W0 E U h w) (hid : ¬ U id) (ht : Reps E ts a.tmps.toList) (hx : compA x = some x') (ho : o.op = .convert s d x) (hs : P.underlying s = some .string) (hd : P.underlying d = some (.slice e)) (he : P.underlying e = some (.int .u8))
    (hok : SO.ok id ts h (.s2b x')) : Res P W0 o a E U id w (SO.val id ts h (.s2b x')) (SO.heap id ts h (.s2b x')) := by
  have rx := compA_rep ht hx
  obtain ⟨l, hl⟩ := hok
  rw [hl] at rx
  simp only [SO.val, SO.heap, hl]
  have hv := rx.str_inv
  have hcap := grownCap_ge w l.length 0 e
  generalize hcp : grownCap w l.length 0 e = cap at hcap
  let c : Array Value := (bytes l).data.map (fun b => Value.int .u8 b.toNat) ++ Array.replicate (cap - l.length) (.int .u8 0)
  have hcs : c.size = cap := by simp [c, bytes]; omega
  have hlen : (ind l).length = l.length := by simp [ind]
  obtain ⟨E', a1, a2, a3, a4, a5⟩ := (r.drew).newRow' hid c e 1 cap (ind l) (by omega) (by omega) (ind_len l) (ind_ones l) (fun i j e' y hi hj => by
    simp only [ind, List.getElem?_map, Option.map_eq_some_iff] at hi
    obtain ⟨b, hb, rfl⟩ := hi
    have hil := (List.getElem?_eq_some_iff.1 hb).1
    cases j with
    | succ j => simp at hj
    | zero =>
      simp at hj; subst hj
      refine ⟨.int .u8 b.toNat, ?_, .int _ _⟩
      simp only [Nat.mul_one, Nat.add_zero, c]
      rw [Array.getElem?_append_left (by simpa [bytes] using hil)]
      simp [bytes, hb])
  have hblk : (w.drew.alloc (.cells c e)).heap[w.heap.size]? = some (.cells c e) := by simp [World.alloc, World.drew, -World.alloc_eq, -World.drew_eq]
  have hfz : ∀ o', o' < c.size → ((w.drew.alloc (.cells c e)).freeze ⟨w.heap.size, c.size, none⟩ 1).frozen? ⟨w.heap.size, o', none⟩ = false := by
    intro o' ho'
    have hm : ((w.drew.alloc (.cells c e)).freeze ⟨w.heap.size, c.size, none⟩ 1).heap[w.heap.size]? = some (.cells c e (c.size, c.size + 1)) := by
      unfold World.freeze
      simp only [Nat.succ_ne_self, if_false, Array.getElem?_modify, if_true, hblk, Option.map_some]
      rfl
    simp only [World.frozen?, hm]
    simp; omega
  have r2 := (a4.weaken (ty' := none) (.inr rfl)).freeze (blk := w.heap.size) (p := c.size) (n := 1) r.below.size (fun o' i hq => by
    have hlt : o' < c.size := by
      have := a5 o' i hq
      omega
    rw [hfz o' hlt]
    exact (World.frozen?_alloc_new _ _ _ _).symm) (fun es c' hm => by
      have : w.drew.heap.size = w.heap.size := rfl
      rw [hblk] at hm; cases hm) (fun i b t0 s0 hi hb hbb => by
      exfalso
      by_cases q : i = id
      · subst q; simp [upd] at hi
      · simp [upd, q] at hi
        rcases a2 i b hb with hb' | hb'
        · obtain ⟨b0, hb0, hcl, _⟩ := r.objs i _ hi
          rw [hb'] at hb0; cases hb0
          obtain ⟨c0, lo, hi0, h0, _⟩ := hcl t0 rfl
          have := (Array.getElem?_eq_some_iff.1 h0).1
          omega
        · exact q hb')
  refine ⟨_, _, _, E', ?_, .inl rfl, a1, a2, r2, by rw [hlen] at a3; exact a3⟩
  have hsh : (w.drew.alloc (.cells c e)).shape? w.heap.size = some (e, c.size) := by unfold World.shape?; rw [hblk]
  unfold execOp; rw [ho]
  have hc1 : (bytes l).data.map (fun b => Value.int .u8 b.toNat) ++ Array.replicate (cap - l.length) (.int .u8 0) = c := rfl
  have hc2 : (Question.appendCap l.length 0 e).cut (w.tape w.drawn (Question.appendCap l.length 0 e)) = cap := hcp
  simp [hv, convert, run_underlying hs, run_underlying hd, run_underlying he, Conv.stringToBytes, Question.forced, newRow, markStringish, bytes_size, hc2, hc1, hsh]
/-- bytes of a constant: the literal's row gets the run-time's mark, and its room behind is never used -/
theorem marks_res {s e : TypeId} {x : Operand} {x' : Arg} (r : Rel W0 E U h w) (ht : Reps E ts a.tmps.toList) (hx : compA x = some x') (ho : o.op = .convert s s x) (hs : P.underlying s = some (.slice e)) (he : P.underlying e = some (.int .u8))
    (hok : SO.ok id ts h (.marks x')) : Res P W0 o a E U id w (SO.val id ts h (.marks x')) (SO.heap id ts h (.marks x')) := by
  have rx := compA_rep ht hx
  obtain ⟨es, t, ty, sz, hv, hne, hh⟩ := hok
  rw [hv] at rx
  simp only [SO.val, SO.heap, hv]
  obtain ⟨b, hb, hcl, hsz, hroom⟩ := r.objs t _ hh
  obtain ⟨c0, lo, hi, h0, hhi, hown⟩ := hcl ty rfl
  have hlow := r.low _ _ hb
  generalize hvv : a.eval x = V at rx
  cases rx with
  | row f hA hl h1 hc hm hrep htk =>
    rename_i A blk off cap s0
    obtain ⟨b', hb', hs0, hcap, hblk⟩ := htk t rfl
    rw [hb] at hb'; cases hb'
    obtain ⟨hbk, hoff⟩ := hblk (.inr hne)
    have hA' := hA (.inr rfl)
    let E' : Env := ⟨E.ι, fun b o => match E.M b o with | some (.own k) => if k = t then none else some (.own k) | y => y⟩
    have hM : ∀ b o k, E'.M b o = some (.own k) → E.M b o = some (.own k) ∧ k ≠ t := by
      intro b o k q
      simp only [E'] at q
      cases q1 : E.M b o with
      | none => rw [q1] at q; cases q
      | some m => cases m with
        | imm v => rw [q1] at q; cases q
        | own j =>
          rw [q1] at q; simp only at q
          split at q
          · cases q
          · rename_i hn; cases q; exact ⟨rfl, hn⟩
    have hI : ∀ b o v, E'.M b o = some (.imm v) → E.M b o = some (.imm v) := by
      intro b o v q
      simp only [E'] at q
      cases q1 : E.M b o with
      | none => rw [q1] at q; cases q
      | some m => cases m with
        | imm v => rw [q1] at q; simpa using q
        | own j =>
          rw [q1] at q; simp only at q
          split at q <;> cases q
    have hE : Ext E E' := ⟨fun _ _ e => e, fun b o v e => by simp only [E']; rw [e]⟩
    have r1 : Rel W0 E' U (upd h t none) w := r.put t none ⟨hE, fun b o k e hk => ⟨by simp only [E']; rw [e]; simp [hk], rfl, rfl, fun _ _ _ e => e⟩, fun _ c _ _ e => ⟨c, e⟩, fun b o k _ e => (hM b o k e).1⟩ r.below
      (fun b o v e => r.imm b o v (hI b o v e)) (fun b o k e => by
        cases k with
        | imm v => exact r.lt b o _ (hI b o v e)
        | own k => exact r.lt b o _ (hM b o k e).1) (fun b o k e => r.own b o k (hM b o k e).1) r.ids r.low (fun y e => by cases e)
    have r2 := r1.freeze (blk := b.blk) (p := c0.size) (n := 1) hlow (fun o' i hq => by
      obtain ⟨q1, q2⟩ := hM _ _ _ hq
      exact absurd (hown o' i q1).1 q2) (fun es c hm => by rw [h0] at hm; cases hm) (fun i b2 t2 s2 hi2 hb2 hbb => by
      by_cases q : i = t
      · subst q; simp [upd] at hi2
      · simp [upd, q] at hi2
        obtain ⟨b3, hb3, hcl3, hsz3, hroom3⟩ := r.objs i _ hi2
        have hb2' : E.ι i = some b2 := hb2
        rw [hb2'] at hb3; cases hb3
        obtain ⟨c3, lo3, hi3, g0, g1, g2⟩ := hcl3 t2 rfl
        rw [hbb, h0] at g0
        cases g0
        have hm : ∃ lo' hi', (w.freeze ⟨b.blk, c0.size, none⟩ 1).heap[b.blk]? = some (.cells c0 ty (lo', hi')) := by
          unfold World.freeze
          simp only [Nat.succ_ne_self, if_false, Array.getElem?_modify, if_true, h0, Option.map_some]
          split <;> exact ⟨_, _, rfl⟩
        obtain ⟨lo', hi', hm⟩ := hm
        refine ⟨c0, lo', hi', hm, fun hpos => ?_⟩
        exfalso
        obtain ⟨k1, _, _⟩ := hroom3 0 hpos
        rw [hbb] at k1
        exact q (hown _ _ k1).1)
    refine ⟨_, _, _, E', ?_, .inl rfl, hE, fun _ _ e => .inl e, r2.used fun _ => .inl, (Rep.row f (fun q => hA (q.imp_right (fun q => by cases q))) hl h1 hc hm hrep (fun t e => by cases e)).mono hE⟩
    subst hA'
    rw [hbk] at h0
    have hsh : w.shape? blk = some (ty, c0.size) := by unfold World.shape?; rw [h0]
    unfold execOp; rw [ho]
    simp [hvv, convert, run_underlying hs, run_underlying he, markStringish, hsh, hbk]
end
end Go.Proofs.YtgahmpfpnclefaaW.Abs
