/- Equality by ==. -/
import Derived.Test.YtgahmpfpnclefaaA10
import Derived.Laws.StructEq
namespace Go.Proofs.YtgahmpfpnclefaaW.Abs
open Go.RowKit
set_option linter.unusedVariables false
set_option linter.unusedSimpArgs false

/-- what is known of the types -/
abbrev Tys := TypeId → Option TI

structure Tysok (P : Program) (τ : Tys) : Prop where
  ok : ∀ t i, τ t = some i → TIok P t i

/-- structs and arrays whose equality is that of all their cells -/
def eqFs (f : TypeId → Option (List CK)) (τ : Tys) : Nat → List Field → Option (List CK)
  | _, [] => some []
  | off, x :: r => match f x.type, τ x.type, eqFs f τ (off + ((τ x.type).map (·.size)).getD 0) r with
    | some ks, some i, some rest => if x.offset = off ∧ x.name ≠ "_" ∧ ks.length = i.size then some (ks ++ rest) else none
    | _, _, _ => none
def rep (n : Nat) (ks : List CK) : List CK := (List.replicate n ks).flatten
def eqTy (τ : Tys) (pl : TypeId → Bool) : Nat → TypeId → Option (List CK)
  | 0, _ => none
  | d + 1, t => match τ t with
    | none => none
    | some i => match i.d with
      | .int _ => some [.int]
      | .bool => some [.bool]
      | .string => some [.str]
      | .struct fs => if pl t then eqFs (eqTy τ pl d) τ 0 fs.toList else none
      | .array n e => match eqTy τ pl d e, τ e with
        | some ks, some j => if ks.length = j.size then some (rep n ks) else none
        | _, _ => none
      | _ => none

theorem eqCells_append : ∀ {k1 k2 : List CK} {a1 a2 b1 b2 : List AV}, a1.length = k1.length → b1.length = k1.length → eqCells (k1 ++ k2) (a1 ++ a2) (b1 ++ b2) = (match eqCells k1 a1 b1 with | some true => eqCells k2 a2 b2 | x => x)
  | [], _, a1, _, b1, _, h1, h2 => by
    have := List.eq_nil_of_length_eq_zero h1; have := List.eq_nil_of_length_eq_zero h2
    subst a1; subst b1; simp [eqCells]
  | k :: ks, k2, [], _, b1, _, h1, h2 => by simp at h1
  | k :: ks, k2, a :: as, _, [], _, h1, h2 => by simp at h2
  | k :: ks, k2, a :: as, a2, b :: bs, b2, h1, h2 => by
    have ih := eqCells_append (k1 := ks) (k2 := k2) (a1 := as) (a2 := a2) (b1 := bs) (b2 := b2) (by simpa using h1) (by simpa using h2)
    simp only [List.cons_append, eqCells]
    cases eqCell k a b with
    | none => rfl
    | some x => cases x <;> simp [ih]

theorem eqCells_len : ∀ {ks : List CK} {as bs : List AV} {b : Bool}, eqCells ks as bs = some true → as.length = ks.length ∧ bs.length = ks.length
  | [], [], [], _, _ => ⟨rfl, rfl⟩
  | [], _ :: _, _, _, h => by simp [eqCells] at h
  | [], [], _ :: _, _, h => by simp [eqCells] at h
  | k :: ks, [], _, _, h => by simp [eqCells] at h
  | k :: ks, a :: as, [], _, h => by simp [eqCells] at h
  | k :: ks, a :: as, b :: bs, x, h => by
    simp only [eqCells] at h
    cases he : eqCell k a b with
    | none => simp [he] at h
    | some y =>
      cases y with
      | false => simp [he] at h
      | true =>
        simp only [he] at h
        obtain ⟨h1, h2⟩ := eqCells_len (b := x) h
        simp [h1, h2]

section
variable {P : Program} {E : Env} {w : World}

/-- the value of a type, told by its cells -/
def ofCells (i : TI) (vs : Array Value) : Option Value := if isAggD i.d then some (.agg vs) else vs[0]?

/-- == of a type is the cells' -/
def EqOf (P : Program) (i : TI) (t : TypeId) (ks : List CK) (D : Nat) : Prop :=
  ∀ (E : Env) (w : World) (as bs : List AV) (vs us : Array Value) (v u : Value) (b : Bool), Reps E as vs.toList → Reps E bs us.toList → as.length = ks.length → bs.length = ks.length → ofCells i vs = some v → ofCells i us = some u → eqCells ks as bs = some b →
    ∀ d, D ≤ d → (Op.equalIn d t v u).run P w = .ok b w

theorem eqOf_scalar {i : TI} {t : TypeId} (hi : TIok P t i) {k : CK} (hk : (∃ q, i.d = .int q) ∧ k = .int ∨ i.d = .bool ∧ k = .bool ∨ i.d = .string ∧ k = .str) : EqOf P i t [k] 1 := by
  intro E w as bs vs us v u b ha hb hla hlb hv hu he d hd
  obtain ⟨d, rfl⟩ : ∃ e, d = e + 1 := ⟨d - 1, by omega⟩
  have hag : isAggD i.d = false := by rcases hk with ⟨⟨q, h⟩, _⟩ | ⟨h, _⟩ | ⟨h, _⟩ <;> rw [h] <;> rfl
  simp only [ofCells, hag, Bool.false_eq_true, if_false] at hv hu
  match as, hla with
  | [x], _ =>
    match bs, hlb with
    | [y], _ =>
      have rx := ha.2 0 x v rfl (by simpa using hv)
      have ry := hb.2 0 y u rfl (by simpa using hu)
      have he' : eqCell k x y = some b := by
        simp only [eqCells] at he
        cases hc : eqCell k x y with
        | none => simp [hc] at he
        | some z => cases z <;> simp [hc] at he <;> simp [he]
      have hu := hi.und
      rcases hk with ⟨⟨q, h⟩, rfl⟩ | ⟨h, rfl⟩ | ⟨h, rfl⟩
      · rw [h] at hu
        cases x <;> simp only [eqCell] at he' <;> try (cases he'; done)
        rename_i k1 n1
        cases y <;> simp only [eqCell] at he' <;> try (cases he'; done)
        rename_i k2 n2
        split at he'
        · rename_i hkk; subst hkk; cases he'
          rw [rx.int_inv, ry.int_inv]
          exact run_equalIn_int w d t _ q _ _ hu
        · cases he'
      · rw [h] at hu
        cases x <;> simp only [eqCell] at he' <;> try (cases he'; done)
        cases y <;> simp only [eqCell] at he' <;> try (cases he'; done)
        cases he'
        rw [rx.bool_inv, ry.bool_inv]
        exact run_equalIn_bool' w d t _ _ hu
      · rw [h] at hu
        cases x <;> simp only [eqCell] at he' <;> try (cases he'; done)
        cases y <;> simp only [eqCell] at he' <;> try (cases he'; done)
        cases he'
        rw [rx.str_inv, ry.str_inv]
        rw [run_equalIn_string w d t _ _ hu, bytes_toList, bytes_toList]

theorem Reps.sub {E : Env} {as : List AV} {vs : List Value} (h : Reps E as vs) (off n : Nat) : Reps E ((as.drop off).take n) ((vs.drop off).take n) := by
  refine ⟨by simp [h.1], fun i a v ha hv => ?_⟩
  have hi : i < n := by have := (List.getElem?_eq_some_iff.1 ha).1; simp at this; omega
  rw [List.getElem?_take_of_lt hi, List.getElem?_drop] at ha hv
  exact h.2 _ a v ha hv

/-- the part of an aggregate as the model reads it -/
theorem run_part {t : TypeId} {i : TI} (hi : TIok P t i) (vs : Array Value) (off : Nat) (hs : off + i.size ≤ vs.size) (h1 : isAggD i.d = false → i.size = 1) : ∃ v, (part t vs off).run P w = .ok v w ∧ ofCells i (vs.extract off (off + i.size)) = some v := by
  obtain ⟨j, z, hj, hsz, _⟩ := hi.info
  cases hag : isAggD i.d with
  | false =>
    have hp' : off < vs.size := by have := h1 hag; omega
    have hag' : (isAgg t).run P w = .ok false w := by
      unfold isAgg
      simp only [Sem.run_bind, run_underlying hi.und, Result.andThen_ok]
      cases hd : i.d <;> simp [hd, isAggD] at hag ⊢
    refine ⟨vs[off], by simp [part, hag', Array.getElem?_eq_getElem hp'], ?_⟩
    simp only [ofCells, hag, Bool.false_eq_true, if_false]
    rw [Array.getElem?_extract, if_pos (by have := h1 hag; omega)]
    simp [Array.getElem?_eq_getElem hp']
  | true =>
    have hag' : (isAgg t).run P w = .ok true w := by
      unfold isAgg
      simp only [Sem.run_bind, run_underlying hi.und, Result.andThen_ok]
      cases hd : i.d <;> simp [hd, isAggD] at hag ⊢
    exact ⟨.agg (vs.extract off (off + i.size)), by simp [part, hag', sizeOf, typeInfo, hj, hsz], by simp [ofCells, hag]⟩

theorem eqOf_fields {τ : Tys} (hτ : Tysok P τ) (f : TypeId → Option (List CK)) (D : Nat) (hf : ∀ t ks i, f t = some ks → τ t = some i → ks.length = i.size → EqOf P i t ks D ∧ (isAggD i.d = false → i.size = 1)) :
    ∀ (fs : List Field) (off : Nat) (ks : List CK), eqFs f τ off fs = some ks → ∀ (E : Env) (w : World) (as bs : List AV) (vs us : Array Value) (b : Bool), Reps E as vs.toList → Reps E bs us.toList → off + ks.length = as.length → off + ks.length = bs.length →
      eqCells ks (as.drop off) (bs.drop off) = some b → ∀ d, D ≤ d → (Op.eqFields d vs us fs).run P w = .ok b w
  | [], off, ks, hk, E, w, as, bs, vs, us, b, ha, hb, h1, h2, he, d, hd => by
    cases hk
    have e1 : as.drop off = [] := by apply List.eq_nil_of_length_eq_zero; simp at h1 ⊢; omega
    have e2 : bs.drop off = [] := by apply List.eq_nil_of_length_eq_zero; simp at h2 ⊢; omega
    rw [e1, e2] at he
    simp [eqCells] at he; subst he
    simp [Op.eqFields]
  | x :: r, off, ks, hk, E, w, as, bs, vs, us, b, ha, hb, h1, h2, he, d, hd => by
    unfold eqFs at hk
    split at hk
    · rename_i k1 i rest g1 g2 g3
      split at hk
      · rename_i hh; obtain ⟨c1, c2, c3⟩ := hh
        cases hk
        rw [g2] at g3
        simp only [Option.map_some, Option.getD_some] at g3
        obtain ⟨hE, h1c⟩ := hf x.type k1 i g1 g2 c3
        have hi := hτ.ok _ _ g2
        have la : as.length = vs.size := by simpa using ha.1
        have lb : bs.length = us.size := by simpa using hb.1
        simp only [List.length_append] at h1 h2
        obtain ⟨v, hv1, hv2⟩ := run_part (P := P) (w := w) hi vs off (by omega) h1c
        obtain ⟨u, hu1, hu2⟩ := run_part (P := P) (w := w) hi us off (by omega) h1c
        have ra : Reps E ((as.drop off).take k1.length) (vs.extract off (off + i.size)).toList := by
          have := ha.sub off i.size
          rw [c3]; simpa using this
        have rb : Reps E ((bs.drop off).take k1.length) (us.extract off (off + i.size)).toList := by
          have := hb.sub off i.size
          rw [c3]; simpa using this
        have e1 : as.drop off = (as.drop off).take k1.length ++ as.drop (off + i.size) := by
          rw [← c3, ← List.drop_drop, List.take_append_drop]
        have e2 : bs.drop off = (bs.drop off).take k1.length ++ bs.drop (off + i.size) := by
          rw [← c3, ← List.drop_drop, List.take_append_drop]
        have la1 : ((as.drop off).take k1.length).length = k1.length := by simp; omega
        have lb1 : ((bs.drop off).take k1.length).length = k1.length := by simp; omega
        rw [e1, e2, eqCells_append la1 lb1] at he
        have hex : ∃ b1, eqCells k1 ((as.drop off).take k1.length) ((bs.drop off).take k1.length) = some b1 := by
          cases hc : eqCells k1 ((as.drop off).take k1.length) ((bs.drop off).take k1.length) with
          | none => simp [hc] at he
          | some b1 => exact ⟨b1, rfl⟩
        obtain ⟨b1, hb1⟩ := hex
        have hrun := hE E w _ _ _ _ v u b1 ra rb la1 lb1 hv2 hu2 hb1 d hd
        rw [hb1] at he
        simp only [Op.eqFields, c2, ne_eq, not_false_eq_true, if_true, c1, Sem.run_bind, hv1, hu1, Result.andThen_ok, hrun]
        cases b1 with
        | false => simp at he; subst he; simp
        | true =>
          simp only at he
          simp only [Bool.not_true, Bool.false_eq_true, if_false]
          exact eqOf_fields hτ f D hf r (off + i.size) rest g3 E w as bs vs us b ha hb (by omega) (by omega) he d hd
      · cases hk
    · cases hk

/-- an array's elements, one by one -/
theorem eqOf_elems {n : Nat} {e : TypeId} {j : TI} {ks : List CK} {D : Nat} (hj : TIok P e j) (hks : ks.length = j.size) (hE : EqOf P j e ks D) (h1c : isAggD j.d = false → j.size = 1) (E : Env) (w : World) (as bs : List AV) (vs us : Array Value) (ha : Reps E as vs.toList) (hb : Reps E bs us.toList) (d : Nat) (hd : D ≤ d)
    (hla : as.length = n * ks.length) (hlb : bs.length = n * ks.length) : ∀ (m i : Nat) (b : Bool), i + m = n → eqCells (rep m ks) (as.drop (i * ks.length)) (bs.drop (i * ks.length)) = some b →
    (forIn (m := Sem) (List.range' i m) ((none, ()) : Option Bool × Unit) fun i r => do
      let x ← part e vs (i * j.size)
      let y ← part e us (i * j.size)
      let q ← Op.equalIn d e x y
      if (!q) = true then pure (ForInStep.done (some false, ())) else pure (ForInStep.yield (none, ()))).run P w = .ok (if b then none else some false, ()) w
  | 0, i, b, hi, he => by
    have e1 : as.drop (i * ks.length) = [] := by apply List.eq_nil_of_length_eq_zero; simp; rw [hla]; have : i = n := by omega
                                                 rw [this]; omega
    have e2 : bs.drop (i * ks.length) = [] := by apply List.eq_nil_of_length_eq_zero; simp; rw [hlb]; have : i = n := by omega
                                                 rw [this]; omega
    rw [e1, e2] at he
    simp [rep, eqCells] at he; subst he
    simp
  | m + 1, i, b, hi, he => by
    have la : as.length = vs.size := by simpa using ha.1
    have lb : bs.length = us.size := by simpa using hb.1
    have hin : i * j.size + j.size ≤ n * j.size := by
      have : (i + 1) * j.size ≤ n * j.size := Nat.mul_le_mul_right _ (by omega)
      rw [Nat.add_mul] at this; omega
    rw [hks] at hla hlb he
    obtain ⟨v, hv1, hv2⟩ := run_part (P := P) (w := w) hj vs (i * j.size) (by omega) h1c
    obtain ⟨u, hu1, hu2⟩ := run_part (P := P) (w := w) hj us (i * j.size) (by omega) h1c
    have ra : Reps E ((as.drop (i * j.size)).take j.size) (vs.extract (i * j.size) (i * j.size + j.size)).toList := by
      have := ha.sub (i * j.size) j.size
      simpa using this
    have rb : Reps E ((bs.drop (i * j.size)).take j.size) (us.extract (i * j.size) (i * j.size + j.size)).toList := by
      have := hb.sub (i * j.size) j.size
      simpa using this
    have e1 : as.drop (i * j.size) = (as.drop (i * j.size)).take j.size ++ as.drop ((i + 1) * j.size) := by
      rw [Nat.add_mul, Nat.one_mul, ← List.drop_drop, List.take_append_drop]
    have e2 : bs.drop (i * j.size) = (bs.drop (i * j.size)).take j.size ++ bs.drop ((i + 1) * j.size) := by
      rw [Nat.add_mul, Nat.one_mul, ← List.drop_drop, List.take_append_drop]
    have la1 : ((as.drop (i * j.size)).take j.size).length = ks.length := by simp; omega
    have lb1 : ((bs.drop (i * j.size)).take j.size).length = ks.length := by simp; omega
    have hrep : rep (m + 1) ks = ks ++ rep m ks := by simp [rep, List.replicate_succ]
    rw [e1, e2, hrep, eqCells_append la1 lb1] at he
    have hex : ∃ b1, eqCells ks ((as.drop (i * j.size)).take j.size) ((bs.drop (i * j.size)).take j.size) = some b1 := by
      cases hc : eqCells ks ((as.drop (i * j.size)).take j.size) ((bs.drop (i * j.size)).take j.size) with
      | none => simp [hc] at he
      | some b1 => exact ⟨b1, rfl⟩
    obtain ⟨b1, hb1⟩ := hex
    have hrun := hE E w _ _ _ _ v u b1 ra rb la1 lb1 hv2 hu2 hb1 d hd
    rw [hb1] at he
    rw [List.range'_succ, List.forIn_cons]
    simp only [Sem.run_bind, hv1, hu1, Result.andThen_ok, hrun]
    cases b1 with
    | false => simp at he; subst he; simp
    | true =>
      simp only at he
      rw [← hks] at he hla hlb
      have ih := eqOf_elems hj hks hE h1c E w as bs vs us ha hb d hd hla hlb m (i + 1) b (by omega) he
      simp only [Bool.not_true, Bool.false_eq_true, if_false, Sem.run_pure, Result.andThen_ok]
      exact ih

theorem eqTy_ok {τ : Tys} (hτ : Tysok P τ) (pl : TypeId → Bool) (hpl : ∀ t, pl t = true → P.stoodInHeld t = false) : ∀ (D : Nat) (t : TypeId) (ks : List CK) (i : TI), eqTy τ pl D t = some ks → τ t = some i → ks.length = i.size → EqOf P i t ks D ∧ (isAggD i.d = false → i.size = 1)
  | 0, t, ks, i, h, _, _ => by cases h
  | D + 1, t, ks, i, h, hi, hks => by
    have hti := hτ.ok _ _ hi
    unfold eqTy at h
    rw [hi] at h
    dsimp only at h
    have mono : ∀ {ks}, EqOf P i t ks 1 → EqOf P i t ks (D + 1) := fun hh E w as bs vs us v u b h1 h2 h3 h4 h5 h6 h7 d hd => hh E w as bs vs us v u b h1 h2 h3 h4 h5 h6 h7 d (by omega)
    cases hd : i.d with
    | int q => rw [hd] at h; cases h; exact ⟨mono (eqOf_scalar hti (.inl ⟨⟨q, hd⟩, rfl⟩)), fun _ => hks.symm⟩
    | bool => rw [hd] at h; cases h; exact ⟨mono (eqOf_scalar hti (.inr (.inl ⟨hd, rfl⟩))), fun _ => hks.symm⟩
    | string => rw [hd] at h; cases h; exact ⟨mono (eqOf_scalar hti (.inr (.inr ⟨hd, rfl⟩))), fun _ => hks.symm⟩
    | struct fs =>
      rw [hd] at h
      dsimp only at h
      split at h
      · rename_i hp
        refine ⟨?_, fun hh => by simp [isAggD] at hh⟩
        intro E w as bs vs us v u b ha hb hla hlb hv hu he d hdd
        obtain ⟨d, rfl⟩ : ∃ e, d = e + 1 := ⟨d - 1, by omega⟩
        simp only [ofCells, hd, isAggD, if_true, Option.some.injEq] at hv hu
        subst hv; subst hu
        have hund := hti.und
        rw [hd] at hund
        have hfo : P.fieldsOf t = fs := by simp [Program.fieldsOf, hund]
        have := run_equalIn_struct (P := P) w d t vs us (by rw [hfo]; exact hund) (hpl t hp)
        rw [this, hfo]
        exact eqOf_fields hτ (eqTy τ pl D) D (fun t ks i h1 h2 h3 => eqTy_ok hτ pl hpl D t ks i h1 h2 h3) fs.toList 0 ks h E w as bs vs us b ha hb (by omega) (by omega) (by simpa using he) d (by omega)
      · cases h
    | array n e =>
      rw [hd] at h
      dsimp only at h
      split at h
      · rename_i k1 j g1 g2
        split at h
        · rename_i hkj; cases h
          refine ⟨?_, fun hh => by simp [isAggD] at hh⟩
          intro E w as bs vs us v u b ha hb hla hlb hv hu he d hdd
          obtain ⟨d, rfl⟩ : ∃ e, d = e + 1 := ⟨d - 1, by omega⟩
          simp only [ofCells, hd, isAggD, if_true, Option.some.injEq] at hv hu
          subst hv; subst hu
          have hund := hti.und
          rw [hd] at hund
          have hj := hτ.ok _ _ g2
          obtain ⟨ji, z, hji, hsz, _⟩ := hj.info
          obtain ⟨hE, h1c⟩ := eqTy_ok hτ pl hpl D e k1 j g1 g2 hkj
          have hrl : (rep n k1).length = n * k1.length := by simp [rep]
          have := eqOf_elems (n := n) hj hkj hE h1c E w as bs vs us ha hb d (by omega) (by omega) (by omega) n 0 b (by omega) (by simpa using he)
          simp only [Op.equalIn, Sem.run_bind, run_underlying hund, Result.andThen_ok, sizeOf, typeInfo, run_program, hji, Sem.run_pure, hsz]
          rw [Std.Legacy.Range.forIn_eq_forIn_range']
          simp only [Std.Legacy.Range.size, Nat.sub_zero, Nat.add_sub_cancel, Nat.div_one]
          rw [this]
          cases b <;> rfl
        · cases h
      · cases h
    | _ => rw [hd] at h; cases h
end
end Go.Proofs.YtgahmpfpnclefaaW.Abs
