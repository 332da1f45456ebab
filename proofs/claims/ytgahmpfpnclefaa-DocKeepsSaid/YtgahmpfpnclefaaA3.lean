/- append: in place and into a new row. -/
import Derived.Test.YtgahmpfpnclefaaA2
import Derived.Laws.AppendOwn
import Derived.ArgAppend
namespace Go.Proofs.YtgahmpfpnclefaaW.Abs
open Go.RowKit
set_option linter.unusedVariables false
set_option linter.unusedSimpArgs false

/-- what is appended: n elements, these cells, in whatever world that still holds them -/
structure Src (P : Program) (sz n : Nat) (x : Value) (news : List Value) (w : World) : Prop where
  len : ∀ w', (Builtin.lenOf x).run P w' = .ok n w'
  size : news.length = n * sz
  get : ∀ w', (∀ a v, w.cell? a = some v → w'.cell? a = some v) → (Builtin.firstCells sz n x).run P w' = .ok news.toArray w'

section
variable {P : Program} {w : World}
theorem run_app_room (t u ty e : TypeId) (i : TypeInfo) (d : TypeDesc) (ht : P.underlying t = some (.slice e)) (hu : P.underlying u = some d) (hd : ∀ k, d ≠ .int k) (hi : P.info? e = some i)
    (b off sLen sCap : Nat) (x : Value) (m : Nat) (news : List Value) (hs : Src P i.size m x news w) (h1 : ∀ u ∈ news, u.oneCell' = true)
    (hroom : sLen + m ≤ sCap) (hc : ∀ j, j < news.length → (w.cell? ⟨b, off + sLen * i.size + j, none⟩).isSome = true) (hf : ∀ j, j < news.length → w.frozen? ⟨b, off + sLen * i.size + j, none⟩ = false) :
    (Builtin.append_ #[t, u] ty #[.slice (some ⟨b, off, none⟩) sLen sCap, x]).run P w = .ok (.slice (some ⟨b, off, none⟩) (sLen + m) sCap) (w.setCells b (off + sLen * i.size) news) := by
  have hfc := hs.get w (fun _ _ h => h)
  have hst := run_storeCells_cells (P := P) b (off + sLen * i.size) news 0 w (by simpa using hc) (by simpa using hf) h1
  simp only [Nat.add_zero] at hst
  have hz : (match d with | .int _ => true | _ => false) = false := by cases d <;> first | rfl | exact absurd rfl (hd _)
  simp [Builtin.append_, run_underlying ht, run_underlying hu, sizeOf, typeInfo, hi, hs.len, hroom, hfc, Addr.add_lit, hst, hz]

theorem run_app_grow (t u ty e : TypeId) (i : TypeInfo) (z : Value) (d : TypeDesc) (ht : P.underlying t = some (.slice e)) (hu : P.underlying u = some d) (hd : ∀ k, d ≠ .int k) (hi : P.info? e = some i) (hz : i.zero = some z)
    (b : Option Addr) (sLen sCap : Nat) (olds : List Value) (hlo : olds.length = sLen * i.size) (holds : ∀ w', (∀ a v, w.cell? a = some v → w'.cell? a = some v) → (Builtin.firstCells i.size sLen (.slice b sLen sCap)).run P w' = .ok olds.toArray w')
    (x : Value) (n : Nat) (news : List Value) (hs : Src P i.size n x news w)
    (hg : sCap < sLen + n) (h63 : ((sLen + n : Nat) : Int) ≤ 9223372036854775807) (hfit : Builtin.nextslicecap (sLen + n) sCap * i.bytes ≤ 281474976710656) :
    (Builtin.append_ #[t, u] ty #[.slice b sLen sCap, x]).run P w =
      .ok (.slice (some ⟨w.heap.size, 0, none⟩) (sLen + n) (grownCap w (sLen + n) sCap e))
        (w.drew.alloc (.cells (olds.toArray ++ news.toArray ++ Builtin.zeroCells z.cells (grownCap w (sLen + n) sCap e - (sLen + n))) e)) := by
  have hn : ¬ (sLen + n ≤ sCap) := by omega
  have h63' : ¬ (9223372036854775807 < ((sLen : Int) + (n : Int))) := by omega
  have h48' : ¬ (281474976710656 < Builtin.nextslicecap (sLen + n) sCap * i.bytes) := by omega
  have hf := hs.get w.drew (fun _ _ h => h)
  have hfo := holds w.drew (fun _ _ h => h)
  have hq : (match d with | .int _ => true | _ => false) = false := by cases d <;> first | rfl | exact absurd rfl (hd _)
  simp [Builtin.append_, run_underlying ht, run_underlying hu, sizeOf, typeInfo, zeroValue, hi, hz, hs.len, hn, h63', h48', Question.forced, hf, hfo, newRow, grownCap, hq]
  congr 2
  apply Array.ext'
  simp [List.append_assoc]

/-- nothing is appended to nothing -/
theorem run_app_none (t u ty e : TypeId) (i : TypeInfo) (d : TypeDesc) (ht : P.underlying t = some (.slice e)) (hu : P.underlying u = some d) (hd : ∀ k, d ≠ .int k) (hi : P.info? e = some i)
    (x : Value) (hs : Src P i.size 0 x [] w) :
    (Builtin.append_ #[t, u] ty #[.slice none 0 0, x]).run P w = .ok (.slice none 0 0) w := by
  have hq : (match d with | .int _ => true | _ => false) = false := by cases d <;> first | rfl | exact absurd rfl (hd _)
  have hf := hs.get w (fun _ _ h => h)
  simp [Builtin.append_, run_underlying ht, run_underlying hu, sizeOf, typeInfo, hi, hs.len, hf, hq]
end

/-- cells of elements, one behind the other -/
def flat (es : List (List AV)) : List AV := es.flatten

theorem flat_get {s : Nat} : ∀ (es : List (List AV)) (hl : ∀ e, e ∈ es → e.length = s) (i j : Nat) (e : List AV) (a : AV), es[i]? = some e → e[j]? = some a → (flat es)[i * s + j]? = some a
  | x :: es, hl, 0, j, e, a, hi, hj => by
    simp at hi; subst hi
    have := (List.getElem?_eq_some_iff.1 hj).1
    simp only [flat, List.flatten_cons, Nat.zero_mul, Nat.zero_add]
    rw [List.getElem?_append_left this]; exact hj
  | x :: es, hl, i + 1, j, e, a, hi, hj => by
    have hx := hl x (by simp)
    have ih := flat_get es (fun e he => hl e (by simp [he])) i j e a (by simpa using hi) hj
    simp only [flat, List.flatten_cons] at ih ⊢
    rw [List.getElem?_append_right (by rw [hx, Nat.add_mul]; omega), hx, Nat.add_mul]
    rw [show i * s + 1 * s + j - s = i * s + j by omega]; exact ih
theorem flat_len {s : Nat} : ∀ (es : List (List AV)) (hl : ∀ e, e ∈ es → e.length = s), (flat es).length = es.length * s
  | [], _ => by simp [flat]
  | x :: es, hl => by
    have ih := flat_len es (fun e he => hl e (by simp [he]))
    simp only [flat, List.flatten_cons, List.length_append, List.length_cons] at ih ⊢
    rw [ih, hl x (by simp), Nat.add_mul]; omega

section
variable {W0 : World} {E : Env} {U : Nat → Prop} {h : Nat → Option AObj} {w : World}

/-- in place: the row's room becomes part of a longer row -/
theorem Rel.appRoom (r : Rel W0 E U h w) {id t : Nat} {ty : Option TypeId} (hid : ¬ U id) {es ns : List (List AV)} {a : Addr} {cap s : Nat} {vs : List Value}
    (hrow : Rep E (.row es (some t)) (.slice (some a) es.length cap)) (ht : h t = some (.tail ty s)) (hln : ∀ e, e ∈ ns → e.length = s) (hon : ones ns)
    (hr : Reps E (flat ns) vs) (hroom : es.length + ns.length ≤ cap) (h1 : ∀ v ∈ vs, v.oneCell' = true) :
    ∃ blk off, a = ⟨blk, off, none⟩ ∧ (∀ j, j < vs.length → (w.cell? ⟨blk, off + es.length * s + j, none⟩).isSome = true) ∧ (∀ j, j < vs.length → w.frozen? ⟨blk, off + es.length * s + j, none⟩ = false) ∧
    ∃ E', Ext E E' ∧ (∀ i b, E'.ι i = some b → E.ι i = some b ∨ i = id) ∧ Rep E' (.row (es ++ ns) (some id)) (.slice (some a) (es.length + ns.length) cap) ∧
      Rel W0 E' (fun i => U i ∨ i = id) (upd (upd h t none) id (some (.tail ty s))) (w.setCells blk (off + es.length * s) vs) := by
  cases hrow with
  | @row _ _ _ blk off _ s' f hA hl hon1 hc hm hre htk =>
  have hA' := hA (.inr rfl)
  subst hA'
  obtain ⟨b, hb, hbs, hbc, hbb⟩ := htk t rfl
  obtain ⟨b', hb', hcl, hss, hown⟩ := r.objs t _ ht
  rw [hb] at hb'; cases hb'
  have htid : t ≠ id := fun e => hid (e ▸ r.ids t b hb)
  have hvl : vs.length = ns.length * s := by rw [← hr.1, flat_len ns hln]
  have hs' : s' = s := by omega
  subst hs'
  have hin : ∀ j, j < vs.length → j < b.cap * s' ∧ b.blk = blk ∧ b.off = off + es.length * s' := by
    intro j hj
    have h2 : ns.length * s' ≤ b.cap * s' := Nat.mul_le_mul_right _ (by omega)
    have h3 : 0 < b.cap := by
      rcases Nat.eq_zero_or_pos b.cap with h0 | h0
      · rw [h0] at h2; simp at h2; rw [hvl] at hj; omega
      · exact h0
    exact ⟨by omega, (hbb (.inl h3)).1, (hbb (.inl h3)).2⟩
  have hown' : ∀ j, j < vs.length → E.M blk (off + es.length * s' + j) = some (.own t) ∧ (w.cell? ⟨blk, off + es.length * s' + j, none⟩).isSome = true ∧ w.frozen? ⟨blk, off + es.length * s' + j, none⟩ = false := by
    intro j hj
    obtain ⟨c1, c2, c3⟩ := hin j hj
    have := hown j (by rw [hss]; exact c1)
    rwa [c2, c3] at this
  refine ⟨blk, off, rfl, fun j hj => (hown' j hj).2.1, fun j hj => (hown' j hj).2.2, ?_⟩
  let nb : Base := if b.cap = 0 then b else ⟨blk, off + (es.length + ns.length) * s', s', b.cap - ns.length⟩
  have hnbs : nb.s = s' := by dsimp only [nb]; split <;> first | exact hss | rfl
  have hnbc : nb.cap = cap - (es.length + ns.length) := by dsimp only [nb]; split <;> (try dsimp only) <;> omega
  let M' : Nat → Nat → Option MK := fun q o =>
    if q = blk ∧ off + es.length * s' ≤ o ∧ o < off + es.length * s' + vs.length then some (.imm (vs.getD (o - (off + es.length * s')) undef))
    else if q = blk ∧ off + es.length * s' + vs.length ≤ o ∧ o < off + es.length * s' + b.cap * s' ∧ 0 < b.cap then some (.own id) else E.M q o
  let E' : Env := ⟨fun i => if i = id then some nb else E.ι i, M'⟩
  have hx : Ext E E' := by
    refine ⟨fun i c e => ?_, fun q o v e => ?_⟩
    · have : i ≠ id := fun q => hid (q ▸ r.ids i c e)
      simp [E', this, e]
    · have hne : ¬ (q = blk ∧ off + es.length * s' ≤ o ∧ o < off + es.length * s' + b.cap * s' ∧ 0 < b.cap) := by
        rintro ⟨rfl, q1, q2, q3⟩
        obtain ⟨d1, d2⟩ := hbb (.inl q3)
        have := (hown (o - (off + es.length * s')) (by rw [hss]; omega)).1
        rw [d1, d2, show off + es.length * s' + (o - (off + es.length * s')) = o by omega, e] at this
        cases this
      have hne1 : ¬ (q = blk ∧ off + es.length * s' ≤ o ∧ o < off + es.length * s' + vs.length) := by
        rintro ⟨q0, q1, q2⟩
        have h0 := hin (o - (off + es.length * s')) (by omega)
        refine hne ⟨q0, q1, by omega, ?_⟩
        rcases Nat.eq_zero_or_pos b.cap with z | z
        · rw [z] at h0; omega
        · exact z
      have hne2 : ¬ (q = blk ∧ off + es.length * s' + vs.length ≤ o ∧ o < off + es.length * s' + b.cap * s' ∧ 0 < b.cap) := by
        rintro ⟨q0, q1, q2, q3⟩
        exact hne ⟨q0, by omega, q2, q3⟩
      simp only [E', M', if_neg hne1, if_neg hne2, e]
  have hcell : ∀ q o, (∀ j, j < vs.length → ¬ (q = blk ∧ o = off + es.length * s' + j)) → (w.setCells blk (off + es.length * s') vs).cell? ⟨q, o, none⟩ = w.cell? ⟨q, o, none⟩ := by
    intro q o hn
    refine World.cell?_setCells_out _ _ _ _ _ (fun hb1 _ => ?_)
    dsimp only at hb1 ⊢
    rcases Nat.lt_or_ge o (off + es.length * s') with hh | hh
    · exact Or.inl hh
    · rcases Nat.lt_or_ge o (off + es.length * s' + vs.length) with hh2 | hh2
      · exact absurd ⟨hb1, by omega⟩ (hn (o - (off + es.length * s')) (by omega))
      · exact Or.inr hh2
  have hout : ∀ q o k, E.M q o = some k → k ≠ .own t → ∀ j, j < vs.length → ¬ (q = blk ∧ o = off + es.length * s' + j) := by
    rintro q o k hk hne j hj ⟨rfl, rfl⟩
    rw [(hown' j hj).1] at hk
    cases hk; exact hne rfl
  refine ⟨E', hx, fun i c e => ?_, ?_, ?_⟩
  · by_cases q : i = id
    · exact Or.inr q
    · simp [E', q] at e; exact Or.inl e
  · have hfn : ∀ i j e c, (es ++ ns)[i]? = some e → e[j]? = some c → ∃ v, E'.M blk (off + i * s' + j) = some (.imm v) ∧ Rep E' c v := by
      intro i j e c hi hj
      rcases Nat.lt_or_ge i es.length with hlt | hge
      · rw [List.getElem?_append_left hlt] at hi
        exact ⟨_, hx.imm _ _ _ (hm i j e c hi hj), (hre i j e c hi hj).mono hx⟩
      · rw [List.getElem?_append_right hge] at hi
        have hfg := flat_get ns hln (i - es.length) j e c hi hj
        obtain ⟨v, hv, hrep⟩ := hr.get hfg
        have hlt := (List.getElem?_eq_some_iff.1 hv).1
        have e1 : off + i * s' + j = off + es.length * s' + ((i - es.length) * s' + j) := by
          have : i * s' = es.length * s' + (i - es.length) * s' := by rw [← Nat.add_mul]; congr 1; omega
          omega
        refine ⟨v, ?_, hrep.mono hx⟩
        rw [e1]
        have hc1 : (blk = blk ∧ off + es.length * s' ≤ off + es.length * s' + ((i - es.length) * s' + j) ∧ off + es.length * s' + ((i - es.length) * s' + j) < off + es.length * s' + vs.length) := ⟨rfl, by omega, by omega⟩
        simp only [E', M', if_pos hc1]
        rw [show off + es.length * s' + ((i - es.length) * s' + j) - (off + es.length * s') = (i - es.length) * s' + j by omega, List.getD_eq_getElem?_getD, hv]; rfl
    have hlen : (es ++ ns).length = es.length + ns.length := by simp
    rw [← hlen]
    refine .row (s := s') (A := ⟨blk, off, none⟩) (fun i j => match E'.M blk (off + i * s' + j) with | some (.imm v) => v | _ => undef) (fun _ => rfl) (fun e he => ?_) (fun e he => ?_) (by omega) (fun i j e c hi hj => ?_) (fun i j e c hi hj => ?_) (fun t' e => ?_)
    · rcases List.mem_append.1 he with he | he
      · exact hl e he
      · exact hln e he
    · rcases List.mem_append.1 he with he | he
      · exact hon1 e he
      · exact hon e he
    · obtain ⟨v, hv, _⟩ := hfn i j e c hi hj
      rw [hv]
    · obtain ⟨v, hv, hrep⟩ := hfn i j e c hi hj
      rw [hv]; exact hrep
    · cases e
      refine ⟨nb, by simp [E'], hnbs, by rw [hnbc, hlen], fun hp => ?_⟩
      dsimp only [nb] at hp ⊢
      split
      · rename_i z; rw [if_pos z] at hp
        have hns : ns = [] := List.eq_nil_of_length_eq_zero (by omega)
        rcases hp with hp | hp
        · omega
        · subst hns
          have := hbb (.inr (by simpa using hp))
          simpa using this
      · exact ⟨rfl, by rw [hlen]⟩
  · -- every object but t (gone) and id (new) is kept
    refine ⟨?_, ?_, ?_, ?_, ?_, ?_, ?_⟩
    · by_cases hz : vs.length = 0
      · have : vs = [] := by simpa using hz
        subst this; exact r.below
      · exact setCells_below _ (r.own _ _ _ (hown' 0 (by omega)).1) _ _ _ r.below
    · intro q o v e
      by_cases c1 : q = blk ∧ off + es.length * s' ≤ o ∧ o < off + es.length * s' + vs.length
      · simp only [E', M', if_pos c1, Option.some.injEq, MK.imm.injEq] at e
        obtain ⟨rfl, c2, c3⟩ := c1
        rw [show (⟨q, o, none⟩ : Addr) = ⟨q, off + es.length * s' + (o - (off + es.length * s')), none⟩ by congr 1; omega]
        rw [World.cell?_setCells_in _ _ _ _ (fun j hj => (hown' j hj).2.1) _ (by omega), ← e]
        simp [List.getD_eq_getElem?_getD, List.getElem?_eq_getElem (show o - (off + es.length * s') < vs.length by omega)]
      · by_cases c2 : q = blk ∧ off + es.length * s' + vs.length ≤ o ∧ o < off + es.length * s' + b.cap * s' ∧ 0 < b.cap
        · simp only [E', M', if_neg c1, if_pos c2] at e; cases e
        · simp only [E', M', if_neg c1, if_neg c2] at e
          rw [hcell _ _ (hout _ _ _ e (by intro q; cases q))]
          exact r.imm _ _ _ e
    · intro q o k e
      rw [setCells_size]
      by_cases c1 : q = blk ∧ off + es.length * s' ≤ o ∧ o < off + es.length * s' + vs.length
      · obtain ⟨rfl, c2, c3⟩ := c1
        exact r.lt _ _ _ (hown' (o - (off + es.length * s')) (by omega)).1
      · by_cases c2 : q = blk ∧ off + es.length * s' + vs.length ≤ o ∧ o < off + es.length * s' + b.cap * s' ∧ 0 < b.cap
        · obtain ⟨rfl, c3, c4, c5⟩ := c2
          have := (hown 0 (by rw [hss]; rcases Nat.eq_zero_or_pos (b.cap * s') with z | z; (· omega); exact z)).1
          rw [(hbb (.inl c5)).1] at this
          exact r.lt _ _ _ this
        · simp only [E', M', if_neg c1, if_neg c2] at e
          exact r.lt _ _ _ e
    · intro q o k e
      by_cases c1 : q = blk ∧ off + es.length * s' ≤ o ∧ o < off + es.length * s' + vs.length
      · simp only [E', M', if_pos c1] at e; cases e
      · by_cases c2 : q = blk ∧ off + es.length * s' + vs.length ≤ o ∧ o < off + es.length * s' + b.cap * s' ∧ 0 < b.cap
        · obtain ⟨rfl, c3, c4, c5⟩ := c2
          have := (hown 0 (by rw [hss]; rcases Nat.eq_zero_or_pos (b.cap * s') with z | z; (· omega); exact z)).1
          rw [(hbb (.inl c5)).1] at this
          exact r.own _ _ _ this
        · simp only [E', M', if_neg c1, if_neg c2] at e
          exact r.own _ _ _ e
    · intro i c e
      by_cases q : i = id
      · exact Or.inr q
      · simp [E', q] at e; exact Or.inl (r.ids i c e)
    · intro k y hy
      by_cases q : k = id
      · subst q
        simp [upd] at hy; subst hy
        refine ⟨nb, by simp [E'], fun t0 ht0 => ?_, hnbs, fun j hj => ?_⟩
        · obtain ⟨c0, lo, hi, h0, h2, hex⟩ := hcl t0 ht0
          obtain ⟨c1, hc1⟩ := setCells_shape blk vs (off + es.length * s') w h0
          by_cases z : b.cap = 0
          · have hnb : nb = b := by dsimp only [nb]; rw [if_pos z]
            rw [hnb]
            refine ⟨c1, lo, hi, hc1, h2, fun o k hk => ?_⟩
            have d2 : ¬ (b.blk = blk ∧ off + es.length * s' + vs.length ≤ o ∧ o < off + es.length * s' + b.cap * s' ∧ 0 < b.cap) := by omega
            by_cases d1 : b.blk = blk ∧ off + es.length * s' ≤ o ∧ o < off + es.length * s' + vs.length
            · simp only [E', M', if_pos d1] at hk; cases hk
            · simp only [E', M', if_neg d1, if_neg d2] at hk
              have := hex o k hk
              rw [z] at this; omega
          · have hcp : 0 < b.cap := by omega
            have hnb : nb = ⟨blk, off + (es.length + ns.length) * s', s', b.cap - ns.length⟩ := by dsimp only [nb]; rw [if_neg z]
            obtain ⟨e1, e2⟩ := hbb (.inl hcp)
            have e4 : (es.length + ns.length) * s' = es.length * s' + vs.length := by rw [Nat.add_mul, hvl]
            have e3 : b.cap * s' = vs.length + (b.cap - ns.length) * s' := by rw [hvl, ← Nat.add_mul]; congr 1; omega
            rw [hnb]
            refine ⟨c1, lo, hi, by rw [e1] at hc1; exact hc1, fun hp => ?_, fun o k hk0 => ?_⟩
            · have hps : 0 < s' := by
                rcases Nat.eq_zero_or_pos s' with q | q
                · dsimp only at hp; rw [q] at hp; simp at hp
                · exact q
              have := h2 (by rw [hss]; exact Nat.mul_pos hcp hps)
              dsimp only; omega
            have hk : M' blk o = some (.own k) := hk0
            dsimp only [M'] at hk ⊢
            by_cases d1 : blk = blk ∧ off + es.length * s' ≤ o ∧ o < off + es.length * s' + vs.length
            · rw [if_pos d1] at hk; cases hk
            · by_cases d2 : blk = blk ∧ off + es.length * s' + vs.length ≤ o ∧ o < off + es.length * s' + b.cap * s' ∧ 0 < b.cap
              · rw [if_neg d1, if_pos d2] at hk; cases hk
                exact ⟨rfl, by omega, by omega⟩
              · rw [if_neg d1, if_neg d2] at hk
                rw [← e1] at hk
                have := hex o k hk
                rw [hss] at this
                omega
        have hj' : j < nb.cap * s' := by rw [← hnbs]; exact hj
        have hcp : 0 < b.cap := by
          rcases Nat.eq_zero_or_pos b.cap with z | z
          · dsimp only [nb] at hj'; rw [if_pos z, z] at hj'; omega
          · exact z
        have hnb : nb = ⟨blk, off + (es.length + ns.length) * s', s', b.cap - ns.length⟩ := by dsimp only [nb]; rw [if_neg (by omega)]
        rw [hnb] at hj' ⊢
        dsimp only at hj' ⊢
        have e2 : (es.length + ns.length) * s' = es.length * s' + vs.length := by rw [Nat.add_mul, hvl]
        have e3 : b.cap * s' = vs.length + (b.cap - ns.length) * s' := by rw [hvl, ← Nat.add_mul]; congr 1; omega
        have o1 := hown (vs.length + j) (by rw [hss]; omega)
        rw [(hbb (.inl hcp)).1, (hbb (.inl hcp)).2] at o1
        have e4 : off + (es.length + ns.length) * s' + j = off + es.length * s' + (vs.length + j) := by omega
        rw [e4]
        have c1 : ¬ (blk = blk ∧ off + es.length * s' ≤ off + es.length * s' + (vs.length + j) ∧ off + es.length * s' + (vs.length + j) < off + es.length * s' + vs.length) := by omega
        have c2 : (blk = blk ∧ off + es.length * s' + vs.length ≤ off + es.length * s' + (vs.length + j) ∧ off + es.length * s' + (vs.length + j) < off + es.length * s' + b.cap * s' ∧ 0 < b.cap) := ⟨rfl, by omega, by omega, hcp⟩
        refine ⟨by show M' _ _ = _; dsimp only [M']; rw [if_neg c1, if_pos c2], ?_, by rw [World.frozen?_setCells]; exact o1.2.2⟩
        rw [hcell _ _ (fun i hi hh => by omega)]
        exact o1.2.1
      · simp only [upd, q, if_false] at hy
        by_cases q2 : k = t
        · simp [q2] at hy
        · simp only [q2, if_false] at hy
          obtain ⟨c, hc1, hc2⟩ := r.objs k y hy
          refine ⟨c, hx.ids _ _ hc1, ?_⟩
          -- marks of k stay k's
          have keepM : ∀ p o, E.M p o = some (.own k) → E'.M p o = some (.own k) := by
            intro p o e
            have c1 : ¬ (p = blk ∧ off + es.length * s' ≤ o ∧ o < off + es.length * s' + vs.length) := by
              rintro ⟨rfl, d1, d2⟩
              exact hout _ _ _ e (by intro q; cases q; exact q2 rfl) (o - (off + es.length * s')) (by omega) ⟨rfl, by omega⟩
            have c2 : ¬ (p = blk ∧ off + es.length * s' + vs.length ≤ o ∧ o < off + es.length * s' + b.cap * s' ∧ 0 < b.cap) := by
              rintro ⟨rfl, d1, d2, d3⟩
              have := (hown (o - (off + es.length * s')) (by rw [hss]; omega)).1
              rw [(hbb (.inl d3)).1, (hbb (.inl d3)).2, show off + es.length * s' + (o - (off + es.length * s')) = o by omega, e] at this
              cases this; exact q2 rfl
            simp only [E', M', if_neg c1, if_neg c2, e]
          exact ObjRep.keepOne hx (fun p o e => ⟨keepM p o e, hcell _ _ (hout _ _ _ e (by intro q; cases q; exact q2 rfl)), World.frozen?_setCells _ _ _ _ _, fun _ es c hm => setCells_map _ _ _ _ hm⟩) (fun c t fz hh => setCells_shape _ _ _ _ hh) (fun hex _ o k' hk => by
            by_cases d1 : c.blk = blk ∧ off + es.length * s' ≤ o ∧ o < off + es.length * s' + vs.length
            · simp only [E', M', if_pos d1] at hk; cases hk
            · by_cases d2 : c.blk = blk ∧ off + es.length * s' + vs.length ≤ o ∧ o < off + es.length * s' + b.cap * s' ∧ 0 < b.cap
              · exfalso
                obtain ⟨d3, d4, d5, d6⟩ := d2
                have := (hown (o - (off + es.length * s')) (by rw [hss]; omega)).1
                rw [(hbb (.inl d6)).1, (hbb (.inl d6)).2, show off + es.length * s' + (o - (off + es.length * s')) = o by omega, ← d3] at this
                exact q2 (hex o t this).symm
              · simpa only [E', M', if_neg d1, if_neg d2] using hk) hc2
    · intro i c e
      by_cases q : i = id
      · simp [E', q] at e
        subst e
        dsimp only [nb]
        split
        · exact r.low t b hb
        · rename_i z
          dsimp only
          rw [← (hbb (.inl (by omega))).1]; exact r.low t b hb
      · simp [E', q] at e
        exact r.low i c e
end

end Go.Proofs.YtgahmpfpnclefaaW.Abs
