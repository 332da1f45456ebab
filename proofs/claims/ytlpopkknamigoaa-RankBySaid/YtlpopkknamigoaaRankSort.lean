/- Plain lists: a stable merge sort over an order of places, and that a sorted arrangement is one alone. No Go, no memory. -/
import Derived.Test.YtlpopkknamigoaaWWords
import Derived.Test.YtlpopkknamigoaaWMore
namespace Go.Proofs.Ytlpopkknamigoaa.Rk
open Go.RowKit Go.Proofs.YtlpopkknamigoaaW.PrintWords Go.Proofs.YtlpopkknamigoaaW.PrintMore

structure Ord (lt : Int → Int → Bool) : Prop where
  irrefl : ∀ a, lt a a = false
  trans : ∀ a b c, lt a b = true → lt b c = true → lt a c = true
  ntrans : ∀ a b c, lt a b = false → lt b c = false → lt a c = false

/-- a stands ahead of b -/
def R (lt : Int → Int → Bool) (a b : Int) : Prop := lt a b = true ∨ (lt b a = false ∧ a < b)

theorem R.trans {lt : Int → Int → Bool} (o : Ord lt) {a b c : Int} (h : R lt a b) (k : R lt b c) : R lt a c := by
  rcases h with h | ⟨h, h'⟩ <;> rcases k with k | ⟨k, k'⟩
  · exact .inl (o.trans _ _ _ h k)
  · left
    cases e : lt a c with
    | true => rfl
    | false => have := o.ntrans a c b e k; rw [h] at this; cases this
  · left
    cases e : lt a c with
    | true => rfl
    | false => have := o.ntrans b a c h e; rw [k] at this; cases this
  · exact .inr ⟨o.ntrans _ _ _ k h, by omega⟩

theorem R.asymm {lt : Int → Int → Bool} (o : Ord lt) {a b : Int} (h : R lt a b) (k : R lt b a) : False := by
  rcases h with h | ⟨h, h'⟩ <;> rcases k with k | ⟨k, k'⟩
  · have := o.trans _ _ _ h k; rw [o.irrefl] at this; cases this
  · rw [h] at k; cases k
  · rw [h] at k; cases k
  · omega

theorem sorted_unique {lt : Int → Int → Bool} (o : Ord lt) : ∀ (l m : List Int), l.Perm m → l.Pairwise (R lt) → m.Pairwise (R lt) → l = m
  | [], m, p, _, _ => by rw [List.nil_perm.1 p]
  | a :: l, [], p, _, _ => by have := p.length_eq; simp at this
  | a :: l, b :: m, p, hl, hm => by
    have hab : a = b := by
      by_cases e : a = b
      · exact e
      · exfalso
        have ha : a ∈ m := by have := p.subset (List.mem_cons_self (a := a) (l := l)); simp [e] at this; exact this
        have hb : b ∈ l := by have := p.symm.subset (List.mem_cons_self (a := b) (l := m)); simp [Ne.symm e] at this; exact this
        exact R.asymm o (List.rel_of_pairwise_cons hl hb) (List.rel_of_pairwise_cons hm ha)
    subst hab
    rw [sorted_unique o l m ((List.perm_cons a).1 p) hl.of_cons hm.of_cons]

def merge (lt : Int → Int → Bool) : List Int → List Int → List Int
  | [], b => b
  | a :: as, [] => a :: as
  | a :: as, b :: bs => if lt b a = true then b :: merge lt (a :: as) bs else a :: merge lt as (b :: bs)
termination_by a b => a.length + b.length

theorem merge_nil_left (lt : Int → Int → Bool) (b : List Int) : merge lt [] b = b := by rw [merge]
theorem merge_nil_right (lt : Int → Int → Bool) (a : List Int) : merge lt a [] = a := by cases a <;> rw [merge]

theorem merge_perm (lt : Int → Int → Bool) : ∀ (n : Nat) (a b : List Int), a.length + b.length ≤ n → (merge lt a b).Perm (a ++ b)
  | n, [], b, _ => by rw [merge_nil_left]; exact List.Perm.refl _
  | n, a :: as, [], _ => by rw [merge_nil_right]; simp
  | 0, a :: as, b :: bs, h => by simp at h
  | n + 1, a :: as, b :: bs, h => by
    simp only [List.length_cons] at h
    rw [merge]
    split
    · exact ((merge_perm lt n (a :: as) bs (by simp only [List.length_cons]; omega)).cons b).trans (List.perm_middle.symm)
    · exact (merge_perm lt n as (b :: bs) (by simp only [List.length_cons]; omega)).cons a

theorem merge_length (lt : Int → Int → Bool) (a b : List Int) : (merge lt a b).length = a.length + b.length := by
  rw [(merge_perm lt _ a b (Nat.le_refl _)).length_eq, List.length_append]

theorem merge_sorted {lt : Int → Int → Bool} (o : Ord lt) : ∀ (n : Nat) (a b : List Int), a.length + b.length ≤ n → a.Pairwise (R lt) → b.Pairwise (R lt) →
    (∀ x ∈ a, ∀ y ∈ b, x < y) → (merge lt a b).Pairwise (R lt)
  | n, [], b, _, _, hb, _ => by rw [merge_nil_left]; exact hb
  | n, a :: as, [], _, ha, _, _ => by rw [merge_nil_right]; exact ha
  | 0, a :: as, b :: bs, h, _, _, _ => by simp at h
  | n + 1, a :: as, b :: bs, h, ha, hb, hab => by
    simp only [List.length_cons] at h
    rw [merge]
    have key := hab a List.mem_cons_self b List.mem_cons_self
    split
    · rename_i c
      refine List.Pairwise.cons ?_ (merge_sorted o n (a :: as) bs (by simp only [List.length_cons]; omega) ha hb.of_cons fun x hx y hy => hab x hx y (List.mem_cons_of_mem _ hy))
      intro y hy
      have := (merge_perm lt _ (a :: as) bs (Nat.le_refl _)).subset hy
      rcases List.mem_append.1 this with h' | h'
      · rcases List.mem_cons.1 h' with rfl | h''
        · exact .inl c
        · exact R.trans o (.inl c) (List.rel_of_pairwise_cons ha h'')
      · exact List.rel_of_pairwise_cons hb h'
    · rename_i c
      have c' : lt b a = false := by simpa using c
      refine List.Pairwise.cons ?_ (merge_sorted o n as (b :: bs) (by simp only [List.length_cons]; omega) ha.of_cons hb fun x hx y hy => hab x (List.mem_cons_of_mem _ hx) y hy)
      intro y hy
      have := (merge_perm lt _ as (b :: bs) (Nat.le_refl _)).subset hy
      rcases List.mem_append.1 this with h' | h'
      · exact List.rel_of_pairwise_cons ha h'
      · have hR : R lt a b := .inr ⟨c', key⟩
        rcases List.mem_cons.1 h' with rfl | h''
        · exact hR
        · exact R.trans o hR (List.rel_of_pairwise_cons hb h'')

def seg (l : List Int) (a b : Nat) : List Int := (l.drop a).take (b - a)
theorem seg_length (l : List Int) (a b : Nat) (h : b ≤ l.length) : (seg l a b).length = b - a := by simp [seg]; omega
theorem seg_nil (l : List Int) (a b : Nat) (h : b ≤ a) : seg l a b = [] := by simp [seg]; left; omega
theorem seg_cons (l : List Int) (a b : Nat) (h : a < b) (hb : b ≤ l.length) : seg l a b = l.getD a 0 :: seg l (a + 1) b := by
  unfold seg
  rw [List.drop_eq_getElem_cons (by omega), show b - a = (b - (a + 1)) + 1 by omega, List.take_succ_cons, List.getD_eq_getElem?_getD, List.getElem?_eq_getElem (by omega)]
  rfl
theorem seg_append (l : List Int) (a b c : Nat) (h : a ≤ b) (k : b ≤ c) : seg l a b ++ seg l b c = seg l a c := by
  unfold seg
  rw [show c - a = (b - a) + (c - b) by omega, List.take_add, List.drop_drop, show a + (b - a) = b by omega]
theorem seg_take (l : List Int) (b c : Nat) (h : b ≤ c) : l.take b ++ seg l b c = l.take c := by
  have := seg_append l 0 b c (by omega) h
  simpa [seg] using this
theorem seg_of_prefix (l m : List Int) (a b f : Nat) (h : l.take f = m.take f) (hb : b ≤ f) : seg l a b = seg m a b := by
  unfold seg
  have e : ∀ x : List Int, (x.drop a).take (b - a) = ((x.take f).drop a).take (b - a) := by
    intro x
    rw [List.drop_take, List.take_take, Nat.min_eq_left (by omega)]
  rw [e l, e m, h]

/-- chunks of w, up to m, are sorted, and hold places of their own -/
def CH (lt : Int → Int → Bool) (w : Nat) (l : List Int) (m : Nat) : Prop :=
  ∀ q : Nat, q * w < m → (seg l (q * w) (min ((q + 1) * w) m)).Pairwise (R lt) ∧ ∀ x ∈ seg l (q * w) (min ((q + 1) * w) m), ((q * w : Nat) : Int) ≤ x ∧ x < ((q * w + w : Nat) : Int)

theorem CH.merged {lt : Int → Int → Bool} (o : Ord lt) {w n q : Nat} {order room room' : List Int} (hw : 0 < w) (hq : q * (2 * w) < n)
    (ho : CH lt w order n) (hr : CH lt (2 * w) room (q * (2 * w))) (hp : room'.take (q * (2 * w)) = room.take (q * (2 * w)))
    (hs : seg room' (q * (2 * w)) (min ((q + 1) * (2 * w)) n) = merge lt (seg order (q * (2 * w)) (min (q * (2 * w) + w) n)) (seg order (min (q * (2 * w) + w) n) (min ((q + 1) * (2 * w)) n))) :
    CH lt (2 * w) room' (min ((q + 1) * (2 * w)) n) := by
  have e1 : q * (2 * w) = (2 * q) * w := by rw [← Nat.mul_assoc, Nat.mul_comm q 2]
  have e2 : (2 * q + 1) * w = (2 * q) * w + w := by rw [Nat.add_mul, Nat.one_mul]
  have e3 : (q + 1) * (2 * w) = (2 * q) * w + w + w := by rw [Nat.add_mul, Nat.one_mul, e1]; omega
  have e4 : (2 * q + 1 + 1) * w = (2 * q) * w + w + w := by rw [Nat.add_mul (2 * q + 1), Nat.one_mul, e2]
  generalize hM : (2 * q) * w = M at *
  have hA := ho (2 * q) (by rw [hM, ← e1]; exact hq)
  rw [hM, e2] at hA
  intro q' hq'
  rcases Nat.lt_trichotomy q' q with hlt | rfl | hgt
  · have hm : (q' + 1) * (2 * w) ≤ q * (2 * w) := Nat.mul_le_mul_right _ hlt
    have hle : min ((q' + 1) * (2 * w)) (min ((q + 1) * (2 * w)) n) = (q' + 1) * (2 * w) := by rw [e3]; omega
    have hr' := hr q' (by have : q' * (2 * w) < (q' + 1) * (2 * w) := by rw [Nat.add_mul, Nat.one_mul]; omega
                          omega)
    rw [Nat.min_eq_left hm] at hr'
    rw [hle, seg_of_prefix room' room _ _ _ hp hm]
    exact hr'
  · rw [Nat.min_eq_right (by omega : min ((q' + 1) * (2 * w)) n ≤ (q' + 1) * (2 * w)), hs, e3, e1]
    by_cases hmid : M + w < n
    · have hB := ho (2 * q' + 1) (by rw [e2]; exact hmid)
      rw [e4, e2] at hB
      rw [Nat.min_eq_left (by omega : M + w ≤ n)] at hA ⊢
      refine ⟨merge_sorted o _ _ _ (Nat.le_refl _) hA.1 hB.1 ?_, ?_⟩
      · intro x hx y hy
        have h1 := hA.2 x hx
        have h2 := hB.2 y hy
        omega
      · intro x hx
        have := (merge_perm lt _ _ _ (Nat.le_refl _)).subset hx
        rcases List.mem_append.1 this with h | h
        · have h1 := hA.2 x h; omega
        · have h2 := hB.2 x h; omega
    · rw [Nat.min_eq_right (by omega : n ≤ M + w)] at hA ⊢
      rw [seg_nil _ n _ (by omega), merge_nil_right]
      exact ⟨hA.1, fun x hx => by have h1 := hA.2 x hx; omega⟩
  · have hm : (q + 1) * (2 * w) ≤ q' * (2 * w) := Nat.mul_le_mul_right _ hgt
    omega

theorem CH.whole {lt : Int → Int → Bool} {w : Nat} {l : List Int} (h : CH lt w l l.length) (hw : l.length ≤ w) : l.Pairwise (R lt) := by
  by_cases h0 : l.length = 0
  · rw [List.length_eq_zero_iff.1 h0]; exact List.Pairwise.nil
  · have := (h 0 (by omega)).1
    simpa [seg, Nat.min_eq_right hw] using this

/-- places in order -/
def places (n : Nat) : List Int := (List.range n).map Int.ofNat
theorem places_length (n : Nat) : (places n).length = n := by simp [places]
theorem places_getD (n i : Nat) (h : i < n) : (places n).getD i 0 = i := by
  simp only [places, List.getD_eq_getElem?_getD, List.getElem?_map, List.getElem?_range h]; rfl
theorem mem_places {n : Nat} {x : Int} : x ∈ places n ↔ 0 ≤ x ∧ x < n := by
  simp only [places, List.mem_map, List.mem_range]
  constructor
  · rintro ⟨a, ha, rfl⟩; simp only [Int.ofNat_eq_natCast]; omega
  · rintro ⟨h, k⟩; exact ⟨x.toNat, by omega, by simp only [Int.ofNat_eq_natCast]; omega⟩
theorem places_succ (n : Nat) : places (n + 1) = places n ++ [(n : Int)] := by simp [places, List.range_succ]
theorem CH.start (lt : Int → Int → Bool) (n : Nat) : CH lt 1 (places n) n := by
  intro q hq
  rw [Nat.mul_one, Nat.mul_one] at *
  rw [Nat.min_eq_left (by omega), seg_cons _ _ _ (by omega) (by rw [places_length]; omega), seg_nil _ _ _ (by omega), places_getD _ _ hq]
  refine ⟨List.pairwise_singleton _ _, ?_⟩
  intro x hx
  simp at hx
  subst hx
  omega

/-! the program's loops, over places -/
def Ls (f : Int → Int → Option Bool) (lt : Int → Int → Bool) (n : Nat) : Prop := ∀ a b : Int, 0 ≤ a → a < n → 0 ≤ b → b < n → f a b = some (lt a b)

section
variable (f : Int → Int → Option Bool) (n : Int)
mutual
def l1 : Nat → List Int → List Int → Int → Option (List Int)
  | 0, _, _, _ => none
  | k + 1, x5, x7, x8 => if x8 < n then (l2 k x5 x7 x8 0) else (some x5)
def l2 : Nat → List Int → List Int → Int → Int → Option (List Int)
  | 0, _, _, _, _ => none
  | k + 1, x5, x7, x8, x9 => if x9 < n then (l3 k x5 x7 x8 x9 (mn (wrap64 (x9 + x8)) n) (mn (wrap64 (x9 + (wrap64 (2 * x8)))) n) x9 (mn (wrap64 (x9 + x8)) n) x9) else (l1 k x7 x5 (wrap64 (x8 * 2)))
def l3 : Nat → List Int → List Int → Int → Int → Int → Int → Int → Int → Int → Option (List Int)
  | 0, _, _, _, _, _, _, _, _, _ => none
  | k + 1, x5, x7, x8, x9, x10, x11, x12, x13, x14 => if x14 < x11 then (if x12 < x10 then (if x13 ≥ x11 then (if 0 ≤ x12 then (if x12 < (x5.length : Int) then (if 0 ≤ x14 then (if x14 < (x7.length : Int) then (l3 k x5 (x7.set (x14 : Int).toNat (rd x5 x12)) x8 x9 x10 x11 (wrap64 (x12 + 1)) x13 (wrap64 (x14 + 1))) else (none)) else (none)) else (none)) else (none)) else (if 0 ≤ x13 then (if x13 < (x5.length : Int) then (if 0 ≤ (rd x5 x13) then (if (rd x5 x13) < n then (if 0 ≤ x12 then (if x12 < (x5.length : Int) then (if 0 ≤ (rd x5 x12) then (if (rd x5 x12) < n then ((f (rd x5 x13) (rd x5 x12)).bind fun t116 => (if t116 = true then (if 0 ≤ x14 then (if x14 < (x7.length : Int) then (l3 k x5 (x7.set (x14 : Int).toNat (rd x5 x13)) x8 x9 x10 x11 x12 (wrap64 (x13 + 1)) (wrap64 (x14 + 1))) else (none)) else (none)) else (if 0 ≤ x14 then (if x14 < (x7.length : Int) then (l3 k x5 (x7.set (x14 : Int).toNat (rd x5 x12)) x8 x9 x10 x11 (wrap64 (x12 + 1)) x13 (wrap64 (x14 + 1))) else (none)) else (none)))) else (none)) else (none)) else (none)) else (none)) else (none)) else (none)) else (none)) else (none))) else (if 0 ≤ x13 then (if x13 < (x5.length : Int) then (if 0 ≤ x14 then (if x14 < (x7.length : Int) then (l3 k x5 (x7.set (x14 : Int).toNat (rd x5 x13)) x8 x9 x10 x11 x12 (wrap64 (x13 + 1)) (wrap64 (x14 + 1))) else (none)) else (none)) else (none)) else (none))) else (l2 k x5 x7 x8 (wrap64 (x9 + (wrap64 (2 * x8)))))
end

theorem l3_succ (f : Int → Int → Option Bool) (n : Int) (k : Nat) (x5 x7 : List Int) (x8 x9 x10 x11 x12 x13 x14 : Int) : l3 f n (k + 1) x5 x7 x8 x9 x10 x11 x12 x13 x14 = if x14 < x11 then (if x12 < x10 then (if x13 ≥ x11 then (if 0 ≤ x12 then (if x12 < (x5.length : Int) then (if 0 ≤ x14 then (if x14 < (x7.length : Int) then (l3 f n k x5 (x7.set (x14 : Int).toNat (rd x5 x12)) x8 x9 x10 x11 (wrap64 (x12 + 1)) x13 (wrap64 (x14 + 1))) else (none)) else (none)) else (none)) else (none)) else (if 0 ≤ x13 then (if x13 < (x5.length : Int) then (if 0 ≤ (rd x5 x13) then (if (rd x5 x13) < n then (if 0 ≤ x12 then (if x12 < (x5.length : Int) then (if 0 ≤ (rd x5 x12) then (if (rd x5 x12) < n then ((f (rd x5 x13) (rd x5 x12)).bind fun t116 => (if t116 = true then (if 0 ≤ x14 then (if x14 < (x7.length : Int) then (l3 f n k x5 (x7.set (x14 : Int).toNat (rd x5 x13)) x8 x9 x10 x11 x12 (wrap64 (x13 + 1)) (wrap64 (x14 + 1))) else (none)) else (none)) else (if 0 ≤ x14 then (if x14 < (x7.length : Int) then (l3 f n k x5 (x7.set (x14 : Int).toNat (rd x5 x12)) x8 x9 x10 x11 (wrap64 (x12 + 1)) x13 (wrap64 (x14 + 1))) else (none)) else (none)))) else (none)) else (none)) else (none)) else (none)) else (none)) else (none)) else (none)) else (none))) else (if 0 ≤ x13 then (if x13 < (x5.length : Int) then (if 0 ≤ x14 then (if x14 < (x7.length : Int) then (l3 f n k x5 (x7.set (x14 : Int).toNat (rd x5 x13)) x8 x9 x10 x11 x12 (wrap64 (x13 + 1)) (wrap64 (x14 + 1))) else (none)) else (none)) else (none)) else (none))) else (l2 f n k x5 x7 x8 (wrap64 (x9 + (wrap64 (2 * x8))))) := by rw [l3]
theorem l2_succ (f : Int → Int → Option Bool) (n : Int) (k : Nat) (x5 x7 : List Int) (x8 x9 : Int) : l2 f n (k + 1) x5 x7 x8 x9 = if x9 < n then (l3 f n k x5 x7 x8 x9 (mn (wrap64 (x9 + x8)) n) (mn (wrap64 (x9 + (wrap64 (2 * x8)))) n) x9 (mn (wrap64 (x9 + x8)) n) x9) else (l1 f n k x7 x5 (wrap64 (x8 * 2))) := by rw [l2]
theorem l1_succ (f : Int → Int → Option Bool) (n : Int) (k : Nat) (x5 x7 : List Int) (x8 : Int) : l1 f n (k + 1) x5 x7 x8 = if x8 < n then (l2 f n k x5 x7 x8 0) else (some x5) := by rw [l1]
theorem l1_zero (f : Int → Int → Option Bool) (n : Int) (x5 x7 : List Int) (x8 : Int) : l1 f n 0 x5 x7 x8 = none := by rw [l1]
theorem l2_zero (f : Int → Int → Option Bool) (n : Int) (x5 x7 : List Int) (x8 x9 : Int) : l2 f n 0 x5 x7 x8 x9 = none := by rw [l2]
theorem l3_zero (f : Int → Int → Option Bool) (n : Int) (x5 x7 : List Int) (x8 x9 x10 x11 x12 x13 x14 : Int) : l3 f n 0 x5 x7 x8 x9 x10 x11 x12 x13 x14 = none := by rw [l3]
attribute [irreducible] l1 l2 l3
end

theorem w64 {x : Int} (h0 : -9223372036854775808 ≤ x) (h : x < 9223372036854775808) : wrap64 x = x := by unfold wrap64; omega
theorem w64_succ (m : Nat) (h : m < 1099511627776) : wrap64 ((m : Int) + 1) = ((m + 1 : Nat) : Int) := by rw [w64 (by omega) (by omega)]; omega
theorem rd_nat (l : List Int) (i : Nat) : rd l (i : Int) = l.getD i 0 := rfl
theorem getD_mem (l : List Int) (i : Nat) (h : i < l.length) : l.getD i 0 ∈ l := by
  rw [List.getD_eq_getElem?_getD, List.getElem?_eq_getElem h]; exact List.getElem_mem h
theorem set_mid (P T : List Int) (t v : Int) : (P ++ t :: T).set P.length v = (P ++ [v]) ++ T := by simp

theorem l3_end {f : Int → Int → Option Bool} {n : Int} {k : Nat} {x5 x7 : List Int} {x8 x9 x10 x11 x12 x13 x14 : Int} (h : ¬ x14 < x11) :
    l3 f n (k + 1) x5 x7 x8 x9 x10 x11 x12 x13 x14 = l2 f n k x5 x7 x8 (wrap64 (x9 + (wrap64 (2 * x8)))) := by rw [l3_succ, if_neg h]
theorem l3_restI {f : Int → Int → Option Bool} {n : Int} {k : Nat} {x5 x7 : List Int} {x8 x9 x10 x11 x12 x13 x14 : Int} (h : x14 < x11) (h1 : x12 < x10) (h2 : x11 ≤ x13) (h3 : 0 ≤ x12) (h4 : x12 < (x5.length : Int)) (h5 : 0 ≤ x14) (h6 : x14 < (x7.length : Int)) :
    l3 f n (k + 1) x5 x7 x8 x9 x10 x11 x12 x13 x14 = l3 f n k x5 (x7.set (x14 : Int).toNat (rd x5 x12)) x8 x9 x10 x11 (wrap64 (x12 + 1)) x13 (wrap64 (x14 + 1)) := by
  rw [l3_succ, if_pos h, if_pos h1, if_pos h2, if_pos h3, if_pos h4, if_pos h5, if_pos h6]
theorem l3_restK {f : Int → Int → Option Bool} {n : Int} {k : Nat} {x5 x7 : List Int} {x8 x9 x10 x11 x12 x13 x14 : Int} (h : x14 < x11) (h1 : ¬ x12 < x10) (h3 : 0 ≤ x13) (h4 : x13 < (x5.length : Int)) (h5 : 0 ≤ x14) (h6 : x14 < (x7.length : Int)) :
    l3 f n (k + 1) x5 x7 x8 x9 x10 x11 x12 x13 x14 = l3 f n k x5 (x7.set (x14 : Int).toNat (rd x5 x13)) x8 x9 x10 x11 x12 (wrap64 (x13 + 1)) (wrap64 (x14 + 1)) := by
  rw [l3_succ, if_pos h, if_neg h1, if_pos h3, if_pos h4, if_pos h5, if_pos h6]
theorem l3_both {f : Int → Int → Option Bool} {n : Int} {k : Nat} {x5 x7 : List Int} {x8 x9 x10 x11 x12 x13 x14 : Int} {b : Bool} (h : x14 < x11) (h1 : x12 < x10) (h2 : ¬ x13 ≥ x11) (h3 : 0 ≤ x12) (h4 : x12 < (x5.length : Int)) (h3' : 0 ≤ x13) (h4' : x13 < (x5.length : Int)) (h5 : 0 ≤ x14) (h6 : x14 < (x7.length : Int))
    (g0 : 0 ≤ rd x5 x12) (g1 : rd x5 x12 < n) (g0' : 0 ≤ rd x5 x13) (g1' : rd x5 x13 < n) (hf : f (rd x5 x13) (rd x5 x12) = some b) :
    l3 f n (k + 1) x5 x7 x8 x9 x10 x11 x12 x13 x14 = if b = true then l3 f n k x5 (x7.set (x14 : Int).toNat (rd x5 x13)) x8 x9 x10 x11 x12 (wrap64 (x13 + 1)) (wrap64 (x14 + 1)) else l3 f n k x5 (x7.set (x14 : Int).toNat (rd x5 x12)) x8 x9 x10 x11 (wrap64 (x12 + 1)) x13 (wrap64 (x14 + 1)) := by
  rw [l3_succ, if_pos h, if_pos h1, if_neg h2, if_pos h3', if_pos h4', if_pos g0', if_pos g1', if_pos h3, if_pos h4, if_pos g0, if_pos g1, hf, Option.bind_some, if_pos h5, if_pos h6, if_pos h5, if_pos h6]

theorem l3_runs {f : Int → Int → Option Bool} {n : Int} {lt : Int → Int → Bool} {r : List Int} (hf : ∀ a b : Int, 0 ≤ a → a < n → 0 ≤ b → b < n → f a b = some (lt a b)) {order : List Int} {x8 x9 : Int} (hN : (order.length : Int) < 1099511627776)
    (hin : ∀ x ∈ order, 0 ≤ x ∧ x < n) (d : Nat) : ∀ (i kk mid en : Nat) (P T : List Int), i ≤ mid → mid ≤ kk → kk ≤ en → en ≤ order.length → (mid - i) + (en - kk) = d → P.length + d = en →
      P.length + T.length = order.length →
      Ev (fun k => l2 f n k order (P ++ merge lt (seg order i mid) (seg order kk en) ++ T.drop d) x8 (wrap64 (x9 + wrap64 (2 * x8)))) r →
      Ev (fun k => l3 f n k order (P ++ T) x8 x9 mid en i kk P.length) r := by
  induction d with
  | zero =>
    intro i kk mid en P T h1 h2 h3 h4 hd hP hT h
    refine Ev.step (fun k => l3_end (by omega)) ?_
    rw [seg_nil _ _ _ (by omega), seg_nil _ _ _ (by omega), merge_nil_left] at h
    simpa using h
  | succ d ih =>
    intro i kk mid en P T h1 h2 h3 h4 hd hP hT h
    obtain ⟨t, T', rfl⟩ : ∃ t T', T = t :: T' := by cases T with | nil => simp at hT; omega | cons t T' => exact ⟨t, T', rfl⟩
    have hlen : (P ++ t :: T').length = order.length := by rw [List.length_append]; exact hT
    simp only [List.length_cons] at hT
    have hx14 : (P.length : Int) < en := by omega
    have hroom : (P.length : Int) < ((P ++ t :: T').length : Int) := by rw [hlen]; omega
    have wn : P.length < 1099511627776 := by omega
    have hi0 : i < 1099511627776 := by omega
    have hk0 : kk < 1099511627776 := by omega
    have goI : i < mid → merge lt (seg order i mid) (seg order kk en) = order.getD i 0 :: merge lt (seg order (i + 1) mid) (seg order kk en) →
        Ev (fun k => l3 f n k order ((P ++ t :: T').set ((P.length : Int)).toNat (rd order i)) x8 x9 mid en (wrap64 ((i : Int) + 1)) kk (wrap64 ((P.length : Int) + 1))) r := by
      intro hlt hm
      rw [w64_succ i hi0, w64_succ P.length wn, Int.toNat_natCast, set_mid, rd_nat]
      have := ih (i + 1) kk mid en (P ++ [order.getD i 0]) T' (by omega) h2 h3 h4 (by omega) (by simp; omega) (by simp; omega) (by
        rw [hm] at h; simpa using h)
      simpa using this
    have goK : kk < en → merge lt (seg order i mid) (seg order kk en) = order.getD kk 0 :: merge lt (seg order i mid) (seg order (kk + 1) en) →
        Ev (fun k => l3 f n k order ((P ++ t :: T').set ((P.length : Int)).toNat (rd order kk)) x8 x9 mid en i (wrap64 ((kk : Int) + 1)) (wrap64 ((P.length : Int) + 1))) r := by
      intro hlt hm
      rw [w64_succ kk hk0, w64_succ P.length wn, Int.toNat_natCast, set_mid, rd_nat]
      have := ih i (kk + 1) mid en (P ++ [order.getD kk 0]) T' h1 (by omega) (by omega) h4 (by omega) (by simp; omega) (by simp; omega) (by
        rw [hm] at h; simpa using h)
      simpa using this
    clear h ih
    have p0 : (0 : Int) ≤ P.length := by omega
    by_cases hi : i < mid
    · have i0 : (0 : Int) ≤ i := by omega
      have i1 : (i : Int) < mid := by omega
      have i2 : (i : Int) < order.length := by omega
      by_cases hk : kk < en
      · have hbi := hin _ (getD_mem order i (by omega))
        have hbk := hin _ (getD_mem order kk (by omega))
        have hfe := hf _ _ hbk.1 hbk.2 hbi.1 hbi.2
        have k0 : (0 : Int) ≤ kk := by omega
        have k1 : ¬ (kk : Int) ≥ en := by omega
        have k2 : (kk : Int) < order.length := by omega
        have eq := fun k => l3_both (f := f) (n := n) (k := k) (x5 := order) (x8 := x8) (x9 := x9) hx14 i1 k1 i0 i2 k0 k2 p0 hroom hbi.1 hbi.2 hbk.1 hbk.2 hfe
        cases e : lt (order.getD kk 0) (order.getD i 0) with
        | true =>
          refine Ev.step (fun k => (eq k).trans (if_pos e)) (goK hk ?_)
          rw [seg_cons order i mid hi (by omega), seg_cons order kk en hk (by omega), merge, if_pos e]
        | false =>
          refine Ev.step (fun k => (eq k).trans (if_neg (by rw [e]; simp))) (goI hi ?_)
          rw [seg_cons order i mid hi (by omega), seg_cons order kk en hk (by omega), merge, if_neg (by rw [e]; simp)]
      · have k1 : (en : Int) ≤ kk := by omega
        refine Ev.step (fun k => l3_restI hx14 i1 k1 i0 i2 p0 hroom) (goI hi ?_)
        rw [seg_nil order kk en (by omega), merge_nil_right, merge_nil_right, seg_cons order i mid hi (by omega)]
    · have i1 : ¬ (i : Int) < mid := by omega
      have k0 : (0 : Int) ≤ kk := by omega
      have k2 : (kk : Int) < order.length := by omega
      refine Ev.step (fun k => l3_restK hx14 i1 k0 k2 p0 hroom) (goK (by omega) ?_)
      rw [seg_nil order i mid (by omega), merge_nil_left, merge_nil_left, seg_cons order kk en (by omega) (by omega)]
theorem mn_min (a b : Nat) : mn (a : Int) (b : Int) = ((min a b : Nat) : Int) := by unfold mn; split <;> omega
theorem w64_nat (m : Nat) (h : m < 9223372036854775808) : wrap64 (m : Int) = m := w64 (by omega) (by omega)
theorem l2_end {f : Int → Int → Option Bool} {n : Int} {k : Nat} {x5 x7 : List Int} {x8 x9 : Int} (h : ¬ x9 < n) : l2 f n (k + 1) x5 x7 x8 x9 = l1 f n k x7 x5 (wrap64 (x8 * 2)) := by rw [l2_succ, if_neg h]
theorem l2_go {f : Int → Int → Option Bool} {n : Int} {k : Nat} {x5 x7 : List Int} {x8 x9 : Int} (h : x9 < n) {mid en : Int} (hm : mn (wrap64 (x9 + x8)) n = mid) (he : mn (wrap64 (x9 + wrap64 (2 * x8))) n = en) :
    l2 f n (k + 1) x5 x7 x8 x9 = l3 f n k x5 x7 x8 x9 mid en x9 mid x9 := by rw [l2_succ, if_pos h, hm, he]
theorem wr2 (w : Nat) (h : w < 1099511627776) : wrap64 (2 * (w : Int)) = ((2 * w : Nat) : Int) := by rw [w64 (by omega) (by omega)]; omega
theorem wr3 (a b : Nat) (h : a < 1099511627776) (h' : b < 4398046511104) : wrap64 ((a : Int) + (b : Int)) = ((a + b : Nat) : Int) := by rw [w64 (by omega) (by omega)]; omega
theorem l2_runs {f : Int → Int → Option Bool} {lt : Int → Int → Bool} {Q : List Int → Prop} (o : Ord lt) {N : Nat} (hf : ∀ a b : Int, 0 ≤ a → a < (N : Int) → 0 ≤ b → b < (N : Int) → f a b = some (lt a b))
    (hN : N < 1099511627776) {order : List Int} {w : Nat} (hw0 : 0 < w) (hw : w < N) (hl : order.length = N) (hin : ∀ x ∈ order, 0 ≤ x ∧ x < (N : Int)) (ho : CH lt w order N)
    (fin : ∀ room : List Int, room.length = N → room.Perm order → CH lt (2 * w) room N → ∃ r, Ev (fun k => l1 f N k room order (wrap64 ((w : Int) * 2))) r ∧ Q r) (d : Nat) :
    ∀ (q : Nat) (room : List Int), N - q * (2 * w) ≤ d → q * (2 * w) < N + 2 * w → room.length = N → (room.take (min (q * (2 * w)) N)).Perm (order.take (min (q * (2 * w)) N)) → CH lt (2 * w) room (min (q * (2 * w)) N) →
      ∃ r, Ev (fun k => l2 f N k order room w ((q * (2 * w) : Nat) : Int)) r ∧ Q r := by
  induction d with
  | zero =>
    intro q room hd hq hr hp hc
    rw [Nat.min_eq_right (by omega)] at hp hc
    rw [List.take_of_length_le (by omega), List.take_of_length_le (by omega)] at hp
    obtain ⟨r, h, hQ⟩ := fin room hr hp hc
    exact ⟨r, Ev.step (fun k => l2_end (by omega)) h, hQ⟩
  | succ d ih =>
    intro q room hd hq hr hp hc
    by_cases hlt : q * (2 * w) < N
    · have e3 : (q + 1) * (2 * w) = q * (2 * w) + 2 * w := by rw [Nat.add_mul, Nat.one_mul]
      have nx := ih (q + 1)
      generalize hF : q * (2 * w) = F at *
      rw [Nat.min_eq_left (by omega)] at hp hc
      have hmid : mn (wrap64 ((F : Int) + (w : Int))) (N : Int) = ((min (F + w) N : Nat) : Int) := by rw [wr3 F w (by omega) (by omega), mn_min]
      have hen : mn (wrap64 ((F : Int) + wrap64 (2 * (w : Int)))) (N : Int) = ((min ((q + 1) * (2 * w)) N : Nat) : Int) := by rw [wr2 w (by omega), wr3 F (2 * w) (by omega) (by omega), mn_min, e3]
      have hPl : (room.take F).length = F := by rw [List.length_take]; omega
      have hmg : (merge lt (seg order F (min (F + w) N)) (seg order (min (F + w) N) (min ((q + 1) * (2 * w)) N))).length = min ((q + 1) * (2 * w)) N - F := by
        rw [merge_length, seg_length _ _ _ (by omega), seg_length _ _ _ (by omega)]; omega
      have hmp := merge_perm lt _ (seg order F (min (F + w) N)) (seg order (min (F + w) N) (min ((q + 1) * (2 * w)) N)) (Nat.le_refl _)
      rw [seg_append _ _ _ _ (by omega) (by omega)] at hmp
      have hmerged := fun room' => CH.merged (n := N) (q := q) (order := order) (room := room) (room' := room') o hw0 (by omega) ho (by rw [hF]; exact hc)
      rw [hF] at hmerged
      generalize hM : merge lt (seg order F (min (F + w) N)) (seg order (min (F + w) N) (min ((q + 1) * (2 * w)) N)) = M at *
      have rl : (room.take F ++ M ++ (room.drop F).drop (min ((q + 1) * (2 * w)) N - F)).length = N := by
        rw [List.length_append, List.length_append, hPl, hmg, List.length_drop, List.length_drop, hr]; omega
      have rt : (room.take F ++ M ++ (room.drop F).drop (min ((q + 1) * (2 * w)) N - F)).take (min ((q + 1) * (2 * w)) N) = room.take F ++ M := by
        rw [List.take_append_of_le_length (by rw [List.length_append, hPl, hmg]; omega), List.take_of_length_le (by rw [List.length_append, hPl, hmg]; omega)]
      have rt0 : (room.take F ++ M ++ (room.drop F).drop (min ((q + 1) * (2 * w)) N - F)).take F = room.take F := by
        rw [List.append_assoc, List.take_append_of_le_length (by omega), List.take_of_length_le (by omega)]
      have rs : seg (room.take F ++ M ++ (room.drop F).drop (min ((q + 1) * (2 * w)) N - F)) F (min ((q + 1) * (2 * w)) N) = M := by
        have := seg_take (room.take F ++ M ++ (room.drop F).drop (min ((q + 1) * (2 * w)) N - F)) F (min ((q + 1) * (2 * w)) N) (by omega)
        rw [rt, rt0] at this
        exact List.append_cancel_left this
      obtain ⟨r, h, hQ⟩ := nx _ (by omega) (by omega) rl (by
          rw [rt]
          refine (hp.append hmp).trans ?_
          rw [seg_take _ _ _ (by omega)])
        (hmerged _ rt0 rs)
      refine ⟨r, Ev.step (fun k => l2_go (by omega) hmid hen) ?_, hQ⟩
      have := l3_runs (n := (N : Int)) (order := order) (x8 := (w : Int)) (x9 := (F : Int)) (r := r) hf (by omega) hin (min ((q + 1) * (2 * w)) N - F) F (min (F + w) N) (min (F + w) N) (min ((q + 1) * (2 * w)) N) (room.take F) (room.drop F)
        (by omega) (Nat.le_refl _) (by omega) (by omega) (by omega) (by omega) (by rw [hPl, List.length_drop]; omega)
      rw [hM, wr2 w (by omega), wr3 F (2 * w) (by omega) (by omega), ← e3, hPl, List.take_append_drop] at this
      exact this h
    · rw [Nat.min_eq_right (by omega)] at hp hc
      rw [List.take_of_length_le (by omega), List.take_of_length_le (by omega)] at hp
      obtain ⟨r, h, hQ⟩ := fin room hr hp hc
      exact ⟨r, Ev.step (fun k => l2_end (by omega)) h, hQ⟩

/-- what a sorting by places comes to -/
def Sorted (lt : Int → Int → Bool) (N : Nat) (r : List Int) : Prop := r.Perm (places N) ∧ r.Pairwise (R lt)

theorem Sorted.unique {lt : Int → Int → Bool} (o : Ord lt) {N : Nat} {r s : List Int} (h : Sorted lt N r) (k : Sorted lt N s) : r = s := sorted_unique o r s (h.1.trans k.1.symm) h.2 k.2
theorem Sorted.length {lt : Int → Int → Bool} {N : Nat} {r : List Int} (h : Sorted lt N r) : r.length = N := by rw [h.1.length_eq, places_length]
theorem Sorted.mem {lt : Int → Int → Bool} {N : Nat} {r : List Int} (h : Sorted lt N r) {x : Int} : x ∈ r ↔ 0 ≤ x ∧ x < N := by rw [h.1.mem_iff, mem_places]

theorem l1_end {f : Int → Int → Option Bool} {n : Int} {k : Nat} {x5 x7 : List Int} {x8 : Int} (h : ¬ x8 < n) : l1 f n (k + 1) x5 x7 x8 = some x5 := by rw [l1_succ, if_neg h]
theorem l1_go {f : Int → Int → Option Bool} {n : Int} {k : Nat} {x5 x7 : List Int} {x8 : Int} (h : x8 < n) : l1 f n (k + 1) x5 x7 x8 = l2 f n k x5 x7 x8 0 := by rw [l1_succ, if_pos h]
theorem wr4 (w : Nat) (h : w < 1099511627776) : wrap64 ((w : Int) * 2) = ((2 * w : Nat) : Int) := by rw [w64 (by omega) (by omega)]; omega

theorem l1_runs {f : Int → Int → Option Bool} {lt : Int → Int → Bool} (o : Ord lt) {N : Nat} (hf : ∀ a b : Int, 0 ≤ a → a < (N : Int) → 0 ≤ b → b < (N : Int) → f a b = some (lt a b))
    (hN : N < 1099511627776) (d : Nat) : ∀ (w : Nat) (order room : List Int), N - w ≤ d → 0 < w → order.length = N → room.length = N → order.Perm (places N) → CH lt w order N →
      ∃ r, Ev (fun k => l1 f N k order room w) r ∧ Sorted lt N r := by
  induction d with
  | zero =>
    intro w order room hd hw hl hr hp hc
    refine ⟨order, Ev.step (fun k => l1_end (by omega)) (Ev.now _), hp, ?_⟩
    rw [← hl] at hc
    exact hc.whole (by omega)
  | succ d ih =>
    intro w order room hd hw hl hr hp hc
    by_cases hlt : w < N
    · have := l2_runs (Q := Sorted lt N) o hf hN hw hlt hl (fun x hx => mem_places.1 (hp.subset hx)) hc (fun room' h1 h2 h3 => by
        rw [wr4 w (by omega)]
        exact ih (2 * w) room' order (by omega) (by omega) h1 hl (h2.trans hp) h3) N 0 room (by omega) (by omega) hr (by simp) (by intro q hq; simp at hq)
      obtain ⟨r, h, hs⟩ := this
      refine ⟨r, Ev.step (fun k => l1_go (by omega)) ?_, hs⟩
      simpa using h
    · refine ⟨order, Ev.step (fun k => l1_end (by omega)) (Ev.now _), hp, ?_⟩
      rw [← hl] at hc
      exact hc.whole (by omega)

section
variable (f : Int → Int → Option Bool) (n : Int)
def l0 : Nat → List Int → Int → Int → Option (List Int)
  | 0, _, _, _ => none
  | k + 1, x5, x19, x20 => if x20 < x19 then (if 0 ≤ x20 then (if x20 < (x5.length : Int) then (l0 k (x5.set (x20 : Int).toNat x20) x19 (wrap64 (x20 + 1))) else (none)) else (none)) else (if 0 ≤ n then (if (n : Int).toNat ≤ 35184372088832 then (l1 f n k x5 (List.replicate (n : Int).toNat 0) 1) else (none)) else (none))
def byLoop (k : Nat) : Option (List Int) := if 0 ≤ n then (if (n : Int).toNat ≤ 35184372088832 then ((some (List.replicate (n : Int).toNat 0 : List Int)).bind fun y103 => (l0 f n k y103 (y103.length : Int) 0)) else (none)) else (none)
end
theorem l0_runs {f : Int → Int → Option Bool} {N : Nat} (hN : N < 1099511627776) {r : List Int} (h : Ev (fun k => l1 f N k (places N) (List.replicate N 0) 1) r) (d : Nat) :
    ∀ (i : Nat) (T : List Int), i + T.length = N → N - i ≤ d → Ev (fun k => l0 f N k (places i ++ T) N i) r := by
  have e0 : ∀ (i : Nat) (T : List Int), i + T.length = N → ¬ (i < N) → Ev (fun k => l0 f N k (places i ++ T) N i) r := by
    intro i T hi hd
    refine Ev.step (fun k => ?_) h
    obtain rfl : i = N := by omega
    obtain rfl : T = [] := List.length_eq_zero_iff.1 (by omega)
    rw [l0, if_neg (by omega), if_pos (by omega), if_pos (by omega), Int.toNat_natCast, List.append_nil]
  induction d with
  | zero => intro i T hi hd; exact e0 i T hi (by omega)
  | succ d ih =>
    intro i T hi hd
    by_cases hlt : i < N
    · obtain ⟨t, T', rfl⟩ : ∃ t T', T = t :: T' := by cases T with | nil => simp at hi; omega | cons t T' => exact ⟨t, T', rfl⟩
      simp only [List.length_cons] at hi
      have := ih (i + 1) T' (by omega) (by omega)
      refine Ev.step (fun k => ?_) this
      have hs := set_mid (places i) T' t (i : Int)
      rw [places_length] at hs
      rw [l0, if_pos (by omega), if_pos (by omega), if_pos (by rw [List.length_append, places_length, List.length_cons]; omega), Int.toNat_natCast, hs, w64_succ i (by omega), places_succ]
    · exact e0 i T hi hlt

/-- THE LOOPS SORT -/
theorem by_runs {f : Int → Int → Option Bool} {lt : Int → Int → Bool} (o : Ord lt) {N : Nat} (hf : ∀ a b : Int, 0 ≤ a → a < (N : Int) → 0 ≤ b → b < (N : Int) → f a b = some (lt a b))
    (hN : N < 1099511627776) : ∃ r, Ev (fun k => byLoop f N k) r ∧ Sorted lt N r := by
  obtain ⟨r, h, hs⟩ := l1_runs o hf hN N 1 (places N) (List.replicate N 0) (by omega) (by omega) (places_length N) (by simp) (List.Perm.refl _) (CH.start lt N)
  refine ⟨r, ?_, hs⟩
  have := l0_runs hN h N 0 (List.replicate N 0) (by simp) (by omega)
  refine Ev.congr (fun k => ?_) this
  simp only [byLoop, places, List.range_zero, List.map_nil, List.nil_append]
  rw [if_pos (by omega), if_pos (by omega), Option.bind_some, List.length_replicate, Int.toNat_natCast]
  rfl
end Go.Proofs.Ytlpopkknamigoaa.Rk
