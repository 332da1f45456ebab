/- For every list of numbers and every number: a number that is put where it stands keeps the list's order, a list told in order does not fall, and told in order twice it is told as it is: proved of the printed functions. Conditions: none beyond the statement's own. -/
import Derived.Test.YtlpopkknamigoaaQ6
import Derived.Test.YtlpopkknamigoaaRankPlace1
import Derived.Test.YtlpopkknamigoaaRankKnown
namespace Go.Proofs.Ytlpopkknamigoaa.Pure
open Go.RowKit Go.Proofs.Ytlpopkknamigoaa.Q Go.Proofs.YtlpopkknamigoaaW.PrintWords Go.Proofs.YtlpopkknamigoaaW.PrintLast Go.Proofs.YtlpopkknamigoaaW.PrintMore Go.Proofs.Ytlpopkknamigoaa.Rk

theorem places_sorted {m : List Int} (hs : m.Pairwise (· ≤ ·)) : Sorted (ltI m) m.length (places m.length) := by
  refine ⟨List.Perm.refl _, ?_⟩
  rw [List.pairwise_iff_getElem]
  intro i j hi hj hij
  rw [places_length] at hi hj
  have e1 : (places m.length)[i] = (i : Int) := by simp [places]
  have e2 : (places m.length)[j] = (j : Int) := by simp [places]
  rw [e1, e2]
  have hle := List.pairwise_iff_getElem.1 hs i j hi hj hij
  have r1 : rd m (i : Int) = m[i] := by rw [rd_nat, List.getD_eq_getElem?_getD, List.getElem?_eq_getElem hi]; rfl
  have r2 : rd m (j : Int) = m[j] := by rw [rd_nat, List.getD_eq_getElem?_getD, List.getElem?_eq_getElem hj]; rfl
  refine .inr ⟨?_, by omega⟩
  unfold ltI
  rw [r1, r2]
  exact decide_eq_false (by omega)
theorem put_sorted {n : Int} {m : List Int} (hs : m.Pairwise (· ≤ ·)) {p : Nat} (hp : p ≤ m.length) (h1 : p = 0 ∨ m.getD (p - 1) 0 < n) (h2 : p = m.length ∨ n ≤ m.getD p 0) : (m.take p ++ [n] ++ m.drop p).Pairwise (· ≤ ·) := by
  have hi := List.pairwise_iff_getElem.1 hs
  have ha : ∀ x ∈ m.take p, x ≤ n := by
    intro x hx
    obtain ⟨j, hj, rfl⟩ := List.getElem_of_mem hx
    rw [List.length_take] at hj
    rw [List.getElem_take]
    rcases h1 with h1 | h1
    · omega
    · rw [List.getD_eq_getElem?_getD, List.getElem?_eq_getElem (by omega)] at h1
      simp only [Option.getD_some] at h1
      by_cases e : j = p - 1
      · subst e; omega
      · have := hi j (p - 1) (by omega) (by omega) (by omega); omega
  have hb : ∀ x ∈ m.drop p, n ≤ x := by
    intro x hx
    obtain ⟨j, hj, rfl⟩ := List.getElem_of_mem hx
    rw [List.length_drop] at hj
    rw [List.getElem_drop]
    rcases h2 with h2 | h2
    · omega
    · rw [List.getD_eq_getElem?_getD, List.getElem?_eq_getElem (by omega)] at h2
      simp only [Option.getD_some] at h2
      by_cases e : j = 0
      · subst e; simpa using h2
      · have := hi p (p + j) (by omega) (by omega) (by omega); omega
  have hab : ∀ x ∈ m.take p, ∀ y ∈ m.drop p, x ≤ y := fun x hx y hy => by have := ha x hx; have := hb y hy; omega
  rw [List.append_assoc, List.pairwise_append, List.pairwise_append]
  refine ⟨hs.sublist (List.take_sublist p m), ⟨by simp, hs.sublist (List.drop_sublist p m), fun x hx y hy => ?_⟩, fun x hx y hy => ?_⟩
  · rw [List.mem_singleton.1 hx]; exact hb y hy
  · rcases List.mem_append.1 hy with hy | hy
    · rw [List.mem_singleton.1 hy]; exact ha x hx
    · exact hab x hx y hy

theorem puts_lastA (n : Int) (m : List Int) (hm : m.length < 1099511627776) (p : Nat) (hp : p ≤ m.length) (h1 : p = 0 ∨ m.getD (p - 1) 0 < n) (h2 : p = m.length ∨ n ≤ m.getD p 0) :
    Ev (fun k => scarflaw03_RankPuts.l2 k n m p (places m.length) m.length) true := by
  have e1 : p ≠ 0 → wrap64 ((p : Int) - 1) = ((p - 1 : Nat) : Int) := fun h => by rw [w64 (by omega) (by omega)]; omega
  have e2 : p ≠ 0 → decide (rd m ((p - 1 : Nat) : Int) < n) = true := fun h => decide_eq_true (by rw [rd_nat]; rcases h1 with h1 | h1; exact absurd h1 h; exact h1)
  obtain ⟨K, hK⟩ := known03
  refine ⟨K + 1, fun k hk => ?_⟩
  obtain ⟨k, rfl⟩ : ∃ k', k = k' + 1 := ⟨k - 1, by omega⟩
  dsimp only
  rw [scarflaw03_RankPuts.l2, if_neg (by rw [places_length]; omega), show scarflaw03_known.f k = some true from hK k (by omega), Option.bind_some, if_pos rfl]
  by_cases c : (p : Int) = (m.length : Int)
  · rw [if_pos c]
    by_cases c0 : (p : Int) = 0
    · rw [if_pos c0]
    · rw [if_neg c0, e1 (by omega), if_pos (by omega), if_pos (by omega), e2 (by omega)]
  · rw [if_neg c, if_pos (by omega), if_pos (by omega), rd_nat, if_pos (by rcases h2 with h2 | h2; omega; exact h2)]
    by_cases c0 : (p : Int) = 0
    · rw [if_pos c0]
    · rw [if_neg c0, e1 (by omega), if_pos (by omega), if_pos (by omega), e2 (by omega)]
theorem puts_endA (n : Int) (m : List Int) (hm : m.length < 1099511627776) (p : Nat) (hp : p ≤ m.length) (h1 : p = 0 ∨ m.getD (p - 1) 0 < n) (h2 : p = m.length ∨ n ≤ m.getD p 0) (d : Nat) : ∀ i : Nat, i ≤ m.length → m.length - i ≤ d →
    Ev (fun k => scarflaw03_RankPuts.l2 k n m p (places m.length) i) true := by
  induction d with
  | zero =>
    intro i hi hd
    obtain rfl : i = m.length := by omega
    exact puts_lastA n m hm p hp h1 h2
  | succ d ih =>
    intro i hi hd
    by_cases c : i < m.length
    · refine Ev.step (fun k => ?_) (ih (i + 1) (by omega) (by omega))
      rw [scarflaw03_RankPuts.l2, if_pos (by rw [places_length]; omega), if_pos (by omega), rd_nat, places_getD _ _ c, if_pos rfl, w64_succ i (by omega)]
    · obtain rfl : i = m.length := by omega
      exact puts_lastA n m hm p hp h1 h2
theorem puts_allA (n : Int) (m : List Int) (hm : m.length < 1099511627775) (hs : m.Pairwise (· ≤ ·)) (p : Nat) (hp : p ≤ m.length) (h1 : p = 0 ∨ m.getD (p - 1) 0 < n) (h2 : p = m.length ∨ n ≤ m.getD p 0) (d : Nat) : ∀ i : Nat, 1 ≤ i → i ≤ m.length + 1 → m.length + 1 - i ≤ d →
    Ev (fun k => scarflaw03_RankPuts.l1 k n m p (m.take p ++ [n] ++ m.drop p) i) true := by
  have hal := put_sorted hs hp h1 h2
  have hlen : (m.take p ++ [n] ++ m.drop p).length = m.length + 1 := by simp; omega
  generalize m.take p ++ [n] ++ m.drop p = all at hal hlen ⊢
  obtain ⟨r, hr, hrs⟩ := ints_runs m (by omega)
  obtain rfl := hrs.unique (ltI_ord m) (places_sorted hs)
  have fin : Ev (fun k => scarflaw03_RankPuts.l1 k n m p all ((m.length + 1 : Nat) : Int)) true := by
    refine Ev.step (fun k => ?_) (Ev.bind (f := fun k t218 => scarflaw03_RankPuts.l2 k n m p t218 0) hr (puts_endA n m (by omega) p hp h1 h2 m.length 0 (by omega) (by omega)))
    rw [scarflaw03_RankPuts.l1, if_neg (by omega)]
  induction d with
  | zero =>
    intro i hi1 hi hd
    obtain rfl : i = m.length + 1 := by omega
    exact fin
  | succ d ih =>
    intro i hi1 hi hd
    by_cases c : i < m.length + 1
    · have e1 : wrap64 ((i : Int) - 1) = ((i - 1 : Nat) : Int) := by rw [w64 (by omega) (by omega)]; omega
      have hle : all.getD (i - 1) 0 ≤ all.getD i 0 := by
        have := List.pairwise_iff_getElem.1 hal (i - 1) i (by omega) (by omega) (by omega)
        rw [List.getD_eq_getElem?_getD, List.getElem?_eq_getElem (by omega), List.getD_eq_getElem?_getD, List.getElem?_eq_getElem (by omega)]
        exact this
      refine Ev.step (fun k => ?_) (ih (i + 1) (by omega) (by omega) (by omega))
      rw [scarflaw03_RankPuts.l1, if_pos (by omega), e1, if_pos (by omega), if_pos (by omega), if_pos (by omega), rd_nat, rd_nat, if_neg (by omega), w64_succ i (by omega)]
    · obtain rfl : i = m.length + 1 := by omega
      exact fin
theorem puts_rowsA (l : List Int) (n : Int) (hl : l.length < 1099511627775) {r : List Int} (hs : Sorted (ltI l) l.length r) (d : Nat) : ∀ i : Nat, i ≤ r.length → r.length - i ≤ d →
    Ev (fun k => scarflaw03_RankPuts.l0 k l n ((r.take i).map (rd l)) r i) true := by
  have hrl := hs.length
  have fin : Ev (fun k => scarflaw03_RankPuts.l0 k l n ((r.take r.length).map (rd l)) r r.length) true := by
    rw [List.take_length]
    have hmv := sorted_values hs
    have hml : (r.map (rd l)).length = l.length := by rw [List.length_map, hrl]
    generalize r.map (rd l) = m at hmv hml ⊢
    obtain ⟨p, hp, h0, h1, h2⟩ := place_runs m n (by omega)
    have hj : Ev (fun k => scarflaw03_RankPuts.j1 k n m p false) true := by
      have hall := puts_allA n m (by omega) hmv p h0 h1 h2 m.length 1 (by omega) (by omega) (by omega)
      refine Ev.step (fun k => ?_) hall
      rw [scarflaw03_RankPuts.j1, if_neg (by simp)]
      simp only [Option.bind_some, List.nil_append, Int.toNat_natCast, List.length_nil, Nat.zero_add]
      rw [if_pos (by omega), if_pos (by omega), if_pos (by rw [List.length_take]; omega), if_pos (by rw [List.length_take]; simp; omega), if_pos (by rw [List.length_append, List.length_take, List.length_drop]; simp; omega)]
      rfl
    refine Ev.step (fun k => ?_) (Ev.bind (f := fun k t192 => (if t192 < 0 then (scarflaw03_RankPuts.j1 k n m t192 true) else (scarflaw03_RankPuts.j1 k n m t192 (decide (t192 > (m.length : Int)))))) hp ?_)
    · rw [scarflaw03_RankPuts.l0, if_neg (by omega)]
    · refine Ev.congr (fun k => ?_) hj
      rw [if_neg (by omega), decide_eq_false (by omega)]
  induction d with
  | zero => intro i hi hd; obtain rfl : i = r.length := by omega
            exact fin
  | succ d ih =>
    intro i hi hd
    by_cases c : i < r.length
    · have hm := hs.mem.1 (getD_mem r i c)
      have ht : (r.take (i + 1)).map (rd l) = (r.take i).map (rd l) ++ [rd l (rd r i)] := by
        rw [List.take_succ_eq_append_getElem c, List.map_append, rd_nat r i, List.getD_eq_getElem?_getD, List.getElem?_eq_getElem c]
        rfl
      have n0 := ih (i + 1) (by omega) (by omega)
      rw [ht] at n0
      refine Ev.step (fun k => ?_) n0
      rw [scarflaw03_RankPuts.l0, if_pos (by omega), if_pos (by omega), if_neg (by rw [rd_nat]; omega), if_neg (by rw [rd_nat]; omega), if_pos (by rw [rd_nat]; omega), if_pos (by rw [rd_nat]; omega), Option.bind_some, if_pos (by rw [List.length_map, List.length_take]; simp; omega), w64_succ i (by omega)]
    · obtain rfl : i = r.length := by omega
      exact fin

theorem puts_lastB (n : Int) (m : List Int) (hm : m.length < 1099511627776) (p : Nat) (hp : p ≤ m.length) (h1 : p = 0 ∨ m.getD (p - 1) 0 < n) (h2 : p = m.length ∨ n ≤ m.getD p 0) :
    Ev (fun k => scarflaw03_RankPuts.l5 k n m p (places m.length) m.length) true := by
  have e1 : p ≠ 0 → wrap64 ((p : Int) - 1) = ((p - 1 : Nat) : Int) := fun h => by rw [w64 (by omega) (by omega)]; omega
  have e2 : p ≠ 0 → decide (rd m ((p - 1 : Nat) : Int) < n) = true := fun h => decide_eq_true (by rw [rd_nat]; rcases h1 with h1 | h1; exact absurd h1 h; exact h1)
  obtain ⟨K, hK⟩ := known03
  refine ⟨K + 1, fun k hk => ?_⟩
  obtain ⟨k, rfl⟩ : ∃ k', k = k' + 1 := ⟨k - 1, by omega⟩
  dsimp only
  rw [scarflaw03_RankPuts.l5, if_neg (by rw [places_length]; omega), show scarflaw03_known.f k = some true from hK k (by omega), Option.bind_some, if_pos rfl]
  by_cases c : (p : Int) = (m.length : Int)
  · rw [if_pos c]
    by_cases c0 : (p : Int) = 0
    · rw [if_pos c0]
    · rw [if_neg c0, e1 (by omega), if_pos (by omega), if_pos (by omega), e2 (by omega)]
  · rw [if_neg c, if_pos (by omega), if_pos (by omega), rd_nat, if_pos (by rcases h2 with h2 | h2; omega; exact h2)]
    by_cases c0 : (p : Int) = 0
    · rw [if_pos c0]
    · rw [if_neg c0, e1 (by omega), if_pos (by omega), if_pos (by omega), e2 (by omega)]
theorem puts_endB (n : Int) (m : List Int) (hm : m.length < 1099511627776) (p : Nat) (hp : p ≤ m.length) (h1 : p = 0 ∨ m.getD (p - 1) 0 < n) (h2 : p = m.length ∨ n ≤ m.getD p 0) (d : Nat) : ∀ i : Nat, i ≤ m.length → m.length - i ≤ d →
    Ev (fun k => scarflaw03_RankPuts.l5 k n m p (places m.length) i) true := by
  induction d with
  | zero =>
    intro i hi hd
    obtain rfl : i = m.length := by omega
    exact puts_lastB n m hm p hp h1 h2
  | succ d ih =>
    intro i hi hd
    by_cases c : i < m.length
    · refine Ev.step (fun k => ?_) (ih (i + 1) (by omega) (by omega))
      rw [scarflaw03_RankPuts.l5, if_pos (by rw [places_length]; omega), if_pos (by omega), rd_nat, places_getD _ _ c, if_pos rfl, w64_succ i (by omega)]
    · obtain rfl : i = m.length := by omega
      exact puts_lastB n m hm p hp h1 h2
theorem puts_allB (n : Int) (m : List Int) (hm : m.length < 1099511627775) (hs : m.Pairwise (· ≤ ·)) (p : Nat) (hp : p ≤ m.length) (h1 : p = 0 ∨ m.getD (p - 1) 0 < n) (h2 : p = m.length ∨ n ≤ m.getD p 0) (d : Nat) : ∀ i : Nat, 1 ≤ i → i ≤ m.length + 1 → m.length + 1 - i ≤ d →
    Ev (fun k => scarflaw03_RankPuts.l4 k n m p (m.take p ++ [n] ++ m.drop p) i) true := by
  have hal := put_sorted hs hp h1 h2
  have hlen : (m.take p ++ [n] ++ m.drop p).length = m.length + 1 := by simp; omega
  generalize m.take p ++ [n] ++ m.drop p = all at hal hlen ⊢
  obtain ⟨r, hr, hrs⟩ := ints_runs m (by omega)
  obtain rfl := hrs.unique (ltI_ord m) (places_sorted hs)
  have fin : Ev (fun k => scarflaw03_RankPuts.l4 k n m p all ((m.length + 1 : Nat) : Int)) true := by
    refine Ev.step (fun k => ?_) (Ev.bind (f := fun k t218 => scarflaw03_RankPuts.l5 k n m p t218 0) hr (puts_endB n m (by omega) p hp h1 h2 m.length 0 (by omega) (by omega)))
    rw [scarflaw03_RankPuts.l4, if_neg (by omega)]
  induction d with
  | zero =>
    intro i hi1 hi hd
    obtain rfl : i = m.length + 1 := by omega
    exact fin
  | succ d ih =>
    intro i hi1 hi hd
    by_cases c : i < m.length + 1
    · have e1 : wrap64 ((i : Int) - 1) = ((i - 1 : Nat) : Int) := by rw [w64 (by omega) (by omega)]; omega
      have hle : all.getD (i - 1) 0 ≤ all.getD i 0 := by
        have := List.pairwise_iff_getElem.1 hal (i - 1) i (by omega) (by omega) (by omega)
        rw [List.getD_eq_getElem?_getD, List.getElem?_eq_getElem (by omega), List.getD_eq_getElem?_getD, List.getElem?_eq_getElem (by omega)]
        exact this
      refine Ev.step (fun k => ?_) (ih (i + 1) (by omega) (by omega) (by omega))
      rw [scarflaw03_RankPuts.l4, if_pos (by omega), e1, if_pos (by omega), if_pos (by omega), if_pos (by omega), rd_nat, rd_nat, if_neg (by omega), w64_succ i (by omega)]
    · obtain rfl : i = m.length + 1 := by omega
      exact fin
theorem puts_rowsB (l : List Int) (n : Int) (hl : l.length < 1099511627775) {r : List Int} (hs : Sorted (ltI l) l.length r) (d : Nat) : ∀ i : Nat, i ≤ r.length → r.length - i ≤ d →
    Ev (fun k => scarflaw03_RankPuts.l3 k l n ((r.take i).map (rd l)) r i) true := by
  have hrl := hs.length
  have fin : Ev (fun k => scarflaw03_RankPuts.l3 k l n ((r.take r.length).map (rd l)) r r.length) true := by
    rw [List.take_length]
    have hmv := sorted_values hs
    have hml : (r.map (rd l)).length = l.length := by rw [List.length_map, hrl]
    generalize r.map (rd l) = m at hmv hml ⊢
    obtain ⟨p, hp, h0, h1, h2⟩ := place_runs m n (by omega)
    have hj : Ev (fun k => scarflaw03_RankPuts.j5 k n m p false) true := by
      have hall := puts_allB n m (by omega) hmv p h0 h1 h2 m.length 1 (by omega) (by omega) (by omega)
      refine Ev.step (fun k => ?_) hall
      rw [scarflaw03_RankPuts.j5, if_neg (by simp)]
      simp only [Option.bind_some, List.nil_append, Int.toNat_natCast, List.length_nil, Nat.zero_add]
      rw [if_pos (by omega), if_pos (by omega), if_pos (by rw [List.length_take]; omega), if_pos (by rw [List.length_take]; simp; omega), if_pos (by rw [List.length_append, List.length_take, List.length_drop]; simp; omega)]
      rfl
    refine Ev.step (fun k => ?_) (Ev.bind (f := fun k t192 => (if t192 < 0 then (scarflaw03_RankPuts.j5 k n m t192 true) else (scarflaw03_RankPuts.j5 k n m t192 (decide (t192 > (m.length : Int)))))) hp ?_)
    · rw [scarflaw03_RankPuts.l3, if_neg (by omega)]
    · refine Ev.congr (fun k => ?_) hj
      rw [if_neg (by omega), decide_eq_false (by omega)]
  induction d with
  | zero => intro i hi hd; obtain rfl : i = r.length := by omega
            exact fin
  | succ d ih =>
    intro i hi hd
    by_cases c : i < r.length
    · have hm := hs.mem.1 (getD_mem r i c)
      have ht : (r.take (i + 1)).map (rd l) = (r.take i).map (rd l) ++ [rd l (rd r i)] := by
        rw [List.take_succ_eq_append_getElem c, List.map_append, rd_nat r i, List.getD_eq_getElem?_getD, List.getElem?_eq_getElem c]
        rfl
      have n0 := ih (i + 1) (by omega) (by omega)
      rw [ht] at n0
      refine Ev.step (fun k => ?_) n0
      rw [scarflaw03_RankPuts.l3, if_pos (by omega), if_pos (by omega), if_neg (by rw [rd_nat]; omega), if_neg (by rw [rd_nat]; omega), if_pos (by rw [rd_nat]; omega), if_pos (by rw [rd_nat]; omega), Option.bind_some, if_pos (by rw [List.length_map, List.length_take]; simp; omega), w64_succ i (by omega)]
    · obtain rfl : i = r.length := by omega
      exact fin

theorem RankPuts : scarflaw03_RankPuts.Pure := by
  intro l n hl hsz _ _
  apply Ev.rounds
  by_cases c : (l.length : Int) > 300
  · have hlen : (l.take 300).length ≤ 300 := by rw [List.length_take]; omega
    obtain ⟨r, hr, hs⟩ := ints_runs (l.take 300) (by omega)
    refine Ev.congr (fun k => ?_) (Ev.bind (f := fun k t => scarflaw03_RankPuts.l0 k (l.take 300) n ([] : List Int) t 0) hr (puts_rowsA (l.take 300) n (by omega) hs r.length 0 (by omega) (by omega)))
    unfold scarflaw03_RankPuts.f
    rw [if_pos c, if_pos (by omega)]
  · obtain ⟨r, hr, hs⟩ := ints_runs l (by omega)
    refine Ev.congr (fun k => ?_) (Ev.bind (f := fun k t => scarflaw03_RankPuts.l3 k l n ([] : List Int) t 0) hr (puts_rowsB l n (by omega) hs r.length 0 (by omega) (by omega)))
    unfold scarflaw03_RankPuts.f
    rw [if_neg c]
end Go.Proofs.Ytlpopkknamigoaa.Pure
