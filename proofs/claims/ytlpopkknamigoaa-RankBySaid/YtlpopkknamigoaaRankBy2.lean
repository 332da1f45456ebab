/- Plain lists: the pairs that the law makes, and its comparison of neighbours. -/
import Derived.Test.YtlpopkknamigoaaQ10d
import Derived.Test.YtlpopkknamigoaaRankBy1
import Derived.Test.YtlpopkknamigoaaRankKnown
namespace Go.Proofs.Ytlpopkknamigoaa.Rk
open Go.RowKit Go.Proofs.Ytlpopkknamigoaa.Q Go.Proofs.YtlpopkknamigoaaW.PrintWords Go.Proofs.YtlpopkknamigoaaW.PrintLast Go.Proofs.YtlpopkknamigoaaW.PrintMore

/-- the pairs' second numbers are their places -/
def Numbered (p : List S33) : Prop := ∀ j : Nat, j < p.length → (rd_T33 p (j : Int)).f1 = j

theorem Numbered.nil : Numbered [] := fun j h => by simp at h
theorem Numbered.snoc {p : List S33} (h : Numbered p) (v : Int) : Numbered (p ++ [(⟨v, (p.length : Int)⟩ : S33)]) := by
  intro j hj
  rw [List.length_append, List.length_singleton] at hj
  by_cases c : j < p.length
  · have := h j c
    unfold rd_T33 at *
    rw [Int.toNat_natCast] at *
    rw [List.getD_eq_getElem?_getD, List.getElem?_append_left c, ← List.getD_eq_getElem?_getD]
    exact this
  · obtain rfl : j = p.length := by omega
    unfold rd_T33
    rw [Int.toNat_natCast, List.getD_eq_getElem?_getD, List.getElem?_append_right (Nat.le_refl _)]
    simp

/-- which places a row of flags bears: those that stand among the first i -/
def Seen (up : List Int) (i : Nat) (sn : List Bool) : Prop := sn.length = up.length ∧ ∀ v : Nat, v < up.length → sn.getD v false = (up.take i).contains (v : Int)

theorem Seen.start (up : List Int) : Seen up 0 (List.replicate up.length false) := by
  refine ⟨by simp, fun v hv => ?_⟩
  rw [List.getD_eq_getElem?_getD]
  simp [hv]
theorem Seen.next {up : List Int} {i : Nat} {sn : List Bool} (h : Seen up i sn) {v : Nat} (hi : i < up.length) (hv : up.getD i 0 = v) (hb : v < up.length) : Seen up (i + 1) (sn.set v true) := by
  refine ⟨by rw [List.length_set]; exact h.1, fun x hx => ?_⟩
  have e : up.take (i + 1) = up.take i ++ [up.getD i 0] := by
    rw [List.take_succ_eq_append_getElem hi, List.getD_eq_getElem?_getD, List.getElem?_eq_getElem hi]; rfl
  have hs := h.2 x hx
  rw [e, hv]
  rw [List.getD_eq_getElem?_getD] at *
  by_cases c : v = x
  · subst c
    rw [List.getElem?_set_self (by rw [h.1]; exact hb)]
    simp
  · rw [List.getElem?_set_ne c, hs]
    have : ((x : Int) == (v : Int)) = false := by simp; omega
    simp only [List.contains_append, List.contains_cons, this, List.contains_nil, Bool.or_false]
theorem Seen.fresh {up : List Int} {i : Nat} {sn : List Bool} (h : Seen up i sn) (hn : up.Nodup) {v : Nat} (hi : i < up.length) (hv : up.getD i 0 = v) (hb : v < up.length) : rdOf false sn (v : Int) = false := by
  unfold rdOf
  rw [Int.toNat_natCast, h.2 v hb]
  rw [List.getD_eq_getElem?_getD, List.getElem?_eq_getElem hi, Option.getD_some] at hv
  rw [← hv]
  rw [Bool.eq_false_iff]
  intro hc
  rw [List.contains_iff_mem] at hc
  obtain ⟨j, hj, e⟩ := List.mem_iff_getElem.1 hc
  rw [List.length_take] at hj
  rw [List.getElem_take] at e
  have := (List.getElem_inj hn).1 e
  omega

theorem places_nodup (n : Nat) : (places n).Nodup := by
  induction n with
  | zero => simp [places]
  | succ n ih =>
    rw [places_succ, List.nodup_append]
    refine ⟨ih, by simp, ?_⟩
    intro a ha b hb
    rw [mem_places] at ha
    simp at hb
    omega
theorem Sorted.nodup {lt : Int → Int → Bool} {N : Nat} {r : List Int} (h : Sorted lt N r) : r.Nodup := h.1.nodup_iff.2 (places_nodup N)
theorem Sorted.at_ {lt : Int → Int → Bool} {N : Nat} {r : List Int} (h : Sorted lt N r) {i : Nat} (hi : i < N) : ∃ v : Nat, r.getD i 0 = v ∧ v < N := by
  have := h.mem.1 (getD_mem r i (by rw [h.length]; exact hi))
  exact ⟨(r.getD i 0).toNat, by omega, by omega⟩
theorem Sorted.two {lt : Int → Int → Bool} {N : Nat} {r : List Int} (h : Sorted lt N r) {i : Nat} (hi : i + 1 < N) : R lt (r.getD i 0) (r.getD (i + 1) 0) := by
  have hl := h.length
  rw [List.getD_eq_getElem?_getD, List.getD_eq_getElem?_getD, List.getElem?_eq_getElem (by omega), List.getElem?_eq_getElem (by omega)]
  exact List.pairwise_iff_getElem.1 h.2 i (i + 1) (by omega) (by omega) (by omega)

theorem byLoop_end {p : List S33} {up dn : List Int} {sn : List Bool} {k : Nat} {x : Int} (h : ¬ x < (up.length : Int)) : scarflaw03_RankBy.l3 (k + 1) p up dn sn x = some true := by rw [scarflaw03_RankBy.l3, if_neg h]
theorem byLoop_in {p : List S33} {up dn : List Int} {sn : List Bool} {k : Nat} {x : Int} {u v : Nat} (h : x < (up.length : Int)) (h0 : 0 ≤ x) (hu : rd up x = u) (hu1 : u < p.length) (hd : x < (dn.length : Int)) (hv : rd dn x = v) (hv1 : v < p.length) (hs : (u : Int) < (sn.length : Int)) (hf : rdOf false sn (u : Int) = false) :
    scarflaw03_RankBy.l3 (k + 1) p up dn sn x = scarflaw03_RankBy.j8 k p up dn sn x false := by
  rw [scarflaw03_RankBy.l3, if_pos h, if_pos h0, hu, hv, if_neg (by omega), if_neg (by omega), if_pos hd, if_neg (by omega), if_neg (by omega), if_pos (by omega), if_pos hs, hf]
theorem byJoin_first {p : List S33} {up dn : List Int} {sn : List Bool} {k : Nat} {u : Nat} (h : (0 : Int) < (up.length : Int)) (hu : rd up 0 = u) (hs : (u : Int) < (sn.length : Int)) :
    scarflaw03_RankBy.j8 (k + 1) p up dn sn 0 false = scarflaw03_RankBy.l3 k p up dn (sn.set u true) (wrap64 (0 + 1)) := by
  rw [scarflaw03_RankBy.j8, if_neg (by decide), if_pos (by omega), if_pos h, hu, if_pos (by omega), if_pos hs, Option.bind_some, if_pos rfl, Int.toNat_natCast]
theorem byJoin_later {p : List S33} {up dn : List Int} {sn : List Bool} {k : Nat} {i : Nat} {u v u' v' : Nat} (hi : i < 1099511627776) (h : ((i + 1 : Nat) : Int) < (up.length : Int)) (hd : ((i + 1 : Nat) : Int) < (dn.length : Int))
    (hu : rd up ((i + 1 : Nat) : Int) = u) (hu1 : u < p.length) (hv : rd dn ((i + 1 : Nat) : Int) = v) (hv1 : v < p.length) (hu' : rd up (i : Int) = u') (hu1' : u' < p.length) (hv' : rd dn (i : Int) = v') (hv1' : v' < p.length)
    (hs : (u : Int) < (sn.length : Int)) (hp : Numbered p) (hA : R (ltA p) u' u) (hB : R (gtA p) v' v) :
    scarflaw03_RankBy.j8 (k + 1) p up dn sn ((i + 1 : Nat) : Int) false = scarflaw03_RankBy.j9 k p up dn (sn.set u true) ((i + 1 : Nat) : Int) false := by
  have e1 : wrap64 (((i + 1 : Nat) : Int) - 1) = (i : Int) := by rw [w64 (by omega) (by omega)]; omega
  have n1 := hp u hu1
  have n2 := hp u' hu1'
  have n3 := hp v hv1
  have n4 := hp v' hv1'
  rw [scarflaw03_RankBy.j8, if_neg (by decide), if_pos (by omega), if_pos h, hu, if_pos (by omega), if_pos hs, Option.bind_some, if_neg (by omega), e1, if_pos (by omega), if_pos (by omega), hu', if_pos (by omega), if_pos (by omega), if_pos (by omega),
    if_pos (by omega), hv', if_pos (by omega), if_pos (by omega), if_pos hd, hv, if_pos (by omega), if_pos (by omega), n1, n2, n3, n4, Int.toNat_natCast]
  unfold R ltA at hA
  unfold R gtA at hB
  simp only [decide_eq_true_eq, decide_eq_false_iff_not] at hA hB
  generalize (rd_T33 p (u : Int)).f0 = a at *
  generalize (rd_T33 p (u' : Int)).f0 = a' at *
  generalize (rd_T33 p (v : Int)).f0 = b at *
  generalize (rd_T33 p (v' : Int)).f0 = b' at *
  rw [if_neg (by omega)]
  have hZ : (if b' < b then (scarflaw03_RankBy.j9 k p up dn (sn.set u true) ((i + 1 : Nat) : Int) true) else (if b' = b then (scarflaw03_RankBy.j9 k p up dn (sn.set u true) ((i + 1 : Nat) : Int) (decide ((v' : Int) ≥ (v : Int)))) else (scarflaw03_RankBy.j9 k p up dn (sn.set u true) ((i + 1 : Nat) : Int) false))) = scarflaw03_RankBy.j9 k p up dn (sn.set u true) ((i + 1 : Nat) : Int) false := by
    rw [if_neg (by omega)]
    by_cases c : b' = b
    · rw [if_pos c, decide_eq_false (show ¬ (v' : Int) ≥ (v : Int) by omega)]
    · rw [if_neg c]
  rw [hZ]
  by_cases c : a' = a
  · rw [if_pos c, if_neg (by omega)]
  · rw [if_neg c]
theorem byJoin_on {p : List S33} {up dn : List Int} {sn : List Bool} {k : Nat} {x : Int} : scarflaw03_RankBy.j9 (k + 1) p up dn sn x false = scarflaw03_RankBy.l3 k p up dn sn (wrap64 (x + 1)) := by rw [scarflaw03_RankBy.j9, if_neg (by decide)]

theorem by_neighbours {p : List S33} {up dn : List Int} (hp : Numbered p) (hN : p.length < 1099511627776) (hu : Sorted (ltA p) p.length up) (hd : Sorted (gtA p) p.length dn) (d : Nat) :
    ∀ (i : Nat) (sn : List Bool), i ≤ p.length → p.length - i ≤ d → Seen up i sn → Ev (fun k => scarflaw03_RankBy.l3 k p up dn sn i) true := by
  have lu := hu.length
  have ld := hd.length
  induction d with
  | zero =>
    intro i sn hi hx _
    exact Ev.step (fun k => byLoop_end (by omega)) (Ev.now _)
  | succ d ih =>
    intro i sn hi hx hs
    by_cases c : i < p.length
    · obtain ⟨u, eu, bu⟩ := hu.at_ c
      obtain ⟨v, ev, bv⟩ := hd.at_ c
      have hsl := hs.1
      have hf := hs.fresh hu.nodup (by omega) eu (by omega)
      have hn := hs.next (by omega) eu (by omega)
      refine Ev.step (fun k => byLoop_in (u := u) (v := v) (by omega) (by omega) eu bu (by omega) ev bv (by omega) hf) ?_
      have nx := ih (i + 1) _ (by omega) (by omega) hn
      cases i with
      | zero =>
        refine Ev.step (fun k => byJoin_first (u := u) (by omega) eu (by omega)) ?_
        have e : wrap64 (0 + 1) = ((0 + 1 : Nat) : Int) := by rw [w64 (by omega) (by omega)]; rfl
        rw [e]
        exact nx
      | succ i =>
        obtain ⟨u', eu', bu'⟩ := hu.at_ (show i < p.length by omega)
        obtain ⟨v', ev', bv'⟩ := hd.at_ (show i < p.length by omega)
        have hA := hu.two c
        have hB := hd.two c
        rw [eu, eu'] at hA
        rw [ev, ev'] at hB
        refine Ev.step (fun k => byJoin_later (by omega) (by omega) (by omega) eu bu ev bv eu' bu' ev' bv' (by omega) hp hA hB) ?_
        refine Ev.step (fun k => byJoin_on) ?_
        rw [w64_succ (i + 1) (by omega)]
        exact nx
    · exact Ev.step (fun k => byLoop_end (by omega)) (Ev.now _)

theorem by_tail {p : List S33} (hp : Numbered p) (hN : p.length < 1099511627776) : Ev (fun k => (scarflaw03_pair___RankBy_1.f k p).bind fun t245 => ((scarflaw03_pair___RankBy_2.f k p).bind fun t248 => ((scarflaw03_known.f k).bind fun t251 => (if t251 = true then (if (t245.length : Int) = (p.length : Int) then (scarflaw03_RankBy.j6 k p t245 t248 ((t248.length : Int) != (p.length : Int))) else (scarflaw03_RankBy.j6 k p t245 t248 true)) else (scarflaw03_RankBy.j6 k p t245 t248 true))))) true := by
  obtain ⟨up, h1, hu⟩ := pair1_runs p hN
  obtain ⟨dn, h2, hd⟩ := pair2_runs p hN
  have lu := hu.length
  have ld := hd.length
  refine Ev.bind h1 (Ev.bind h2 (Ev.bind known03 ?_))
  rw [lu, ld]
  have e : ((p.length : Int) != (p.length : Int)) = false := by simp
  simp only [if_true, e]
  refine Ev.step (fun k => ?_) (by_neighbours hp hN hu hd p.length 0 _ (by omega) (by omega) (by have := Seen.start up; rw [lu] at this; exact this))
  rw [scarflaw03_RankBy.j6, if_neg (by decide), if_pos (by omega), if_pos (by omega), Int.toNat_natCast]
  rfl

theorem by_build {l : List Int} {m : Int} (hl : l.length < 1099511627776) (hm : ¬ IntKind.u64.wrap m = 0) (d : Nat) : ∀ (p : List S33), Numbered p → p.length ≤ l.length → l.length - p.length ≤ d → Ev (fun k => scarflaw03_RankBy.l2 k l m p p.length) true := by
  have fin : ∀ (p : List S33), Numbered p → p.length ≤ l.length → ¬ (p.length < l.length) → Ev (fun k => scarflaw03_RankBy.l2 k l m p p.length) true := by
    intro p hp hb hc
    refine Ev.step (fun k => ?_) (by_tail hp (by omega))
    rw [scarflaw03_RankBy.l2, if_neg (by omega)]
  induction d with
  | zero => intro p hp hb hx; exact fin p hp hb (by omega)
  | succ d ih =>
    intro p hp hb hx
    by_cases c : p.length < l.length
    · have nx := ih _ (hp.snoc (wrap64 (Int.tmod (IntKind.u64.wrap (rd l (p.length : Int))) (IntKind.u64.wrap m)))) (by simp; omega) (by simp; omega)
      rw [List.length_append, List.length_singleton] at nx
      refine Ev.step (fun k => ?_) nx
      rw [scarflaw03_RankBy.l2, if_pos (by omega), if_pos (by omega), if_neg hm, if_pos (by omega), w64_succ p.length (by omega)]
    · exact fin p hp hb c
end Go.Proofs.Ytlpopkknamigoaa.Rk
