/- Plain lists: signs as a text; the order of texts. -/
import Derived.Test.YtpoeiiimmgnioaaDoorUtfRef
import Derived.Test.YtpoeiiimmgnioaaDoorQ4
namespace Go.Proofs.YtpoeiiimmgnioaaDoor.Ut
open Go.RowKit Go.Proofs.YtpoeiiimmgnioaaDoor.Q Go.Proofs.YtpoeiiimmgnioaaDoorW.PrintWords Go.Proofs.YtpoeiiimmgnioaaDoorW.PrintLast Go.Proofs.YtpoeiiimmgnioaaDoorW.PrintMore

def Sgs (s : List Int) : Prop := ∀ n ∈ s, Sg n
theorem Sgs.cons {n : Int} {s : List Int} (h : Sgs (n :: s)) : Sg n ∧ Sgs s := ⟨h n List.mem_cons_self, fun m hm => h m (List.mem_cons_of_mem _ hm)⟩
theorem Sgs.snoc {n : Int} {s : List Int} (h : Sgs s) (k : Sg n) : Sgs (s ++ [n]) := fun m hm => (List.mem_append.1 hm).elim (h m) (fun e => by rw [List.mem_singleton] at e; subst e; exact k)
def Txt (s : List Int) : List Int := s.flatMap Enc
theorem Txt_cons (n : Int) (s : List Int) : Txt (n :: s) = Enc n ++ Txt s := rfl
theorem Txt_snoc (n : Int) (s : List Int) : Txt (s ++ [n]) = Txt s ++ Enc n := by simp [Txt]
theorem Bs.txt {s : List Int} (h : Sgs s) : Bs (Txt s) := by
  intro x hx
  obtain ⟨n, hn, hx⟩ := List.mem_flatMap.1 hx
  exact Bs.enc (h n hn) x hx
theorem Txt_len {s : List Int} (h : Sgs s) : s.length ≤ (Txt s).length ∧ (Txt s).length ≤ 4 * s.length := by
  induction s with
  | nil => exact ⟨Nat.le_refl _, Nat.le_refl _⟩
  | cons n s ih =>
    have a := ih h.cons.2
    have b := enc_len h.cons.1
    rw [Txt_cons, List.length_append, List.length_cons]
    omega

theorem texts_l0 (l : List Int) (d : Nat) : ∀ (i : Nat) (s : List Int), i ≤ 5000 → 5000 - i ≤ d → s.length ≤ i → Sgs s →
    ∃ t, Sgs t ∧ t.length ≤ 5000 ∧ Ev (fun k => scarflaw01_texts.l0 k l (Txt s) s i) (Txt t, t) := by
  induction d with
  | zero =>
    intro i s hi hd hs hS
    refine ⟨s, hS, by omega, Ev.steps 2 (fun k => ?_) (Ev.now _)⟩
    rw [scarflaw01_texts.l0]
    by_cases c : (i : Int) < (l.length : Int)
    · rw [if_pos c, scarflaw01_texts.j1, decide_eq_false (by omega), if_neg (by simp)]
    · rw [if_neg c, scarflaw01_texts.j1, if_neg (by simp)]
  | succ d ih =>
    intro i s hi hd hs hS
    by_cases c : (i : Int) < (l.length : Int) ∧ i < 5000
    · have e : wrap64 ((i : Int) + 1) = ((i + 1 : Nat) : Int) := by rw [w64 (by omega) (by omega)]; omega
      by_cases g : Sg (rd l i)
      · obtain ⟨t, ht, hl, hv⟩ := ih (i + 1) (s ++ [rd l i]) (by omega) (by omega) (by simp; omega) (hS.snoc g)
        refine ⟨t, ht, hl, Ev.steps 2 (fun k => ?_) hv⟩
        have h1 := (Txt_len hS).2
        have h2 := (enc_len g).2
        rw [scarflaw01_texts.l0, if_pos c.1, scarflaw01_texts.j1, decide_eq_true (by omega), if_pos rfl, if_pos (by omega), if_pos c.1, bytes_yes g, Option.bind_some, if_pos rfl, if_pos (by show _ + (Enc _).length < _; omega), if_pos (by omega), e, Txt_snoc]
      · obtain ⟨t, ht, hl, hv⟩ := ih (i + 1) s (by omega) (by omega) (by omega) hS
        refine ⟨t, ht, hl, Ev.steps 2 (fun k => ?_) hv⟩
        rw [scarflaw01_texts.l0, if_pos c.1, scarflaw01_texts.j1, decide_eq_true (by omega), if_pos rfl, if_pos (by omega), if_pos c.1, bytes_no g, Option.bind_some, if_neg (by simp), e]
    · refine ⟨s, hS, by omega, Ev.steps 2 (fun k => ?_) (Ev.now _)⟩
      rw [scarflaw01_texts.l0]
      by_cases c2 : (i : Int) < (l.length : Int)
      · rw [if_pos c2, scarflaw01_texts.j1, decide_eq_false (by omega), if_neg (by simp)]
      · rw [if_neg c2, scarflaw01_texts.j1, if_neg (by simp)]
theorem texts_runs (l : List Int) : ∃ t, Sgs t ∧ t.length ≤ 5000 ∧ Ev (fun k => scarflaw01_texts.f k l) (Txt t, t) := by
  obtain ⟨t, h1, h2, h3⟩ := texts_l0 l 5000 0 [] (by omega) (by omega) (by simp) (fun n h => by simp at h)
  exact ⟨t, h1, h2, h3⟩

/-! ### order -/
def U8 (l : List Int) : List UInt8 := l.map fun n => UInt8.ofNat n.toNat
theorem U8_str (l : List Int) : (strOfNums l).toList = U8 l := by rw [ByteArray.toList_eq, strOfNums_data]; rfl
def bl (a b : List Int) : Bool := Op.bytesLess (U8 a) (U8 b)
theorem bl_cons {x y : Int} (a b : List Int) (hx : 0 ≤ x ∧ x < 256) (hy : 0 ≤ y ∧ y < 256) : bl (x :: a) (y :: b) = (decide (x < y) || (decide (x = y) && bl a b)) := by
  unfold bl
  show Op.bytesLess (UInt8.ofNat x.toNat :: U8 a) (UInt8.ofNat y.toNat :: U8 b) = _
  rw [Op.bytesLess]
  have e1 : (decide (UInt8.ofNat x.toNat < UInt8.ofNat y.toNat)) = decide (x < y) := by
    rw [decide_eq_decide, UInt8.lt_iff_toNat_lt]
    simp
    omega
  have e2 : (UInt8.ofNat x.toNat == UInt8.ofNat y.toNat) = decide (x = y) := by
    rw [Bool.eq_iff_iff, beq_iff_eq, decide_eq_true_eq, ← UInt8.toNat_inj]
    simp
    omega
  rw [e1, e2]
theorem bl_lt {x y : Int} (a b : List Int) (hx : 0 ≤ x ∧ x < 256) (hy : 0 ≤ y ∧ y < 256) (h : x < y) : bl (x :: a) (y :: b) = true := by
  rw [bl_cons a b hx hy, decide_eq_true h]; rfl
theorem bl_gt {x y : Int} (a b : List Int) (hx : 0 ≤ x ∧ x < 256) (hy : 0 ≤ y ∧ y < 256) (h : y < x) : bl (x :: a) (y :: b) = false := by
  rw [bl_cons a b hx hy, decide_eq_false (by omega), decide_eq_false (by omega)]; rfl
theorem bl_eq {x y : Int} (a b : List Int) (hx : 0 ≤ x ∧ x < 256) (hy : 0 ≤ y ∧ y < 256) (h : x = y) : bl (x :: a) (y :: b) = bl a b := by
  rw [bl_cons a b hx hy, decide_eq_false (by omega), decide_eq_true h]; simp
theorem bl_same (p a b : List Int) (hp : Bs p) : bl (p ++ a) (p ++ b) = bl a b := by
  induction p with
  | nil => rfl
  | cons x p ih =>
    rw [List.cons_append, List.cons_append, bl_eq _ _ hp.head hp.head rfl, ih hp.tail]
theorem bl_nil_right (a : List Int) : bl a [] = false := by
  unfold bl U8; cases a <;> simp [Op.bytesLess]
theorem bl_nil_left (b : List Int) (h : b ≠ []) : bl [] b = true := by
  cases b with
  | nil => exact absurd rfl h
  | cons y b => unfold bl U8; simp [Op.bytesLess]

theorem pair_lt {x y : Int} {a b : List Int} (hx : 0 ≤ x ∧ x < 256) (hy : 0 ≤ y ∧ y < 256) (h : x < y) : bl (x :: a) (y :: b) = true ∧ bl (y :: b) (x :: a) = false := ⟨bl_lt _ _ hx hy h, bl_gt _ _ hy hx h⟩
theorem pair_eq {x y : Int} {a b : List Int} (hx : 0 ≤ x ∧ x < 256) (hy : 0 ≤ y ∧ y < 256) (h : x = y) (k : bl a b = true ∧ bl b a = false) : bl (x :: a) (y :: b) = true ∧ bl (y :: b) (x :: a) = false := ⟨(bl_eq _ _ hx hy h).trans k.1, (bl_eq _ _ hy hx h.symm).trans k.2⟩
theorem enc_lt {n m : Int} (hn : Sg n) (hm : Sg m) (h : n < m) (a b : List Int) : bl (Enc n ++ a) (Enc m ++ b) = true ∧ bl (Enc m ++ b) (Enc n ++ a) = false := by
  have gn := hn
  have gm := hm
  obtain ⟨n0, n1, n2⟩ := gn
  obtain ⟨m0, m1, m2⟩ := gm
  rcases enc_cases hn with ⟨c, e⟩ | ⟨c, d, e⟩ | ⟨c, d, e⟩ | ⟨c, e⟩ <;> rcases enc_cases hm with ⟨c', e'⟩ | ⟨c', d', e'⟩ | ⟨c', d', e'⟩ | ⟨c', e'⟩ <;> rw [e, e'] <;> simp only [List.cons_append, List.nil_append] <;> first | omega | skip
  · exact pair_lt (by omega) (by omega) (by omega)
  · exact pair_lt (by omega) (by omega) (by omega)
  · exact pair_lt (by omega) (by omega) (by omega)
  · exact pair_lt (by omega) (by omega) (by omega)
  · by_cases q : n / 64 = m / 64
    · refine pair_eq (by omega) (by omega) (by omega) ?_
      exact pair_lt (by omega) (by omega) (by omega)
    · exact pair_lt (by omega) (by omega) (by omega)
  · exact pair_lt (by omega) (by omega) (by omega)
  · exact pair_lt (by omega) (by omega) (by omega)
  · by_cases q : n / 4096 = m / 4096
    · refine pair_eq (by omega) (by omega) (by omega) ?_
      by_cases q2 : n / 64 = m / 64
      · refine pair_eq (by omega) (by omega) (by omega) ?_
        exact pair_lt (by omega) (by omega) (by omega)
      · exact pair_lt (by omega) (by omega) (by omega)
    · exact pair_lt (by omega) (by omega) (by omega)
  · exact pair_lt (by omega) (by omega) (by omega)
  · by_cases q : n / 262144 = m / 262144
    · refine pair_eq (by omega) (by omega) (by omega) ?_
      by_cases q1 : n / 4096 = m / 4096
      · refine pair_eq (by omega) (by omega) (by omega) ?_
        by_cases q2 : n / 64 = m / 64
        · refine pair_eq (by omega) (by omega) (by omega) ?_
          exact pair_lt (by omega) (by omega) (by omega)
        · exact pair_lt (by omega) (by omega) (by omega)
      · exact pair_lt (by omega) (by omega) (by omega)
    · exact pair_lt (by omega) (by omega) (by omega)
end Go.Proofs.YtpoeiiimmgnioaaDoor.Ut
