/- Plain lists: what the program's and the reference's order of texts come to. -/
import Derived.Test.YtlpopkknamigoaaQ5
import Derived.Test.YtlpopkknamigoaaQ1
import Derived.Test.YtlpopkknamigoaaRankInsert
namespace Go.Proofs.Ytlpopkknamigoaa.Rk
open Go.RowKit Go.Proofs.Ytlpopkknamigoaa.Q Go.Proofs.YtlpopkknamigoaaW.PrintWords Go.Proofs.YtlpopkknamigoaaW.PrintLast Go.Proofs.YtlpopkknamigoaaW.PrintMore

theorem bl_irrefl : ∀ x : List UInt8, Op.bytesLess x x = false
  | [] => by simp [Op.bytesLess]
  | a :: x => by simp [Op.bytesLess, bl_irrefl x]
theorem bl_cons (a b : UInt8) (x y : List UInt8) : Op.bytesLess (a :: x) (b :: y) = true ↔ a.toNat < b.toNat ∨ (a.toNat = b.toNat ∧ Op.bytesLess x y = true) := by
  rw [Op.bytesLess]
  simp only [Bool.or_eq_true, decide_eq_true_eq, Bool.and_eq_true, beq_iff_eq, UInt8.lt_iff_toNat_lt, ← UInt8.toNat_inj]
theorem bl_trans : ∀ x y z : List UInt8, Op.bytesLess x y = true → Op.bytesLess y z = true → Op.bytesLess x z = true
  | _, [], _, h, _ => by simp [Op.bytesLess] at h
  | _, _ :: _, [], _, k => by simp [Op.bytesLess] at k
  | [], _ :: _, _ :: _, _, _ => by simp [Op.bytesLess]
  | a :: x, b :: y, c :: z, h, k => by
    rw [bl_cons] at h k ⊢
    have t := bl_trans x y z
    rcases h with h | ⟨h, h'⟩ <;> rcases k with k | ⟨k, k'⟩
    · left; omega
    · left; omega
    · left; omega
    · right; exact ⟨by omega, t h' k'⟩
theorem bl_ntrans : ∀ x y z : List UInt8, ¬ Op.bytesLess x y = true → ¬ Op.bytesLess y z = true → ¬ Op.bytesLess x z = true
  | [], [], [], _, _ => by simp [Op.bytesLess]
  | [], [], _ :: _, _, k => by simp [Op.bytesLess] at k
  | [], _ :: _, _, h, _ => by simp [Op.bytesLess] at h
  | _ :: _, _, [], _, _ => by simp [Op.bytesLess]
  | _ :: _, [], _ :: _, _, k => by simp [Op.bytesLess] at k
  | a :: x, b :: y, c :: z, h, k => by
    rw [bl_cons] at h k ⊢
    have t := bl_ntrans x y z
    intro m
    rcases m with m | ⟨m, m'⟩
    · omega
    · by_cases e : a.toNat = b.toNat
      · exact t (fun q => h (.inr ⟨e, q⟩)) (fun q => k (.inr ⟨by omega, q⟩)) m'
      · omega
def blB (a b : ByteArray) : Bool := Op.bytesLess a.data.toList b.data.toList
def ltS (l : List ByteArray) (a b : Int) : Bool := blB (rdOf ByteArray.empty l a) (rdOf ByteArray.empty l b)
theorem ltS_ord (l : List ByteArray) : Ord (ltS l) :=
  ⟨fun a => bl_irrefl _, fun a b c h k => bl_trans _ _ _ h k, fun a b c h k => by
    have := bl_ntrans (rdOf ByteArray.empty l a).data.toList (rdOf ByteArray.empty l b).data.toList (rdOf ByteArray.empty l c).data.toList (by unfold ltS blB at h; simp [h]) (by unfold ltS blB at k; simp [k])
    unfold ltS blB
    simpa using this⟩
theorem texts1 (a b : ByteArray) : rank_Texts_1.f a b = some (blB a b) := by
  unfold rank_Texts_1.f blB; rw [ByteArray.toList_eq, ByteArray.toList_eq]

theorem bt_get (s : ByteArray) (i : Nat) (h : i < s.size) : bt s (i : Int) = ((s.data.toList[i]'(by simpa using h)).toNat : Int) := by
  unfold bt
  rw [dif_pos (by simpa using h)]
  rfl
theorem less_l0 (a b : ByteArray) (ha : a.size < 1099511627776) (d : Nat) : ∀ i : Nat, i ≤ a.size → a.size - i ≤ d →
    Ev (fun k => scarfref03_Less.l0 k a b i) (Op.bytesLess (a.data.toList.drop i) (b.data.toList.drop i)) := by
  have la : a.data.toList.length = a.size := rfl
  have lb : b.data.toList.length = b.size := rfl
  have last : ∀ i : Nat, i ≤ a.size → (i = a.size ∨ b.size ≤ i) → Ev (fun k => scarfref03_Less.j1 k a b i false) (Op.bytesLess (a.data.toList.drop i) (b.data.toList.drop i)) := by
    intro i hi hc
    refine Ev.step (f := fun _ => some (decide ((a.size : Int) < (b.size : Int)))) (fun k => by rw [scarfref03_Less.j1, if_neg (by simp)]) ?_
    have e : decide ((a.size : Int) < (b.size : Int)) = Op.bytesLess (a.data.toList.drop i) (b.data.toList.drop i) := by
      rcases hc with rfl | hc
      · rw [List.drop_of_length_le (Nat.le_of_eq la)]
        by_cases c : a.size < b.size
        · rw [List.drop_eq_getElem_cons (by omega), Op.bytesLess]; simp [c]
        · rw [List.drop_of_length_le (by omega), Op.bytesLess]; simp; omega
      · rw [List.drop_of_length_le (l := b.data.toList) (by omega), Op.bytesLess]; simp; omega
    rw [e]; exact Ev.now _
  induction d with
  | zero =>
    intro i hi hd
    refine Ev.step (fun k => ?_) (last i hi (.inl (by omega)))
    rw [scarfref03_Less.l0, if_neg (by omega)]
  | succ d ih =>
    intro i hi hd
    by_cases c : i < a.size
    · by_cases c2 : i < b.size
      · have ea := bt_get a i c
        have eb := bt_get b i c2
        rw [List.drop_eq_getElem_cons (l := a.data.toList) (i := i) (by omega), List.drop_eq_getElem_cons (l := b.data.toList) (i := i) (by omega)]
        refine Ev.step (f := fun k => scarfref03_Less.j1 k a b i true) (fun k => by rw [scarfref03_Less.l0, if_pos (by omega)]; congr 1; simp; omega) ?_
        by_cases q : bt a (i : Int) = bt b (i : Int)
        · refine Ev.step (f := fun k => scarfref03_Less.l0 k a b ((i + 1 : Nat) : Int)) (fun k => by rw [scarfref03_Less.j1, if_pos rfl, if_pos (by omega), if_pos (by omega), if_pos (by omega), if_pos q, w64_succ i (by omega)]) ?_
          have this := ih (i + 1) (by omega) (by omega)
          have e : Op.bytesLess (a.data.toList[i]'(by omega) :: a.data.toList.drop (i + 1)) (b.data.toList[i]'(by omega) :: b.data.toList.drop (i + 1)) = Op.bytesLess (a.data.toList.drop (i + 1)) (b.data.toList.drop (i + 1)) := by
            rw [Bool.eq_iff_iff, bl_cons]
            rw [ea, eb] at q
            constructor
            · rintro (z | ⟨_, z⟩)
              · omega
              · exact z
            · intro z; right; exact ⟨by omega, z⟩
          rw [e]; exact this
        · refine Ev.step (f := fun _ => some (decide (bt a (i : Int) < bt b (i : Int)))) (fun k => by rw [scarfref03_Less.j1, if_pos rfl, if_pos (by omega), if_pos (by omega), if_pos (by omega), if_neg q]) ?_
          have e : decide (bt a (i : Int) < bt b (i : Int)) = Op.bytesLess (a.data.toList[i]'(by omega) :: a.data.toList.drop (i + 1)) (b.data.toList[i]'(by omega) :: b.data.toList.drop (i + 1)) := by
            rw [Bool.eq_iff_iff, bl_cons, decide_eq_true_eq]
            rw [ea, eb] at q ⊢
            constructor
            · intro z; left; omega
            · rintro (z | ⟨z, _⟩) <;> omega
          rw [e]; exact Ev.now _
      · refine Ev.step (fun k => ?_) (last i hi (.inr (by omega)))
        rw [scarfref03_Less.l0, if_pos (by omega)]; congr 1; simp; omega
    · refine Ev.step (fun k => ?_) (last i hi (.inl (by omega)))
      rw [scarfref03_Less.l0, if_neg (by omega)]
theorem less_runs (a b : ByteArray) (ha : a.size < 1099511627776) : Ev (fun k => scarfref03_Less.f k a b) (blB a b) :=
  less_l0 a b ha a.size 0 (by omega) (by omega)

theorem byText_eq (x0 : List ByteArray) (k : Nat) : (∀ x5 x7 x8, rank_By_string___Texts_1.l1 k x0 x5 x7 x8 = l1 (fun a b => rank_Texts_1.f (rdOf ByteArray.empty x0 a) (rdOf ByteArray.empty x0 b)) x0.length k x5 x7 x8) ∧
    (∀ x5 x7 x8 x9, rank_By_string___Texts_1.l2 k x0 x5 x7 x8 x9 = l2 (fun a b => rank_Texts_1.f (rdOf ByteArray.empty x0 a) (rdOf ByteArray.empty x0 b)) x0.length k x5 x7 x8 x9) ∧
    (∀ x5 x7 x8 x9 x10 x11 x12 x13 x14, rank_By_string___Texts_1.l3 k x0 x5 x7 x8 x9 x10 x11 x12 x13 x14 = l3 (fun a b => rank_Texts_1.f (rdOf ByteArray.empty x0 a) (rdOf ByteArray.empty x0 b)) x0.length k x5 x7 x8 x9 x10 x11 x12 x13 x14) := by
  induction k with
  | zero => exact ⟨fun _ _ _ => by rw [rank_By_string___Texts_1.l1, l1_zero], fun _ _ _ _ => by rw [rank_By_string___Texts_1.l2, l2_zero], fun _ _ _ _ _ _ _ _ _ => by rw [rank_By_string___Texts_1.l3, l3_zero]⟩
  | succ k ih =>
    obtain ⟨i1, i2, i3⟩ := ih
    refine ⟨fun x5 x7 x8 => ?_, fun x5 x7 x8 x9 => ?_, fun x5 x7 x8 x9 x10 x11 x12 x13 x14 => ?_⟩
    · rw [rank_By_string___Texts_1.l1, l1_succ, i2]
    · rw [rank_By_string___Texts_1.l2, l2_succ, i3, i1]
    · rw [rank_By_string___Texts_1.l3, l3_succ]; simp only [i2, i3]
theorem byText_l0 (x0 : List ByteArray) (k : Nat) : ∀ x5 x19 x20, rank_By_string___Texts_1.l0 k x0 x5 x19 x20 = l0 (fun a b => rank_Texts_1.f (rdOf ByteArray.empty x0 a) (rdOf ByteArray.empty x0 b)) x0.length k x5 x19 x20 := by
  induction k with
  | zero => intro _ _ _; rw [rank_By_string___Texts_1.l0, l0]
  | succ k ih => intro x5 x19 x20; rw [rank_By_string___Texts_1.l0, l0, ih, (byText_eq x0 k).1]
theorem texts_runs (l : List ByteArray) (h : l.length < 1099511627776) : ∃ r, Ev (fun k => rank_Texts.f k l) r ∧ Sorted (ltS l) l.length r := by
  obtain ⟨r, hr, hs⟩ := by_runs (f := fun a b => rank_Texts_1.f (rdOf ByteArray.empty l a) (rdOf ByteArray.empty l b)) (ltS_ord l) (N := l.length) (fun a b _ _ _ _ => texts1 _ _) h
  refine ⟨r, Ev.congr (fun k => ?_) hr, hs⟩
  unfold rank_Texts.f rank_By_string___Texts_1.f byLoop
  simp only [byText_l0, Option.bind_some, Option.bind_fun_some]

theorem putT_runs (row : List Int) (a : Nat) (x : Int) (h : a ≤ row.length) (hl : row.length < 1099511627776) : scarfref03_put.f row a x = some (row.take a ++ x :: row.drop a) := by
  unfold scarfref03_put.f
  simp only [Option.bind_some, List.nil_append, Int.toNat_natCast]
  rw [if_pos (by omega), if_pos (by omega), if_pos (by simp; omega), if_pos (by simp; omega), if_pos (by simp; omega)]
  simp

def Small (l : List ByteArray) : Prop := ∀ s ∈ l, s.size < 1099511627776
theorem Small.rd {l : List ByteArray} (h : Small l) (i : Int) : (rdOf ByteArray.empty l i).size < 1099511627776 := by
  unfold rdOf
  rw [List.getD_eq_getElem?_getD]
  by_cases c : i.toNat < l.length
  · rw [List.getElem?_eq_getElem c]; exact h _ (List.getElem_mem c)
  · rw [List.getElem?_eq_none (by omega)]; decide

theorem refTexts_l1 {l : List ByteArray} (hl : l.length < 1099511627776) (hS : Small l) {i : Nat} (hi : i < l.length) {row : List Int} (hs : Sorted (ltS l) i row) {Q : List Int → Prop}
    (next : ∀ row', Sorted (ltS l) (i + 1) row' → ∃ r, Ev (fun k => scarfref03_Texts.l0 k l row' ((i + 1 : Nat) : Int)) r ∧ Q r) :
    ∀ a : Nat, a ≤ i → (∀ j, a ≤ j → j < i → ltS l i (row.getD j 0) = true) → ∃ r, Ev (fun k => scarfref03_Texts.l1 k l row i a) r ∧ Q r := by
  have hlen := hs.length
  have fin : ∀ a : Nat, a ≤ i → (∀ j, a ≤ j → j < i → ltS l i (row.getD j 0) = true) → (a = 0 ∨ ltS l i (row.getD (a - 1) 0) = false) →
      ∃ r, Ev (fun k => (scarfref03_put.f row a i).bind fun t => scarfref03_Texts.l0 k l t (wrap64 ((i : Int) + 1))) r ∧ Q r := by
    intro a ha hgt hle
    obtain ⟨r, hr, hq⟩ := next _ (insert_sorted (ltS_ord l) hs ha hgt hle)
    refine ⟨r, Ev.congr (fun k => ?_) hr, hq⟩
    rw [putT_runs row a i (by omega) (by omega), Option.bind_some, w64_succ i (by omega)]
  intro a
  induction a with
  | zero =>
    intro ha hgt
    obtain ⟨r, hr, hq⟩ := fin 0 ha hgt (.inl rfl)
    exact ⟨r, Ev.step (fun k => by rw [scarfref03_Texts.l1, if_neg (by omega)]) hr, hq⟩
  | succ a ih =>
    intro ha hgt
    have e1 : wrap64 (((a + 1 : Nat) : Int) - 1) = (a : Int) := by rw [w64 (by omega) (by omega)]; omega
    have hm := hs.mem.1 (getD_mem row a (by omega))
    have eq : ∀ k, scarfref03_Texts.l1 (k + 1) l row i ((a + 1 : Nat) : Int) = (scarfref03_Less.f k (rdOf ByteArray.empty l i) (rdOf ByteArray.empty l (row.getD a 0))).bind fun t => if t = true then scarfref03_Texts.l1 k l row i a else (scarfref03_put.f row ((a + 1 : Nat) : Int) i).bind fun t => scarfref03_Texts.l0 k l t (wrap64 ((i : Int) + 1)) := by
      intro k
      rw [scarfref03_Texts.l1, e1, if_pos (by omega), if_pos (by omega), if_pos (by omega), if_pos (by omega), if_pos (by omega), rd_nat row a, if_pos hm.1, if_pos (by omega)]
    have hls := less_runs _ (rdOf ByteArray.empty l (row.getD a 0)) (hS.rd (i : Int))
    by_cases c : ltS l i (row.getD a 0) = true
    · obtain ⟨r, hr, hq⟩ := ih (by omega) (by
        intro j h1 h2
        by_cases e : j = a
        · subst e; exact c
        · exact hgt j (by omega) h2)
      refine ⟨r, Ev.step eq (Ev.bind (f := fun k t => if t = true then scarfref03_Texts.l1 k l row i a else (scarfref03_put.f row ((a + 1 : Nat) : Int) i).bind fun t => scarfref03_Texts.l0 k l t (wrap64 ((i : Int) + 1))) hls (Ev.congr (fun k => ?_) hr)), hq⟩
      exact if_pos c
    · obtain ⟨r, hr, hq⟩ := fin (a + 1) ha hgt (.inr (by simpa using c))
      refine ⟨r, Ev.step eq (Ev.bind (f := fun k t => if t = true then scarfref03_Texts.l1 k l row i a else (scarfref03_put.f row ((a + 1 : Nat) : Int) i).bind fun t => scarfref03_Texts.l0 k l t (wrap64 ((i : Int) + 1))) hls (Ev.congr (fun k => ?_) hr)), hq⟩
      exact if_neg c

theorem refTexts_l0 {l : List ByteArray} (hl : l.length < 1099511627776) (hS : Small l) (d : Nat) : ∀ (i : Nat) (row : List Int), i ≤ l.length → l.length - i ≤ d → Sorted (ltS l) i row →
    ∃ r, Ev (fun k => scarfref03_Texts.l0 k l row i) r ∧ Sorted (ltS l) l.length r := by
  induction d with
  | zero =>
    intro i row hi hd hs
    obtain rfl : i = l.length := by omega
    exact ⟨row, Ev.step (fun k => by rw [scarfref03_Texts.l0, if_neg (by omega)]) (Ev.now _), hs⟩
  | succ d ih =>
    intro i row hi hd hs
    by_cases c : i < l.length
    · obtain ⟨r, hr, hq⟩ := refTexts_l1 hl hS c hs (Q := Sorted (ltS l) l.length) (fun row' h' => ih (i + 1) row' (by omega) (by omega) h') i (Nat.le_refl _) (fun j h1 h2 => by omega)
      refine ⟨r, Ev.step (fun k => ?_) hr, hq⟩
      rw [scarfref03_Texts.l0, if_pos (by omega), hs.length]
    · obtain rfl : i = l.length := by omega
      exact ⟨row, Ev.step (fun k => by rw [scarfref03_Texts.l0, if_neg (by omega)]) (Ev.now _), hs⟩

theorem refTexts_runs (l : List ByteArray) (h : l.length < 1099511627776) (hS : Small l) : ∃ r, Ev (fun k => scarfref03_Texts.f k l) r ∧ Sorted (ltS l) l.length r := by
  obtain ⟨r, hr, hs⟩ := refTexts_l0 h hS l.length 0 [] (by omega) (by omega) (Sorted.nil _)
  exact ⟨r, hr, hs⟩

theorem sameT_l0 (l : List Int) (hl : l.length < 1099511627776) (d : Nat) : ∀ i : Nat, i ≤ l.length → l.length - i ≤ d → Ev (fun k => scarfref03_Same.l0 k l l i) true := by
  induction d with
  | zero => intro i hi hd; exact Ev.step (fun k => by rw [scarfref03_Same.l0, if_neg (by omega)]) (Ev.now _)
  | succ d ih =>
    intro i hi hd
    by_cases c : i < l.length
    · refine Ev.step (fun k => ?_) (ih (i + 1) (by omega) (by omega))
      rw [scarfref03_Same.l0, if_pos (by omega), if_pos (by omega), if_pos (by omega), if_pos rfl, w64_succ i (by omega)]
    · exact Ev.step (fun k => by rw [scarfref03_Same.l0, if_neg (by omega)]) (Ev.now _)
theorem sameT_refl (l : List Int) (hl : l.length < 1099511627776) : Ev (fun k => scarfref03_Same.f k l l) true := by
  refine Ev.congr (fun k => ?_) (sameT_l0 l hl l.length 0 (by omega) (by omega))
  unfold scarfref03_Same.f; rw [if_pos rfl]; rfl
end Go.Proofs.Ytlpopkknamigoaa.Rk
