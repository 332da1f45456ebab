/- For all rows of numbers: of the texts of two rows' signs the less is that whose signs are less. Conditions: none beyond the statement's own. -/
import Derived.Test.YtpoeiiimmgnioaaDoorQ5
import Derived.Test.YtpoeiiimmgnioaaDoorUtfTexts2
namespace Go.Proofs.YtpoeiiimmgnioaaDoor.Pure
open Go.RowKit Go.Proofs.YtpoeiiimmgnioaaDoor.Q Go.Proofs.YtpoeiiimmgnioaaDoorW.PrintWords Go.Proofs.YtpoeiiimmgnioaaDoorW.PrintLast Go.Proofs.YtpoeiiimmgnioaaDoorW.PrintMore Go.Proofs.YtpoeiiimmgnioaaDoor.Ut
theorem order_l0 {x y : List Int} (hx : Sgs x) (hy : Sgs y) (lx : x.length ≤ 5000) (d : Nat) : ∀ i : Nat, i ≤ x.length → i ≤ y.length → x.length - i ≤ d →
    bl (Txt x) (Txt y) = bl (Txt (x.drop i)) (Txt (y.drop i)) → Ev (fun k => scarflaw01_UtfOrder.l0 k (Txt x) x (Txt y) y (decide ((x.length : Int) < (y.length : Int))) i) true := by
  have fin : ∀ i : Nat, i ≤ x.length → i ≤ y.length → (i = x.length ∨ i = y.length) → bl (Txt x) (Txt y) = bl (Txt (x.drop i)) (Txt (y.drop i)) →
      Ev (fun k => scarflaw01_UtfOrder.l0 k (Txt x) x (Txt y) y (decide ((x.length : Int) < (y.length : Int))) i) true := by
    intro i h1 h2 h3 hb
    have e : bl (Txt x) (Txt y) = decide ((x.length : Int) < (y.length : Int)) := by
      rw [hb]
      by_cases c : i = y.length
      · rw [List.drop_of_length_le (l := y) (by omega), show Txt [] = [] from rfl, bl_nil_right, decide_eq_false (by omega)]
      · have c2 : i = x.length := by omega
        rw [List.drop_of_length_le (l := x) (by omega), show Txt [] = [] from rfl, bl_nil_left, decide_eq_true (by omega)]
        intro e
        have := (Txt_len (s := y.drop i) (fun n hn => hy n (List.mem_of_mem_drop hn))).1
        rw [e, List.length_drop] at this
        simp at this
        omega
    refine Ev.steps 2 (fun k => ?_) (Ev.now _)
    rw [scarflaw01_UtfOrder.l0]
    have j : ∀ k, scarflaw01_UtfOrder.j1 (k + 1) (Txt x) x (Txt y) y (decide ((x.length : Int) < (y.length : Int))) i false = some true := by
      intro k
      rw [scarflaw01_UtfOrder.j1, if_neg (by simp), known01, Option.bind_some, if_pos rfl, U8_str, U8_str]
      rw [show Op.bytesLess (U8 (Txt x)) (U8 (Txt y)) = bl (Txt x) (Txt y) from rfl, e]
      simp
    by_cases c : (i : Int) < (x.length : Int)
    · have q : decide ((i : Int) < (y.length : Int)) = false := decide_eq_false (by omega)
      rw [if_pos c, q]; exact j k
    · rw [if_neg c]; exact j k
  induction d with
  | zero => intro i h1 h2 hd hb; exact fin i h1 h2 (by omega) hb
  | succ d ih =>
    intro i h1 h2 hd hb
    by_cases c : i < x.length ∧ i < y.length
    · have ex : rd x i = x[i]'c.1 := by unfold rd; rw [Int.toNat_natCast, List.getD_eq_getElem?_getD, List.getElem?_eq_getElem c.1]; rfl
      have ey : rd y i = y[i]'c.2 := by unfold rd; rw [Int.toNat_natCast, List.getD_eq_getElem?_getD, List.getElem?_eq_getElem c.2]; rfl
      have gx : Sg (x[i]'c.1) := hx _ (List.getElem_mem c.1)
      have gy : Sg (y[i]'c.2) := hy _ (List.getElem_mem c.2)
      have qd : decide ((i : Int) < (y.length : Int)) = true := decide_eq_true (by omega)
      have hb2 := hb
      rw [List.drop_eq_getElem_cons c.1, List.drop_eq_getElem_cons c.2, Txt_cons, Txt_cons] at hb2
      by_cases q : x[i]'c.1 = y[i]'c.2
      · rw [q, bl_same _ _ _ (Bs.enc gy)] at hb2
        refine Ev.steps 2 (fun k => ?_) (ih (i + 1) (by omega) (by omega) (by omega) hb2)
        have e : wrap64 ((i : Int) + 1) = ((i + 1 : Nat) : Int) := by rw [w64 (by omega) (by omega)]; omega
        rw [scarflaw01_UtfOrder.l0, if_pos (by omega), scarflaw01_UtfOrder.j1, qd, if_pos rfl, if_pos (by omega), if_pos (by omega), if_pos (by omega), ex, ey, if_pos q, e]
      · refine Ev.steps 2 (fun k => ?_) (Ev.now _)
        rw [scarflaw01_UtfOrder.l0, if_pos (by omega), scarflaw01_UtfOrder.j1, qd, if_pos rfl, if_pos (by omega), if_pos (by omega), if_pos (by omega), ex, ey, if_neg q, known01, Option.bind_some, if_pos rfl, U8_str, U8_str]
        rw [show Op.bytesLess (U8 (Txt x)) (U8 (Txt y)) = bl (Txt x) (Txt y) from rfl, hb2]
        by_cases w : x[i]'c.1 < y[i]'c.2
        · rw [(enc_lt gx gy w _ _).1, decide_eq_true w]; rfl
        · rw [(enc_lt gy gx (by omega) _ _).2, decide_eq_false w]; rfl
    · exact fin i h1 h2 (by omega) hb
theorem UtfOrder : scarflaw01_UtfOrder.Pure := by
  intro l m _ _ _ _ _ _
  apply Ev.rounds
  obtain ⟨x, hx, lx, ex⟩ := texts_runs l
  obtain ⟨y, hy, _, ey⟩ := texts_runs m
  unfold scarflaw01_UtfOrder.f
  refine Ev.bind (f := fun k bt169 => (scarflaw01_texts.f k m).bind fun bt175 => (scarflaw01_UtfOrder.l0 k bt169.1 bt169.2 bt175.1 bt175.2 (decide ((bt169.2.length : Int) < (bt175.2.length : Int))) 0)) ex ?_
  refine Ev.bind (f := fun k bt175 => (scarflaw01_UtfOrder.l0 k (Txt x) x bt175.1 bt175.2 (decide ((x.length : Int) < (bt175.2.length : Int))) 0)) ey ?_
  exact order_l0 hx hy lx x.length 0 (by omega) (by omega) (by omega) rfl
end Go.Proofs.YtpoeiiimmgnioaaDoor.Pure
