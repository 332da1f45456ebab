/- For all bytes and every place: the lines joined are the bytes; each line but the last ends in a newline and none has another; a place within the bytes leads back: proved of the printed functions. Conditions: none beyond the statement's own. -/
import Derived.Test.YtdekcmaakdpmaaaQ9
import Derived.Test.YtdekcmaakdpmaaaLinePure2
namespace Go.Proofs.Ytdekcmaakdpmaaa.Pure
open Go.RowKit Go.Proofs.Ytdekcmaakdpmaaa.Q Go.Proofs.YtdekcmaakdpmaaaW.PrintWords Go.Proofs.YtdekcmaakdpmaaaW.PrintLast Go.Proofs.YtdekcmaakdpmaaaW.PrintMore

theorem back_end (y : List Int) (hb : bytesOk y = true) (hl : y.length ≤ 20000) (a : Int) :
    Ev (fun _ => (if (IntKind.u64.wrap (wrap64 ((y.length : Int) + 1))) = 0 then (none) else ((line_Starts.f y).bind fun t206 => ((line_Place.f t206 (wrap64 (Int.tmod (IntKind.u64.wrap (a)) (IntKind.u64.wrap (wrap64 ((y.length : Int) + 1)))))).bind fun bt209 => (if bt209.1 ≥ 0 then (if bt209.1 < (t206.length : Int) then (if bt209.2 ≥ 0 then (if 0 ≤ bt209.1 then (if (wrap64 ((rd t206 bt209.1) + bt209.2)) = (wrap64 (Int.tmod (IntKind.u64.wrap (a)) (IntKind.u64.wrap (wrap64 ((y.length : Int) + 1))))) then (if bt209.1 ≥ ((splitL y).length : Int) then (some true) else (if bt209.1 < ((splitL y).length : Int) then (some (decide (bt209.2 ≤ ((rd_L2 (splitL y) bt209.1).length : Int)))) else (none))) else (some false)) else (none)) else (some false)) else (some false)) else (some false)))))) true := by
  have hT := starts_len0 y hl
  have hu := starts_up y
  obtain ⟨p, hp, p0, p1, hd⟩ := cut_place a y.length hl
  obtain ⟨N, hN, hNc, hNp, hN0, hN1, hN2⟩ := place_of y hl p p0 p1
  rw [hp]
  refine Ev.congr (fun k => ?_) (Ev.now true)
  have hr : rd (0 :: startsL 0 y) (N : Int) = (0 :: startsL 0 y).getD N 0 := by unfold rd; simp
  rw [if_neg hd, starts_is hb (by omega), Option.bind_some, place_is hu hT, Option.bind_some, hNp]
  dsimp only
  rw [if_pos (by omega), if_pos (by omega), if_pos (by omega), if_pos (by omega), hr, w64 (by omega) (by omega), if_pos (by omega)]
  by_cases c : (N : Int) ≥ ((splitL y).length : Int)
  · rw [if_pos c]
  · rw [if_neg c, if_pos (by omega)]
    have hr2 : rd_L2 (splitL y) (N : Int) = (splitL y).getD N [] := by unfold rd_L2; simp
    have hat := line_at y.length y 0 N (Nat.le_refl _) (by omega)
    rw [hr2, decide_eq_true ?_]
    by_cases c2 : N + 1 < (0 :: startsL 0 y).length
    · have h1 := hat.1 c2
      have h2 := hN2 (N + 1) c2 (Nat.le_refl _)
      omega
    · have h1 := hat.2 (by omega)
      omega
theorem back_l0 (y : List Int) (hb : bytesOk y = true) (hl : y.length ≤ 20000) (a : Int) : ∀ (d i : Nat), i ≤ (splitL y).length → (splitL y).length - i ≤ d → Ev (fun k => scarflaw02_LineBack.l0 k y a (splitL y) i) true
  | d, i, hi, hd => by
    have hS := splitL_len y
    by_cases c : i < (splitL y).length
    · have hd0 : 0 < d := by omega
      have ih := back_l0 y hb hl a (d - 1) (i + 1) (by omega) (by omega)
      obtain ⟨x, hx⟩ : ∃ x, x = (splitL y).getD i [] := ⟨_, rfl⟩
      have hxe : x = (splitL y)[i] := by rw [hx, List.getD_eq_getElem?_getD, List.getElem?_eq_getElem c]; rfl
      have hr : rd_L2 (splitL y) (i : Int) = x := by unfold rd_L2; rw [hx]; simp
      have hdec : splitL y = (splitL y).take i ++ x :: (splitL y).drop (i + 1) := by
        rw [hxe, ← List.drop_eq_getElem_cons c, List.take_append_drop]
      obtain ⟨_, hxn⟩ := splitL_lines y.length y (Nat.le_refl _) _ _ _ hdec
      have hxl : x.length ≤ 20000 := by
        have := mem_flat_len (ls := splitL y) (l := x) (by rw [hxe]; exact List.getElem_mem _)
        rw [splitL_flat] at this
        omega
      have hxp : 0 < x.length := by
        rcases hxn with ⟨p, hp, _⟩ | ⟨h, _, _⟩
        · rw [hp]; simp
        · exact List.length_pos_iff.2 h
      have hw1 : wrap64 ((x.length : Int) - 1) = (x.length : Int) - 1 := w64 (by omega) (by omega)
      have hw2 : wrap64 (((splitL y).length : Int) - 1) = ((splitL y).length : Int) - 1 := w64 (by omega) (by omega)
      have hnot : ∀ j : Nat, j + 1 < x.length → ¬ rd x (j : Int) = 10 := by
        intro j hj e
        have e2 : rd x (j : Int) = x[j] := by unfold rd; rw [Int.toNat_natCast, List.getD_eq_getElem?_getD, List.getElem?_eq_getElem (by omega)]; rfl
        rw [e2] at e
        rcases hxn with ⟨p, hp, hpn⟩ | ⟨_, h, _⟩
        · apply hpn
          have hjp : j < p.length := by rw [hp] at hj; simp at hj; omega
          have e3 : x[j] = p[j] := by
            have : x[j]? = p[j]? := by rw [hp, List.getElem?_append_left hjp]
            rw [List.getElem?_eq_getElem (by omega), List.getElem?_eq_getElem hjp] at this
            exact Option.some.inj this
          rw [← e, e3]
          exact List.getElem_mem _
        · apply h
          rw [← e]
          exact List.getElem_mem _
      have hend : i + 1 < (splitL y).length → rd x ((x.length : Int) - 1) = 10 := by
        intro h
        rcases hxn with ⟨p, hp, _⟩ | ⟨_, _, h3⟩
        · rw [hp]
          have e : ((p ++ [(10 : Int)]).length : Int) - 1 = (p.length : Int) := by simp
          rw [e]
          exact rd_at p [] 10
        · have := congrArg List.length h3
          rw [List.length_drop] at this
          simp at this
          omega
      have inner : ∀ (m j : Nat), j + 1 ≤ x.length → x.length - j ≤ m → Ev (fun k => scarflaw02_LineBack.l1 k y a (splitL y) i j) true := by
        intro m
        induction m with
        | zero => intro j h1 h2; omega
        | succ m ihm =>
          intro j h1 h2
          by_cases cj : j + 1 < x.length
          · refine Ev.step (fun k => ?_) (ihm (j + 1) (by omega) (by omega))
            rw [scarflaw02_LineBack.l1, if_pos (by omega), if_pos (by omega), hr, hw1, if_pos (by omega), if_pos (by omega), if_pos (by omega), if_neg (hnot j cj), w64 (by omega) (by omega)]
            rfl
          · by_cases ci : i + 1 < (splitL y).length
            · refine Ev.step (fun k => ?_) ih
              rw [scarflaw02_LineBack.l1, if_pos (by omega), if_pos (by omega), hr, hw1, if_neg (by omega), hw2, if_pos (by omega), if_pos (by omega), if_pos (by omega), if_pos (hend ci), w64 (by omega) (by omega)]
              rfl
            · refine Ev.step (fun k => ?_) ih
              rw [scarflaw02_LineBack.l1, if_pos (by omega), if_pos (by omega), hr, hw1, if_neg (by omega), hw2, if_neg (by omega), w64 (by omega) (by omega)]
              rfl
      refine Ev.step (fun k => ?_) (inner _ 0 (by omega) (Nat.le_refl _))
      rw [scarflaw02_LineBack.l0, if_pos (by omega), if_pos (by omega), hr, if_neg (by omega)]
      rfl
    · refine Ev.step (fun k => ?_) (back_end y hb hl a)
      rw [scarflaw02_LineBack.l0, if_neg (by omega)]
  termination_by d => d
theorem LineBack : scarflaw02_LineBack.Pure := by
  intro l0 a _ _ hw _
  apply Ev.rounds
  obtain ⟨y, hy⟩ : ∃ y, y = l0.take 20000 := ⟨_, rfl⟩
  have hb : bytesOk y = true := by rw [hy]; exact bytes_ok hw _
  have hl : y.length ≤ 20000 := by rw [hy, List.length_take]; omega
  have hS := splitL_len y
  have hj : line_Join.f (splitL y) = some y := by
    unfold line_Join.f
    rw [splitL_flat, decide_eq_true (by omega), decide_eq_true (by omega)]
    rfl
  refine Ev.congr (f := fun k => scarflaw02_LineBack.j0 k y a (splitL y) false) (fun k => ?_) ?_
  · unfold scarflaw02_LineBack.f
    rw [← hy, Option.bind_some, split_is hb (by omega), Option.bind_some]
    simp only [scarflaw02_known.f, Option.bind_some, if_true, hj]
    simp
  · refine Ev.step (fun k => ?_) (back_l0 y hb hl a _ 0 (Nat.zero_le _) (Nat.le_refl _))
    rw [scarflaw02_LineBack.j0, if_neg (by simp)]
    rfl
end Go.Proofs.Ytdekcmaakdpmaaa.Pure
