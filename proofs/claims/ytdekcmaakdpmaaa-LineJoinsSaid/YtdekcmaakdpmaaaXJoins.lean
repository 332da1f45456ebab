/- LineJoins, walked: the parts joined are one behind the other; the lines of two rows are those of both. -/
import Derived.Test.YtdekcmaakdpmaaaXKnown2
import Derived.Test.YtdekcmaakdpmaaaWNEv
import Derived.Test.YtdekcmaakdpmaaaWShare
import Derived.Test.YtdekcmaakdpmaaaWLast
import Derived.Test.YtdekcmaakdpmaaaLinePure
import Derived.Test.YtdekcmaakdpmaaaQ2
namespace Go.Proofs.Ytdekcmaakdpmaaa.Q
open Go.RowKit Go.Proofs.YtdekcmaakdpmaaaW.PrintWords Go.Proofs.YtdekcmaakdpmaaaW.PrintLast Go.Proofs.YtdekcmaakdpmaaaW.PrintMore Go.Proofs.Ytdekcmaakdpmaaa.Pure
set_option linter.unusedVariables false
set_option linter.unusedSimpArgs false

theorem litRows (w : World) (rs : List (Option Addr × Nat × List Int)) (h : ∀ r ∈ rs, (Kd.int .u8).C w r.1 r.2.2.length r.2.2 ∧ r.2.2.length ≤ r.2.1) (hn : rs.length ≤ 1000) :
    Kd.C (Kd.slice 5 (Kd.int .u8)) (w.alloc (.cells (rs.map fun r => Value.slice r.1 r.2.2.length r.2.1).toArray 22)) (some ⟨w.heap.size, 0, none⟩) (rs.map fun r => r.2.2).length (rs.map fun r => r.2.2) := by
  refine ⟨rfl, by rw [List.length_map]; omega, fun _ => ⟨_, rfl, fun j p hj => ?_⟩⟩
  rw [List.getElem?_map] at hj
  obtain ⟨r, hr, rfl⟩ := Option.map_eq_some_iff.1 hj
  obtain ⟨hjl, hr2⟩ := List.getElem?_eq_some_iff.1 hr
  have hm := h r (by rw [← hr2]; exact List.getElem_mem hjl)
  refine ⟨[.slice r.1 r.2.2.length r.2.1], rfl, ⟨_, _, rfl, hm.2, Kd.C_alloc hm.1 _⟩, fun i u hu => ?_⟩
  have hi : i = 0 := by
    have := (List.getElem?_eq_some_iff.1 hu).1
    simp at this
    exact this
  subst hi
  have e1 : j * (Kd.slice 5 (Kd.int .u8)).sz + 0 = j := by show j * 1 + 0 = j; omega
  rw [e1]
  have e2 : (⟨w.heap.size, 0, none⟩ : Addr).add j = ⟨w.heap.size, j, none⟩ := by unfold Addr.add; split; rename_i h0; rw [h0]; simp
  rw [e2, World.cell?_alloc_mark, List.getElem?_toArray, List.getElem?_map, hr]
  exact hu
theorem join_is {ls : List (List Int)} (h1 : ls.length ≤ 10) (h2 : ls.flatten.length ≤ 1000000) : line_Join.f ls = some ls.flatten := by
  unfold line_Join.f
  rw [decide_eq_true (by omega), decide_eq_true (by omega)]
  rfl
theorem glue_app (x : Int) (a b : List (List Int)) (h : a ≠ []) : glue x (a ++ b) = glue x a ++ b := by
  cases a with
  | nil => exact absurd rfl h
  | cons l ls => rfl
theorem split_app : ∀ (p q : List Int), splitL ((p ++ [10]) ++ q) = splitL (p ++ [10]) ++ splitL q
  | [], q => by simp [splitL_cons, splitL]
  | a :: p, q => by
    have ih := split_app p q
    simp only [List.cons_append] at ih ⊢
    rw [splitL_cons, splitL_cons, ih]
    by_cases ha : a = 10
    · rw [if_pos ha, if_pos ha]; rfl
    · rw [if_neg ha, if_neg ha, glue_app _ _ _ (splitL_ne (by simp))]
theorem bytes_app {a b : List Int} (ha : bytesOk a = true) (hb : bytesOk b = true) : bytesOk (a ++ b) = true := by
  unfold bytesOk at *
  rw [List.all_append, ha, hb]
  rfl
theorem str_app (a b : List Int) : strOfNums (a ++ b) = strOfNums a ++ strOfNums b := by
  apply ByteArray.ext
  rw [ByteArray.data_append]
  unfold strOfNums
  simp
theorem str_size (a : List Int) : (strOfNums a).size = a.length := by simp [strOfNums, ByteArray.size]
def scarflaw02_LineJoins.f (l0 l1 l2 : List Int) : Option Bool := if (bytesOk (l0.take 20000) && bytesOk (l1.take 20000) && bytesOk (l2.take 20000)) = true then some true else none

set_option maxHeartbeats 16000000 in
set_option maxRecDepth 100000 in
theorem scarflaw02_LineJoins.calls (A0 : Option Addr) (c0 : Nat) (l0 : List Int) (A1 : Option Addr) (c1 : Nat) (l1 : List Int) (A2 : Option Addr) (c2 : Nat) (l2 : List Int) (r : Bool) (w : World) (hr0 : Kd.C (Kd.int .u8) w A0 l0.length l0) (hc0 : l0.length ≤ c0) (hr1 : Kd.C (Kd.int .u8) w A1 l1.length l1) (hc1 : l1.length ≤ c1) (hr2 : Kd.C (Kd.int .u8) w A2 l2.length l2) (hc2 : l2.length ≤ c2) (h : scarflaw02_LineJoins.f l0 l1 l2 = some r) :
    Calls Try.prog 7 #[.slice A0 l0.length c0, .slice A1 l1.length c1, .slice A2 l2.length c2] w fun e w' => e = .returned (.bool r) ∧ Below w.heap.size w w' := by
  unfold scarflaw02_LineJoins.f at h
  split at h
  case isFalse => cases h
  case isTrue hbs =>
  obtain rfl := Option.some.inj h
  simp only [Bool.and_eq_true] at hbs
  obtain ⟨⟨hb0, hb1⟩, hb2⟩ := hbs
  obtain ⟨y0, hy0⟩ : ∃ y, y = l0.take 20000 := ⟨_, rfl⟩
  rw [← hy0] at hb0
  have hw0 := Kd.few_C (m := 20000) hr0 hc0
  rw [← hy0] at hw0
  have hl0 : y0.length ≤ 20000 := by rw [hy0, List.length_take]; omega
  have few0 := scarflaw02_few.at A0 l0 c0 w hc0 y0 hy0
  obtain ⟨hC0, hK0⟩ := hw0
  clear hr0 hc0 hy0
  obtain ⟨y1, hy1⟩ : ∃ y, y = l1.take 20000 := ⟨_, rfl⟩
  rw [← hy1] at hb1
  have hw1 := Kd.few_C (m := 20000) hr1 hc1
  rw [← hy1] at hw1
  have hl1 : y1.length ≤ 20000 := by rw [hy1, List.length_take]; omega
  have few1 := scarflaw02_few.at A1 l1 c1 w hc1 y1 hy1
  obtain ⟨hC1, hK1⟩ := hw1
  clear hr1 hc1 hy1
  obtain ⟨y2, hy2⟩ : ∃ y, y = l2.take 20000 := ⟨_, rfl⟩
  rw [← hy2] at hb2
  have hw2 := Kd.few_C (m := 20000) hr2 hc2
  rw [← hy2] at hw2
  have hl2 : y2.length ≤ 20000 := by rw [hy2, List.length_take]; omega
  have few2 := scarflaw02_few.at A2 l2 c2 w hc2 y2 hy2
  obtain ⟨hC2, hK2⟩ := hw2
  clear hr2 hc2 hy2
  clear h
  -- what the calls tell
  have hz1 : (9223372036854775807 < (strOfNums y0).size + (strOfNums y1).size) = False := eq_false (by rw [str_size, str_size]; omega)
  have hz2 : (9223372036854775807 < (strOfNums y0).size + (strOfNums y1).size + (strOfNums y2).size) = False := eq_false (by rw [str_size, str_size, str_size]; omega)
  have jn3 : line_Join.f [y0, y1, y2] = some [y0, y1, y2].flatten := join_is (by simp) (by simp; omega)
  obtain ⟨all, hall⟩ : ∃ z, z = [y0, y1, y2].flatten := ⟨_, rfl⟩
  rw [← hall] at jn3
  have hallS : strOfNums all = strOfNums y0 ++ strOfNums y1 ++ strOfNums y2 := by rw [hall]; simp [str_app, ByteArray.append_assoc]
  obtain ⟨x, hx⟩ : ∃ z, z = y0 ++ [10] := ⟨_, rfl⟩
  have hxl : x.length ≤ 20001 := by rw [hx]; simp; omega
  have hxb : bytesOk x = true := by rw [hx]; exact bytes_app hb0 (by rfl)
  have jxb : line_Join.f [x, y1] = some [x, y1].flatten := join_is (by simp) (by simp; omega)
  have hfl2 : [x, y1].flatten = x ++ y1 := by simp
  rw [hfl2] at jxb
  obtain ⟨xy, hxy⟩ : ∃ z, z = x ++ y1 := ⟨_, rfl⟩
  have sxb : line_Split.f (x ++ y1) = some (splitL (x ++ y1)) := split_is (bytes_app hxb hb1) (by rw [List.length_append]; omega)
  rw [← hxy] at jxb sxb
  have sx : line_Split.f x = some (splitL x) := split_is hxb (by omega)
  have sb : line_Split.f y1 = some (splitL y1) := split_is hb1 (by omega)
  have happ : splitL xy = splitL x ++ splitL y1 := by rw [hxy, hx]; exact split_app y0 y1
  have hcnt : (splitL x).length ≤ 20001 ∧ (splitL y1).length ≤ 20000 := ⟨Nat.le_trans (splitL_len x) hxl, Nat.le_trans (splitL_len y1) hl1⟩
  obtain ⟨ks, hks⟩ : ∃ k, scarfref02_Same.f k (splitL xy) (splitL x ++ splitL y1) = some true := by
    rw [← happ]
    exact (same_refl _ (by rw [happ, List.length_append]; omega)).rounds
  obtain ⟨ab, hab⟩ : ∃ z, z = y0 ++ y1 := ⟨_, rfl⟩
  have jab : line_Join.f [y0, y1] = some ab := by
    have := join_is (ls := [y0, y1]) (by simp) (by simp; omega)
    rw [this, hab]; simp
  have jabc : line_Join.f [ab, y2] = some all := by
    have := join_is (ls := [ab, y2]) (by simp) (by rw [hab]; simp; omega)
    rw [this, hall, hab]; simp
  have jno : line_Join.f [] = some [] := by decide
  have HX := Aside0.mk hx
  clear hx hall happ hfl2 hxy hab
  have H0 := Aside0.mk hC0
  have H1 := Aside0.mk hC1
  have H2 := Aside0.mk hC2
  clear hC0 hC1 hC2
  go_enter Try.func7, Try.ntmps7
  have lr3 := litRows w [(A0, c0, y0), (A1, c1, y1), (A2, c2, y2)] (by
    intro r hr
    simp only [List.mem_cons, List.not_mem_nil, or_false] at hr
    rcases hr with rfl | rfl | rfl
    · exact ⟨H0.out, hK0⟩
    · exact ⟨H1.out, hK1⟩
    · exact ⟨H2.out, hK2⟩) (by simp)
  go_upto_region 5 with (first
    | (go_at_call 8; (first | (refine few0.mono ?_; clear few0) | (refine few1.mono ?_; clear few1) | (refine few2.mono ?_; clear few2)); rintro e_ w_ ⟨rfl, rfl⟩)
    | (go_at_call 17; have hj_ := jn3; clear hj_; refine (line_Join.calls (some ⟨w.heap.size, 0, none⟩) 3 [y0, y1, y2] all _ lr3 (by simp) jn3).mono ?_; clear jn3; rintro e w1 ⟨va, rfl, hRa, hBa⟩; obtain ⟨Aa, ca, rfl⟩ := Kd.R_slice hRa; have B1 : Below w.heap.size w w1 := ((Below.refl _ w).alloc (Nat.le_refl _) _).trans (hBa.mono (by simp)); clear hBa; have D0 := Kd.C_below H0.out B1; have D1 := Kd.C_below H1.out B1; have D2 := Kd.C_below H2.out B1; have Da := (Kd.R_reads' hRa).2.2; have ka := (Kd.R_reads' hRa).2.1; clear hRa)
    | ((with_reducible refine gate_builtin (b := .append) (xs := #[.tmp 21, .tmp 22]) rfl ?_); at_builtin; refine Kd.R_append_row (Value.int .u8) (0 : Int) (h1 := fun _ => rfl) (w0 := w1) w1.heap.size rfl (.tmp 21) (.tmp 22) 22 5 (.int .u8 0) 1 rfl Try.underlying22 infoL5 rfl (by decide) (.slice (some ⟨w1.heap.size, 0, none⟩) 0 0) [] y0 A0 y0.length c0 (fun _ => True) rfl rfl (fun _ _ => trivial) (Kd.R_of_own (World.ownsRow_made w1 #[] 0 (Nat.le_refl _) (Nat.zero_le _) rfl) (fun _ _ => trivial)) (Kd.C_alloc D0 _) ((Below.refl _ w1).alloc (Nat.le_refl _) _) (by simp) (by simp; omega) ?_; intro v1 w2 ho2 hb2 hg2 hat2; rw [List.nil_append] at ho2; clear hg2 hat2)
    | ((with_reducible refine gate_builtin (b := .append) (xs := #[.tmp 23, .tmp 24]) rfl ?_); at_builtin; refine Kd.R_append (Kd.int .u8) (w0 := w1) w1.heap.size rfl (.tmp 23) (.tmp 24) 22 5 (.int .u8 0) 1 rfl Try.underlying22 infoL5 rfl (by decide) (by omega) v1 y0 10 [.int .u8 10] (fun _ => True) (fun _ => False) rfl rfl rfl (fun _ hk => hk.elim) (fun _ _ => trivial) ho2 hb2 hb2.size (by omega) ?_; intro v2 w3 ho3 hb3 hg3 hat3; rw [← HX.out] at ho3; obtain ⟨Ax, cx, rfl⟩ := Kd.R_slice ho3; have Dx := (Kd.R_reads' ho3).2.2; have kx := (Kd.R_reads' ho3).2.1; clear ho2 hb2 hg3 hat3 ho3; replace D0 := Kd.C_below D0 hb3; replace D1 := Kd.C_below D1 hb3; replace D2 := Kd.C_below D2 hb3; replace Da := Kd.C_below Da hb3; have B3 : Below w.heap.size w w3 := B1.trans (hb3.mono B1.size); clear hb3)
    | (go_at_call 17; have lr2 := litRows w3 [(Ax, cx, x), (A1, c1, y1)] (by (intro r hr; simp only [List.mem_cons, List.not_mem_nil, or_false] at hr; rcases hr with rfl | rfl; exact ⟨Dx, kx⟩; exact ⟨D1, hK1⟩)) (by simp); refine (line_Join.calls (some ⟨w3.heap.size, 0, none⟩) 2 [x, y1] xy _ lr2 (by simp) jxb).mono ?_; clear jxb; rintro e w4 ⟨vj, rfl, hRj, hBj⟩; obtain ⟨Aj, cj, rfl⟩ := Kd.R_slice hRj; have B34 : Below w3.heap.size w3 w4 := ((Below.refl _ w3).alloc (Nat.le_refl _) _).trans (hBj.mono (by simp)); have Dj := (Kd.R_reads' hRj).2.2; have kj := (Kd.R_reads' hRj).2.1; clear hBj hRj lr2)
    | (go_at_call 9; refine (line_Split.calls Aj cj xy _ _ Dj kj sxb).mono ?_; rintro e w5 ⟨vs, rfl, hSs, hBs⟩; obtain ⟨As, cs, rfl⟩ := Kd.S_slice hSs; have Ds := (Kd.S_reads' hSs).2.2; have ks_ := (Kd.S_reads' hSs).2.1; clear hSs; have B35 : Below w3.heap.size w3 w5 := B34.trans (hBs.mono B34.size); replace D0 := Kd.C_below D0 B35; replace D1 := Kd.C_below D1 B35; replace D2 := Kd.C_below D2 B35; replace Da := Kd.C_below Da B35; replace Dx := Kd.C_below Dx B35; have B5 : Below w.heap.size w w5 := B3.trans (B35.mono B3.size); clear B35 B34 hBs Dj kj B3 B1))
  have E0 := Kd.C_drew D0
  have E1 := Kd.C_drew D1
  have E2 := Kd.C_drew D2
  have Ea := Kd.C_drew Da
  have Ex := Kd.C_drew Dx
  have Es := Kd.C_drew Ds
  have EB : Below w.heap.size w w5.drew := below_drew1 B5
  have HS := Aside0.mk hallS
  have HJ := Aside0.mk (And.intro jab (And.intro jabc (And.intro jno (And.intro sx (And.intro sb (And.intro hks hcnt))))))
  clear D0 D1 D2 Da Dx Ds B5 hallS jab jabc jno sx sb hks hcnt
  refine start_ (n := 42) (S := fun w' => Below w5.drew.heap.size w5.drew w') (ds := []) #[false, false, false, false, false, false, false, false, false, false, false, false, false, false, false, false, false, false, false, false, false, false, false, false, false, false, false, false, false, false, false, false, false, false, false, false, false, false, false, false, false, false] (by kernel_rfl) rfl rfl (Below.refl _ _) (fun hHeld => ?_)
  generalize w5.drew = w6 at E0 E1 E2 Ea Ex Es EB hHeld ⊢
  refine one_ (i := 0) (N := some 31) #[true, false, false, false, false, false, false, false, false, false, false, false, false, false, false, false, false, false, false, false, false, false, false, false, false, false, false, false, false, false, false, false, false, false, false, false, false, false, false, false, false, false] rfl rfl (by kernel_rfl) (by decide) (fun K hK => ?_)
  refine goes_ Try.func12 (by kernel_rfl) rfl #[] (by rfl) rfl rfl (by (try simp only [List.map_toArray, List.map_cons, List.map_nil]); first | done | rfl) ?_
  refine (scarflaw02_known.calls true w6 rfl).mono ?_
  rintro e w7 ⟨rfl, hb7⟩
  refine ⟨_, rfl, ?_⟩
  refine hK.out _ _ hb7 (fun hHeld => ?_)
  clear hK K
  refine norm_ (a' := ?_) ?_ ?_
  rotate_left
  · show Act.put _ (some 31) _ = _
    simp only [Act.put, List.setIfInBounds_toArray, List.set_cons_zero, List.set_cons_succ, i64_w, i32_w]
    rfl
  refine pure_ (i := 1) (N := some 32) (v := ?_) (a' := ?_) #[true, true, false, false, false, false, false, false, false, false, false, false, false, false, false, false, false, false, false, false, false, false, false, false, false, false, false, false, false, false, false, false, false, false, false, false, false, false, false, false, false, false] rfl rfl (by kernel_rfl) (fun _ _ _ h => h) (Or.inl ⟨by rfl, ?_⟩) ?_ ?_
  rotate_left
  · intro w'
    go_simp
    with_reducible rfl
  rotate_left
  · simp only [Act.put, List.setIfInBounds_toArray, List.set_cons_zero, List.set_cons_succ, i64_w, i32_w]
    rfl
  refine pure_ (i := 2) (N := some 33) (v := ?_) (a' := ?_) #[true, true, true, false, false, false, false, false, false, false, false, false, false, false, false, false, false, false, false, false, false, false, false, false, false, false, false, false, false, false, false, false, false, false, false, false, false, false, false, false, false, false] rfl rfl (by kernel_rfl) (fun _ _ _ h => h) (Or.inl ⟨by rfl, ?_⟩) ?_ ?_
  rotate_left
  · intro w'
    go_simp
    with_reducible rfl
  rotate_left
  · simp only [Act.put, List.setIfInBounds_toArray, List.set_cons_zero, List.set_cons_succ, i64_w, i32_w]
    rfl
  refine pure_ (i := 4) (N := some 35) (v := ?_) (a' := ?_) #[true, true, true, false, true, false, false, false, false, false, false, false, false, false, false, false, false, false, false, false, false, false, false, false, false, false, false, false, false, false, false, false, false, false, false, false, false, false, false, false, false, false] rfl rfl (by kernel_rfl) (fun _ _ _ h => h) (Or.inl ⟨by rfl, ?_⟩) ?_ ?_
  rotate_left
  · intro w'
    go_simp
    with_reducible rfl
  rotate_left
  · simp only [Act.put, List.setIfInBounds_toArray, List.set_cons_zero, List.set_cons_succ, i64_w, i32_w]
    rfl
  refine pure_ (i := 6) (N := some 37) (v := ?_) (a' := ?_) #[true, true, true, false, true, false, true, false, false, false, false, false, false, false, false, false, false, false, false, false, false, false, false, false, false, false, false, false, false, false, false, false, false, false, false, false, false, false, false, false, false, false] rfl rfl (by kernel_rfl) (fun _ _ _ h => h) (Or.inl ⟨by rfl, ?_⟩) ?_ ?_
  rotate_left
  · intro w'
    go_simp
    with_reducible rfl
  rotate_left
  · simp only [Act.put, List.setIfInBounds_toArray, List.set_cons_zero, List.set_cons_succ, i64_w, i32_w]
    rfl
  refine pure_ (i := 9) (N := some 40) (v := ?_) (a' := ?_) #[true, true, true, false, true, false, true, false, false, true, false, false, false, false, false, false, false, false, false, false, false, false, false, false, false, false, false, false, false, false, false, false, false, false, false, false, false, false, false, false, false, false] rfl rfl (by kernel_rfl) (fun _ _ _ h => h) (Or.inl ⟨by rfl, ?_⟩) ?_ ?_
  rotate_left
  · intro w'
    go_simp
    with_reducible rfl
  rotate_left
  · simp only [Act.put, List.setIfInBounds_toArray, List.set_cons_zero, List.set_cons_succ, i64_w, i32_w]
    rfl
  refine take_ (i := 3) (N := some 34) (v := ?_) (a' := ?_) #[true, true, true, true, true, false, true, false, false, true, false, false, false, false, false, false, false, false, false, false, false, false, false, false, false, false, false, false, false, false, false, false, false, false, false, false, false, false, false, false, false, false] rfl rfl (by kernel_rfl) (fun _ _ _ h => h) (Or.inl ⟨by rfl, ?_⟩) hHeld ?_ ?_
  rotate_left
  · intro w' s0
    have hz_ := Kd.C_string (P := Try.prog) (c := ca) Try.underlying22 Try.underlying5 Try.underlying9 (Kd.C_below Ea s0)
    go_simp
    with_reducible rfl
  rotate_left
  · simp only [Act.put, List.setIfInBounds_toArray, List.set_cons_zero, List.set_cons_succ, i64_w, i32_w]
    rfl
  refine take_ (i := 5) (N := some 36) (v := ?_) (a' := ?_) #[true, true, true, true, true, true, true, false, false, true, false, false, false, false, false, false, false, false, false, false, false, false, false, false, false, false, false, false, false, false, false, false, false, false, false, false, false, false, false, false, false, false] rfl rfl (by kernel_rfl) (fun _ _ _ h => h) (Or.inl ⟨by rfl, ?_⟩) hHeld ?_ ?_
  rotate_left
  · intro w' s0
    have hz_ := Kd.C_string (P := Try.prog) (c := c0) Try.underlying22 Try.underlying5 Try.underlying9 (Kd.C_below E0 s0)
    go_simp
    with_reducible rfl
  rotate_left
  · simp only [Act.put, List.setIfInBounds_toArray, List.set_cons_zero, List.set_cons_succ, i64_w, i32_w]
    rfl
  refine take_ (i := 7) (N := some 38) (v := ?_) (a' := ?_) #[true, true, true, true, true, true, true, true, false, true, false, false, false, false, false, false, false, false, false, false, false, false, false, false, false, false, false, false, false, false, false, false, false, false, false, false, false, false, false, false, false, false] rfl rfl (by kernel_rfl) (fun _ _ _ h => h) (Or.inl ⟨by rfl, ?_⟩) hHeld ?_ ?_
  rotate_left
  · intro w' s0
    have hz_ := Kd.C_string (P := Try.prog) (c := c1) Try.underlying22 Try.underlying5 Try.underlying9 (Kd.C_below E1 s0)
    go_simp
    with_reducible rfl
  rotate_left
  · simp only [Act.put, List.setIfInBounds_toArray, List.set_cons_zero, List.set_cons_succ, i64_w, i32_w]
    rfl
  refine take_ (i := 10) (N := some 41) (v := ?_) (a' := ?_) #[true, true, true, true, true, true, true, true, false, true, true, false, false, false, false, false, false, false, false, false, false, false, false, false, false, false, false, false, false, false, false, false, false, false, false, false, false, false, false, false, false, false] rfl rfl (by kernel_rfl) (fun _ _ _ h => h) (Or.inl ⟨by rfl, ?_⟩) hHeld ?_ ?_
  rotate_left
  · intro w' s0
    have hz_ := Kd.C_string (P := Try.prog) (c := c2) Try.underlying22 Try.underlying5 Try.underlying9 (Kd.C_below E2 s0)
    go_simp
    with_reducible rfl
  rotate_left
  · simp only [Act.put, List.setIfInBounds_toArray, List.set_cons_zero, List.set_cons_succ, i64_w, i32_w]
    rfl
  refine pure_ (i := 8) (N := some 39) (v := ?_) (a' := ?_) #[true, true, true, true, true, true, true, true, true, true, true, false, false, false, false, false, false, false, false, false, false, false, false, false, false, false, false, false, false, false, false, false, false, false, false, false, false, false, false, false, false, false] rfl rfl (by kernel_rfl) (fun _ _ _ h => h) (Or.inl ⟨by rfl, ?_⟩) ?_ ?_
  rotate_left
  · intro w'
    go_simp
    with_reducible rfl
  rotate_left
  · simp only [Act.put, List.setIfInBounds_toArray, List.set_cons_zero, List.set_cons_succ, i64_w, i32_w]
    rfl
  refine pure_ (i := 11) (N := some 42) (v := ?_) (a' := ?_) #[true, true, true, true, true, true, true, true, true, true, true, true, false, false, false, false, false, false, false, false, false, false, false, false, false, false, false, false, false, false, false, false, false, false, false, false, false, false, false, false, false, false] rfl rfl (by kernel_rfl) (fun _ _ _ h => h) (Or.inl ⟨by rfl, ?_⟩) ?_ ?_
  rotate_left
  · intro w'
    go_simp
    with_reducible rfl
  rotate_left
  · simp only [Act.put, List.setIfInBounds_toArray, List.set_cons_zero, List.set_cons_succ, i64_w, i32_w]
    rfl
  refine pure_ (i := 12) (N := some 43) (v := .bool true) (a' := ?_) #[true, true, true, true, true, true, true, true, true, true, true, true, true, false, false, false, false, false, false, false, false, false, false, false, false, false, false, false, false, false, false, false, false, false, false, false, false, false, false, false, false, false] rfl rfl (by kernel_rfl) (fun _ _ _ h => h) (Or.inl ⟨by rfl, ?_⟩) ?_ ?_
  · intro w'
    go_simp
    rw [HS.out]
  rotate_left
  · simp only [Act.put, List.setIfInBounds_toArray, List.set_cons_zero, List.set_cons_succ, i64_w, i32_w]
    rfl
  refine pure_ (i := 13) (N := some 44) (v := ?_) (a' := ?_) #[true, true, true, true, true, true, true, true, true, true, true, true, true, true, false, false, false, false, false, false, false, false, false, false, false, false, false, false, false, false, false, false, false, false, false, false, false, false, false, false, false, false] rfl rfl (by kernel_rfl) (fun _ _ _ h => h) (Or.inl ⟨by rfl, ?_⟩) ?_ ?_
  rotate_left
  · intro w'
    go_simp
    with_reducible rfl
  rotate_left
  · simp only [Act.put, List.setIfInBounds_toArray, List.set_cons_zero, List.set_cons_succ, i64_w, i32_w]
    rfl
  refine pure_ (i := 14) (N := some 45) (v := ?_) (a' := ?_) #[true, true, true, true, true, true, true, true, true, true, true, true, true, true, true, false, false, false, false, false, false, false, false, false, false, false, false, false, false, false, false, false, false, false, false, false, false, false, false, false, false, false] rfl rfl (by kernel_rfl) (fun _ _ _ h => h) (Or.inl ⟨by rfl, ?_⟩) ?_ ?_
  rotate_left
  · intro w'
    go_simp
    with_reducible rfl
  rotate_left
  · simp only [Act.put, List.setIfInBounds_toArray, List.set_cons_zero, List.set_cons_succ, i64_w, i32_w]
    rfl
  refine pure_ (i := 15) (N := some 46) (v := ?_) (a' := ?_) #[true, true, true, true, true, true, true, true, true, true, true, true, true, true, true, true, false, false, false, false, false, false, false, false, false, false, false, false, false, false, false, false, false, false, false, false, false, false, false, false, false, false] rfl rfl (by kernel_rfl) (fun _ _ _ h => h) (Or.inl ⟨by rfl, ?_⟩) ?_ ?_
  rotate_left
  · intro w'
    go_simp
    with_reducible rfl
  rotate_left
  · simp only [Act.put, List.setIfInBounds_toArray, List.set_cons_zero, List.set_cons_succ, i64_w, i32_w]
    rfl
  refine pure_ (i := 16) (N := some 47) (v := ?_) (a' := ?_) #[true, true, true, true, true, true, true, true, true, true, true, true, true, true, true, true, true, false, false, false, false, false, false, false, false, false, false, false, false, false, false, false, false, false, false, false, false, false, false, false, false, false] rfl rfl (by kernel_rfl) (fun _ _ _ h => h) (Or.inl ⟨by rfl, ?_⟩) ?_ ?_
  rotate_left
  · intro w'
    go_simp
    with_reducible rfl
  rotate_left
  · simp only [Act.put, List.setIfInBounds_toArray, List.set_cons_zero, List.set_cons_succ, i64_w, i32_w]
    rfl
  refine pure_ (i := 19) (N := some 50) (v := ?_) (a' := ?_) #[true, true, true, true, true, true, true, true, true, true, true, true, true, true, true, true, true, false, false, true, false, false, false, false, false, false, false, false, false, false, false, false, false, false, false, false, false, false, false, false, false, false] rfl rfl (by kernel_rfl) (fun _ _ _ h => h) (Or.inl ⟨by rfl, ?_⟩) ?_ ?_
  rotate_left
  · intro w'
    go_simp
    with_reducible rfl
  rotate_left
  · simp only [Act.put, List.setIfInBounds_toArray, List.set_cons_zero, List.set_cons_succ, i64_w, i32_w]
    rfl
  refine pure_ (i := 23) (N := some 54) (v := ?_) (a' := ?_) #[true, true, true, true, true, true, true, true, true, true, true, true, true, true, true, true, true, false, false, true, false, false, false, true, false, false, false, false, false, false, false, false, false, false, false, false, false, false, false, false, false, false] rfl rfl (by kernel_rfl) (fun _ _ _ h => h) (Or.inl ⟨by rfl, ?_⟩) ?_ ?_
  rotate_left
  · intro w'
    go_simp
    with_reducible rfl
  rotate_left
  · simp only [Act.put, List.setIfInBounds_toArray, List.set_cons_zero, List.set_cons_succ, i64_w, i32_w]
    rfl
  refine take_ (i := 24) (N := some 55) (v := ?_) (a' := ?_) #[true, true, true, true, true, true, true, true, true, true, true, true, true, true, true, true, true, false, false, true, false, false, false, true, true, false, false, false, false, false, false, false, false, false, false, false, false, false, false, false, false, false] rfl rfl (by kernel_rfl) (fun _ _ _ h => h) (Or.inl ⟨by rfl, ?_⟩) hHeld ?_ ?_
  rotate_left
  · intro w' s0
    have hz_ := Kd.C_string (P := Try.prog) (c := ca) Try.underlying22 Try.underlying5 Try.underlying9 (Kd.C_below Ea s0)
    go_simp
    with_reducible rfl
  rotate_left
  · simp only [Act.put, List.setIfInBounds_toArray, List.set_cons_zero, List.set_cons_succ, i64_w, i32_w]
    rfl
  have hS7 := hHeld
  refine one_ (i := 17) (N := some 48) #[true, true, true, true, true, true, true, true, true, true, true, true, true, true, true, true, true, true, false, true, false, false, false, true, true, false, false, false, false, false, false, false, false, false, false, false, false, false, false, false, false, false] rfl rfl (by kernel_rfl) (by decide) (fun K hK => ?_)
  refine value_ (w1 := ?_) (v := ?_) (by rfl) rfl ?_ ?_
  rotate_left 2
  · go_simp
    constructor
    · rfl
    · rfl
  refine hK.out _ _ (hHeld.alloc hHeld.size _) (fun hHeld => ?_)
  clear hK K
  refine norm_ (a' := ?_) ?_ ?_
  rotate_left
  · show Act.put _ (some 48) _ = _
    simp only [Act.put, List.setIfInBounds_toArray, List.set_cons_zero, List.set_cons_succ, i64_w, i32_w]
    rfl
  refine one_ (i := 18) (N := some 49) #[true, true, true, true, true, true, true, true, true, true, true, true, true, true, true, true, true, true, true, true, false, false, false, true, true, false, false, false, false, false, false, false, false, false, false, false, false, false, false, false, false, false] rfl rfl (by kernel_rfl) (by decide) (fun K hK => ?_)
  have lr := litRows w7 [(A0, c0, y0), (A1, c1, y1)] (by
    intro r hr
    simp only [List.mem_cons, List.not_mem_nil, or_false] at hr
    rcases hr with rfl | rfl
    · exact ⟨Kd.C_below E0 hS7, hK0⟩
    · exact ⟨Kd.C_below E1 hS7, hK1⟩) (by simp)
  refine goes_ Try.func17 (by kernel_rfl) rfl #[.slice (some ⟨w7.heap.size, 0, none⟩) 2 2] (by rfl) rfl rfl (by (try simp only [List.map_toArray, List.map_cons, List.map_nil]); first | done | rfl) ?_
  refine (line_Join.calls (some ⟨w7.heap.size, 0, none⟩) 2 [y0, y1] ab _ lr (by simp) HJ.out.1).mono ?_
  clear lr
  rintro e w8 ⟨v8, rfl, hR8, hb8⟩
  obtain ⟨A8, c8, rfl⟩ := Kd.R_slice hR8
  have F8 := (Kd.R_reads' hR8).2.2
  have k8 := (Kd.R_reads' hR8).2.1
  clear hR8
  refine ⟨_, rfl, ?_⟩
  refine hK.out _ _ (hHeld.trans (hb8.mono hHeld.size)) (fun hHeld => ?_)
  clear hb8 hS7
  clear hK K
  refine norm_ (a' := ?_) ?_ ?_
  rotate_left
  · show Act.put _ (some 49) _ = _
    simp only [Act.put, List.setIfInBounds_toArray, List.set_cons_zero, List.set_cons_succ, i64_w, i32_w]
    rfl
  have hS8 := hHeld
  refine one_ (i := 20) (N := some 51) #[true, true, true, true, true, true, true, true, true, true, true, true, true, true, true, true, true, true, true, true, true, false, false, true, true, false, false, false, false, false, false, false, false, false, false, false, false, false, false, false, false, false] rfl rfl (by kernel_rfl) (by decide) (fun K hK => ?_)
  refine value_ (w1 := ?_) (v := ?_) (by rfl) rfl ?_ ?_
  rotate_left 2
  · go_simp
    constructor
    · rfl
    · rfl
  refine hK.out _ _ (hHeld.alloc hHeld.size _) (fun hHeld => ?_)
  clear hK K
  refine norm_ (a' := ?_) ?_ ?_
  rotate_left
  · show Act.put _ (some 51) _ = _
    simp only [Act.put, List.setIfInBounds_toArray, List.set_cons_zero, List.set_cons_succ, i64_w, i32_w]
    rfl
  refine one_ (i := 21) (N := some 52) #[true, true, true, true, true, true, true, true, true, true, true, true, true, true, true, true, true, true, true, true, true, true, false, true, true, false, false, false, false, false, false, false, false, false, false, false, false, false, false, false, false, false] rfl rfl (by kernel_rfl) (by decide) (fun K hK => ?_)
  have lr := litRows w8 [(A8, c8, ab), (A2, c2, y2)] (by
    intro r hr
    simp only [List.mem_cons, List.not_mem_nil, or_false] at hr
    rcases hr with rfl | rfl
    · exact ⟨F8, k8⟩
    · exact ⟨Kd.C_below E2 hS8, hK2⟩) (by simp)
  refine goes_ Try.func17 (by kernel_rfl) rfl #[.slice (some ⟨w8.heap.size, 0, none⟩) 2 2] (by rfl) rfl rfl (by (try simp only [List.map_toArray, List.map_cons, List.map_nil]); first | done | rfl) ?_
  refine (line_Join.calls (some ⟨w8.heap.size, 0, none⟩) 2 [ab, y2] all _ lr (by simp) HJ.out.2.1).mono ?_
  clear lr
  rintro e w9 ⟨v9, rfl, hR9, hb9⟩
  obtain ⟨A9, c9, rfl⟩ := Kd.R_slice hR9
  have F9 := (Kd.R_reads' hR9).2.2
  clear hR9 F8 k8
  refine ⟨_, rfl, ?_⟩
  refine hK.out _ _ (hHeld.trans (hb9.mono hHeld.size)) (fun hHeld => ?_)
  clear hb9 hS8
  clear hK K
  refine norm_ (a' := ?_) ?_ ?_
  rotate_left
  · show Act.put _ (some 52) _ = _
    simp only [Act.put, List.setIfInBounds_toArray, List.set_cons_zero, List.set_cons_succ, i64_w, i32_w]
    rfl
  refine one_ (i := 22) (N := some 53) #[true, true, true, true, true, true, true, true, true, true, true, true, true, true, true, true, true, true, true, true, true, true, true, true, true, false, false, false, false, false, false, false, false, false, false, false, false, false, false, false, false, false] rfl rfl (by kernel_rfl) (by decide) (fun K hK => ?_)
  have hcv9 := Kd.C_string (P := Try.prog) (c := c9) Try.underlying22 Try.underlying5 Try.underlying9 F9
  refine value_ (w1 := ?_) (v := ?_) (by rfl) rfl ?_ ?_
  rotate_left 2
  · go_simp
    constructor
    · rfl
    · rfl
  clear hcv9
  refine hK.out _ _ hHeld (fun hHeld => ?_)
  clear hK K
  refine norm_ (a' := ?_) ?_ ?_
  rotate_left
  · show Act.put _ (some 53) _ = _
    simp only [Act.put, List.setIfInBounds_toArray, List.set_cons_zero, List.set_cons_succ, i64_w, i32_w]
    rfl
  refine pure_ (i := 25) (N := some 56) (v := .bool true) (a' := ?_) #[true, true, true, true, true, true, true, true, true, true, true, true, true, true, true, true, true, true, true, true, true, true, true, true, true, true, false, false, false, false, false, false, false, false, false, false, false, false, false, false, false, false] rfl rfl (by kernel_rfl) (fun _ _ _ h => h) (Or.inl ⟨by rfl, ?_⟩) ?_ ?_
  · intro w'
    go_simp
  rotate_left
  · simp only [Act.put, List.setIfInBounds_toArray, List.set_cons_zero, List.set_cons_succ, i64_w, i32_w]
    rfl
  refine pure_ (i := 26) (N := some 57) (v := ?_) (a' := ?_) #[true, true, true, true, true, true, true, true, true, true, true, true, true, true, true, true, true, true, true, true, true, true, true, true, true, true, true, false, false, false, false, false, false, false, false, false, false, false, false, false, false, false] rfl rfl (by kernel_rfl) (fun _ _ _ h => h) (Or.inl ⟨by rfl, ?_⟩) ?_ ?_
  rotate_left
  · intro w'
    go_simp
    with_reducible rfl
  rotate_left
  · simp only [Act.put, List.setIfInBounds_toArray, List.set_cons_zero, List.set_cons_succ, i64_w, i32_w]
    rfl
  refine pure_ (i := 27) (N := some 58) (v := ?_) (a' := ?_) #[true, true, true, true, true, true, true, true, true, true, true, true, true, true, true, true, true, true, true, true, true, true, true, true, true, true, true, true, false, false, false, false, false, false, false, false, false, false, false, false, false, false] rfl rfl (by kernel_rfl) (fun _ _ _ h => h) (Or.inl ⟨by rfl, ?_⟩) ?_ ?_
  rotate_left
  · intro w'
    go_simp
    with_reducible rfl
  rotate_left
  · simp only [Act.put, List.setIfInBounds_toArray, List.set_cons_zero, List.set_cons_succ, i64_w, i32_w]
    rfl
  refine one_ (i := 28) (N := some 59) #[true, true, true, true, true, true, true, true, true, true, true, true, true, true, true, true, true, true, true, true, true, true, true, true, true, true, true, true, true, false, false, false, false, false, false, false, false, false, false, false, false, false] rfl rfl (by kernel_rfl) (by decide) (fun K hK => ?_)
  refine goes_ Try.func17 (by kernel_rfl) rfl #[.slice none 0 0] (by rfl) rfl rfl (by (try simp only [List.map_toArray, List.map_cons, List.map_nil]); first | done | rfl) ?_
  refine (line_Join.calls none 0 [] [] _ (Kd.C_nil _ _) (by simp) HJ.out.2.2.1).mono ?_
  rintro e w10 ⟨v10, rfl, hR10, hb10⟩
  obtain ⟨A10, c10, rfl⟩ := Kd.R_slice hR10
  rw [List.length_nil]
  refine ⟨_, rfl, ?_⟩
  refine hK.out _ _ (hHeld.trans (hb10.mono hHeld.size)) (fun hHeld => ?_)
  clear hb10 hR10
  clear hK K
  refine norm_ (a' := ?_) ?_ ?_
  rotate_left
  · show Act.put _ (some 59) _ = _
    simp only [Act.put, List.setIfInBounds_toArray, List.set_cons_zero, List.set_cons_succ, i64_w, i32_w]
    rfl
  refine pure_ (i := 29) (N := some 60) (v := ?_) (a' := ?_) #[true, true, true, true, true, true, true, true, true, true, true, true, true, true, true, true, true, true, true, true, true, true, true, true, true, true, true, true, true, true, false, false, false, false, false, false, false, false, false, false, false, false] rfl rfl (by kernel_rfl) (fun _ _ _ h => h) (Or.inl ⟨by rfl, ?_⟩) ?_ ?_
  rotate_left
  · intro w'
    go_simp
    with_reducible rfl
  rotate_left
  · simp only [Act.put, List.setIfInBounds_toArray, List.set_cons_zero, List.set_cons_succ, i64_w, i32_w]
    rfl
  refine pure_ (i := 30) (N := some 61) (v := .bool true) (a' := ?_) #[true, true, true, true, true, true, true, true, true, true, true, true, true, true, true, true, true, true, true, true, true, true, true, true, true, true, true, true, true, true, true, false, false, false, false, false, false, false, false, false, false, false] rfl rfl (by kernel_rfl) (fun _ _ _ h => h) (Or.inl ⟨by rfl, ?_⟩) ?_ ?_
  · intro w'
    go_simp
  rotate_left
  · simp only [Act.put, List.setIfInBounds_toArray, List.set_cons_zero, List.set_cons_succ, i64_w, i32_w]
    rfl
  refine pure_ (i := 31) (N := some 62) (v := ?_) (a' := ?_) #[true, true, true, true, true, true, true, true, true, true, true, true, true, true, true, true, true, true, true, true, true, true, true, true, true, true, true, true, true, true, true, true, false, false, false, false, false, false, false, false, false, false] rfl rfl (by kernel_rfl) (fun _ _ _ h => h) (Or.inl ⟨by rfl, ?_⟩) ?_ ?_
  rotate_left
  · intro w'
    go_simp
    with_reducible rfl
  rotate_left
  · simp only [Act.put, List.setIfInBounds_toArray, List.set_cons_zero, List.set_cons_succ, i64_w, i32_w]
    rfl
  refine pure_ (i := 32) (N := some 63) (v := ?_) (a' := ?_) #[true, true, true, true, true, true, true, true, true, true, true, true, true, true, true, true, true, true, true, true, true, true, true, true, true, true, true, true, true, true, true, true, true, false, false, false, false, false, false, false, false, false] rfl rfl (by kernel_rfl) (fun _ _ _ h => h) (Or.inl ⟨by rfl, ?_⟩) ?_ ?_
  rotate_left
  · intro w'
    go_simp
    with_reducible rfl
  rotate_left
  · simp only [Act.put, List.setIfInBounds_toArray, List.set_cons_zero, List.set_cons_succ, i64_w, i32_w]
    rfl
  refine pure_ (i := 33) (N := some 64) (v := ?_) (a' := ?_) #[true, true, true, true, true, true, true, true, true, true, true, true, true, true, true, true, true, true, true, true, true, true, true, true, true, true, true, true, true, true, true, true, true, true, false, false, false, false, false, false, false, false] rfl rfl (by kernel_rfl) (fun _ _ _ h => h) (Or.inl ⟨by rfl, ?_⟩) ?_ ?_
  rotate_left
  · intro w'
    go_simp
    with_reducible rfl
  rotate_left
  · simp only [Act.put, List.setIfInBounds_toArray, List.set_cons_zero, List.set_cons_succ, i64_w, i32_w]
    rfl
  refine pure_ (i := 34) (N := some 65) (v := ?_) (a' := ?_) #[true, true, true, true, true, true, true, true, true, true, true, true, true, true, true, true, true, true, true, true, true, true, true, true, true, true, true, true, true, true, true, true, true, true, true, false, false, false, false, false, false, false] rfl rfl (by kernel_rfl) (fun _ _ _ h => h) (Or.inl ⟨by rfl, ?_⟩) ?_ ?_
  rotate_left
  · intro w'
    go_simp
    with_reducible rfl
  rotate_left
  · simp only [Act.put, List.setIfInBounds_toArray, List.set_cons_zero, List.set_cons_succ, i64_w, i32_w]
    rfl
  refine pure_ (i := 36) (N := some 67) (v := ?_) (a' := ?_) #[true, true, true, true, true, true, true, true, true, true, true, true, true, true, true, true, true, true, true, true, true, true, true, true, true, true, true, true, true, true, true, true, true, true, true, false, true, false, false, false, false, false] rfl rfl (by kernel_rfl) (fun _ _ _ h => h) (Or.inl ⟨by rfl, ?_⟩) ?_ ?_
  rotate_left
  · intro w'
    go_simp
    with_reducible rfl
  rotate_left
  · simp only [Act.put, List.setIfInBounds_toArray, List.set_cons_zero, List.set_cons_succ, i64_w, i32_w]
    rfl
  refine one_ (i := 35) (N := some 66) #[true, true, true, true, true, true, true, true, true, true, true, true, true, true, true, true, true, true, true, true, true, true, true, true, true, true, true, true, true, true, true, true, true, true, true, true, true, false, false, false, false, false] rfl rfl (by kernel_rfl) (by decide) (fun K hK => ?_)
  have hS10 := hHeld
  refine goes_ Try.func9 (by kernel_rfl) rfl #[.slice Ax x.length cx] (by rfl) rfl rfl (by (try simp only [List.map_toArray, List.map_cons, List.map_nil]); first | done | rfl) ?_
  refine (line_Split.calls Ax cx x _ _ (Kd.C_below Ex hHeld) kx HJ.out.2.2.2.1).mono ?_
  rintro e w11 ⟨v11, rfl, hS11, hb11⟩
  obtain ⟨A11, c11, rfl⟩ := Kd.S_slice hS11
  refine ⟨_, rfl, ?_⟩
  refine hK.out _ _ (hHeld.trans (hb11.mono hHeld.size)) (fun hHeld => ?_)
  clear hK K
  refine norm_ (a' := ?_) ?_ ?_
  rotate_left
  · show Act.put _ (some 66) _ = _
    simp only [Act.put, List.setIfInBounds_toArray, List.set_cons_zero, List.set_cons_succ, i64_w, i32_w]
    rfl
  refine one_ (i := 37) (N := some 68) #[true, true, true, true, true, true, true, true, true, true, true, true, true, true, true, true, true, true, true, true, true, true, true, true, true, true, true, true, true, true, true, true, true, true, true, true, true, true, false, false, false, false] rfl rfl (by kernel_rfl) (by decide) (fun K hK => ?_)
  refine goes_ Try.func9 (by kernel_rfl) rfl #[.slice A1 y1.length c1] (by rfl) rfl rfl (by (try simp only [List.map_toArray, List.map_cons, List.map_nil]); first | done | rfl) ?_
  refine (line_Split.calls A1 c1 y1 _ _ (Kd.C_below E1 hHeld) hK1 HJ.out.2.2.2.2.1).mono ?_
  rintro e w12 ⟨v12, rfl, hS12, hb12⟩
  obtain ⟨A12, c12, rfl⟩ := Kd.S_slice hS12
  refine ⟨_, rfl, ?_⟩
  refine hK.out _ _ (hHeld.trans (hb12.mono hHeld.size)) (fun hHeld => ?_)
  clear hK K
  refine norm_ (a' := ?_) ?_ ?_
  rotate_left
  · show Act.put _ (some 68) _ = _
    simp only [Act.put, List.setIfInBounds_toArray, List.set_cons_zero, List.set_cons_succ, i64_w, i32_w]
    rfl
  have hlt11 := Kd.S_lt hS11
  have hcn := HJ.out.2.2.2.2.2.2
  have hs11 := hb11.size
  have hs12 := hb12.size
  refine one_ (i := 38) (N := some 69) #[true, true, true, true, true, true, true, true, true, true, true, true, true, true, true, true, true, true, true, true, true, true, true, true, true, true, true, true, true, true, true, true, true, true, true, true, true, true, true, false, false, false] rfl rfl (by kernel_rfl) (by decide) (fun K hK => ?_)
  refine Kd.N_append_rows_step (Kd.slice 5 (Kd.int .u8)) (w0 := w10) w10.heap.size (by rfl) (.tmp 66) (.tmp 68) 24 22 (.slice none 0 0) 24 rfl Try.underlying24 infoL22 rfl (by decide) (by omega) (.slice A11 (splitL x).length c11) (splitL x) (splitL y1) A12 (splitL y1).length c12 (fun _ => True) (fun k => w11.heap.size ≤ k) rfl rfl (Kd.S_N (Kd.S_below hS11 hb12)) (Kd.S_F (Kd.S_mono (Kd.S_bound hS12) (fun k hk => hk.2.1))) (fun k hk => ⟨trivial, fun e => by have := hlt11 k e.symm; omega⟩) (fun _ _ => trivial) (hb11.trans (hb12.mono hs11)) (by omega) (by omega) ?_
  intro v13 w13 hN13 hb13 hg13 hat13
  obtain ⟨A13, c13, rfl⟩ := Kd.N_slice hN13
  have F13 := (Kd.N_reads' hN13).2.2
  have k13 := (Kd.N_reads' hN13).2.1
  refine hK.out _ _ ((show Below w6.heap.size w6 w10 from hS10).trans (hb13.mono hS10.size)) (fun hHeld => ?_)
  clear hS11 hS12 hN13 hg13 hat13 hb11 hb12 hb13
  clear hK K
  refine norm_ (a' := ?_) ?_ ?_
  rotate_left
  · show Act.put _ (some 69) _ = _
    simp only [Act.put, List.setIfInBounds_toArray, List.set_cons_zero, List.set_cons_succ, i64_w, i32_w]
    rfl
  refine one_ (i := 39) (N := some 70) #[true, true, true, true, true, true, true, true, true, true, true, true, true, true, true, true, true, true, true, true, true, true, true, true, true, true, true, true, true, true, true, true, true, true, true, true, true, true, true, true, false, false] rfl rfl (by kernel_rfl) (by decide) (fun K hK => ?_)
  refine goes_ Try.func13 (by kernel_rfl) rfl #[.slice As (splitL xy).length cs, .slice A13 (splitL x ++ splitL y1).length c13] (by rfl) rfl rfl (by (try simp only [List.map_toArray, List.map_cons, List.map_nil]); first | done | rfl) ?_
  refine (scarfref02_Same.calls ks As cs (splitL xy) A13 c13 (splitL x ++ splitL y1) true _ (Kd.C_below Es hHeld) ks_ F13 k13 HJ.out.2.2.2.2.2.1).mono ?_
  rintro e w14 ⟨rfl, nd, rfl⟩
  refine ⟨_, rfl, ?_⟩
  refine hK.out _ _ (pw_below_drewN hHeld nd) (fun hHeld => ?_)
  clear hK K
  refine norm_ (a' := ?_) ?_ ?_
  rotate_left
  · show Act.put _ (some 70) _ = _
    simp only [Act.put, List.setIfInBounds_toArray, List.set_cons_zero, List.set_cons_succ, i64_w, i32_w]
    rfl
  refine pure_ (i := 40) (N := some 71) (v := ?_) (a' := ?_) #[true, true, true, true, true, true, true, true, true, true, true, true, true, true, true, true, true, true, true, true, true, true, true, true, true, true, true, true, true, true, true, true, true, true, true, true, true, true, true, true, true, false] rfl rfl (by kernel_rfl) (fun _ _ _ h => h) (Or.inl ⟨by rfl, ?_⟩) ?_ ?_
  rotate_left
  · intro w'
    go_simp
    with_reducible rfl
  rotate_left
  · simp only [Act.put, List.setIfInBounds_toArray, List.set_cons_zero, List.set_cons_succ, i64_w, i32_w]
    rfl
  refine pure_ (i := 41) (N := some 6) (v := ?_) (a' := ?_) #[true, true, true, true, true, true, true, true, true, true, true, true, true, true, true, true, true, true, true, true, true, true, true, true, true, true, true, true, true, true, true, true, true, true, true, true, true, true, true, true, true, true] rfl rfl (by kernel_rfl) (fun _ _ _ h => h) (Or.inl ⟨by rfl, ?_⟩) ?_ ?_
  rotate_left
  · intro w'
    go_simp
    with_reducible rfl
  rotate_left
  · simp only [Act.put, List.setIfInBounds_toArray, List.set_cons_zero, List.set_cons_succ, i64_w, i32_w]
    rfl
  refine done_ (by kernel_rfl) ?_
  go_wp2
  go_ret
  exact ⟨rfl, EB.trans (hHeld.mono EB.size)⟩
end Go.Proofs.Ytdekcmaakdpmaaa.Q
