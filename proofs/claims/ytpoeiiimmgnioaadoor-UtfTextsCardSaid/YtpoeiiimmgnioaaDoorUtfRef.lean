/- Plain lists: the document's decoder tells what the library's tells; a sign's bytes by both. -/
import Derived.Test.YtpoeiiimmgnioaaDoorUtfPlain
import Derived.Test.YtpoeiiimmgnioaaDoorQ1
namespace Go.Proofs.YtpoeiiimmgnioaaDoor.Ut
open Go.RowKit Go.Proofs.YtpoeiiimmgnioaaDoor.Q Go.Proofs.YtpoeiiimmgnioaaDoorW.PrintWords Go.Proofs.YtpoeiiimmgnioaaDoorW.PrintLast Go.Proofs.YtpoeiiimmgnioaaDoorW.PrintMore

theorem Bs_of {l : List Int} (h : ∀ x ∈ l, (Lit.int .u8 x).wf = true) : Bs l := by
  intro x hx
  have := h x hx
  simp [Lit.wf, IntKind.min, IntKind.max, IntKind.signed, IntKind.bits] at this
  omega
theorem known01 : scarflaw01_known.f = some true := by decide +kernel
theorem w64 {x : Int} (h0 : -9223372036854775808 ≤ x) (h : x < 9223372036854775808) : wrap64 x = x := by unfold wrap64; omega

theorem sign_yes {n : Int} (h : Sg n) : scarfref01_sign.f n = some true := by
  obtain ⟨h0, h1, h2⟩ := h
  unfold scarfref01_sign.f
  rw [if_pos (by omega), if_pos (by omega)]
  by_cases c : n ≥ 55296
  · rw [if_pos c, decide_eq_false (by omega)]; rfl
  · rw [if_neg c]; rfl
theorem sign_no {n : Int} (h : ¬ Sg n) : scarfref01_sign.f n = some false := by
  unfold Sg at h
  unfold scarfref01_sign.f
  by_cases c0 : n ≥ 0
  · rw [if_pos c0]
    by_cases c1 : n ≤ 1114111
    · rw [if_pos c1, if_pos (by omega), decide_eq_true (by omega)]; rfl
    · rw [if_neg c1]
  · rw [if_neg c0]
theorem refBytes_no {n : Int} (h : ¬ Sg n) : scarfref01_Bytes.f n = some ([], 1) := by
  unfold scarfref01_Bytes.f
  rw [sign_no h]; rfl
theorem refBytes_yes {n : Int} (h : Sg n) : scarfref01_Bytes.f n = some (Enc n, 0) := by
  unfold scarfref01_Bytes.f
  rw [sign_yes h, Option.bind_some, if_pos rfl]
  have hh := h
  obtain ⟨h0, h1, h2⟩ := hh
  simp only [Int.tdiv_eq_ediv_of_nonneg h0, Int.tmod_eq_emod_of_nonneg h0]
  rcases enc_cases h with ⟨c, e⟩ | ⟨c, d, e⟩ | ⟨c, d, e⟩ | ⟨c, e⟩
  · rw [if_pos c, e]
    have a1 : n % 256 = n := by omega
    rw [a1]
  · rw [if_neg (by omega), if_pos d, e]
    have a1 : wrap64 (192 + wrap64 (n / 64)) % 256 = 192 + n / 64 := by rw [w64 (x := n / 64) (by omega) (by omega), w64 (by omega) (by omega)]; omega
    have a2 : wrap64 (128 + n % 64) % 256 = 128 + n % 64 := by rw [w64 (by omega) (by omega)]; omega
    rw [a1, a2]
  · rw [if_neg (by omega), if_neg (by omega), if_pos d, e]
    have a0 : wrap64 (n / 64) = n / 64 := w64 (by omega) (by omega)
    have a1 : wrap64 (224 + wrap64 (n / 4096)) % 256 = 224 + n / 4096 := by rw [w64 (x := n / 4096) (by omega) (by omega), w64 (by omega) (by omega)]; omega
    have a2 : wrap64 (128 + n % 64) % 256 = 128 + n % 64 := by rw [w64 (by omega) (by omega)]; omega
    have a3 : wrap64 (128 + n / 64 % 64) % 256 = 128 + n / 64 % 64 := by rw [w64 (by omega) (by omega)]; omega
    rw [a0, Int.tmod_eq_emod_of_nonneg (by omega), a1, a2, a3]
  · rw [if_neg (by omega), if_neg (by omega), if_neg (by omega), e]
    have a0 : wrap64 (n / 64) = n / 64 := w64 (by omega) (by omega)
    have b0 : wrap64 (n / 4096) = n / 4096 := w64 (by omega) (by omega)
    have a1 : wrap64 (240 + wrap64 (n / 262144)) % 256 = 240 + n / 262144 := by rw [w64 (x := n / 262144) (by omega) (by omega), w64 (by omega) (by omega)]; omega
    have a2 : wrap64 (128 + n % 64) % 256 = 128 + n % 64 := by rw [w64 (by omega) (by omega)]; omega
    have a3 : wrap64 (128 + n / 64 % 64) % 256 = 128 + n / 64 % 64 := by rw [w64 (by omega) (by omega)]; omega
    have a4 : wrap64 (128 + n / 4096 % 64) % 256 = 128 + n / 4096 % 64 := by rw [w64 (by omega) (by omega)]; omega
    rw [a0, b0, Int.tmod_eq_emod_of_nonneg (by omega), Int.tmod_eq_emod_of_nonneg (by omega), a1, a2, a3, a4]
theorem bytes_no {n : Int} (h : ¬ Sg n) : utf_Bytes.f n = some ([], 1) := by
  unfold Sg at h
  unfold utf_Bytes.f
  by_cases c0 : n < 0
  · rw [if_pos c0]
  · rw [if_neg c0]
    by_cases c1 : n > 1114111
    · rw [if_pos c1]
    · rw [if_neg c1, if_pos (by omega)]
theorem bytes_yes {n : Int} (h : Sg n) : utf_Bytes.f n = some (Enc n, 0) := by
  obtain ⟨h0, h1, h2⟩ := h
  unfold utf_Bytes.f
  rw [if_neg (by omega), if_neg (by omega), if_neg h2]; rfl

theorem str_inj : ∀ {a b : List Int}, Bs a → Bs b → ((strOfNums a).toList = (strOfNums b).toList ↔ a = b) := by
  intro a b ha hb
  rw [ByteArray.toList_eq, ByteArray.toList_eq, strOfNums_data, strOfNums_data]
  constructor
  · intro h
    induction a generalizing b with
    | nil => cases b with
      | nil => rfl
      | cons y b => simp at h
    | cons x a ih => cases b with
      | nil => simp at h
      | cons y b =>
        simp only [List.map_cons, List.cons.injEq] at h
        have hx := ha.head
        have hy := hb.head
        have e : x.toNat % 256 = y.toNat % 256 := by
          have := congrArg UInt8.toNat h.1
          simpa using this
        have e2 : x = y := by omega
        rw [e2, ih ha.tail hb.tail h.2]
  · rintro rfl; rfl

/-! ### the document's Next -/
def cand (l : List Int) : Nat → Int
  | 1 => rd l 0
  | 2 => 64 * (rd l 0 % 32) + rd l 1 % 64
  | 3 => 64 * (64 * (rd l 0 % 16) + rd l 1 % 64) + rd l 2 % 64
  | 4 => 64 * (64 * (64 * (rd l 0 % 8) + rd l 1 % 64) + rd l 2 % 64) + rd l 3 % 64
  | _ => 0
theorem rd_b {l : List Int} (hb : Bs l) (i : Int) : 0 ≤ rd l i ∧ rd l i < 256 := by
  have := g_lt hb i.toNat
  unfold rd
  rw [List.getD_eq_getElem?_getD]
  by_cases c : i.toNat < l.length
  · rw [List.getElem?_eq_getElem c]
    exact hb _ (List.getElem_mem c)
  · rw [List.getElem?_eq_none (by omega)]; decide
def Ok (l : List Int) (j : Nat) : Prop := Sg (cand l j) ∧ Enc (cand l j) = l.take j
def tail (l : List Int) (j : Nat) (c : Int) (k : Nat) : Option (Int × Int) :=
  (scarfref01_Bytes.f c).bind fun bt118 => (if bt118.2 = 0 then (if 0 ≤ (j : Int) then (if (j : Int) ≤ (l.length : Int) then (if (strOfNums bt118.1).toList = (strOfNums (l.take (j : Int).toNat)).toList then (some (c, (j : Int))) else (scarfref01_Next.l0 k l (wrap64 ((j : Int) + 1)))) else (none)) else (none)) else (scarfref01_Next.l0 k l (wrap64 ((j : Int) + 1))))
theorem l1_end (l : List Int) (j : Nat) (c x6 : Int) (h : ¬ x6 < (j : Int)) (k : Nat) : scarfref01_Next.l1 (k + 1) l j c x6 = tail l j c k := by
  rw [scarfref01_Next.l1, if_neg h]; rfl
theorem l1_go {l : List Int} (hb : Bs l) (j : Nat) (c : Int) (i : Nat) (h : i < j) (hj : j ≤ l.length) (hi : i < 10) (c0 : 0 ≤ c) (c1 : c < 1073741824) (k : Nat) :
    scarfref01_Next.l1 (k + 1) l j c i = scarfref01_Next.l1 k l j (64 * c + rd l i % 64) ((i + 1 : Nat) : Int) := by
  have := rd_b hb i
  rw [scarfref01_Next.l1, if_pos (by omega), if_pos (by omega), if_pos (by omega), w64 (x := rd l i) (by omega) (by omega), Int.tmod_eq_emod_of_nonneg (by omega), w64 (x := 64 * c) (by omega) (by omega), w64 (x := 64 * c + _) (by omega) (by omega),
    w64 (x := (i : Int) + 1) (by omega) (by omega)]
  rfl
theorem head_go {l : List Int} (j : Nat) (hj : j ≤ 4) (hl : j ≤ l.length) (h1 : 1 ≤ j) (k : Nat) : scarfref01_Next.l0 (k + 2) l j = if (j : Int) = 2 then (scarfref01_Next.j2 k l j (Int.tmod (wrap64 (rd l 0)) 32)) else (scarfref01_Next.j2 k l j (wrap64 (rd l 0))) := by
  rw [scarfref01_Next.l0, if_pos (by omega), scarfref01_Next.j1, decide_eq_true (by omega), if_pos rfl, if_pos (by omega)]
theorem stop_go {l : List Int} (j : Nat) (h : 4 < j ∨ l.length < j) (k : Nat) : scarfref01_Next.l0 (k + 2) l j = some (-1, 0) := by
  rw [scarfref01_Next.l0]
  by_cases c : (j : Int) ≤ 4
  · rw [if_pos c, scarfref01_Next.j1, decide_eq_false (by omega), if_neg (by simp)]
  · rw [if_neg c, scarfref01_Next.j1, if_neg (by simp)]

theorem round_go {l : List Int} (hb : Bs l) {j : Nat} (h1 : 1 ≤ j) (h4 : j ≤ 4) (hl : j ≤ l.length) (k : Nat) : scarfref01_Next.l0 (k + 5 + j) l j = tail l j (cand l j) k := by
  have b0 := rd_b hb 0
  have b1 := rd_b hb 1
  have b2 := rd_b hb 2
  have b3 := rd_b hb 3
  have e0 : wrap64 (rd l 0) = rd l 0 := w64 (by omega) (by omega)
  have t : ∀ q : Int, Int.tmod (rd l 0) q = rd l 0 % q := fun q => Int.tmod_eq_emod_of_nonneg b0.1
  obtain rfl | rfl | rfl | rfl : j = 1 ∨ j = 2 ∨ j = 3 ∨ j = 4 := by omega
  · rw [show k + 5 + 1 = (k + 4) + 2 by omega, head_go 1 (by omega) hl (by omega), if_neg (by omega), scarfref01_Next.j2, if_neg (by omega), scarfref01_Next.j3, if_neg (by omega), scarfref01_Next.j4, e0]
    exact l1_end l 1 _ 1 (by omega) k
  · rw [show k + 5 + 2 = (k + 5) + 2 by omega, head_go 2 (by omega) hl (by omega), if_pos (by omega), scarfref01_Next.j2, if_neg (by omega), scarfref01_Next.j3, if_neg (by omega), scarfref01_Next.j4, e0, t]
    have := l1_go hb 2 (rd l 0 % 32) 1 (by omega) hl (by omega) (by omega) (by omega) (k + 1)
    refine this.trans ?_
    exact l1_end l 2 _ _ (by omega) k
  · rw [show k + 5 + 3 = (k + 6) + 2 by omega, head_go 3 (by omega) hl (by omega), if_neg (by omega), scarfref01_Next.j2, if_pos (by omega), scarfref01_Next.j3, if_neg (by omega), scarfref01_Next.j4, e0, t]
    have := l1_go hb 3 (rd l 0 % 16) 1 (by omega) hl (by omega) (by omega) (by omega) (k + 2)
    refine this.trans ?_
    refine (l1_go hb 3 _ 2 (by omega) hl (by omega) (by omega) (by omega) (k + 1)).trans ?_
    exact l1_end l 3 _ _ (by omega) k
  · rw [show k + 5 + 4 = (k + 7) + 2 by omega, head_go 4 (by omega) hl (by omega), if_neg (by omega), scarfref01_Next.j2, if_neg (by omega), scarfref01_Next.j3, if_pos (by omega), scarfref01_Next.j4, e0, t]
    have := l1_go hb 4 (rd l 0 % 8) 1 (by omega) hl (by omega) (by omega) (by omega) (k + 3)
    refine this.trans ?_
    refine (l1_go hb 4 _ 2 (by omega) hl (by omega) (by omega) (by omega) (k + 2)).trans ?_
    refine (l1_go hb 4 _ 3 (by omega) hl (by omega) (by omega) (by omega) (k + 1)).trans ?_
    exact l1_end l 4 _ _ (by omega) k
theorem tail_hit {l : List Int} {j : Nat} (hb : Bs l) (hl : j ≤ l.length) (h : Ok l j) (k : Nat) : tail l j (cand l j) k = some (cand l j, (j : Int)) := by
  unfold tail
  rw [refBytes_yes h.1, Option.bind_some, if_pos rfl, if_pos (by omega), if_pos (by omega), if_pos]
  rw [str_inj (Bs.enc h.1) (hb.take _)]
  exact h.2
theorem tail_miss {l : List Int} {j : Nat} (hb : Bs l) (hj : j ≤ 4) (hl : j ≤ l.length) (h : ¬ Ok l j) (k : Nat) : tail l j (cand l j) k = scarfref01_Next.l0 k l ((j + 1 : Nat) : Int) := by
  have e : wrap64 ((j : Int) + 1) = ((j + 1 : Nat) : Int) := by rw [w64 (by omega) (by omega)]; omega
  unfold tail
  by_cases c : Sg (cand l j)
  · rw [refBytes_yes c, Option.bind_some, if_pos rfl, if_pos (by omega), if_pos (by omega), if_neg, e]
    rw [str_inj (Bs.enc c) (hb.take _)]
    intro q
    exact h ⟨c, q⟩
  · rw [refBytes_no c, Option.bind_some, if_neg (by simp), e]
theorem Ev.steps {α : Type} {g f : Nat → Option α} {r : α} (n : Nat) (h : ∀ k, g (k + n) = f k) (k : Ev f r) : Ev g r := by
  obtain ⟨K, k⟩ := k
  refine ⟨K + n, fun m hm => ?_⟩
  obtain ⟨q, rfl⟩ : ∃ q, m = q + n := ⟨m - n, by omega⟩
  rw [h]
  exact k q (by omega)
theorem ref_rounds {l : List Int} (hb : Bs l) {r : Int × Int} (hit : ∀ j, 1 ≤ j → j ≤ 4 → j ≤ l.length → Ok l j → r = (cand l j, (j : Int)))
    (miss : (∀ j, 1 ≤ j → j ≤ 4 → j ≤ l.length → ¬ Ok l j) → r = (-1, 0)) : Ev (fun k => scarfref01_Next.f k l) r := by
  have P : ∀ d j : Nat, 1 ≤ j → 5 - j ≤ d → (∀ i, 1 ≤ i → i < j → i ≤ 4 → i ≤ l.length → ¬ Ok l i) → Ev (fun k => scarfref01_Next.l0 k l j) r := by
    intro d
    induction d with
    | zero =>
      intro j h1 hd hno
      rw [miss (fun i a b c => hno i a (by omega) b c)]
      exact Ev.steps 2 (stop_go j (by omega)) (Ev.now _)
    | succ d ih =>
      intro j h1 hd hno
      by_cases c : j ≤ 4 ∧ j ≤ l.length
      · by_cases o : Ok l j
        · rw [hit j h1 c.1 c.2 o]
          exact Ev.steps (5 + j) (fun k => ((show k + (5 + j) = k + 5 + j by omega) ▸ round_go hb h1 c.1 c.2 k).trans (tail_hit hb c.2 o k)) (Ev.now _)
        · refine Ev.steps (5 + j) (fun k => ((show k + (5 + j) = k + 5 + j by omega) ▸ round_go hb h1 c.1 c.2 k).trans (tail_miss hb c.1 c.2 o k)) (ih (j + 1) (by omega) (by omega) ?_)
          intro i a b c' d'
          by_cases e : i = j
          · subst e; exact o
          · exact hno i a (by omega) c' d'
      · rw [miss (fun i a b c' => hno i a (by omega) b c')]
        exact Ev.steps 2 (stop_go j (by omega)) (Ev.now _)
  exact P 4 1 (by omega) (by omega) (fun i a b _ _ => by omega)
theorem cand_enc {n : Int} (rest : List Int) (h : Sg n) : cand (Enc n ++ rest) (Enc n).length = n := by
  have hh := h
  obtain ⟨h0, h1, h2⟩ := hh
  rcases enc_cases h with ⟨c, e⟩ | ⟨c, d, e⟩ | ⟨c, d, e⟩ | ⟨c, e⟩ <;> rw [e]
  · rfl
  · show 64 * ((192 + n / 64) % 32) + (128 + n % 64) % 64 = n
    omega
  · show 64 * (64 * ((224 + n / 4096) % 16) + (128 + n / 64 % 64) % 64) + (128 + n % 64) % 64 = n
    omega
  · show 64 * (64 * (64 * ((240 + n / 262144) % 8) + (128 + n / 4096 % 64) % 64) + (128 + n / 64 % 64) % 64) + (128 + n % 64) % 64 = n
    omega
theorem enc_len {n : Int} (h : Sg n) : 1 ≤ (Enc n).length ∧ (Enc n).length ≤ 4 := by
  rcases enc_cases h with ⟨c, e⟩ | ⟨c, d, e⟩ | ⟨c, d, e⟩ | ⟨c, e⟩ <;> rw [e] <;> simp
/-- the document's Next tells what the program's tells -/
theorem ref_next {l : List Int} (hb : Bs l) : ∃ r, utf_Next.f l = some r ∧ Ev (fun k => scarfref01_Next.f k l) r := by
  have split : ∀ j, Ok l j → l = Enc (cand l j) ++ l.drop j := fun j o => by rw [o.2, List.take_append_drop]
  by_cases H : ∃ n rest, Sg n ∧ l = Enc n ++ rest
  · obtain ⟨n, rest, hs, e⟩ := H
    have hr : Bs rest := fun x hx => hb x (by rw [e]; exact List.mem_append_right _ hx)
    refine ⟨(n, ((Enc n).length : Int)), by rw [e]; exact next_enc hs hr, ref_rounds hb ?_ ?_⟩
    · intro j _ _ hl o
      have q := split j o
      have u := enc_unique (s := l.drop j) hs o.1 hr (hb.drop j) (e.symm.trans q)
      have len : (Enc (cand l j)).length = j := by rw [o.2, List.length_take]; omega
      rw [u.1, len]
    · intro no
      exfalso
      have hl := enc_len hs
      refine no (Enc n).length hl.1 hl.2 (by rw [e, List.length_append]; omega) ?_
      have c : cand l (Enc n).length = n := by rw [e]; exact cand_enc rest hs
      refine ⟨by rw [c]; exact hs, by rw [c, e, List.take_left]⟩
  · refine ⟨(-1, 0), next_none hb (fun n rest hs e => H ⟨n, rest, hs, e⟩), ref_rounds hb ?_ ?_⟩
    · intro j _ _ _ o
      exact absurd ⟨_, _, o.1, split j o⟩ H
    · intro _; rfl
end Go.Proofs.YtpoeiiimmgnioaaDoor.Ut
