/- Plain lists: a sign's bytes, and what both decoders tell of bytes. -/
import Derived.Test.YtpoeiiimmgnioaaDoorQ1
import Derived.Test.YtpoeiiimmgnioaaDoorXBytes
import Derived.Laws.BytesArg
namespace Go.Proofs.YtpoeiiimmgnioaaDoor.Ut
open Go.RowKit Go.Proofs.YtpoeiiimmgnioaaDoor.Q Go.Proofs.YtpoeiiimmgnioaaDoorW.PrintWords Go.Proofs.YtpoeiiimmgnioaaDoorW.PrintLast Go.Proofs.YtpoeiiimmgnioaaDoorW.PrintMore

def Sg (n : Int) : Prop := 0 ≤ n ∧ n ≤ 1114111 ∧ ¬ (55296 ≤ n ∧ n ≤ 57343)
instance (n : Int) : Decidable (Sg n) := by unfold Sg; infer_instance
def Enc (n : Int) : List Int := Lib.encodeRuneZ n
def Bs (l : List Int) : Prop := ∀ x ∈ l, 0 ≤ x ∧ x < 256
theorem bytesB_of {l : List Int} (h : Bs l) : bytesB l = true := by
  unfold bytesB
  rw [List.all_eq_true]
  intro x hx
  have := h x hx
  simp [this]
theorem Bs.tail {x : Int} {l : List Int} (h : Bs (x :: l)) : Bs l := fun y hy => h y (List.mem_cons_of_mem _ hy)
theorem Bs.head {x : Int} {l : List Int} (h : Bs (x :: l)) : 0 ≤ x ∧ x < 256 := h x List.mem_cons_self
theorem Bs.drop {l : List Int} (h : Bs l) (k : Nat) : Bs (l.drop k) := fun y hy => h y (List.mem_of_mem_drop hy)
theorem Bs.take {l : List Int} (h : Bs l) (k : Nat) : Bs (l.take k) := fun y hy => h y (List.mem_of_mem_take hy)
theorem Bs.append {l m : List Int} (h : Bs l) (k : Bs m) : Bs (l ++ m) := fun y hy => (List.mem_append.1 hy).elim (h y) (k y)

theorem enc_cases {n : Int} (h : Sg n) : (n < 128 ∧ Enc n = [n]) ∨ (128 ≤ n ∧ n < 2048 ∧ Enc n = [192 + n / 64, 128 + n % 64]) ∨
    (2048 ≤ n ∧ n < 65536 ∧ Enc n = [224 + n / 4096, 128 + n / 64 % 64, 128 + n % 64]) ∨ (65536 ≤ n ∧ Enc n = [240 + n / 262144, 128 + n / 4096 % 64, 128 + n / 64 % 64, 128 + n % 64]) := by
  obtain ⟨h0, h1, h2⟩ := h
  unfold Enc Lib.encodeRuneZ
  by_cases c1 : n < 128
  · left; exact ⟨c1, by rw [if_pos (by omega)]⟩
  · right
    rw [if_neg (by omega)]
    by_cases c2 : n < 2048
    · left; exact ⟨by omega, c2, by rw [if_pos (by omega)]⟩
    · right
      rw [if_neg (by omega)]
      by_cases c3 : n < 65536
      · left; exact ⟨by omega, c3, by rw [if_pos (by omega)]⟩
      · right
        exact ⟨by omega, by rw [if_neg (by omega), if_pos (by omega)]⟩
theorem Bs.enc {n : Int} (h : Sg n) : Bs (Enc n) := by
  have hh := h
  obtain ⟨h0, h1, h2⟩ := hh
  rcases enc_cases h with ⟨c, e⟩ | ⟨c, d, e⟩ | ⟨c, d, e⟩ | ⟨c, e⟩ <;> rw [e] <;> intro x hx <;> simp only [List.mem_cons, List.not_mem_nil, or_false] at hx
  · omega
  · rcases hx with rfl | rfl <;> omega
  · rcases hx with rfl | rfl | rfl <;> omega
  · rcases hx with rfl | rfl | rfl | rfl <;> omega

/-! ### the library's decoder, by numbers -/
def g (l : List Int) (k : Nat) : Nat := (l.getD k 0).toNat
theorem get_toBA {l : List Int} (hb : Bs l) (k : Nat) : ((toBA l).get! k).toNat = g l k := by
  unfold g
  by_cases c : k < l.length
  · have := toBA_get l (bytesB_of hb) k c
    omega
  · have e : l.getD k 0 = 0 := by rw [List.getD_eq_getElem?_getD, List.getElem?_eq_none (by omega)]; rfl
    rw [e]
    have e2 : (toBA l).get! k = 0 := by
      have hs := toBA_size l
      show (toBA l).data[k]! = 0
      rw [getElem!_neg]
      · rfl
      · have : (toBA l).data.size = (toBA l).size := rfl
        omega
    rw [e2]; rfl
def dec (n b0 b1 b2 b3 : Nat) : Nat × Nat :=
  if b0 < 128 then (b0, 1)
  else if b0 / 32 = 6 ∧ (1 < n ∧ b1 / 64 = 2) then (if b0 % 32 * 64 + b1 % 64 ≥ 128 then (b0 % 32 * 64 + b1 % 64, 2) else (65533, 1))
  else if b0 / 16 = 14 ∧ (1 < n ∧ b1 / 64 = 2) ∧ (2 < n ∧ b2 / 64 = 2) then (if b0 % 16 * 4096 + b1 % 64 * 64 + b2 % 64 ≥ 2048 ∧ Utf8.valid (b0 % 16 * 4096 + b1 % 64 * 64 + b2 % 64) = true then (b0 % 16 * 4096 + b1 % 64 * 64 + b2 % 64, 3) else (65533, 1))
  else if b0 / 8 = 30 ∧ (1 < n ∧ b1 / 64 = 2) ∧ (2 < n ∧ b2 / 64 = 2) ∧ (3 < n ∧ b3 / 64 = 2) then (if b0 % 8 * 262144 + b1 % 64 * 4096 + b2 % 64 * 64 + b3 % 64 ≥ 65536 ∧ Utf8.valid (b0 % 8 * 262144 + b1 % 64 * 4096 + b2 % 64 * 64 + b3 % 64) = true then (b0 % 8 * 262144 + b1 % 64 * 4096 + b2 % 64 * 64 + b3 % 64, 4) else (65533, 1))
  else (65533, 1)
theorem decode_eq {l : List Int} (hb : Bs l) : Utf8.decode (toBA l) 0 = dec l.length (g l 0) (g l 1) (g l 2) (g l 3) := by
  unfold Utf8.decode dec
  simp only [Nat.zero_add, get_toBA hb, toBA_size, Bool.and_eq_true, decide_eq_true_eq, beq_iff_eq, Utf8.runeError, and_assoc, ge_iff_le]
  rfl
theorem valid_iff (c : Int) : Utf8.valid c = true ↔ 0 ≤ c ∧ c ≤ 1114111 ∧ ¬ (55296 ≤ c ∧ c ≤ 57343) := by
  unfold Utf8.valid
  simp only [Bool.or_eq_true, Bool.and_eq_true, decide_eq_true_eq]
  omega

theorem dec_good {n b0 b1 b2 b3 : Nat} : dec n b0 b1 b2 b3 = (65533, 1) ∨
    (b0 < 128 ∧ dec n b0 b1 b2 b3 = (b0, 1)) ∨
    (∃ c, 1 < n ∧ dec n b0 b1 b2 b3 = (c, 2) ∧ 128 ≤ c ∧ c < 2048 ∧ b0 = 192 + c / 64 ∧ b1 = 128 + c % 64) ∨
    (∃ c, 2 < n ∧ dec n b0 b1 b2 b3 = (c, 3) ∧ 2048 ≤ c ∧ c < 65536 ∧ ¬ (55296 ≤ c ∧ c ≤ 57343) ∧ b0 = 224 + c / 4096 ∧ b1 = 128 + c / 64 % 64 ∧ b2 = 128 + c % 64) ∨
    (∃ c, 3 < n ∧ dec n b0 b1 b2 b3 = (c, 4) ∧ 65536 ≤ c ∧ c ≤ 1114111 ∧ b0 = 240 + c / 262144 ∧ b1 = 128 + c / 4096 % 64 ∧ b2 = 128 + c / 64 % 64 ∧ b3 = 128 + c % 64) := by
  unfold dec
  split
  · right; left; exact ⟨by assumption, rfl⟩
  · split
    · split
      · right; right; left
        exact ⟨_, by omega, rfl, by omega, by omega, by omega, by omega⟩
      · left; rfl
    · split
      · split
        · rename_i q
          rw [valid_iff] at q
          right; right; right; left
          exact ⟨_, by omega, rfl, by omega, by omega, by omega, by omega, by omega, by omega⟩
        · left; rfl
      · split
        · split
          · rename_i q
            rw [valid_iff] at q
            right; right; right; right
            exact ⟨_, by omega, rfl, by omega, by omega, by omega, by omega, by omega, by omega⟩
          · left; rfl
        · left; rfl

theorem next_eq {l : List Int} (hb : Bs l) (h0 : l ≠ []) {c k : Nat} (h : dec l.length (g l 0) (g l 1) (g l 2) (g l 3) = (c, k)) (hc : c < 9223372036854775808) :
    utf_Next.f l = some (if c = 65533 ∧ k < 2 then (-1, 0) else ((c : Int), (k : Int))) := by
  have hl : (toBA l).size ≠ 0 := by rw [toBA_size]; intro e; exact h0 (List.length_eq_zero_iff.1 e)
  unfold utf_Next.f utf8_DecodeRune.f
  rw [if_pos (bytesB_of hb)]
  unfold Lib.decodeGo
  rw [if_neg hl, decode_eq hb, h]
  simp only [Option.bind_some]
  have ew : wrap64 (c : Int) = (c : Int) := by unfold wrap64; omega
  rw [ew]
  by_cases c1 : c = 65533
  · by_cases c2 : k < 2
    · rw [if_pos (by omega), if_pos (by omega), if_pos ⟨c1, c2⟩]
    · rw [if_pos (by omega), if_neg (by omega), if_neg (by omega)]
  · rw [if_neg (by omega), if_neg (by omega)]
theorem next_nil : utf_Next.f [] = some (-1, 0) := by
  unfold utf_Next.f utf8_DecodeRune.f
  rw [if_pos (by rfl)]
  unfold Lib.decodeGo
  rw [if_pos (by rfl)]
  rfl
theorem g_lt {l : List Int} (hb : Bs l) (k : Nat) : g l k < 256 := by
  unfold g
  rw [List.getD_eq_getElem?_getD]
  by_cases c : k < l.length
  · rw [List.getElem?_eq_getElem c]
    have := hb _ (List.getElem_mem c)
    simp only [Option.getD_some]
    omega
  · rw [List.getElem?_eq_none (by omega)]; decide
theorem g_cons (x : Int) (l : List Int) (k : Nat) : g (x :: l) (k + 1) = g l k := rfl
theorem g_zero (x : Int) (l : List Int) : g (x :: l) 0 = x.toNat := rfl

theorem next_spec {l : List Int} (hb : Bs l) : utf_Next.f l = some (-1, 0) ∨ ∃ n rest, Sg n ∧ l = Enc n ++ rest ∧ utf_Next.f l = some (n, ((Enc n).length : Int)) := by
  by_cases h0 : l = []
  · subst h0; left; exact next_nil
  have L := @next_eq l hb h0
  rcases dec_good (n := l.length) (b0 := g l 0) (b1 := g l 1) (b2 := g l 2) (b3 := g l 3) with e | ⟨c, e⟩ | ⟨c, hn, e, c1, c2, e0, e1⟩ | ⟨c, hn, e, c1, c2, c3, e0, e1, e2⟩ | ⟨c, hn, e, c1, c2, e0, e1, e2, e3⟩
  · left; rw [L e (by omega)]; rfl
  · right
    rw [L e (by omega)]
    match l, h0 with
    | x :: r, _ =>
      have hx := hb.head
      rw [g_zero] at c ⊢
      have hs : Sg x := ⟨by omega, by omega, by omega⟩
      have en : Enc x = [x] := by rcases enc_cases hs with ⟨_, q⟩ | ⟨d, _⟩ | ⟨d, _⟩ | ⟨d, _⟩ <;> first | exact q | omega
      refine ⟨x, r, hs, by rw [en]; rfl, ?_⟩
      rw [en, if_neg (by omega)]
      have : ((x.toNat : Nat) : Int) = x := by omega
      rw [this]; rfl
  · right
    rw [L e (by omega), if_neg (by omega)]
    match l, hn with
    | x :: y :: r, _ =>
      have hx := hb.head
      have hy := hb.tail.head
      rw [g_cons, g_zero] at e1
      rw [g_zero] at e0
      have hs : Sg (c : Int) := ⟨by omega, by omega, by omega⟩
      have en : Enc (c : Int) = [x, y] := by
        rcases enc_cases hs with ⟨d, _⟩ | ⟨_, _, q⟩ | ⟨d, _⟩ | ⟨d, _⟩ <;> first | omega | skip
        rw [q]
        have a1 : 192 + (c : Int) / 64 = x := by omega
        have a2 : 128 + (c : Int) % 64 = y := by omega
        rw [a1, a2]
      exact ⟨c, r, hs, by rw [en]; rfl, by rw [en]; rfl⟩
  · right
    rw [L e (by omega), if_neg (by omega)]
    match l, hn with
    | x :: y :: z :: r, _ =>
      have hx := hb.head
      have hy := hb.tail.head
      have hz := hb.tail.tail.head
      rw [g_cons, g_cons, g_zero] at e2
      rw [g_cons, g_zero] at e1
      rw [g_zero] at e0
      have hs : Sg (c : Int) := ⟨by omega, by omega, by omega⟩
      have en : Enc (c : Int) = [x, y, z] := by
        rcases enc_cases hs with ⟨d, _⟩ | ⟨d, d2, _⟩ | ⟨_, _, q⟩ | ⟨d, _⟩ <;> first | omega | skip
        rw [q]
        have a1 : 224 + (c : Int) / 4096 = x := by omega
        have a2 : 128 + (c : Int) / 64 % 64 = y := by omega
        have a3 : 128 + (c : Int) % 64 = z := by omega
        rw [a1, a2, a3]
      exact ⟨c, r, hs, by rw [en]; rfl, by rw [en]; rfl⟩
  · right
    rw [L e (by omega), if_neg (by omega)]
    match l, hn with
    | x :: y :: z :: u :: r, _ =>
      have hx := hb.head
      have hy := hb.tail.head
      have hz := hb.tail.tail.head
      have hu := hb.tail.tail.tail.head
      rw [g_cons, g_cons, g_cons, g_zero] at e3
      rw [g_cons, g_cons, g_zero] at e2
      rw [g_cons, g_zero] at e1
      rw [g_zero] at e0
      have hs : Sg (c : Int) := ⟨by omega, by omega, by omega⟩
      have en : Enc (c : Int) = [x, y, z, u] := by
        rcases enc_cases hs with ⟨d, _⟩ | ⟨d, d2, _⟩ | ⟨d, d2, _⟩ | ⟨_, q⟩ <;> first | omega | skip
        rw [q]
        have a1 : 240 + (c : Int) / 262144 = x := by omega
        have a2 : 128 + (c : Int) / 4096 % 64 = y := by omega
        have a3 : 128 + (c : Int) / 64 % 64 = z := by omega
        have a4 : 128 + (c : Int) % 64 = u := by omega
        rw [a1, a2, a3, a4]
      exact ⟨c, r, hs, by rw [en]; rfl, by rw [en]; rfl⟩

theorem next_enc {n : Int} {rest : List Int} (hs : Sg n) (hb : Bs rest) : utf_Next.f (Enc n ++ rest) = some (n, ((Enc n).length : Int)) := by
  have hB := (Bs.enc hs).append hb
  have hh := hs
  obtain ⟨h0, h1, h2⟩ := hh
  rcases enc_cases hs with ⟨c, e⟩ | ⟨c, d, e⟩ | ⟨c, d, e⟩ | ⟨c, e⟩
  · rw [e] at hB ⊢
    have q : dec ([n] ++ rest).length (g ([n] ++ rest) 0) (g ([n] ++ rest) 1) (g ([n] ++ rest) 2) (g ([n] ++ rest) 3) = (n.toNat, 1) := by
      unfold dec
      rw [show g ([n] ++ rest) 0 = n.toNat from rfl, if_pos (by omega)]
    rw [next_eq hB (by simp) q (by omega), if_neg (by omega)]
    have : ((n.toNat : Nat) : Int) = n := by omega
    rw [this]; rfl
  · rw [e] at hB ⊢
    have q : dec ([192 + n / 64, 128 + n % 64] ++ rest).length (g ([192 + n / 64, 128 + n % 64] ++ rest) 0) (g ([192 + n / 64, 128 + n % 64] ++ rest) 1) (g ([192 + n / 64, 128 + n % 64] ++ rest) 2) (g ([192 + n / 64, 128 + n % 64] ++ rest) 3) = (n.toNat, 2) := by
      generalize g ([192 + n / 64, 128 + n % 64] ++ rest) 2 = b2
      generalize g ([192 + n / 64, 128 + n % 64] ++ rest) 3 = b3
      have hl : 1 < ([192 + n / 64, 128 + n % 64] ++ rest).length := by simp
      generalize ([192 + n / 64, 128 + n % 64] ++ rest).length = L at hl
      rw [show g ([192 + n / 64, 128 + n % 64] ++ rest) 0 = (192 + n / 64).toNat from rfl, show g ([192 + n / 64, 128 + n % 64] ++ rest) 1 = (128 + n % 64).toNat from rfl]
      unfold dec
      rw [if_neg (by omega), if_pos (by omega), if_pos (by omega)]
      congr 1; omega
    rw [next_eq hB (by simp) q (by omega), if_neg (by omega)]
    have : ((n.toNat : Nat) : Int) = n := by omega
    rw [this]; rfl
  · rw [e] at hB ⊢
    have q : dec ([224 + n / 4096, 128 + n / 64 % 64, 128 + n % 64] ++ rest).length (g ([224 + n / 4096, 128 + n / 64 % 64, 128 + n % 64] ++ rest) 0) (g ([224 + n / 4096, 128 + n / 64 % 64, 128 + n % 64] ++ rest) 1) (g ([224 + n / 4096, 128 + n / 64 % 64, 128 + n % 64] ++ rest) 2) (g ([224 + n / 4096, 128 + n / 64 % 64, 128 + n % 64] ++ rest) 3) = (n.toNat, 3) := by
      generalize g ([224 + n / 4096, 128 + n / 64 % 64, 128 + n % 64] ++ rest) 3 = b3
      have hl : 2 < ([224 + n / 4096, 128 + n / 64 % 64, 128 + n % 64] ++ rest).length := by simp
      generalize ([224 + n / 4096, 128 + n / 64 % 64, 128 + n % 64] ++ rest).length = L at hl
      rw [show g ([224 + n / 4096, 128 + n / 64 % 64, 128 + n % 64] ++ rest) 0 = (224 + n / 4096).toNat from rfl, show g ([224 + n / 4096, 128 + n / 64 % 64, 128 + n % 64] ++ rest) 1 = (128 + n / 64 % 64).toNat from rfl,
        show g ([224 + n / 4096, 128 + n / 64 % 64, 128 + n % 64] ++ rest) 2 = (128 + n % 64).toNat from rfl]
      unfold dec
      rw [if_neg (by omega), if_neg (by omega), if_pos (by omega), if_pos (by rw [valid_iff]; omega)]
      congr 1; omega
    rw [next_eq hB (by simp) q (by omega), if_neg (by omega)]
    have : ((n.toNat : Nat) : Int) = n := by omega
    rw [this]; rfl
  · rw [e] at hB ⊢
    have q : dec ([240 + n / 262144, 128 + n / 4096 % 64, 128 + n / 64 % 64, 128 + n % 64] ++ rest).length (g ([240 + n / 262144, 128 + n / 4096 % 64, 128 + n / 64 % 64, 128 + n % 64] ++ rest) 0) (g ([240 + n / 262144, 128 + n / 4096 % 64, 128 + n / 64 % 64, 128 + n % 64] ++ rest) 1)
        (g ([240 + n / 262144, 128 + n / 4096 % 64, 128 + n / 64 % 64, 128 + n % 64] ++ rest) 2) (g ([240 + n / 262144, 128 + n / 4096 % 64, 128 + n / 64 % 64, 128 + n % 64] ++ rest) 3) = (n.toNat, 4) := by
      have hl : 3 < ([240 + n / 262144, 128 + n / 4096 % 64, 128 + n / 64 % 64, 128 + n % 64] ++ rest).length := by simp
      generalize ([240 + n / 262144, 128 + n / 4096 % 64, 128 + n / 64 % 64, 128 + n % 64] ++ rest).length = L at hl
      rw [show g ([240 + n / 262144, 128 + n / 4096 % 64, 128 + n / 64 % 64, 128 + n % 64] ++ rest) 0 = (240 + n / 262144).toNat from rfl, show g ([240 + n / 262144, 128 + n / 4096 % 64, 128 + n / 64 % 64, 128 + n % 64] ++ rest) 1 = (128 + n / 4096 % 64).toNat from rfl,
        show g ([240 + n / 262144, 128 + n / 4096 % 64, 128 + n / 64 % 64, 128 + n % 64] ++ rest) 2 = (128 + n / 64 % 64).toNat from rfl, show g ([240 + n / 262144, 128 + n / 4096 % 64, 128 + n / 64 % 64, 128 + n % 64] ++ rest) 3 = (128 + n % 64).toNat from rfl]
      unfold dec
      rw [if_neg (by omega), if_neg (by omega), if_neg (by omega), if_pos (by omega), if_pos (by rw [valid_iff]; omega)]
      congr 1; omega
    rw [next_eq hB (by simp) q (by omega), if_neg (by omega)]
    have : ((n.toNat : Nat) : Int) = n := by omega
    rw [this]; rfl

/-- no sign's bytes begin with another's -/
theorem enc_unique {n m : Int} {r s : List Int} (hn : Sg n) (hm : Sg m) (hr : Bs r) (hs : Bs s) (h : Enc n ++ r = Enc m ++ s) : n = m ∧ r = s := by
  have a := next_enc hn hr
  rw [h, next_enc hm hs] at a
  simp only [Option.some.injEq, Prod.mk.injEq] at a
  obtain ⟨a, _⟩ := a
  subst a
  exact ⟨rfl, List.append_cancel_left h⟩
theorem next_none {l : List Int} (hb : Bs l) (h : ∀ n rest, Sg n → l ≠ Enc n ++ rest) : utf_Next.f l = some (-1, 0) := by
  rcases next_spec hb with e | ⟨n, rest, hs, e, _⟩
  · exact e
  · exact absurd e (h n rest hs)
end Go.Proofs.YtpoeiiimmgnioaaDoor.Ut
