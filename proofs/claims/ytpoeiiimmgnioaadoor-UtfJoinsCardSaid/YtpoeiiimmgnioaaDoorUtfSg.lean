/- Plain lists: signs' bytes, by the program; strings of bytes. -/
import Derived.Test.YtpoeiiimmgnioaaDoorUtfPlain
import Derived.Test.YtpoeiiimmgnioaaDoorQ1
namespace Go.Proofs.YtpoeiiimmgnioaaDoor.Ut
open Go.RowKit Go.Proofs.YtpoeiiimmgnioaaDoor.Q Go.Proofs.YtpoeiiimmgnioaaDoorW.PrintWords Go.Proofs.YtpoeiiimmgnioaaDoorW.PrintLast Go.Proofs.YtpoeiiimmgnioaaDoorW.PrintMore

theorem Bs_of {l : List Int} (h : ∀ x ∈ l, (Lit.int .u8 x).wf = true) : Bs l := by
  intro x hx
  have := h x hx
  simp [Lit.wf, IntKind.min, IntKind.max, IntKind.signed, IntKind.bits] at this
  omega
theorem known01 : scarflaw01_known.f = some true := by decide +kernel
theorem w64 {x : Int} (h0 : -9223372036854775808 ≤ x) (h : x < 9223372036854775808) : wrap64 x = x := by unfold wrap64; omega

theorem bytes_no {n : Int} (h : ¬ Sg n) : utf_Bytes.f n = some ([], 1) := by
  unfold Sg at h
  unfold utf_Bytes.f
  by_cases c0 : n < 0
  · rw [if_pos c0]
  · rw [if_neg c0]
    by_cases c1 : n > 1114111
    · rw [if_pos c1]
    · rw [if_neg c1, if_pos (by omega)]
theorem bytes_yes {n : Int} (h : Sg n) : utf_Bytes.f n = some (Enc n, 0) := by
  obtain ⟨h0, h1, h2⟩ := h
  unfold utf_Bytes.f
  rw [if_neg (by omega), if_neg (by omega), if_neg h2]; rfl

theorem str_inj : ∀ {a b : List Int}, Bs a → Bs b → ((strOfNums a).toList = (strOfNums b).toList ↔ a = b) := by
  intro a b ha hb
  rw [ByteArray.toList_eq, ByteArray.toList_eq, strOfNums_data, strOfNums_data]
  constructor
  · intro h
    induction a generalizing b with
    | nil => cases b with
      | nil => rfl
      | cons y b => simp at h
    | cons x a ih => cases b with
      | nil => simp at h
      | cons y b =>
        simp only [List.map_cons, List.cons.injEq] at h
        have hx := ha.head
        have hy := hb.head
        have e : x.toNat % 256 = y.toNat % 256 := by
          have := congrArg UInt8.toNat h.1
          simpa using this
        have e2 : x = y := by omega
        rw [e2, ih ha.tail hb.tail h.2]
  · rintro rfl; rfl

theorem Ev.steps {α : Type} {g f : Nat → Option α} {r : α} (n : Nat) (h : ∀ k, g (k + n) = f k) (k : Ev f r) : Ev g r := by
  obtain ⟨K, k⟩ := k
  refine ⟨K + n, fun m hm => ?_⟩
  obtain ⟨q, rfl⟩ : ∃ q, m = q + n := ⟨m - n, by omega⟩
  rw [h]
  exact k q (by omega)
theorem enc_len {n : Int} (h : Sg n) : 1 ≤ (Enc n).length ∧ (Enc n).length ≤ 4 := by
  rcases enc_cases h with ⟨c, e⟩ | ⟨c, d, e⟩ | ⟨c, d, e⟩ | ⟨c, e⟩ <;> rw [e] <;> simp
end Go.Proofs.YtpoeiiimmgnioaaDoor.Ut
