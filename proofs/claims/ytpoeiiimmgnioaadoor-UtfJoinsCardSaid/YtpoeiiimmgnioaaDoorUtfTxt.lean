/- Plain lists: signs as a text. -/
import Derived.Test.YtpoeiiimmgnioaaDoorUtfSg
namespace Go.Proofs.YtpoeiiimmgnioaaDoor.Ut
open Go.RowKit Go.Proofs.YtpoeiiimmgnioaaDoor.Q Go.Proofs.YtpoeiiimmgnioaaDoorW.PrintWords Go.Proofs.YtpoeiiimmgnioaaDoorW.PrintLast Go.Proofs.YtpoeiiimmgnioaaDoorW.PrintMore

def Sgs (s : List Int) : Prop := ∀ n ∈ s, Sg n
theorem Sgs.cons {n : Int} {s : List Int} (h : Sgs (n :: s)) : Sg n ∧ Sgs s := ⟨h n List.mem_cons_self, fun m hm => h m (List.mem_cons_of_mem _ hm)⟩
theorem Sgs.snoc {n : Int} {s : List Int} (h : Sgs s) (k : Sg n) : Sgs (s ++ [n]) := fun m hm => (List.mem_append.1 hm).elim (h m) (fun e => by rw [List.mem_singleton] at e; subst e; exact k)
def Txt (s : List Int) : List Int := s.flatMap Enc
theorem Txt_cons (n : Int) (s : List Int) : Txt (n :: s) = Enc n ++ Txt s := rfl
theorem Txt_snoc (n : Int) (s : List Int) : Txt (s ++ [n]) = Txt s ++ Enc n := by simp [Txt]
theorem Bs.txt {s : List Int} (h : Sgs s) : Bs (Txt s) := by
  intro x hx
  obtain ⟨n, hn, hx⟩ := List.mem_flatMap.1 hx
  exact Bs.enc (h n hn) x hx
theorem Txt_len {s : List Int} (h : Sgs s) : s.length ≤ (Txt s).length ∧ (Txt s).length ≤ 4 * s.length := by
  induction s with
  | nil => exact ⟨Nat.le_refl _, Nat.le_refl _⟩
  | cons n s ih =>
    have a := ih h.cons.2
    have b := enc_len h.cons.1
    rw [Txt_cons, List.length_append, List.length_cons]
    omega
end Go.Proofs.YtpoeiiimmgnioaaDoor.Ut
