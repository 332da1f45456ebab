/- For every number: its bytes, or that it is no sign, are the document's. Conditions: none beyond the statement's own. -/
import Derived.Test.YtpoeiiimmgnioaaDoorQ4
import Derived.Test.YtpoeiiimmgnioaaDoorUtfRef
namespace Go.Proofs.YtpoeiiimmgnioaaDoor.Pure
open Go.RowKit Go.Proofs.YtpoeiiimmgnioaaDoor.Q Go.Proofs.YtpoeiiimmgnioaaDoorW.PrintWords Go.Proofs.YtpoeiiimmgnioaaDoorW.PrintLast Go.Proofs.YtpoeiiimmgnioaaDoorW.PrintMore Go.Proofs.YtpoeiiimmgnioaaDoor.Ut
theorem UtfBytes : scarflaw01_UtfBytes.Pure := by
  intro n _
  unfold scarflaw01_UtfBytes.f
  by_cases h : Sg n
  · rw [bytes_yes h, refBytes_yes h, known01]
    simp
  · rw [bytes_no h, refBytes_no h, known01]
    simp
end Go.Proofs.YtpoeiiimmgnioaaDoor.Pure
