/- For all bytes: the sign with which they begin is the document's. Conditions: none beyond the statement's own. -/
import Derived.Test.YtpoeiiimmgnioaaDoorQ3
import Derived.Test.YtpoeiiimmgnioaaDoorUtfRef
namespace Go.Proofs.YtpoeiiimmgnioaaDoor.Pure
open Go.RowKit Go.Proofs.YtpoeiiimmgnioaaDoor.Q Go.Proofs.YtpoeiiimmgnioaaDoorW.PrintWords Go.Proofs.YtpoeiiimmgnioaaDoorW.PrintLast Go.Proofs.YtpoeiiimmgnioaaDoorW.PrintMore Go.Proofs.YtpoeiiimmgnioaaDoor.Ut
theorem next_tail {l : List Int} (hb : Bs l) : Ev (fun k => (utf_Next.f l).bind fun bt143 => ((scarfref01_Next.f k l).bind fun bt145 => ((scarflaw01_known.f).bind fun t147 => (if t147 = true then (if bt143.1 = bt145.1 then (some (bt143.2 == bt145.2)) else (some false)) else (some false))))) true := by
  obtain ⟨r, h1, h2⟩ := ref_next hb
  refine Ev.congr (f := fun k => (scarfref01_Next.f k l).bind fun bt145 => (if r.1 = bt145.1 then (some (r.2 == bt145.2)) else (some false))) (fun k => by rw [h1, known01]; simp only [Option.bind_some, if_true]) ?_
  refine Ev.bind (f := fun _ bt145 => (if r.1 = bt145.1 then (some (r.2 == bt145.2)) else (some false))) h2 ?_
  refine Ev.congr (fun k => ?_) (Ev.now true)
  simp
theorem UtfNext : scarflaw01_UtfNext.Pure := by
  intro l _ _ hw
  have hb := Bs_of hw
  apply Ev.rounds
  by_cases c : (l.length : Int) > 100000
  · refine Ev.congr (fun k => ?_) (next_tail (hb.take 100000))
    unfold scarflaw01_UtfNext.f
    rw [if_pos c, if_pos (by omega)]
  · refine Ev.congr (fun k => ?_) (next_tail hb)
    unfold scarflaw01_UtfNext.f
    rw [if_neg c]
end Go.Proofs.YtpoeiiimmgnioaaDoor.Pure
