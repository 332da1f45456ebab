/- The chapter's examples, reckoned out. -/
import Derived.Test.YtlpopkknamigoaaQ5
namespace Go.Proofs.Ytlpopkknamigoaa.Rk
open Go.RowKit Go.Proofs.Ytlpopkknamigoaa.Q Go.Proofs.YtlpopkknamigoaaW.PrintWords Go.Proofs.YtlpopkknamigoaaW.PrintLast Go.Proofs.YtlpopkknamigoaaW.PrintMore
theorem known03 : Ev (fun k => scarflaw03_known.f k) true := Ev.of (k := 40) (fun k => scarflaw03_known.mono k) (by decide +kernel)
end Go.Proofs.Ytlpopkknamigoaa.Rk
