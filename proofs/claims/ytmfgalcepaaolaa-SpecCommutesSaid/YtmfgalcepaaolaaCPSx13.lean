/- A part of the proof of SpecCommutes: what functions do and tell, and words for that. -/
import Derived.Test.YtmfgalcepaaolaaCPSx0
namespace Go.Proofs.Ytmfgalcepaaolaa.PS
open Go.RowKit Go.Proofs.YtmfgalcepaaolaaW.PrintWords Go.Proofs.YtmfgalcepaaolaaW.PrintLast Go.Proofs.YtmfgalcepaaolaaW.PrintMore
set_option linter.unusedVariables false
set_option linter.unusedSimpArgs false
end Go.Proofs.Ytmfgalcepaaolaa.PS
