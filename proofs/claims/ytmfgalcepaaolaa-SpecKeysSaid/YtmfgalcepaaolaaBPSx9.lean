/- A part of the proof of SpecKeys: what functions do and tell, and words for that. -/
import Derived.Test.YtmfgalcepaaolaaBPSx0
import Derived.Test.YtmfgalcepaaolaaBPSx1
import Derived.Test.YtmfgalcepaaolaaBPSx6
import Derived.Test.YtmfgalcepaaolaaBPSx8
namespace Go.Proofs.Ytmfgalcepaaolaa.PS
open Go.RowKit Go.Proofs.YtmfgalcepaaolaaW.PrintWords Go.Proofs.YtmfgalcepaaolaaW.PrintLast Go.Proofs.YtmfgalcepaaolaaW.PrintMore
set_option linter.unusedVariables false
set_option linter.unusedSimpArgs false
end Go.Proofs.Ytmfgalcepaaolaa.PS
