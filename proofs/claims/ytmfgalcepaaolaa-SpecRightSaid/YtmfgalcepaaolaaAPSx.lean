/- A part of the proof of SpecRight: what functions do and tell, and words for that. -/
import Derived.Test.YtmfgalcepaaolaaAPSx0
import Derived.Test.YtmfgalcepaaolaaAPSx1
import Derived.Test.YtmfgalcepaaolaaAPSx2
import Derived.Test.YtmfgalcepaaolaaAPSx3
import Derived.Test.YtmfgalcepaaolaaAPSx4
import Derived.Test.YtmfgalcepaaolaaAPSx5
import Derived.Test.YtmfgalcepaaolaaAPSx6
import Derived.Test.YtmfgalcepaaolaaAPSx7
import Derived.Test.YtmfgalcepaaolaaAPSx8
import Derived.Test.YtmfgalcepaaolaaAPSx9
import Derived.Test.YtmfgalcepaaolaaAPSx10
import Derived.Test.YtmfgalcepaaolaaAPSx11
namespace Go.Proofs.Ytmfgalcepaaolaa.PS
open Go.RowKit Go.Proofs.YtmfgalcepaaolaaW.PrintWords Go.Proofs.YtmfgalcepaaolaaW.PrintLast Go.Proofs.YtmfgalcepaaolaaW.PrintMore
set_option linter.unusedVariables false
set_option linter.unusedSimpArgs false
end Go.Proofs.Ytmfgalcepaaolaa.PS
