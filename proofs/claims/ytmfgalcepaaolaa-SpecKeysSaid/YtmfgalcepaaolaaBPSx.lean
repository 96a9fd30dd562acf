/- A part of the proof of SpecKeys: what functions do and tell, and words for that. -/
import Derived.Test.YtmfgalcepaaolaaBPSx0
import Derived.Test.YtmfgalcepaaolaaBPSx1
import Derived.Test.YtmfgalcepaaolaaBPSx2
import Derived.Test.YtmfgalcepaaolaaBPSx3
import Derived.Test.YtmfgalcepaaolaaBPSx4
import Derived.Test.YtmfgalcepaaolaaBPSx5
import Derived.Test.YtmfgalcepaaolaaBPSx6
import Derived.Test.YtmfgalcepaaolaaBPSx7
import Derived.Test.YtmfgalcepaaolaaBPSx8
import Derived.Test.YtmfgalcepaaolaaBPSx9
import Derived.Test.YtmfgalcepaaolaaBPSx10
import Derived.Test.YtmfgalcepaaolaaBPSx11
namespace Go.Proofs.Ytmfgalcepaaolaa.PS
open Go.RowKit Go.Proofs.YtmfgalcepaaolaaW.PrintWords Go.Proofs.YtmfgalcepaaolaaW.PrintLast Go.Proofs.YtmfgalcepaaolaaW.PrintMore
set_option linter.unusedVariables false
set_option linter.unusedSimpArgs false
end Go.Proofs.Ytmfgalcepaaolaa.PS
