/- A part of the proof of SpecCommutes: what functions do and tell, and words for that. -/
import Derived.Test.YtmfgalcepaaolaaCPSx0
import Derived.Test.YtmfgalcepaaolaaCPSx1
import Derived.Test.YtmfgalcepaaolaaCPSx2
import Derived.Test.YtmfgalcepaaolaaCPSx3
import Derived.Test.YtmfgalcepaaolaaCPSx4
import Derived.Test.YtmfgalcepaaolaaCPSx5
import Derived.Test.YtmfgalcepaaolaaCPSx6
import Derived.Test.YtmfgalcepaaolaaCPSx7
import Derived.Test.YtmfgalcepaaolaaCPSx8
import Derived.Test.YtmfgalcepaaolaaCPSx9
import Derived.Test.YtmfgalcepaaolaaCPSx10
import Derived.Test.YtmfgalcepaaolaaCPSx11
import Derived.Test.YtmfgalcepaaolaaCPSx12
import Derived.Test.YtmfgalcepaaolaaCPSx13
namespace Go.Proofs.Ytmfgalcepaaolaa.PS
open Go.RowKit Go.Proofs.YtmfgalcepaaolaaW.PrintWords Go.Proofs.YtmfgalcepaaolaaW.PrintLast Go.Proofs.YtmfgalcepaaolaaW.PrintMore
set_option linter.unusedVariables false
set_option linter.unusedSimpArgs false
end Go.Proofs.Ytmfgalcepaaolaa.PS
