/- A part of the proof of SpecSeen: what functions do and tell, and words for that. -/
import Derived.Test.YtmfgalcepaaolaaDWInv
import Derived.Test.YtmfgalcepaaolaaDWFootNe
namespace Go.Proofs.YtmfgalcepaaolaaW.PrintWords
open Go.RowKit
end Go.Proofs.YtmfgalcepaaolaaW.PrintWords
namespace Go.Proofs.YtmfgalcepaaolaaW.PrintLast
end Go.Proofs.YtmfgalcepaaolaaW.PrintLast
