/- A part of the proof of SpecLast: what functions do and tell, and words for that. -/
import Derived.Test.YtmfgalcepaaolaaLWInv
import Derived.Test.YtmfgalcepaaolaaLWFootNe
namespace Go.Proofs.YtmfgalcepaaolaaW.PrintWords
open Go.RowKit
end Go.Proofs.YtmfgalcepaaolaaW.PrintWords
namespace Go.Proofs.YtmfgalcepaaolaaW.PrintLast
end Go.Proofs.YtmfgalcepaaolaaW.PrintLast
