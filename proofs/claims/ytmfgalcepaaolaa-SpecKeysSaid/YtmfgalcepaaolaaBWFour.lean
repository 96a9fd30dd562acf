/- A part of the proof of SpecKeys: what functions do and tell, and words for that. -/
import Derived.Test.YtmfgalcepaaolaaBWTab
namespace Go.Proofs.YtmfgalcepaaolaaW.PrintLast
end Go.Proofs.YtmfgalcepaaolaaW.PrintLast
