/- A part of the proof of SpecSeen: what functions do and tell, and words for that. -/
import Derived.Test.YtmfgalcepaaolaaDWTab
namespace Go.Proofs.YtmfgalcepaaolaaW.PrintLast
end Go.Proofs.YtmfgalcepaaolaaW.PrintLast
