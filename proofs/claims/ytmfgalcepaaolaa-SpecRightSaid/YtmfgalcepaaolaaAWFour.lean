/- A part of the proof of SpecRight: what functions do and tell, and words for that. -/
import Derived.Test.YtmfgalcepaaolaaAWTab
namespace Go.Proofs.YtmfgalcepaaolaaW.PrintLast
end Go.Proofs.YtmfgalcepaaolaaW.PrintLast
