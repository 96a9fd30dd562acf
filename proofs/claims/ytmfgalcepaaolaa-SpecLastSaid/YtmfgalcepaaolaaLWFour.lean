/- A part of the proof of SpecLast: what functions do and tell, and words for that. -/
import Derived.Test.YtmfgalcepaaolaaLWTab
namespace Go.Proofs.YtmfgalcepaaolaaW.PrintLast
end Go.Proofs.YtmfgalcepaaolaaW.PrintLast
