/- A part of the proof of SpecCommutes: what functions do and tell, and words for that. -/
import Derived.Test.YtmfgalcepaaolaaCWTab
namespace Go.Proofs.YtmfgalcepaaolaaW.PrintLast
end Go.Proofs.YtmfgalcepaaolaaW.PrintLast
