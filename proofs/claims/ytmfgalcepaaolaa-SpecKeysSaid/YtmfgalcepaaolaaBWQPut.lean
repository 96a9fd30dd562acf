/- A part of the proof of SpecKeys: what functions do and tell, and words for that. -/
import Derived.Test.YtmfgalcepaaolaaBWWords
import Derived.Test.YtmfgalcepaaolaaBWLast
namespace Go.Proofs.YtmfgalcepaaolaaW.PrintWords
open Go.RowKit
end Go.Proofs.YtmfgalcepaaolaaW.PrintWords
