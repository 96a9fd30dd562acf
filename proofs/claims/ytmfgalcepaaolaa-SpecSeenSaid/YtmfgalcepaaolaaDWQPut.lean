/- A part of the proof of SpecSeen: what functions do and tell, and words for that. -/
import Derived.Test.YtmfgalcepaaolaaDWWords
import Derived.Test.YtmfgalcepaaolaaDWLast
namespace Go.Proofs.YtmfgalcepaaolaaW.PrintWords
open Go.RowKit
end Go.Proofs.YtmfgalcepaaolaaW.PrintWords
