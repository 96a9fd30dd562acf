/- A part of the proof of SpecSeen: what functions do and tell, and words for that. -/
import Derived.Test.YtmfgalcepaaolaaDWApart
import Derived.Test.YtmfgalcepaaolaaDWArr
namespace Go.Proofs.YtmfgalcepaaolaaW.PrintWords
open Go.RowKit
end Go.Proofs.YtmfgalcepaaolaaW.PrintWords
