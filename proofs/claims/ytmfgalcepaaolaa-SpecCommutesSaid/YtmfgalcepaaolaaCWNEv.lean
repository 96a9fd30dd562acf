/- A part of the proof of SpecCommutes: what functions do and tell, and words for that. -/
import Derived.Test.YtmfgalcepaaolaaCWN
namespace Go.Proofs.YtmfgalcepaaolaaW.PrintWords
open Go.RowKit
end Go.Proofs.YtmfgalcepaaolaaW.PrintWords
