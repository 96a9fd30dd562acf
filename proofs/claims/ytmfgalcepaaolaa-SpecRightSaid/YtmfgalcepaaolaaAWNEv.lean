/- A part of the proof of SpecRight: what functions do and tell, and words for that. -/
import Derived.Test.YtmfgalcepaaolaaAWN
namespace Go.Proofs.YtmfgalcepaaolaaW.PrintWords
open Go.RowKit
end Go.Proofs.YtmfgalcepaaolaaW.PrintWords
