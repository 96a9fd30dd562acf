/- A word that the print names and its words lack: a row that is only read, and has an element, lies in a block that it leads to. -/
import Derived.Test.YtmfgalcepaaolaaLWMore
namespace Go.Proofs.YtmfgalcepaaolaaW.PrintWords
open Go.RowKit
end Go.Proofs.YtmfgalcepaaolaaW.PrintWords
