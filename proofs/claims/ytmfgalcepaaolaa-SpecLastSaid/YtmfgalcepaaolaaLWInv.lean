/- A part of the proof of SpecLast: what functions do and tell, and words for that. -/
import Derived.Test.YtmfgalcepaaolaaLWTab
namespace Go.Proofs.YtmfgalcepaaolaaW.PrintLast
/-- Number i is listed too. -/
def up (b : Nat → Bool) (i : Nat) : Nat → Bool := fun j => if j = i then true else b j
end Go.Proofs.YtmfgalcepaaolaaW.PrintLast
