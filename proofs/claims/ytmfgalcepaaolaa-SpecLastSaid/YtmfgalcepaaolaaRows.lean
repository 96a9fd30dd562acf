/-
  No cell of these rows narrows 'for every input' (looked for: loops, veiled, ifaces, maps, wideKeys, modest, calm, conditions, laid).
  DERIVED. THE GIVEN ROWS OF THIS SEAT. 5 by the template 'for every input the law returns true; each argument reads behind the call as it read before'; 0 by the template 'total and deterministic' (their statements: YtmfgalcepaaolaaTotals.lean).
  GIVEN WITH THE SEED: the statements are not yours to turn. If you find one false, say at which input.
  Laid BY PROGRAM, IN A SANDBOX (cutbox-rows.mjs): the forced cells as the released guide's own fill.sh prints them over the translation c1b2a6718ac42935… (all of the seat's roots in one cut). By AI agents, Wed Nov 11 2026. No macro, syntax, notation, axiom, sorry.
-/
import Derived.Test.YtmfgalcepaaolaaChecked
import GoSem.Claim
import GoSem.ClaimJoined
import GoSem.ClaimMapViews
import Derived.JoinedTies
import Derived.KernelRfl
namespace Go.Proofs.Ytmfgalcepaaolaa
/- THE CELL 'sum', in the pinned program and in every row, IS THE sha256 OF THE DUMP (.gsa) THAT YtmfgalcepaaolaaProg.lean LOADS. Nothing in Lean hashes anything: it is a label: what it is worth is what the hold of that sum in a sandbox is worth. -/
noncomputable def Try.pinned : Pinned := { name := "ytmfgalcepaaolaa", sum := "c1b2a6718ac42935eab25d6bf965e7fc3a38c98fd00dc0bf7cbccaf2db307587", checked := Try.checked }
namespace Rows
def none {H : Type} : Left H := { results := [], args := [] }

/-- 'underwoodlaw09.SpecRight': WHATEVER THE INPUT: true; the input reads as it did. -/
def specRightSpec : ChangeSpec := { name := "specRight", fn := fun _ => fun
  | [d1, d2] => { results := [.lit (.bool true)], args := [d1, d2] }
  | _ => none }
def specRightRow : OpenClaim := { program := "ytmfgalcepaaolaa", sum := "c1b2a6718ac42935eab25d6bf965e7fc3a38c98fd00dc0bf7cbccaf2db307587", func := "underwood/underwoodlaw09.SpecRight", spec := "specRight", inPlace := ["slices.overlaps[int]"], unfollowed := true, recurses := true, apart := false }
def SpecRightSaid : Prop := specRightRow.holds Try.pinned (OpenSpec.ofChange specRightSpec)

/-- ITS FALSE NEIGHBOUR: 'it returns false'. Refute it at one input. -/
def specRightWrong : ChangeSpec := { name := "specRight", fn := fun _ => fun
  | [d1, d2] => { results := [.lit (.bool false)], args := [d1, d2] }
  | _ => none }
def SpecRightWrongFalsely : Prop := specRightRow.holds Try.pinned (OpenSpec.ofChange specRightWrong)

/-- 'underwoodlaw09.SpecLast': WHATEVER THE INPUT: true; the input reads as it did. -/
def specLastSpec : ChangeSpec := { name := "specLast", fn := fun _ => fun
  | [d1, d2] => { results := [.lit (.bool true)], args := [d1, d2] }
  | _ => none }
def specLastRow : OpenClaim := { program := "ytmfgalcepaaolaa", sum := "c1b2a6718ac42935eab25d6bf965e7fc3a38c98fd00dc0bf7cbccaf2db307587", func := "underwood/underwoodlaw09.SpecLast", spec := "specLast", inPlace := ["slices.overlaps[int]"], unfollowed := true, recurses := true, apart := false }
def SpecLastSaid : Prop := specLastRow.holds Try.pinned (OpenSpec.ofChange specLastSpec)

/-- ITS FALSE NEIGHBOUR: 'it returns false'. Refute it at one input. -/
def specLastWrong : ChangeSpec := { name := "specLast", fn := fun _ => fun
  | [d1, d2] => { results := [.lit (.bool false)], args := [d1, d2] }
  | _ => none }
def SpecLastWrongFalsely : Prop := specLastRow.holds Try.pinned (OpenSpec.ofChange specLastWrong)

/-- 'underwoodlaw09.SpecKeys': WHATEVER THE INPUT: true; the input reads as it did. -/
def specKeysSpec : ChangeSpec := { name := "specKeys", fn := fun _ => fun
  | [d1, d2] => { results := [.lit (.bool true)], args := [d1, d2] }
  | _ => none }
def specKeysRow : OpenClaim := { program := "ytmfgalcepaaolaa", sum := "c1b2a6718ac42935eab25d6bf965e7fc3a38c98fd00dc0bf7cbccaf2db307587", func := "underwood/underwoodlaw09.SpecKeys", spec := "specKeys", inPlace := ["slices.overlaps[int]"], unfollowed := true, recurses := true, apart := false }
def SpecKeysSaid : Prop := specKeysRow.holds Try.pinned (OpenSpec.ofChange specKeysSpec)

/-- ITS FALSE NEIGHBOUR: 'it returns false'. Refute it at one input. -/
def specKeysWrong : ChangeSpec := { name := "specKeys", fn := fun _ => fun
  | [d1, d2] => { results := [.lit (.bool false)], args := [d1, d2] }
  | _ => none }
def SpecKeysWrongFalsely : Prop := specKeysRow.holds Try.pinned (OpenSpec.ofChange specKeysWrong)

/-- 'underwoodlaw09.SpecCommutes': WHATEVER THE INPUT: true; the input reads as it did. -/
def specCommutesSpec : ChangeSpec := { name := "specCommutes", fn := fun _ => fun
  | [d1, d2, d3] => { results := [.lit (.bool true)], args := [d1, d2, d3] }
  | _ => none }
def specCommutesRow : OpenClaim := { program := "ytmfgalcepaaolaa", sum := "c1b2a6718ac42935eab25d6bf965e7fc3a38c98fd00dc0bf7cbccaf2db307587", func := "underwood/underwoodlaw09.SpecCommutes", spec := "specCommutes", inPlace := ["slices.overlaps[int]"], unfollowed := true, recurses := true, apart := false }
def SpecCommutesSaid : Prop := specCommutesRow.holds Try.pinned (OpenSpec.ofChange specCommutesSpec)

/-- ITS FALSE NEIGHBOUR: 'it returns false'. Refute it at one input. -/
def specCommutesWrong : ChangeSpec := { name := "specCommutes", fn := fun _ => fun
  | [d1, d2, d3] => { results := [.lit (.bool false)], args := [d1, d2, d3] }
  | _ => none }
def SpecCommutesWrongFalsely : Prop := specCommutesRow.holds Try.pinned (OpenSpec.ofChange specCommutesWrong)

/-- 'underwoodlaw09.SpecSeen': WHATEVER THE INPUT: true; the input reads as it did. -/
def specSeenSpec : ChangeSpec := { name := "specSeen", fn := fun _ => fun
  | [d1, d2, d3, d4, d5] => { results := [.lit (.bool true)], args := [d1, d2, d3, d4, d5] }
  | _ => none }
def specSeenRow : OpenClaim := { program := "ytmfgalcepaaolaa", sum := "c1b2a6718ac42935eab25d6bf965e7fc3a38c98fd00dc0bf7cbccaf2db307587", func := "underwood/underwoodlaw09.SpecSeen", spec := "specSeen", inPlace := ["slices.overlaps[int]"], unfollowed := true, recurses := true, apart := false }
def SpecSeenSaid : Prop := specSeenRow.holds Try.pinned (OpenSpec.ofChange specSeenSpec)

/-- ITS FALSE NEIGHBOUR: 'it returns false'. Refute it at one input. -/
def specSeenWrong : ChangeSpec := { name := "specSeen", fn := fun _ => fun
  | [d1, d2, d3, d4, d5] => { results := [.lit (.bool false)], args := [d1, d2, d3, d4, d5] }
  | _ => none }
def SpecSeenWrongFalsely : Prop := specSeenRow.holds Try.pinned (OpenSpec.ofChange specSeenWrong)

/- THE SECOND FORM. 'bulk': how many values and letters a reading holds, each counted each time it is reached (what is shared counts as often as it is met; a slice's spare places count too). A statement '..UptoSaid' is the law's where the arguments, and the package variables that the reading takes, are together of bulk at most 1048576: NARROWER than '..Said'. Prove '..Said' where nothing that the law and all that it calls make is longer than what came in: it says more and counts as full. Else prove '..UptoSaid'. A law counts once. -/
mutual
def uptoBulk {H : Type} : DataW H → Nat
  | .lit (.string bytes) => bytes.length + 1
  | .lit _ => 1
  | .nil => 1
  | .ptr d => uptoBulk d + 1
  | .slice elems spare => uptoBulkAll elems + uptoBulkAll spare + 1
  | .agg parts => uptoBulkAll parts + 1
  | .iface _ d => uptoBulk d + 1
  | .map entries => uptoBulkEntries entries + 1
  | .held _ => 1
def uptoBulkAll {H : Type} : List (DataW H) → Nat
  | [] => 0
  | d :: r => uptoBulk d + uptoBulkAll r
def uptoBulkEntries {H : Type} : List (Lit × DataW H) → Nat
  | [] => 0
  | x :: r => uptoBulkEntry x + uptoBulkEntries r
def uptoBulkEntry {H : Type} : Lit × DataW H → Nat
  | (.string bytes, d) => bytes.length + uptoBulk d + 1
  | (_, d) => uptoBulk d + 1
 end
def uptoSmall : (H : Type) → List (DataW H) → Bool := fun _ ds => decide (uptoBulkAll ds ≤ 1048576)
def OpenSpec.upto (s : _root_.Go.ChangeSpec) : _root_.Go.OpenSpec := { _root_.Go.OpenSpec.ofChange s with cond := some uptoSmall }

/-- 'underwoodlaw09.SpecRight', WHERE WHAT IT READS IS OF BULK AT MOST 1048576: true; the input reads as it did. -/
def specRightUptoRow : OpenClaim := { program := "ytmfgalcepaaolaa", sum := "c1b2a6718ac42935eab25d6bf965e7fc3a38c98fd00dc0bf7cbccaf2db307587", func := "underwood/underwoodlaw09.SpecRight", spec := "specRight", inPlace := ["slices.overlaps[int]"], unfollowed := true, recurses := true, apart := false, narrowed := true }
def SpecRightUptoSaid : Prop := specRightUptoRow.holds Try.pinned (OpenSpec.upto specRightSpec)

/-- 'underwoodlaw09.SpecLast', WHERE WHAT IT READS IS OF BULK AT MOST 1048576: true; the input reads as it did. -/
def specLastUptoRow : OpenClaim := { program := "ytmfgalcepaaolaa", sum := "c1b2a6718ac42935eab25d6bf965e7fc3a38c98fd00dc0bf7cbccaf2db307587", func := "underwood/underwoodlaw09.SpecLast", spec := "specLast", inPlace := ["slices.overlaps[int]"], unfollowed := true, recurses := true, apart := false, narrowed := true }
def SpecLastUptoSaid : Prop := specLastUptoRow.holds Try.pinned (OpenSpec.upto specLastSpec)

/-- 'underwoodlaw09.SpecKeys', WHERE WHAT IT READS IS OF BULK AT MOST 1048576: true; the input reads as it did. -/
def specKeysUptoRow : OpenClaim := { program := "ytmfgalcepaaolaa", sum := "c1b2a6718ac42935eab25d6bf965e7fc3a38c98fd00dc0bf7cbccaf2db307587", func := "underwood/underwoodlaw09.SpecKeys", spec := "specKeys", inPlace := ["slices.overlaps[int]"], unfollowed := true, recurses := true, apart := false, narrowed := true }
def SpecKeysUptoSaid : Prop := specKeysUptoRow.holds Try.pinned (OpenSpec.upto specKeysSpec)

/-- 'underwoodlaw09.SpecCommutes', WHERE WHAT IT READS IS OF BULK AT MOST 1048576: true; the input reads as it did. -/
def specCommutesUptoRow : OpenClaim := { program := "ytmfgalcepaaolaa", sum := "c1b2a6718ac42935eab25d6bf965e7fc3a38c98fd00dc0bf7cbccaf2db307587", func := "underwood/underwoodlaw09.SpecCommutes", spec := "specCommutes", inPlace := ["slices.overlaps[int]"], unfollowed := true, recurses := true, apart := false, narrowed := true }
def SpecCommutesUptoSaid : Prop := specCommutesUptoRow.holds Try.pinned (OpenSpec.upto specCommutesSpec)

/-- 'underwoodlaw09.SpecSeen', WHERE WHAT IT READS IS OF BULK AT MOST 1048576: true; the input reads as it did. -/
def specSeenUptoRow : OpenClaim := { program := "ytmfgalcepaaolaa", sum := "c1b2a6718ac42935eab25d6bf965e7fc3a38c98fd00dc0bf7cbccaf2db307587", func := "underwood/underwoodlaw09.SpecSeen", spec := "specSeen", inPlace := ["slices.overlaps[int]"], unfollowed := true, recurses := true, apart := false, narrowed := true }
def SpecSeenUptoSaid : Prop := specSeenUptoRow.holds Try.pinned (OpenSpec.upto specSeenSpec)

end Rows
end Go.Proofs.Ytmfgalcepaaolaa
