import Derived.Test.YtjmhioacbpgalaaDoorS6
namespace Go.Proofs.YtjmhioacbpgalaaDoor.S
open Go Go.Proofs.YtjmhioacbpgalaaDoorV
set_option linter.unusedSimpArgs false
set_option linter.unusedVariables false
set_option maxRecDepth 100000
set_option maxHeartbeats 4000000
attribute [local irreducible] runF
theorem lent_ref {look : Nat → Option DObj} {L : Nat → Bool} {id n m : Nat} {ag : Bool} {cs : List D} (hL : L id = true) (h : look id = some (.cells cs false)) (hr : refsAll cs = []) (h1 : n * m ≤ cs.length) (h2 : 0 < m) (h3 : ag = true ∨ m = 1) :
    lend (lentC look L 6) (fun _ => false) (.ref id 0 n m ag) = some (.sl m (rowsD ag m n cs)) := by
  simp [lend, lentC, hL, h, lendAll_norefs _ hr, h1, h2, h3]
theorem closeL_has {look : Nat → Option DObj} {id : Nat} : (closeL look 6 [id]).contains id = true := by simp [closeL]
theorem call_1 {E : Env} {look : Nat → Option DObj} {base id n m : Nat} {ag : Bool} {cs : List D} {f : FuncId} {y d : D} (h : look id = some (.cells cs false)) (hr : refsAll cs = []) (h1 : n * m ≤ cs.length) (h2 : 0 < m) (h3 : ag = true ∨ m = 1)
    (hy : y.refs = []) (hc : E.call f [.sl m (rowsD ag m n cs), y] = some (d, [])) (hd : d.refs = []) (hf : d.flat = true) (hw_ : E.isW f = false := by rfl) : opCall E look base f [.ref id 0 n m ag, y] = some { val := d } := by
  have e : refsAll [.ref id 0 n m ag, y] = [id] := by simp [refsAll, D.refs, hy]
  refine opCall_lend (args' := [.sl m (rowsD ag m n cs), y]) ?_ hc hd hf hw_
  rw [e]
  simp only [lendAll, lent_ref closeL_has h hr h1 h2 h3, lend_norefs y hy, Option.bind_some, Option.map_some]
theorem call_2 {E : Env} {look : Nat → Option DObj} {base id n m : Nat} {ag : Bool} {cs : List D} {f : FuncId} {d : D} (h : look id = some (.cells cs false)) (hr : refsAll cs = []) (h1 : n * m ≤ cs.length) (h2 : 0 < m) (h3 : ag = true ∨ m = 1)
    (hc : E.call f [.sl m (rowsD ag m n cs)] = some (d, [])) (hd : d.refs = []) (hf : d.flat = true) (hw_ : E.isW f = false := by rfl) : opCall E look base f [.ref id 0 n m ag] = some { val := d } := by
  have e : refsAll [.ref id 0 n m ag] = [id] := by simp [refsAll, D.refs]
  refine opCall_lend (args' := [.sl m (rowsD ag m n cs)]) ?_ hc hd hf hw_
  rw [e]
  simp only [lendAll, lent_ref closeL_has h hr h1 h2 h3, Option.bind_some, Option.map_some]
theorem k15 {look : Nat → Option DObj} {base : Nat} (h : look 0 = some (.cells cells1 false)) : opCall E5 look base 15 [.v (.int .i64 2), .ref 0 0 9 3 true] = some { val := .ref base 0 5 3 true, news := [.cells cells2 false] } := by
  have hc : E5.call 15 [.v (.int .i64 2), .sl 3 rows1] = some (.ref 0 0 5 3 true, [.cells cells2 false]) := by rw [E5call]; exact r15
  have e : refsAll [.v (.int .i64 2), .ref 0 0 9 3 true] = [0] := rfl
  have hl : lendAll (lentC look (fun i => (closeL look 6 [0]).contains i) 6) (fun _ => false) [.v (.int .i64 2), .ref 0 0 9 3 true] = some [.v (.int .i64 2), .sl 3 rows1] := by
    simp only [lendAll, lend, Option.bind_some, Option.map_some]
    have := lent_ref (L := fun i => (closeL look 6 [0]).contains i) (n := 9) (m := 3) (ag := true) closeL_has h rfl (by decide) (by decide) (.inl rfl)
    simp only [lend] at this
    rw [this]; rfl
  have hf : (D.ref 0 0 5 3 true).flat && [DObj.cells cells2 false].all (·.flat) = true := rfl
  rw [opCall_R rfl]
  unfold opCallR
  have hr2 : refsAll cells2 = [] := rfl
  simp only [e, hl, hc, hf, Bool.true_or, if_true, List.length_cons, List.length_nil, D.ren, renObjs, DObj.ren, renAll_norefs _ hr2, Option.map_some, Option.bind_some]
  have f1 : (D.ref 0 0 5 3 true).flat = true := rfl
  have f2 : (DObj.cells cells2 false).flat = true := rfl
  simp [shiftBy, f1, f2]
theorem k19a {look : Nat → Option DObj} {base : Nat} : opCall E5 look base 19 [.v (.string { data := #[48, 120, 50, 32, 49, 126, 50, 32, 49, 32, 48, 32, 49, 32, 48, 33, 32, 48, 32, 49, 33] })] = some { val := .tup [.ref base 0 9 3 true, .v (.int .i64 0)], news := [.cells cells1 false] } := c19a
theorem k19b {look : Nat → Option DObj} {base : Nat} : opCall E5 look base 19 [.v (.string { data := #[48, 120] })] = some { val := .tup [.v (.slice none 0 0), .v (.int .i64 3)] } := c19b
theorem k19c {look : Nat → Option DObj} {base : Nat} : opCall E5 look base 19 [.v (.string { data := #[48, 120, 49, 48, 48, 48, 49] })] = some { val := .tup [.v (.slice none 0 0), .v (.int .i64 2)] } := c19c
theorem k21a {look : Nat → Option DObj} {base : Nat} (h : look 1 = some (.cells cells2 false)) : opCall E5 look base 21 [.ref 1 0 5 3 true] = some { val := .v (.string s4) } := call_2 h rfl (by decide) (by decide) (.inl rfl) (by rw [E5call]; exact r21a) rfl rfl
theorem k21b {look : Nat → Option DObj} {base : Nat} (h : look 0 = some (.cells cells1 false)) : opCall E5 look base 21 [.ref 0 0 9 3 true] = some { val := .v (.string s1) } := call_2 h rfl (by decide) (by decide) (.inl rfl) (by rw [E5call]; exact r21b) rfl rfl
theorem k17a {look : Nat → Option DObj} {base id : Nat} (h : look id = some (.cells [.v (.bool true), .v (.bool false), .v (.bool true)] false)) : opCall E5 look base 17 [.ref id 0 3 1 false, .v (.int .i64 0)] = some { val := .v (.int .i64 2) } := call_1 h rfl (by decide) (by decide) (.inr rfl) rfl (by rw [E5call]; exact r17a) rfl rfl
theorem k17b {look : Nat → Option DObj} {base id : Nat} (h : look id = some (.cells [.v (.bool true), .v (.bool false), .v (.bool true)] false)) : opCall E5 look base 17 [.ref id 0 3 1 false, .v (.int .i64 2)] = some { val := .v (.int .i64 0) } := call_1 h rfl (by decide) (by decide) (.inr rfl) rfl (by rw [E5call]; exact r17b) rfl rfl
theorem k17c {look : Nat → Option DObj} {base id : Nat} (h : look id = some (.cells [.v (.bool false)] false)) : opCall E5 look base 17 [.ref id 0 1 1 false, .v (.int .i64 0)] = some { val := .v (.int .i64 (-1)) } := call_1 h rfl (by decide) (by decide) (.inr rfl) rfl (by rw [E5call]; exact r17c) rfl rfl
end Go.Proofs.YtjmhioacbpgalaaDoor.S
