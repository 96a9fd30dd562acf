import Derived.Test.YtjmhioacbpgalaaDoorS5
namespace Go.Proofs.YtjmhioacbpgalaaDoor.S
open Go Go.Proofs.YtjmhioacbpgalaaDoorV
set_option linter.unusedSimpArgs false
set_option linter.unusedVariables false
set_option maxRecDepth 100000
set_option maxHeartbeats 4000000
noncomputable def E5 : Env := { P := Tryd.prog, call := runF Tryd.prog call0 tabs 200 12 }
theorem E5call : E5.call = runF Tryd.prog call0 tabs 200 12 := rfl
attribute [local irreducible] runF
theorem E5P : E5.P = Tryd.prog := rfl
theorem E5ok : E5.ok := runF_ok mixd call0_ok 12
theorem c_callT {E : Env} {T : List (Nat × D)} {look : Nat → Option DObj} {base : Nat} {f : FuncId} {az : Array Operand} {ts : Array TypeId} : coreD E (evalD T) look base (  .call ⟨.value (.func f), az, ts⟩) = opCall E look base f (az.toList.map (evalD T)) := c_call rfl
theorem ref_map {i base : Nat} : shiftBy 1 base 0 = some base := by simp [shiftBy]
theorem c19a {look : Nat → Option DObj} {base : Nat} : opCall E5 look base 19 [.v (.string s1)] = some { val := .tup [.ref base 0 9 3 true, .v (.int .i64 0)], news := [.cells cells1 false] } := by
  have h : E5.call 19 [.v (.string s1)] = some (.tup [.ref 0 0 9 3 true, .v (.int .i64 0)], [.cells cells1 false]) := by rw [E5call]; exact r19a
  rw [opCall_R rfl]
  unfold opCallR
  have e : refsAll [.v (.string s1)] = [] := rfl
  have hc : refsAll cells1 = [] := rfl
  simp only [e, closeL, lendAll, lend, Option.bind_some, Option.map_some, h, List.length_cons, List.length_nil, Nat.zero_add, D.ren, renAll, ref_map, renObjs, DObj.ren, renAll_norefs _ hc, List.isEmpty_nil, Bool.or_true, if_true]
  simp [shiftBy]
theorem c19b {look : Nat → Option DObj} {base : Nat} : opCall E5 look base 19 [.v (.string s2)] = some { val := .tup [.v (.slice none 0 0), .v (.int .i64 3)] } := opCall_p rfl (by rw [E5call]; exact r19b) rfl
theorem c19c {look : Nat → Option DObj} {base : Nat} : opCall E5 look base 19 [.v (.string s3)] = some { val := .tup [.v (.slice none 0 0), .v (.int .i64 2)] } := opCall_p rfl (by rw [E5call]; exact r19c) rfl
theorem c12a {look : Nat → Option DObj} {base : Nat} : opCall E5 look base 12 [.v (.int .i64 2), .agg [.v (.int .i64 2), .v (.int .i64 1), .v (.int .i64 2)]] = some { val := .v (.bool true) } := opCall_p rfl (by rw [E5call]; exact r12a) rfl
theorem c12b {look : Nat → Option DObj} {base : Nat} : opCall E5 look base 12 [.v (.int .i64 1), .agg [.v (.int .i64 2), .v (.int .i64 1), .v (.int .i64 2)]] = some { val := .v (.bool false) } := opCall_p rfl (by rw [E5call]; exact r12b) rfl
theorem opCall_lend {E : Env} {look : Nat → Option DObj} {base : Nat} {f : FuncId} {args args' : List D} {d : D} (hl : lendAll (lentC look (fun i => (closeL look 6 (refsAll args)).contains i) 6) (fun _ => false) args = some args') (hc : E.call f args' = some (d, [])) (hd : d.refs = []) (hf : d.flat = true) (hw_ : E.isW f = false) : opCall E look base f args = some { val := d } := by
  rw [opCall_R hw_]
  unfold opCallR
  simp only [hl, hc, ren_norefs d hd, renObjs, hf, List.all_nil, Bool.and_self, Bool.true_or, if_true]
end Go.Proofs.YtjmhioacbpgalaaDoor.S
