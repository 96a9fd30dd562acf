import Derived.Test.YtjmhioacbpgalaaDoorS7
namespace Go.Proofs.YtjmhioacbpgalaaDoor.S
open Go Go.Proofs.YtjmhioacbpgalaaDoorV
set_option linter.unusedSimpArgs false
set_option linter.unusedVariables false
set_option maxRecDepth 100000
set_option maxHeartbeats 4000000
attribute [local irreducible] runF
theorem zr4 : zeroD Tryd.prog 4 = some [.v (.bool false)] := by kernel_rfl
theorem agB4 : isAggB Tryd.prog 4 = false := by kernel_rfl
theorem bs23a {base : Nat} : opBuildSlice Tryd.prog base 23 3 [(0, .v (.bool true)), (1, .v (.bool false)), (2, .v (.bool true))] = some { val := .ref base 0 3 1 false, news := [.cells [.v (.bool true), .v (.bool false), .v (.bool true)] false] } := by
  simp only [opBuildSlice, Tryd.underlying23, ts4, zr4, agB4]; rfl
theorem bs23b {base : Nat} : opBuildSlice Tryd.prog base 23 1 [(0, .v (.bool false))] = some { val := .ref base 0 1 1 false, news := [.cells [.v (.bool false)] false] } := by
  simp only [opBuildSlice, Tryd.underlying23, ts4, zr4, agB4]; rfl
theorem bd26 : opBuild Tryd.prog 26 [(0, .v (.int .i64 2)), (1, .v (.int .i64 1)), (2, .v (.int .i64 2))] = some { val := .agg [.v (.int .i64 2), .v (.int .i64 1), .v (.int .i64 2)] } := by kernel_rfl
theorem eq26e {k a b : Int} : opBin Tryd.prog .eql 26 (.agg [.v (.int .i64 k), .v (.int .i64 a), .v (.int .i64 b)]) (.agg [.v (.int .i64 k), .v (.int .i64 a), .v (.int .i64 b)]) = some { val := .v (.bool true) } := by
  have h : ∀ d, eqD Tryd.prog (d + 1 + 1) 26 (.agg [.v (.int .i64 k), .v (.int .i64 a), .v (.int .i64 b)]) (.agg [.v (.int .i64 k), .v (.int .i64 a), .v (.int .i64 b)]) = some true := by
    intro d
    simp only [eqD, Tryd.underlying26, sih26]
    simp [eqFieldsD, partD, ag3, ts3, eqD, Tryd.underlying3]
  have h' : eqD Tryd.prog Op.maxDepth 26 (.agg [.v (.int .i64 k), .v (.int .i64 a), .v (.int .i64 b)]) (.agg [.v (.int .i64 k), .v (.int .i64 a), .v (.int .i64 b)]) = some true := h (Op.maxDepth - 2)
  simp [opBin, binD, egt26, h']
theorem ld26 {look : Nat → Option DObj} (h : look 0 = some (.cells cells1 false)) : opLoad Tryd.prog look 26 (.ptr 0 6) = some { val := .agg [.v (.int .i64 2), .v (.int .i64 1), .v (.int .i64 2)] } := by
  rw [opLoad_eq]
  simp only [Go.Proofs.YtjmhioacbpgalaaDoorV.rowAt, h, Option.bind_some, loadD, ag26, ts26]
  rfl
theorem ix26 : opIndexAddr Tryd.prog 22 (.ref 0 0 9 3 true) (.v (.int .i64 2)) = some { val := .ptr 0 6 } := by
  simp only [opIndexAddr, Tryd.underlying22, ts26]; rfl
theorem st4 : opBin Tryd.prog .eql 9 (.v (.string s4)) (.v (.string { data := #[48, 120, 51, 32, 49, 32, 48, 33] })) = some { val := .v (.bool true) } := by kernel_rfl
theorem st1 : opBin Tryd.prog .eql 9 (.v (.string s1)) (.v (.string { data := #[48, 120, 50, 32, 49, 126, 50, 32, 49, 32, 48, 32, 49, 32, 48, 33, 32, 48, 32, 49, 33] })) = some { val := .v (.bool true) } := by kernel_rfl
theorem lookH_z {o : Option DObj} {H : List (Option DObj)} : lookH (o :: H) 0 = o := Eq.trans rfl rfl
attribute [local go_sem] lookH_z
attribute [-go_sem] opLoad_eq lookH_zero
attribute [local go_sem] k15 k19a k19b k19c k21a k21b k17a k17b k17c c12a c12b c_callT opExtract bs23a bs23b bd26 eq26e ld26 ix26 st4 st1 beq_self_eq_true opLen
theorem cast9 : ((9 : Nat) : Int) = 9 := rfl
attribute [local go_sem] cast9 Int.reduceBEq Int.reduceNeg
theorem alive : Fits Tryd.prog 11 [] (.v (.bool true)) [] := by
  refine fits_of Tryd.func11 rfl ?_
  simp only [Tryd.ntmps11, List.length_cons, List.length_nil, Nat.reduceAdd, Nat.reduceSub, argsT]
  refine k_start ?_
  repeat' (first
      | refine k_seq ?_
      | (refine k_region E5ok ?_; simp only [go_sem, E5P])
      | with_reducible refine RunP_some ?_
      | refine k_ret ?_)
  exact fin_v rfl rfl rfl
end Go.Proofs.YtjmhioacbpgalaaDoor.S
