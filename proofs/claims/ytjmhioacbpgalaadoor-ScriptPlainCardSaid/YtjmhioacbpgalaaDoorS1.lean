import Derived.Test.YtjmhioacbpgalaaDoorVW
import Derived.Test.YtjmhioacbpgalaaDoorProg
import Derived.KernelRfl
namespace Go.Proofs.YtjmhioacbpgalaaDoor.S
open Go Go.Proofs.YtjmhioacbpgalaaDoorV
set_option linter.unusedSimpArgs false
set_option linter.unusedVariables false
-- facts of types
theorem ts3 : tsize Tryd.prog 3 = some 1 := by kernel_rfl
theorem ag3 : isAggT Tryd.prog 3 = some false := by kernel_rfl
theorem ts4 : tsize Tryd.prog 4 = some 1 := by kernel_rfl
theorem ag4 : isAggT Tryd.prog 4 = some false := by kernel_rfl
theorem ts26 : tsize Tryd.prog 26 = some 3 := by kernel_rfl
theorem ag26 : isAggT Tryd.prog 26 = some true := by kernel_rfl
theorem agB26 : isAggB Tryd.prog 26 = true := by kernel_rfl
theorem by26 : tbytes Tryd.prog 26 = some 24 := by kernel_rfl
theorem zr26 : zeroD Tryd.prog 26 = some [.v (.int .i64 0), .v (.int .i64 0), .v (.int .i64 0)] := by kernel_rfl
theorem zv3 : zeroVal Tryd.prog 3 = some (.v (.int .i64 0)) := by kernel_rfl
theorem zv4 : zeroVal Tryd.prog 4 = some (.v (.bool false)) := by kernel_rfl
theorem kk3 : keyKind Tryd.prog 3 = some (.int .i64) := by kernel_rfl
attribute [go_sem] ts3 ag3 ts4 ag4 ts26 ag26 agB26 by26 zr26 Tryd.underlying22 Tryd.underlying26 Tryd.underlying43 Tryd.underlying44 Tryd.underlying3
attribute [go_sem] Nat.reduceEqDiff Nat.reduceLT Nat.reduceAdd Nat.reduceSub Nat.reduceLeDiff Nat.reduceMul decide_true decide_false if_true if_false

noncomputable def E0 : Env := { P := Tryd.prog, call := fun _ _ => none }
theorem E0P : E0.P = Tryd.prog := rfl
theorem E0ok : E0.ok := Env.ok_of (fun f args d objs h => by cases h) rfl
attribute [go_sem] E0P

/-- A pick. -/
structure Pk where
  k : Int
  a : Int
  b : Int
def Pk.cells (p : Pk) : List D := [.v (.int .i64 p.k), .v (.int .i64 p.a), .v (.int .i64 p.b)]
def Pk.enc (p : Pk) : D := .agg p.cells
def rightS (seats : Int) (p : Pk) : Bool := if p.a < 0 ∨ p.a ≥ seats then false else if p.k = 1 ∨ p.k = 3 then p.b == 0 else decide (p.k = 2) && decide (0 ≤ p.b) && decide (p.b ≤ 1048576)
set_option maxRecDepth 100000
set_option maxHeartbeats 4000000
theorem right (seats k a b : Int) : Fits Tryd.prog 12 [.v (.int .i64 seats), .agg [.v (.int .i64 k), .v (.int .i64 a), .v (.int .i64 b)]] (.v (.bool (rightS seats ⟨k, a, b⟩))) [] := by
  refine fits_of Tryd.func12 rfl ?_
  simp only [Tryd.ntmps12, List.length_cons, List.length_nil, Nat.reduceAdd, Nat.reduceSub, argsT]
  refine k_start ?_
  repeat' (first
    | refine k_seq ?_
    | (refine k_region E0ok ?_; simp only [go_sem])
    | refine RunP_some ?_
    | (refine gs_split ?_ ?_ <;> intro hc <;> simp only [go_sem, hc])
    | (refine k_cnd ?_; simp only [go_sem])
    | refine cp_t ?_ | refine cp_f ?_
    | (refine cp_s ?_ ?_ <;> intro hc <;> (try simp only [hc]))
    | refine k_skip ?_ | refine k_ret ?_ | refine k_block ?_ | refine k_exit ?_ | refine blk_exit ?_ | refine blk_other rfl ?_ | refine blk_ret ?_
    | refine fin_v rfl rfl ?_)
  all_goals
    refine congrArg (fun b => D.v (Value.bool b)) ?_
    simp only [decide_eq_true_eq, decide_eq_false_iff_not, beq_iff_eq, beq_eq_false_iff_ne, ne_eq] at *
    simp only [rightS]
  all_goals simp [*]
  all_goals omega
/-- What is known of calls. -/
noncomputable def E1 : Env := { P := Tryd.prog, call := fun f args => match f, args with
  | 12, [.v (.int .i64 s), .agg [.v (.int .i64 k), .v (.int .i64 a), .v (.int .i64 b)]] => some (.v (.bool (rightS s ⟨k, a, b⟩)), [])
  | _, _ => none }
theorem E1P : E1.P = Tryd.prog := rfl
theorem E1ok : E1.ok := by
  refine Env.ok_of ?_ rfl
  intro f args d objs h
  simp only [E1] at h
  split at h
  · cases h; exact ⟨enter_of Tryd.func12 rfl rfl, right _ _ _ _⟩
  · cases h
theorem call12 {look : Nat → Option DObj} {base : Nat} {s k a b : Int} : opCall E1 look base 12 [.v (.int .i64 s), .agg [.v (.int .i64 k), .v (.int .i64 a), .v (.int .i64 b)]] = some { val := .v (.bool (rightS s ⟨k, a, b⟩)) } := opCall_p rfl rfl rfl
attribute [go_sem] E1P call12
end Go.Proofs.YtjmhioacbpgalaaDoor.S
