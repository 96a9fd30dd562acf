/- Contract of spec.Of: the kind of things that an operation is of. -/
import Derived.Test.YtmfgalcepaaolaaLWMore
import Derived.Test.YtmfgalcepaaolaaProg
import Derived.WalkSpells
import Derived.WalkLawsBesides
namespace Go.Proofs.Ytmfgalcepaaolaa.GOf
open Go.RowKit Go.Proofs.YtmfgalcepaaolaaW.PrintWords Go.Proofs.YtmfgalcepaaolaaW.PrintLast Go.Proofs.YtmfgalcepaaolaaW.PrintMore
def kindsV : Value := .agg #[.int .i64 0, .int .i64 1, .int .i64 1, .int .i64 1, .int .i64 2, .int .i64 2, .int .i64 3, .int .i64 3]
set_option maxHeartbeats 1000000 in
theorem kinds_calls (w : World) : Calls Try.prog 21 #[] w fun e w' => e = .returned kindsV ∧ Below w.heap.size w w' := by
  go_enter Try.func21, Try.ntmps21
  go_wp2
  exact bodyPost_ret (v := kindsV) (by simp [results, Try.results21, go_sem, kindsV]) rfl ⟨rfl, (Below.refl _ _).alloc (Nat.le_refl _) _⟩
def ofV (a : Int) : Int := if a = 1 ∨ a = 2 ∨ a = 3 then 1 else if a = 4 ∨ a = 5 then 2 else if a = 6 ∨ a = 7 then 3 else 0
theorem idx0 (w : World) : (Instr.index 51 kindsV (.int .i64 0)).run Try.prog w = .ok (.int .i64 0) w := by kernel_rfl
theorem idx1 (w : World) : (Instr.index 51 kindsV (.int .i64 1)).run Try.prog w = .ok (.int .i64 1) w := by kernel_rfl
theorem idx2 (w : World) : (Instr.index 51 kindsV (.int .i64 2)).run Try.prog w = .ok (.int .i64 1) w := by kernel_rfl
theorem idx3 (w : World) : (Instr.index 51 kindsV (.int .i64 3)).run Try.prog w = .ok (.int .i64 1) w := by kernel_rfl
theorem idx4 (w : World) : (Instr.index 51 kindsV (.int .i64 4)).run Try.prog w = .ok (.int .i64 2) w := by kernel_rfl
theorem idx5 (w : World) : (Instr.index 51 kindsV (.int .i64 5)).run Try.prog w = .ok (.int .i64 2) w := by kernel_rfl
theorem idx6 (w : World) : (Instr.index 51 kindsV (.int .i64 6)).run Try.prog w = .ok (.int .i64 3) w := by kernel_rfl
theorem idx7 (w : World) : (Instr.index 51 kindsV (.int .i64 7)).run Try.prog w = .ok (.int .i64 3) w := by kernel_rfl
theorem idx_any (a : Int) (h0 : ¬ a < 0) (h7 : ¬ 7 < a) (w : World) : (Instr.index 51 kindsV (.int .i64 a)).run Try.prog w = .ok (.int .i64 (ofV a)) w := by
  have : a = 0 ∨ a = 1 ∨ a = 2 ∨ a = 3 ∨ a = 4 ∨ a = 5 ∨ a = 6 ∨ a = 7 := by omega
  rcases this with rfl | rfl | rfl | rfl | rfl | rfl | rfl | rfl
  · exact idx0 w
  · exact idx1 w
  · exact idx2 w
  · exact idx3 w
  · exact idx4 w
  · exact idx5 w
  · exact idx6 w
  · exact idx7 w
set_option maxHeartbeats 1000000 in
theorem of_calls (a : Int) (w : World) : Calls Try.prog 18 #[.int .i64 a] w fun e w' => e = .returned (.int .i64 (ofV a)) ∧ Below w.heap.size w w' := by
  by_cases h0 : a < 0
  · have d0 : decide (a < 0) = true := decide_eq_true h0
    have e0 : ofV a = 0 := by unfold ofV; rw [if_neg (by omega), if_neg (by omega), if_neg (by omega)]
    go_enter Try.func18, Try.ntmps18
    go_wp2
    go_ret
    exact ⟨by first | rfl | (rw [e0]; rfl), Below.refl _ _⟩
  by_cases h7 : 7 < a
  · have d0 : decide (a < 0) = false := decide_eq_false h0
    have d7 : decide (7 < a) = true := decide_eq_true h7
    have e0 : ofV a = 0 := by unfold ofV; rw [if_neg (by omega), if_neg (by omega), if_neg (by omega)]
    go_enter Try.func18, Try.ntmps18
    go_wp2
    go_ret
    exact ⟨by first | rfl | (rw [e0]; rfl), Below.refl _ _⟩
  have hidx := idx_any a h0 h7
  have d0 : decide (a < 0) = false := decide_eq_false h0
  have d7 : decide (7 < a) = false := decide_eq_false h7
  go_enter Try.func18, Try.ntmps18
  go_wp2_with (go_at_call 21; refine (kinds_calls _).mono ?_; rintro e w' ⟨rfl, hb⟩)
  go_ret
  exact ⟨rfl, hb⟩
end Go.Proofs.Ytmfgalcepaaolaa.GOf
