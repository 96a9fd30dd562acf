import Derived.Test.YtjmhioacbpgalaaDoorT4
namespace Go.Proofs.YtjmhioacbpgalaaDoor.S
open Go Go.Proofs.YtjmhioacbpgalaaDoorV
set_option linter.unusedSimpArgs false
set_option linter.unusedVariables false
set_option maxRecDepth 100000
set_option maxHeartbeats 4000000
attribute [-go_sem] lookH_zero
attribute [local go_sem] lookH_z2
/-! ### whose turn it is -/
def qT (on : List Bool) (i : Nat) : Bool := (on[i % on.length]?).getD false
def seekN (on : List Bool) : Nat → Nat → Option Nat
  | 0, _ => none
  | d + 1, J => if qT on J = true then some J else seekN on d (J + 1)
def lastN (on : List Bool) (last : Int) : Int := if last < 0 ∨ last ≥ on.length then (on.length : Int) - 1 else last
def nextS (on : List Bool) (last : Int) : Int := match seekN on on.length ((lastN on last).toNat + 1) with
  | some J => ((J % on.length : Nat) : Int)
  | none => -1
theorem lastN_pos {on : List Bool} {last : Int} (h : 0 < on.length) : 0 ≤ lastN on last ∧ lastN on last < on.length := by
  unfold lastN
  split <;> omega
theorem lt23 {on : List Bool} {i : Nat} (h : i < on.length) : on[i]? = some (qT on i) := by
  unfold qT
  rw [Nat.mod_eq_of_lt h, List.getElem?_eq_getElem h]; rfl
def stN (on : List Bool) (last : Int) (j : Nat) : St := ⟨34, [(0, rowsL on), (1, .v (.int .i64 (lastN on last))), (5, .v (.int .i64 on.length)), (6, .v (.int .i64 ((j + 1 : Nat) : Int)))], []⟩
def JN (on : List Bool) (last : Int) (n : Nat) (s : St) : Prop := ∃ j, n + j = on.length ∧ s = stN on last j ∧ seekN on on.length ((lastN on last).toNat + 1) = seekN on n ((lastN on last).toNat + 1 + j)
theorem next (on : List Bool) (last : Int) (hl : on.length ≤ 100) : Fits Tryd.prog 17 [rowsL on, .v (.int .i64 last)] (.v (.int .i64 (nextS on last))) [] := by
  refine fits_ofT Tryd.func17 rfl rfl rfl rfl ?_
  simp only [Tryd.ntmps17, List.length_cons, List.length_nil, Nat.reduceAdd, Nat.reduceSub, argsT]
  refine k_start ?_
  have hw : IntKind.i64.wrap ((on.length : Int) - 1) = (on.length : Int) - 1 := by rw [wrap_id] <;> omega
  have key : lastN on last = (if last < 0 ∨ last ≥ on.length then (on.length : Int) - 1 else last) := rfl
  repeat' (first
    | with_reducible refine k_seq ?_
    | ((fail_if_success with_reducible refine k_stop 2 ?_); (with_reducible refine k_region' E2P E2ok ?_); simp only [go_sem])
    | with_reducible refine RunP_some ?_
    | ((with_reducible refine gs_split ?_ ?_) <;> intro hc <;> simp only [go_sem, hc])
    | ((with_reducible refine k_cnd ?_); simp only [go_sem])
    | with_reducible refine cp_t ?_
    | with_reducible refine cp_f ?_
    | ((with_reducible refine cp_s ?_ ?_) <;> intro hc <;> (try simp only [hc]))
    | with_reducible refine k_skip ?_
    | with_reducible refine k_ret ?_
    | with_reducible refine k_block ?_
    | with_reducible refine k_exit ?_
    | with_reducible refine blk_exit ?_
    | ((with_reducible refine blk_other ?_ ?_); (· rfl))
    | with_reducible refine blk_ret ?_
    | with_reducible refine k_label ?_)
  refine k_cut2 ⟨34, [(0, rowsL on), (1, .v (.int .i64 (lastN on last))), (5, .v (.int .i64 on.length))], []⟩ ?_ ?_
  · repeat' (first
      | with_reducible refine k_seq ?_
      | ((with_reducible refine k_region' E2P E2ok ?_); simp only [go_sem, hw])
      | with_reducible refine RunP_some ?_
      | ((with_reducible refine gs_split ?_ ?_) <;> intro hc <;> simp only [go_sem, hw, hc])
      | ((with_reducible refine k_cnd ?_); simp only [go_sem, hw])
      | with_reducible refine cp_t ?_
      | with_reducible refine cp_f ?_
      | ((with_reducible refine cp_s ?_ ?_) <;> intro hc <;> (try simp only [hc]))
      | with_reducible refine k_skip ?_
      | with_reducible refine k_ret ?_
      | with_reducible refine k_block ?_
      | with_reducible refine k_exit ?_
      | with_reducible refine blk_exit ?_
      | ((with_reducible refine blk_other ?_ ?_); (· rfl))
      | with_reducible refine blk_ret ?_
      | with_reducible refine k_label ?_)
    all_goals
      simp only [decide_eq_true_eq, decide_eq_false_iff_not] at *
      refine Told.ren [0, 1, 5] [] rfl ?_ rfl
      simp [keepT, lookT, renT, ren_rowsL, D.ren]
      rw [key]
      first
        | (rw [if_pos (by omega)])
        | (rw [if_neg (by omega)])
  repeat' (first
    | with_reducible refine k_seq ?_
    | ((with_reducible refine k_region' E2P E2ok ?_); simp only [go_sem])
    | with_reducible refine RunP_some ?_
    | ((with_reducible refine gs_split ?_ ?_) <;> intro hc <;> simp only [go_sem, hc])
    | ((with_reducible refine k_cnd ?_); simp only [go_sem])
    | with_reducible refine cp_t ?_
    | with_reducible refine cp_f ?_
    | ((with_reducible refine cp_s ?_ ?_) <;> intro hc <;> (try simp only [hc]))
    | with_reducible refine k_skip ?_
    | with_reducible refine k_ret ?_
    | with_reducible refine k_block ?_
    | with_reducible refine k_exit ?_
    | with_reducible refine blk_exit ?_
    | ((with_reducible refine blk_other ?_ ?_); (· rfl))
    | with_reducible refine blk_ret ?_
    | with_reducible refine k_label ?_)
  refine k_loopR (JN on last) on.length (s := stN on last 0) ?_ ⟨0, by omega, rfl, by rw [Nat.add_zero]⟩ ?_
  · exact Told.ren [0, 1, 5, 6] [] rfl (by simp [keepT, lookT, renT, D.ren, ren_rowsL]) rfl
  rintro n s ⟨j, hn, rfl, hs⟩
  simp only [stN]
  by_cases hj : j < on.length
  · have hdec : decide (((j + 1 : Nat) : Int) ≤ (on.length : Int)) = true := by simp; omega
    obtain ⟨p1, p2⟩ := lastN_pos (last := last) (show 0 < on.length by omega)
    obtain ⟨m, rfl⟩ : ∃ m, n = m + 1 := ⟨n - 1, by omega⟩
    simp only [seekN] at hs
    generalize hL : lastN on last = L at *
    obtain ⟨b, rfl⟩ : ∃ b : Nat, L = (b : Int) := ⟨L.toNat, by omega⟩
    rw [Int.toNat_natCast] at hs
    have hw1 : IntKind.i64.wrap ((b : Int) + ((j + 1 : Nat) : Int)) = ((b + 1 + j : Nat) : Int) := by rw [wrap_id] <;> omega
    have hw2 : IntKind.i64.wrap (((j + 1 : Nat) : Int) + 1) = ((j + 1 + 1 : Nat) : Int) := by rw [wrap_id] <;> omega
    have hrem : opBin Tryd.prog .rem 3 (.v (.int .i64 ((b + 1 + j : Nat) : Int))) (.v (.int .i64 (on.length : Int))) = some { val := .v (.int .i64 (((b + 1 + j) % on.length : Nat) : Int)) } := by
      rw [b_rem (by omega)]; rfl
    have hlt : (b + 1 + j) % on.length < on.length := Nat.mod_lt _ (by omega)
    have hq : qT on ((b + 1 + j) % on.length) = qT on (b + 1 + j) := by simp only [qT, Nat.mod_mod]
    have hi := idx23 (k := .i64) (lt23 hlt)
    rw [hq] at hi
    cases hqv : qT on (b + 1 + j) with
    | true =>
      rw [hqv] at hi
      rw [if_pos hqv] at hs
      have hnx : nextS on last = (((b + 1 + j) % on.length : Nat) : Int) := by simp only [nextS, hL, Int.toNat_natCast, hs]
      repeat' (first
        | with_reducible refine k_seq ?_
        | ((with_reducible refine k_region' E2P E2ok ?_); simp only [go_sem, hdec, hw1, hw2, hrem, hi, ld4e])
        | with_reducible refine RunP_some ?_
        | ((with_reducible refine gs_split ?_ ?_) <;> intro hc <;> simp only [go_sem, hdec, hw1, hw2, hrem, hi, ld4e, hc])
        | ((with_reducible refine k_cnd ?_); simp only [go_sem, hdec, hw1, hw2, hrem, hi, ld4e])
        | with_reducible refine cp_t ?_
        | with_reducible refine cp_f ?_
        | ((with_reducible refine cp_s ?_ ?_) <;> intro hc <;> (try simp only [hc]))
        | with_reducible refine k_skip ?_
        | with_reducible refine k_ret ?_
        | with_reducible refine k_block ?_
        | with_reducible refine k_exit ?_
        | with_reducible refine blk_exit ?_
        | ((with_reducible refine blk_other ?_ ?_); (· rfl))
        | with_reducible refine blk_ret ?_
        | with_reducible refine k_label ?_)
      rw [hnx]
      exact end_here (.inr rfl) rfl rfl
    | false =>
      rw [hqv] at hi
      rw [if_neg (by rw [hqv]; simp)] at hs
      repeat' (first
        | with_reducible refine k_seq ?_
        | ((with_reducible refine k_region' E2P E2ok ?_); simp only [go_sem, hdec, hw1, hw2, hrem, hi, ld4e])
        | with_reducible refine RunP_some ?_
        | ((with_reducible refine gs_split ?_ ?_) <;> intro hc <;> simp only [go_sem, hdec, hw1, hw2, hrem, hi, ld4e, hc])
        | ((with_reducible refine k_cnd ?_); simp only [go_sem, hdec, hw1, hw2, hrem, hi, ld4e])
        | with_reducible refine cp_t ?_
        | with_reducible refine cp_f ?_
        | ((with_reducible refine cp_s ?_ ?_) <;> intro hc <;> (try simp only [hc]))
        | with_reducible refine k_skip ?_
        | with_reducible refine k_ret ?_
        | with_reducible refine k_block ?_
        | with_reducible refine k_exit ?_
        | with_reducible refine blk_exit ?_
        | ((with_reducible refine blk_other ?_ ?_); (· rfl))
        | with_reducible refine blk_ret ?_
        | with_reducible refine k_label ?_)
      exact ⟨m, stN on last (j + 1), Told.ren [0, 1, 5, 6] [] rfl (by simp [keepT, lookT, renT, D.ren, ren_rowsL, hL]) rfl, ⟨j + 1, by omega, rfl, by rw [hL, Int.toNat_natCast, hs]; rfl⟩, by omega⟩
  · have hdec : decide (((j + 1 : Nat) : Int) ≤ (on.length : Int)) = false := by simp; omega
    obtain rfl : n = 0 := by omega
    have hnx : nextS on last = -1 := by simp only [nextS, hs, seekN]
    rw [hnx]
    repeat' (first
      | with_reducible refine k_seq ?_
      | ((with_reducible refine k_region' E2P E2ok ?_); simp only [go_sem, hdec])
      | with_reducible refine RunP_some ?_
      | ((with_reducible refine gs_split ?_ ?_) <;> intro hc <;> simp only [go_sem, hdec, hc])
      | ((with_reducible refine k_cnd ?_); simp only [go_sem, hdec])
      | with_reducible refine cp_t ?_
      | with_reducible refine cp_f ?_
      | ((with_reducible refine cp_s ?_ ?_) <;> intro hc <;> (try simp only [hc]))
      | with_reducible refine k_skip ?_
      | with_reducible refine k_ret ?_
      | with_reducible refine k_block ?_
      | with_reducible refine k_exit ?_
      | with_reducible refine blk_exit ?_
      | ((with_reducible refine blk_other ?_ ?_); (· rfl))
      | with_reducible refine blk_ret ?_
      | with_reducible refine k_label ?_)
    exact end_here (.inr rfl) rfl rfl
end Go.Proofs.YtjmhioacbpgalaaDoor.S
