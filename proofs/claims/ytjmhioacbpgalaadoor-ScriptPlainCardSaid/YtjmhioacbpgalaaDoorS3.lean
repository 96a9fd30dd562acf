import Derived.Test.YtjmhioacbpgalaaDoorS2
import Derived.Test.YtjmhioacbpgalaaDoorVX
import Derived.Test.YtjmhioacbpgalaaDoorChecked
namespace Go.Proofs.YtjmhioacbpgalaaDoor.S
open Go Go.Proofs.YtjmhioacbpgalaaDoorV
set_option linter.unusedSimpArgs false
set_option linter.unusedVariables false
theorem mixd : Tryd.prog.follows .mixedOrders = true := Tryd.checked.mixed
theorem sih26 : Tryd.prog.stoodInHeld 26 = false := by kernel_rfl
theorem egt26 : Tryd.prog.eqGuardType Tryd.prog.depth 26 = false := by kernel_rfl
/-- Rows of picks, read. -/
structure RdP (x : D) (l : List Pk) : Prop where
  len : ∀ look, opLen Tryd.prog look 22 x = some { val := .v (.int .i64 l.length) }
  idx : ∀ (j : Nat) (p : Pk), l[j]? = some p → opIndexAddr Tryd.prog 22 x (.v (.int .i64 (j : Int))) = some { val := .eaddr [.v (.int .i64 p.k), .v (.int .i64 p.a), .v (.int .i64 p.b)] }
  refs : x.refs = []
theorem RdP.nil : RdP (.v (.slice none 0 0)) [] := ⟨fun look => by simp only [opLen, Tryd.underlying22]; rfl, fun j p h => by simp at h, rfl⟩
theorem RdP.sl (l : List Pk) : RdP (.sl 3 (l.map Pk.enc)) l := ⟨fun look => by simp only [opLen, Tryd.underlying22, List.length_map], fun j p h => by
  have hx : (l.map Pk.enc)[j]? = some (.agg [.v (.int .i64 p.k), .v (.int .i64 p.a), .v (.int .i64 p.b)]) := by rw [List.getElem?_map, h]; rfl
  simp only [opIndexAddr, Tryd.underlying22, ts26, Int.toNat_natCast, hx, Int.natCast_nonneg, and_self, if_true]; rfl, encP_refs l⟩
theorem eq26 {k a b : Int} : opBin Tryd.prog .neq 26 (.agg [.v (.int .i64 k), .v (.int .i64 a), .v (.int .i64 b)]) (.agg [.v (.int .i64 k), .v (.int .i64 a), .v (.int .i64 b)]) = some { val := .v (.bool false) } := by
  have h : ∀ d, eqD Tryd.prog (d + 1 + 1) 26 (.agg [.v (.int .i64 k), .v (.int .i64 a), .v (.int .i64 b)]) (.agg [.v (.int .i64 k), .v (.int .i64 a), .v (.int .i64 b)]) = some true := by
    intro d
    simp only [eqD, Tryd.underlying26, sih26]
    simp [eqFieldsD, partD, ag3, ts3, eqD, Tryd.underlying3]
  have h' : eqD Tryd.prog Op.maxDepth 26 (.agg [.v (.int .i64 k), .v (.int .i64 a), .v (.int .i64 b)]) (.agg [.v (.int .i64 k), .v (.int .i64 a), .v (.int .i64 b)]) = some true := h (Op.maxDepth - 2)
  simp [opBin, binD, egt26, h']
set_option maxRecDepth 100000
set_option maxHeartbeats 4000000
theorem wrap_wr' {n : Int} : IntKind.i64.wrap n = wr n := rfl
theorem same (x y : D) (l : List Pk) (hx : RdP x l) (hy : RdP y l) (hl : l.length ≤ 400) : Fits Tryd.prog 14 [x, y] (.v (.bool true)) [] := by
  refine fits_of Tryd.func14 rfl ?_
  simp only [Tryd.ntmps14, List.length_cons, List.length_nil, Nat.reduceAdd, Nat.reduceSub, argsT]
  refine k_start ?_
  repeat' (first
    | refine k_seq ?_
    | (refine k_region E0ok ?_; simp only [go_sem, hx.len, hy.len, bne_self_eq_false])
    | refine RunP_some ?_
    | (refine k_cnd ?_; simp only [go_sem])
    | refine cp_t ?_ | refine cp_f ?_
    | refine k_skip ?_
    | refine k_block ?_)
  refine k_loopR (fun n s => ∃ j, n + j = l.length ∧ s = ⟨26, [(0, x), (1, y), (5, .v (.int .i64 (j : Nat)))], []⟩) l.length (s := ⟨26, [(0, x), (1, y), (5, .v (.int .i64 (0 : Nat)))], []⟩) ?_ ⟨0, by omega, rfl⟩ ?_
  · exact Told.ren [0, 1, 5] [] rfl (by simp [keepT, lookT, renT, D.ren, posL, ren_norefs _ hx.refs, ren_norefs _ hy.refs]) (by simp [renH])
  rintro n s ⟨j, hn, rfl⟩
  by_cases hj : j < l.length
  · obtain ⟨p, hp⟩ : ∃ p, l[j]? = some p := ⟨l[j], List.getElem?_eq_getElem hj⟩
    have hdec : decide ((j : Int) < (l.length : Int)) = true := by simpa using hj
    have hw : IntKind.i64.wrap ((j : Int) + 1) = ((j + 1 : Nat) : Int) := by rw [wrap_id] <;> omega
    have h1 := hx.idx j p hp
    have h2 := hy.idx j p hp
    repeat' (first
      | refine k_seq ?_
      | (refine k_region E0ok ?_; simp only [go_sem, hdec, hw, hx.len, hy.len])
      | (refine k_read E0ok mixd [[], [], [0, 1], [0, 1, 2], [], [], [4, 5], [4, 5, 6], [0, 1, 2, 3, 4, 5, 6, 7]] [none, none, none, none, none, none, none, none, none] 8 rfl ?_; simp only [go_sem, h1, h2, eq26])
      | refine RunP_some ?_
      | (refine k_cnd ?_; simp only [go_sem, hdec])
      | refine cp_t ?_ | refine cp_f ?_
      | refine k_skip ?_ | refine k_ret ?_ | refine k_block ?_ | refine k_exit ?_ | refine blk_exit ?_ | refine blk_other rfl ?_ | refine blk_ret ?_)
    exact ⟨n - 1, _, Told.ren [0, 1, 5] [] rfl (T' := [(0, x), (1, y), (5, .v (.int .i64 ((j + 1 : Nat) : Int)))]) (H' := []) (by simp [keepT, lookT, renT, D.ren, posL, ren_norefs _ hx.refs, ren_norefs _ hy.refs]) (by simp [renH]), ⟨j + 1, by omega, rfl⟩, by omega⟩
  · have hj' : j = l.length := by omega
    have hdec : decide ((j : Int) < (l.length : Int)) = false := by simp; omega
    repeat' (first
      | refine k_seq ?_
      | (refine k_region E0ok ?_; simp only [go_sem, hdec, hx.len, hy.len])
      | refine RunP_some ?_
      | (refine k_cnd ?_; simp only [go_sem, hdec])
      | refine cp_t ?_ | refine cp_f ?_
      | refine k_skip ?_ | refine k_ret ?_ | refine k_block ?_ | refine k_exit ?_ | refine blk_exit ?_ | refine blk_other rfl ?_ | refine blk_ret ?_
      | refine fin_v rfl rfl rfl)
end Go.Proofs.YtjmhioacbpgalaaDoor.S
