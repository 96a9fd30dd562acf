/- What package spec computes, in plain words: right contents; maps as rows of pairs; stacks and channels as lists. -/
import Derived.Test.YtmfgalcepaaolaaLPRx8
import Derived.Test.YtmfgalcepaaolaaLPRx9
import Derived.Test.YtmfgalcepaaolaaLPureMap
namespace Go.Proofs.Ytmfgalcepaaolaa.PureSpec
open Go.RowKit Go.Proofs.Ytmfgalcepaaolaa.PureMap Go.Proofs.Ytmfgalcepaaolaa.PR Go.Proofs.YtmfgalcepaaolaaW.PrintWords Go.Proofs.YtmfgalcepaaolaaW.PrintLast Go.Proofs.YtmfgalcepaaolaaW.PrintMore
theorem wrap_id {i : Int} (h0 : -9223372036854775808 ≤ i) (h1 : i ≤ 9223372036854775807) : wrap64 i = i := by
  unfold wrap64
  omega
theorem rd_nat (l : List Int) (j : Nat) : rd l (j : Int) = l.getD j 0 := by simp [rd]
theorem rd_get {l : List Int} {j : Nat} (h : j < l.length) : rd l (j : Int) = l[j] := by rw [rd_nat, List.getD_eq_getElem?_getD, List.getElem?_eq_getElem h]; rfl
theorem clone_spec {l : List Int} (h : l.length ≤ 1000000) : slices_Clone_int_int.f l = some l := by
  unfold slices_Clone_int_int.f
  rw [if_pos (by omega)]
theorem insert_spec {l : List Int} {p : Nat} (x : Int) (hp : p ≤ l.length) (h : l.length ≤ 1000000) : slices_Insert_int_int.f l p [x] = some (l.take p ++ x :: l.drop p) := by
  unfold slices_Insert_int_int.f
  rw [if_pos ⟨by omega, by omega, by simp, by simp; omega⟩]
  simp
theorem do_push (k : Nat) (ks vs : List Int) (hn : vs.length ≤ 1000000) (o1 a b : Int) : spec_Do.f k 2 ks vs 4 o1 a b = some (2, ks, a :: vs, 0, true) := by
  unfold spec_Do.f
  rw [if_neg (by decide), if_neg (by decide), if_neg (by decide), if_neg (by decide), if_pos rfl]
  unfold spec_push.f
  rw [clone_spec hn, Option.bind_some, show (0 : Int) = ((0 : Nat) : Int) from rfl, insert_spec a (Nat.zero_le _) hn]
  rfl
theorem first_spec (kd : Int) (ks vs : List Int) (hn : vs.length ≤ 1000000) (op o1 a b : Int) : spec_first.f kd ks vs op o1 a b = some (kd, ks, vs.tail, vs.headD 0, !vs.isEmpty) := by
  unfold spec_first.f
  cases vs with
  | nil => rfl
  | cons v vs =>
    rw [if_neg (by simp; omega), if_pos (by simp), if_pos (by simp; omega)]
    simp only [List.drop_succ_cons, List.drop_zero]
    rw [clone_spec (by simp at hn; omega)]
    rfl
theorem do_pop (k : Nat) (ks vs : List Int) (hn : vs.length ≤ 1000000) (o1 a b : Int) : spec_Do.f k 2 ks vs 5 o1 a b = some (2, ks, vs.tail, vs.headD 0, !vs.isEmpty) := by
  unfold spec_Do.f
  rw [if_neg (by decide), if_neg (by decide), if_neg (by decide), if_neg (by decide), if_neg (by decide), if_pos rfl]
  exact first_spec _ _ _ hn _ _ _ _
theorem do_recv (k : Nat) (ks vs : List Int) (hn : vs.length ≤ 1000000) (o1 a b : Int) : spec_Do.f k 3 ks vs 7 o1 a b = some (3, ks, vs.tail, vs.headD 0, !vs.isEmpty) := by
  unfold spec_Do.f
  rw [if_neg (by decide), if_neg (by decide), if_neg (by decide), if_neg (by decide), if_neg (by decide), if_neg (by decide), if_neg (by decide)]
  exact first_spec _ _ _ hn _ _ _ _
theorem do_send (k : Nat) (ks vs : List Int) (hn : vs.length ≤ 1000000) (o1 a b : Int) : spec_Do.f k 3 ks vs 6 o1 a b = some (3, ks, vs ++ [a], 0, true) := by
  unfold spec_Do.f
  rw [if_neg (by decide), if_neg (by decide), if_neg (by decide), if_neg (by decide), if_neg (by decide), if_neg (by decide), if_pos rfl]
  unfold spec_send.f
  rw [clone_spec hn, Option.bind_some, Option.bind_some, if_pos (by simp; omega)]
end Go.Proofs.Ytmfgalcepaaolaa.PureSpec
