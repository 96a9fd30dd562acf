/- Two operations that commute may change places: the law SpecCommutes' answer is true, whatever comes in. -/
import Derived.Test.YtmfgalcepaaolaaDQureSpecRight
namespace Go.Proofs.Ytmfgalcepaaolaa.PureSpec
open Go.RowKit Go.Proofs.Ytmfgalcepaaolaa.PureMap Go.Proofs.Ytmfgalcepaaolaa.PR Go.Proofs.YtmfgalcepaaolaaW.PrintWords Go.Proofs.YtmfgalcepaaolaaW.PrintLast Go.Proofs.YtmfgalcepaaolaaW.PrintMore
theorem all_two (k : Nat) (hk : 2 ≤ k) (kd : Int) (ks vs : List Int) (a b : S26) (kd1 : Int) (k1 v1 : List Int) (t0 : Int) (s0 : Bool) (kd2 : Int) (k2 v2 : List Int) (t1 : Int) (s1 : Bool)
    (ha : ∀ j, k ≤ j + 3 → spec_Do.f j kd ks vs a.f0 a.f1 a.f2 a.f3 = some (kd1, k1, v1, t0, s0)) (hb : ∀ j, k ≤ j + 3 → spec_Do.f j kd1 k1 v1 b.f0 b.f1 b.f2 b.f3 = some (kd2, k2, v2, t1, s1)) :
    spec_All.f (k + 1) kd ks vs [a, b] = some (kd2, k2, v2, [t0, t1], [s0, s1]) := by
  obtain ⟨k, rfl⟩ : ∃ m, k = m + 2 := ⟨k - 2, by omega⟩
  have w1 : wrap64 ((0 : Int) + 1) = 1 := by rw [wrap_id (by omega) (by omega)]; rfl
  have w2 : wrap64 ((1 : Int) + 1) = 2 := by rw [wrap_id (by omega) (by omega)]; rfl
  have r0 : rd_T26 [a, b] 0 = a := rfl
  have r1 : rd_T26 [a, b] 1 = b := rfl
  have ln : (([a, b] : List S26).length : Int) = 2 := rfl
  unfold spec_All.f
  simp only [spec_All.l0, ln, r0, ha (k + 2) (by omega), Option.bind_some, w1]
  simp only [r1, hb (k + 1) (by omega), Option.bind_some, w2]
  simp
theorem commute_spec (a b c d p q r s : Int) : spec_Commute.f a b c d p q r s = some (if Go.Proofs.Ytmfgalcepaaolaa.GOf.ofV a = Go.Proofs.Ytmfgalcepaaolaa.GOf.ofV p then (if Go.Proofs.Ytmfgalcepaaolaa.GOf.ofV a = 1 then (if c = r then (if a = 1 then (p == 1) else false) else true) else false) else true) := by
  unfold spec_Commute.f spec_Of.f
  simp only [Option.bind_some]
  split
  · split
    · split
      · split <;> rfl
      · rfl
    · rfl
  · rfl
end Go.Proofs.Ytmfgalcepaaolaa.PureSpec
