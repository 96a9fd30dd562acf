/- Steps of a region that draws its order, in few words. -/
import Derived.Test.YtmfgalcepaaolaaLWTab
import Derived.Test.YtmfgalcepaaolaaLWMore
import Derived.Tactics
import Derived.KernelRfl
namespace Go.Proofs.Ytmfgalcepaaolaa.GR
open Go.Proofs.YtmfgalcepaaolaaW.PrintWords Go.Proofs.YtmfgalcepaaolaaW.PrintLast Go.Proofs.YtmfgalcepaaolaaW.PrintMore Go.RowKit
variable {P : Program} {ops : Array Oper} {Q : Exit → Act → World → Prop} {md : Region.Mode} {S : World → Prop} {ds : List Nat} {T : Bool × List (List Nat × List Nat)} {B : List Nat}
def bA (n m : Nat) : Array Bool := ((List.range n).map (fun i => m.testBit i)).toArray
theorem pu {oi : Oper} {v : Value} {fuel : Nat} {l : Array Bool} {a a' : Act} {w : World} (i K n m : Nat) (hT : rtab md ops = T)
    (hi : ops[i]? = some oi := by rfl) (hN : oi.dst = some K := by rfl) (hc : anyT T l.toList (bA n m).toList i = true := by kernel_rfl) (hw : Region.wanted oi (yielded ops a.tmps) = true := by rfl)
    (hy : ∀ w, (execOp a.eval oi).run P w = .ok (.value v) w := by intro w'; go_simp; with_reducible rfl)
    (ha : a.put (some K) v = a' := by simp only [Act.put, List.setIfInBounds_toArray, List.set_cons_zero, List.set_cons_succ, i64_w, i32_w]; rfl)
    (hQ : ∀ c a w, Q (.panic c) (a.put oi.dst v) w → Q (.panic c) a w := by exact fun _ _ _ h => h)
    (h : wpAnyLast P md ops Q S ds fuel (bA n m) a' w) : wpAnyLast P md ops Q S ds (fuel + 1) l a w :=
  pure_ (bA n m) hi hN (any_of hT hc) hQ (.inl ⟨hw, hy⟩) ha h
theorem tk {oi : Oper} {v : Value} {fuel : Nat} {l : Array Bool} {a a' : Act} {w : World} (i K n m : Nat) (hT : rtab md ops = T) (hB : waitsOk T.2 B = true) (hS : S w)
    (hi : ops[i]? = some oi := by rfl) (hN : oi.dst = some K := by rfl) (hc : takeW T B ds l.toList (bA n m).toList i = true := by kernel_rfl) (hw : Region.wanted oi (yielded ops a.tmps) = true := by rfl)
    (hy : ∀ w, S w → (execOp a.eval oi).run P w = .ok (.value v) w)
    (ha : a.put (some K) v = a' := by simp only [Act.put, List.setIfInBounds_toArray, List.set_cons_zero, List.set_cons_succ, i64_w, i32_w]; rfl)
    (hQ : ∀ c a w, Q (.panic c) (a.put oi.dst v) w → Q (.panic c) a w := by exact fun _ _ _ h => h)
    (h : wpAnyLast P md ops Q S ds fuel (bA n m) a' w) : wpAnyLast P md ops Q S ds (fuel + 1) l a w :=
  take_ (bA n m) hi hN (take_ofW hT hB hc) hQ (.inl ⟨hw, hy⟩) hS ha h
theorem ub {A C : Prop} (h : A) (f : A → C := by intro h_; (with_reducible repeat (first | refine blk_drewN ?_ _ | refine blk_drew ?_ | refine blk_alloc ?_ _)); exact h_) : C := f h
theorem uV {A C : Prop} (h : A) (f : A → C := by intro h_; (with_reducible repeat (first | apply Kd.V_alloc | apply Kd.V_drewN | apply Kd.V_drew)); exact h_) : C := f h
theorem uR {A C : Prop} (h : A) (f : A → C := by intro h_; (with_reducible repeat (first | apply Kd.R_alloc | apply Kd.R_drewN | apply Kd.R_drew)); exact h_) : C := f h
theorem uB {A C : Prop} (h : A) (f : A → C := by intro h_; repeat (first | (with_reducible first | exact h_ | apply below_alloc | apply pw_below_drewN | apply below_drew1 | refine below_set ?_ (Aside0.out ‹_›)) | exact h_)) : C := f h
theorem pb {A C : Prop} (h : A) (f : A → C := by intro h_; (with_reducible repeat (first | refine blk_drewN ?_ _ | refine blk_drew ?_ | refine blk_alloc ?_ _)); exact h_) : C := f h
theorem pV {A C : Prop} (h : A) (f : A → C := by intro h_; (with_reducible repeat (first | apply Kd.V_alloc | apply Kd.V_drewN | apply Kd.V_drew)); exact h_) : C := f h
theorem pR {A C : Prop} (h : A) (f : A → C := by intro h_; (with_reducible repeat (first | apply Kd.R_alloc | apply Kd.R_drewN | apply Kd.R_drew)); exact h_) : C := f h
abbrev NB (k : Nat) (v : Value) : Prop := some k ≠ v.ownBlock
theorem ls {A : Prop} (h : A := by (try simp only [List.map_toArray, List.map_cons, List.map_nil]); first | done | rfl | (simp only [List.length_drop, List.length_take]; rfl)) : A := h
end Go.Proofs.Ytmfgalcepaaolaa.GR
