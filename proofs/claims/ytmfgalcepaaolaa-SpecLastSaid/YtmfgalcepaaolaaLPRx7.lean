/- A part of the proof of SpecSeen: what functions do and tell, and words for that. -/
import Derived.Test.YtmfgalcepaaolaaLPRx0
import Derived.Test.YtmfgalcepaaolaaLPRx6
namespace Go.Proofs.Ytmfgalcepaaolaa.PR
open Go.RowKit Go.Proofs.YtmfgalcepaaolaaW.PrintWords Go.Proofs.YtmfgalcepaaolaaW.PrintLast Go.Proofs.YtmfgalcepaaolaaW.PrintMore
set_option linter.unusedVariables false
set_option linter.unusedSimpArgs false
def spec_All.l0 : Nat → List Int → List Bool → List (S26) → Int → Int → Int → List Int → List Int → Option (Int × List Int × List Int × List Int × List Bool)
  | 0, _, _, _, _, _, _, _, _ => none
  | k + 1, x7, x8, x14, x15, x16, x199000, x199001, x199002 => if x16 < x15 then (if 0 ≤ x16 then (if x16 < (x14.length : Int) then ((spec_Do.f k x199000 x199001 x199002 ((rd_T26 x14 x16).f0) ((rd_T26 x14 x16).f1) ((rd_T26 x14 x16).f2) ((rd_T26 x14 x16).f3)).bind fun bt202 => ((some (([bt202.2.2.2.1] : List Int) : List Int)).bind fun y212 => (if x7.length + y212.length < 17592186044416 then ((some (([bt202.2.2.2.2] : List Bool) : List Bool)).bind fun y218 => (if x8.length + y218.length < 140737488355328 then (spec_All.l0 k (x7 ++ y212) (x8 ++ y218) x14 x15 (wrap64 (x16 + 1)) bt202.1 bt202.2.1 bt202.2.2.1) else (none))) else (none)))) else (none)) else (none)) else (some (x199000, x199001, x199002, x7, x8))
def spec_All.f (k : Nat) (a0_0 : Int) (l0_1 : List Int) (l0_2 : List Int) (l1 : List (S26)) : Option (Int × List Int × List Int × List Int × List Bool) := spec_All.l0 k ([] : List Int) ([] : List Bool) l1 (l1.length : Int) 0 a0_0 l0_1 l0_2
theorem spec_All.mono_l : ∀ k, (∀ y0 y1 y2 y3 y4 y5 y6 y7, LeO (spec_All.l0 k y0 y1 y2 y3 y4 y5 y6 y7) (spec_All.l0 (k + 1) y0 y1 y2 y3 y4 y5 y6 y7))
  | 0 => fun _ _ _ _ _ _ _ _ r h => by simp [spec_All.l0] at h
  | k + 1 => by
    have ih0 := spec_All.mono_l k
    · intro y0 y1 y2 y3 y4 y5 y6 y7
      unfold spec_All.l0
      repeat' first
      | (with_reducible exact ih0 _ _ _ _ _ _ _ _)
      | (with_reducible exact spec_Do.mono _ _ _ _ _ _ _ _)
      | (with_reducible exact LeO.refl _)
      | (with_reducible exact LeO.none _)
      | (with_reducible refine LeO.ite ?_ ?_)
      | (with_reducible refine LeO.bind ?_ (fun _ => ?_))
      | exact ih0 _ _ _ _ _ _ _ _
      | exact spec_Do.mono _ _ _ _ _ _ _ _
      | exact LeO.none _
      | refine LeO.ite ?_ ?_
      | refine LeO.bind ?_ (fun _ => ?_)
theorem spec_All.mono : ∀ a0 a1 a2 a3 k, LeO (spec_All.f k a0 a1 a2 a3) (spec_All.f (k + 1) a0 a1 a2 a3) := by
  intro a0 a1 a2 a3 k
  have ih0 := spec_All.mono_l k
  unfold spec_All.f
  repeat' first
      | (with_reducible exact ih0 _ _ _ _ _ _ _ _)
      | (with_reducible exact spec_Do.mono _ _ _ _ _ _ _ _)
      | (with_reducible exact LeO.refl _)
      | (with_reducible exact LeO.none _)
      | (with_reducible refine LeO.ite ?_ ?_)
      | (with_reducible refine LeO.bind ?_ (fun _ => ?_))
      | exact ih0 _ _ _ _ _ _ _ _
      | exact spec_Do.mono _ _ _ _ _ _ _ _
      | exact LeO.none _
      | refine LeO.ite ?_ ?_
      | refine LeO.bind ?_ (fun _ => ?_)
def spec_All.T7 : Bool × List (List Nat × List Nat) := (true, [([], []), ([], []), ([], []), ([2], [2]), ([1, 3], [1, 3]), ([], []), ([], []), ([6], [6]), ([5, 7, 4], [5, 7]), ([0, 8, 0], [0]), ([4, 9, 0, 1, 2, 3, 4, 9], [1, 4]), ([8, 10, 0, 1, 2, 3, 4, 5, 6, 7, 8, 9, 10], [5, 8])])
def spec_All.B7 : List Nat := [0, 0, 0, 4, 14, 0, 0, 64, 254, 511, 1023, 2047]
theorem spec_All.tab7 : rtab .any (opsOf Try.f13 7) = spec_All.T7 := by kernel_rfl
theorem spec_All.bits7 : waitsOk spec_All.T7.2 spec_All.B7 = true := by kernel_rfl
set_option maxHeartbeats 8000000 in
set_option maxRecDepth 100000 in
theorem spec_All.calls (k : Nat) (a0_0 : Int) (P0_1_ : Nat → Prop) (A0_1 : Option Addr) (c0_1 : Nat) (l0_1 : List Int) (P0_2_ : Nat → Prop) (A0_2 : Option Addr) (c0_2 : Nat) (l0_2 : List Int) (A1 : Option Addr) (c1 : Nat) (l1 : List (S26)) (r1 : Int) (r2 : List Int) (r3 : List Int) (r4 : List Int) (r5 : List Bool) (w : World) (hs0_1 : Kd.V (Kd.int .i64) 3 w w.heap.size (fun k_ => P0_1_ k_) (.slice A0_1 l0_1.length c0_1) l0_1) (hs0_2 : Kd.V (Kd.int .i64) 3 w w.heap.size (fun k_ => P0_2_ k_) (.slice A0_2 l0_2.length c0_2) l0_2) (hr1 : Kd.C k26 w A1 l1.length l1) (hc1 : l1.length ≤ c1) (h : spec_All.f k a0_0 l0_1 l0_2 l1 = some (r1, r2, r3, r4, r5)) :
    Calls Try.prog 13 #[.agg #[.int .i64 a0_0, .slice A0_1 l0_1.length c0_1, .slice A0_2 l0_2.length c0_2], .slice A1 l1.length c1] w fun e w' => ∃ v1_ v2_ v3_ v4_ : Value, e = .returned (.tuple #[.agg #[.int .i64 r1, v1_, v2_], v3_, v4_]) ∧ Kd.V (Kd.int .i64) 3 w' w.heap.size (fun k_ => ((P0_1_ k_ ∨ P0_2_ k_) ∨ w.heap.size ≤ k_) ∧ some k_ ≠ (v3_ : Value).ownBlock ∧ some k_ ≠ (v4_ : Value).ownBlock) v1_ r2 ∧ Kd.V (Kd.int .i64) 3 w' w.heap.size (fun k_ => ((P0_1_ k_ ∨ P0_2_ k_) ∨ w.heap.size ≤ k_) ∧ some k_ ≠ (v3_ : Value).ownBlock ∧ some k_ ≠ (v4_ : Value).ownBlock) v2_ r3 ∧ Kd.R (Kd.int .i64) 3 w' w.heap.size (fun k_ => (w.heap.size ≤ k_)) v3_ r4 ∧ Kd.R Kd.bool 4 w' w.heap.size (fun k_ => (w.heap.size ≤ k_)) v4_ r5 ∧ Below w.heap.size w w' := by
  have hu24 := Try.underlying24
  have hu26 := Try.underlying26
  have HO0_1 := Aside0.mk (show Kd.V (Kd.int .i64) 3 w w.heap.size (fun k_ => ((P0_1_ k_ ∨ P0_2_ k_) ∨ w.heap.size ≤ k_)) (.slice A0_1 l0_1.length c0_1) l0_1 from Kd.V_mono hs0_1 (fun k_ hk => .inl (.inl hk)))
  have HO0_2 := Aside0.mk (show Kd.V (Kd.int .i64) 3 w w.heap.size (fun k_ => ((P0_1_ k_ ∨ P0_2_ k_) ∨ w.heap.size ≤ k_)) (.slice A0_2 l0_2.length c0_2) l0_2 from Kd.V_mono hs0_2 (fun k_ hk => .inl (.inr hk)))
  have HR1 := Aside0.mk hr1
  have HC1 := Aside0.mk hc1
  clear hr1 hc1
  have HB := Aside0.mk (Below.refl w.heap.size w)
  have H : (spec_All.l0 k ([] : List Int) ([] : List Bool) l1 (l1.length : Int) 0 a0_0 l0_1 l0_2) = some (r1, r2, r3, r4, r5) := h
  clear h
  have H' := Aside0.mk H
  clear H
  go_enter Try.func13, Try.ntmps13
  go_wp2_with (first | ((with_reducible refine gate_dst (N := 2) rfl ?_); refine box_event ?hg (N := 2) ?hd (cs := #[.int .i64 a0_0, .slice A0_1 l0_1.length c0_1, .slice A0_2 l0_2.length c0_2]) (t := 24) ?hr ?_; (case hd => rfl); (case hg => rfl); (case hr => first | (go_simp; done) | (go_simp; rfl)); intro gb198 hg w3 hbox hb; have n0_ := Aside0.mk (Kd.V_below (Kd.V_elderB (by (with_reducible repeat (first | apply Kd.V_alloc | apply Kd.V_drewN | apply Kd.V_drew)); exact HO0_1.out) gb198 (Nat.le_of_eq hg.symm)) hb); have n1_ := Aside0.mk (Kd.V_below (Kd.V_elderB (by (with_reducible repeat (first | apply Kd.V_alloc | apply Kd.V_drewN | apply Kd.V_drew)); exact HO0_2.out) gb198 (Nat.le_of_eq hg.symm)) hb); have n2_ := Aside0.mk (below_step (by repeat (first | (with_reducible first | exact HB.out | apply below_alloc | apply pw_below_drewN | apply below_drew1) | exact HB.out)) hb); have n3_ := Aside0.mk (hbox); have n4_ := Aside0.mk ((by rw [hg]; exact (below_size (by repeat (first | (with_reducible first | exact HB.out | apply below_alloc | apply pw_below_drewN | apply below_drew1) | exact HB.out))) : w.heap.size ≤ gb198)); have n5_ := Aside0.mk ((by rw [hg]; exact (below_size (by repeat (first | (with_reducible first | exact HB.out | apply below_alloc | apply pw_below_drewN | apply below_drew1) | exact HB.out))) : w.heap.size ≤ gb198)); clear HO0_1; clear HO0_2; clear HB; have HO0_1 := n0_; have HO0_2 := n1_; have HB := n2_; have BK198 := n3_; have GW198 := n4_; have GE198 := n5_; clear n0_ n1_ n2_ n3_ n4_ n5_; clear hb hbox hg) | ((with_reducible refine gate_dst (N := 4) rfl ?_); refine box_event ?hg (N := 4) ?hd (cs := #[.int .i64 0, .slice none 0 0, .slice none 0 0]) (t := 24) ?hr ?_; (case hd => rfl); (case hg => rfl); (case hr => first | (go_simp; done) | (go_simp; rfl)); intro gb199 hg w4 hbox hb; have n0_ := Aside0.mk (Kd.V_below (Kd.V_elderB (by (with_reducible repeat (first | apply Kd.V_alloc | apply Kd.V_drewN | apply Kd.V_drew)); exact HO0_1.out) gb199 (Nat.le_of_eq hg.symm)) hb); have n1_ := Aside0.mk (Kd.V_below (Kd.V_elderB (by (with_reducible repeat (first | apply Kd.V_alloc | apply Kd.V_drewN | apply Kd.V_drew)); exact HO0_2.out) gb199 (Nat.le_of_eq hg.symm)) hb); have n2_ := Aside0.mk (blk_below (g := gb198) (o := .cells #[.int .i64 a0_0, .slice A0_1 l0_1.length c0_1, .slice A0_2 l0_2.length c0_2] 24 (0, 0)) (by (with_reducible repeat (first | refine blk_drewN ?_ _ | refine blk_drew ?_ | refine blk_alloc ?_ _)); exact BK198.out) hb); have n3_ := Aside0.mk (below_step (by repeat (first | (with_reducible first | exact HB.out | apply below_alloc | apply pw_below_drewN | apply below_drew1 | refine below_set ?_ GE198.out) | exact HB.out)) hb); have n4_ := Aside0.mk (hbox); have n5_ := Aside0.mk ((by rw [hg]; exact (below_size (by repeat (first | (with_reducible first | exact HB.out | apply below_alloc | apply pw_below_drewN | apply below_drew1 | refine below_set ?_ GE198.out) | exact HB.out))) : w.heap.size ≤ gb199)); have n6_ := Aside0.mk ((by rw [hg]; exact (below_size (by repeat (first | (with_reducible first | exact HB.out | apply below_alloc | apply pw_below_drewN | apply below_drew1 | refine below_set ?_ GE198.out) | exact HB.out))) : w.heap.size ≤ gb199)); have n7_ := Aside0.mk ((by rw [hg]; exact Nat.ne_of_lt (blk_lt (g := gb198) (o := .cells #[.int .i64 a0_0, .slice A0_1 l0_1.length c0_1, .slice A0_2 l0_2.length c0_2] 24 (0, 0)) (by (with_reducible repeat (first | refine blk_drewN ?_ _ | refine blk_drew ?_ | refine blk_alloc ?_ _)); exact BK198.out)) : gb198 ≠ gb199)); have n8_ := Aside0.mk ((by rw [hg]; exact Nat.ne_of_gt (blk_lt (g := gb198) (o := .cells #[.int .i64 a0_0, .slice A0_1 l0_1.length c0_1, .slice A0_2 l0_2.length c0_2] 24 (0, 0)) (by (with_reducible repeat (first | refine blk_drewN ?_ _ | refine blk_drew ?_ | refine blk_alloc ?_ _)); exact BK198.out)) : gb199 ≠ gb198)); clear HO0_1; clear HO0_2; clear BK198; clear HB; have HO0_1 := n0_; have HO0_2 := n1_; have BK198 := n2_; have HB := n3_; have BK199 := n4_; have GW199 := n5_; have GE199 := n6_; have NB198_199 := n7_; have NB199_198 := n8_; clear n0_ n1_ n2_ n3_ n4_ n5_ n6_ n7_ n8_; clear hb hbox hg))
  go_loopg [7, 8, 16] k (fun kq v7 v8 v16 w' => ∃ (x7_1 : List Int) (x8_1 : List Bool) (x16_1 : Int) (x199000_1 : Int) (x199001_1 : List Int) (x199002_1 : List Int) (u199001 : Value) (u199002 : Value), v16 = .int .i64 x16_1 ∧ Aside0 (spec_All.l0 kq x7_1 x8_1 l1 (l1.length : Int) x16_1 x199000_1 x199001_1 x199002_1 = some (r1, r2, r3, r4, r5)) ∧ Aside0 (kq ≤ k) ∧ Aside0 (Kd.R (Kd.int .i64) 3 w' w.heap.size (fun k_ => (w.heap.size ≤ k_)) v7 x7_1) ∧ Aside0 (Kd.R Kd.bool 4 w' w.heap.size (fun k_ => (w.heap.size ≤ k_)) v8 x8_1) ∧ Aside0 (Kd.V (Kd.int .i64) 3 w' w.heap.size (fun k_ => ((P0_1_ k_ ∨ P0_2_ k_) ∨ w.heap.size ≤ k_) ∧ some k_ ≠ (v7 : Value).ownBlock ∧ some k_ ≠ (v8 : Value).ownBlock ∧ k_ ≠ gb198 ∧ k_ ≠ gb199) u199001 x199001_1) ∧ Aside0 (Kd.V (Kd.int .i64) 3 w' w.heap.size (fun k_ => ((P0_1_ k_ ∨ P0_2_ k_) ∨ w.heap.size ≤ k_) ∧ some k_ ≠ (v7 : Value).ownBlock ∧ some k_ ≠ (v8 : Value).ownBlock ∧ k_ ≠ gb198 ∧ k_ ≠ gb199) u199002 x199002_1) ∧ Aside0 (w'.heap[gb198]? = some (.cells #[.int .i64 x199000_1, u199001, u199002] 24 (0, 0))) ∧ Aside0 (w'.heap[gb199]? = some (.cells #[.int .i64 0, (.slice none 0 0), (.slice none 0 0)] 24 (0, 0))) ∧ Aside0 (Below w.heap.size w w'))
  case atStart => exact ⟨(([] : List Int)), (([] : List Bool)), (0), (a0_0), (l0_1), (l0_2), (.slice A0_1 l0_1.length c0_1), (.slice A0_2 l0_2.length c0_2), (by first | rfl | (simp; done) | (simp [*]; done)), H', ⟨Nat.le_refl _⟩, ⟨by first | exact Kd.R_nil _ _ _ _ _ | exact Kd.N_nil _ _ _ _ _ | exact Kd.V_nil _ _ _ _ _ | exact Kd.Q_nil _ _ _ _ _ | exact Kd.S_nil _ _ _ _ _⟩, ⟨by first | exact Kd.R_nil _ _ _ _ _ | exact Kd.N_nil _ _ _ _ _ | exact Kd.V_nil _ _ _ _ _ | exact Kd.Q_nil _ _ _ _ _ | exact Kd.S_nil _ _ _ _ _⟩, ⟨by (with_reducible repeat (first | apply Kd.V_alloc | apply Kd.V_drewN | apply Kd.V_drew)); exact Kd.V_mono HO0_1.out (fun _ hk => ⟨hk.1.1, ⟨(by simp [Value.ownBlock]), ⟨(by simp [Value.ownBlock]), ⟨hk.1.2, hk.2⟩⟩⟩⟩)⟩, ⟨by (with_reducible repeat (first | apply Kd.V_alloc | apply Kd.V_drewN | apply Kd.V_drew)); exact Kd.V_mono HO0_2.out (fun _ hk => ⟨hk.1.1, ⟨(by simp [Value.ownBlock]), ⟨(by simp [Value.ownBlock]), ⟨hk.1.2, hk.2⟩⟩⟩⟩)⟩, ⟨by (with_reducible repeat (first | refine blk_drewN ?_ _ | refine blk_drew ?_ | refine blk_alloc ?_ _)); exact BK198.out⟩, ⟨by (with_reducible repeat (first | refine blk_drewN ?_ _ | refine blk_drew ?_ | refine blk_alloc ?_ _)); exact BK199.out⟩, ⟨by repeat (first | (with_reducible first | exact HB.out | apply below_alloc | apply pw_below_drewN | apply below_drew1 | refine below_set ?_ GE198.out | refine below_set ?_ GE199.out) | exact HB.out)⟩⟩
  case round =>
    clear H'
    try clear c1
    try clear p2
    obtain ⟨x7_1, x8_1, x16_1, x199000_1, x199001_1, x199002_1, u199001, u199002, rfl, HA, HK1, HO_7, HO_8, HO_199001, HO_199002, BK198, BK199, HB⟩ := hrel
    cases gk with
    | zero => exact absurd HA.out (by simp [spec_All.l0])
    | succ k1 =>
      have H := HA.out
      clear HA
      simp only [spec_All.l0] at H
      by_cases c5 : x16_1 < (l1.length : Int)
      · rw [if_pos c5] at H
        have c5b0 : decide (x16_1 < (l1.length : Int)) = true := decide_eq_true c5
        clear c5
        by_cases c6 : 0 ≤ x16_1
        · rw [if_pos c6] at H
          have c6b0 : decide (0 ≤ x16_1) = true := decide_eq_true c6
          clear c6
          by_cases c7 : x16_1 < (l1.length : Int)
          · rw [if_pos c7] at H
            have c7b0 : decide (x16_1 < (l1.length : Int)) = true := decide_eq_true c7
            clear c7
            replace H := Option.bind_eq_some_iff.mp H
            obtain ⟨⟨t202, t203, t206, t209, t210⟩, A80, H⟩ := H
            replace H : ((some (([t209] : List Int) : List Int)).bind fun y212 => (if x7_1.length + y212.length < 17592186044416 then ((some (([t210] : List Bool) : List Bool)).bind fun y218 => (if x8_1.length + y218.length < 140737488355328 then (spec_All.l0 k1 (x7_1 ++ y212) (x8_1 ++ y218) l1 (l1.length : Int) (wrap64 (x16_1 + 1)) t202 t203 t206) else (none))) else (none))) = some (r1, r2, r3, r4, r5) := H
            have A8 := Aside0.mk A80
            clear A80
            obtain ⟨y212, hy212⟩ : ∃ y_ : List Int, y_ = (([t209] : List Int)) := ⟨_, rfl⟩
            replace H : (if x7_1.length + y212.length < 17592186044416 then ((some (([t210] : List Bool) : List Bool)).bind fun y218 => (if x8_1.length + y218.length < 140737488355328 then (spec_All.l0 k1 (x7_1 ++ y212) (x8_1 ++ y218) l1 (l1.length : Int) (wrap64 (x16_1 + 1)) t202 t203 t206) else (none))) else (none)) = some (r1, r2, r3, r4, r5) := by first | (rw [hy212]; with_reducible exact H) | (have H2_ := (Option.bind_some _ _).symm.trans H; rw [hy212]; with_reducible exact H2_) | (have H2_ := (Option.bind_some _ _).symm.trans H; with_reducible exact H2_) | with_reducible exact H | (rw [hy212]; exact H) | exact H
            have Ny212 := Aside0.mk hy212
            clear hy212
            by_cases c9 : x7_1.length + y212.length < 17592186044416
            · rw [if_pos c9] at H
              have LMc9 := Aside0.mk c9
              clear c9
              obtain ⟨y215, hy215⟩ : ∃ y_ : List Int, y_ = (x7_1 ++ y212) := ⟨_, rfl⟩
              replace H : ((some (([t210] : List Bool) : List Bool)).bind fun y218 => (if x8_1.length + y218.length < 140737488355328 then (spec_All.l0 k1 y215 (x8_1 ++ y218) l1 (l1.length : Int) (wrap64 (x16_1 + 1)) t202 t203 t206) else (none))) = some (r1, r2, r3, r4, r5) := by first | (rw [hy215]; with_reducible exact H) | (have H2_ := (Option.bind_some _ _).symm.trans H; rw [hy215]; with_reducible exact H2_) | (have H2_ := (Option.bind_some _ _).symm.trans H; with_reducible exact H2_) | with_reducible exact H | (rw [hy215]; exact H) | exact H
              have Ny215 := Aside0.mk hy215
              clear hy215
              obtain ⟨y218, hy218⟩ : ∃ y_ : List Bool, y_ = (([t210] : List Bool)) := ⟨_, rfl⟩
              replace H : (if x8_1.length + y218.length < 140737488355328 then (spec_All.l0 k1 y215 (x8_1 ++ y218) l1 (l1.length : Int) (wrap64 (x16_1 + 1)) t202 t203 t206) else (none)) = some (r1, r2, r3, r4, r5) := by first | (rw [hy218]; with_reducible exact H) | (have H2_ := (Option.bind_some _ _).symm.trans H; rw [hy218]; with_reducible exact H2_) | (have H2_ := (Option.bind_some _ _).symm.trans H; with_reducible exact H2_) | with_reducible exact H | (rw [hy218]; exact H) | exact H
              have Ny218 := Aside0.mk hy218
              clear hy218
              by_cases c10 : x8_1.length + y218.length < 140737488355328
              · rw [if_pos c10] at H
                have LMc10 := Aside0.mk c10
                clear c10
                obtain ⟨y221, hy221⟩ : ∃ y_ : List Bool, y_ = (x8_1 ++ y218) := ⟨_, rfl⟩
                replace H : (spec_All.l0 k1 y215 y221 l1 (l1.length : Int) (wrap64 (x16_1 + 1)) t202 t203 t206) = some (r1, r2, r3, r4, r5) := by first | (rw [hy221]; with_reducible exact H) | (have H2_ := (Option.bind_some _ _).symm.trans H; rw [hy221]; with_reducible exact H2_) | (have H2_ := (Option.bind_some _ _).symm.trans H; with_reducible exact H2_) | with_reducible exact H | (rw [hy221]; exact H) | exact H
                have Ny221 := Aside0.mk hy221
                clear hy221
                have H' := Aside0.mk H
                clear H
                have p200 : 0 ≤ (x16_1 : Int) := of_decide_eq_true (by first | (with_reducible assumption) | assumption)
                have q200 : x16_1 < (l1.length : Int) := of_decide_eq_true (by first | (with_reducible assumption) | assumption)
                obtain ⟨ad200, e200, hx200_0, hx200_1, hx200_2, hx200_3⟩ := at_T26 HR1.out x16_1 p200 q200
                cases e200
                replace hx200_0 := (HB.out.cell (World.block_lt_of_cell? w _ hx200_0)).trans hx200_0
                replace hx200_1 := (HB.out.cell (World.block_lt_of_cell? w _ hx200_1)).trans hx200_1
                replace hx200_2 := (HB.out.cell (World.block_lt_of_cell? w _ hx200_2)).trans hx200_2
                replace hx200_3 := (HB.out.cell (World.block_lt_of_cell? w _ hx200_3)).trans hx200_3
                replace p200 := eq_true p200
                replace q200 := eq_true q200
                try go_wp2_with (first | ((with_reducible refine gate_dst (N := 10) rfl ?_); refine box_event ?hg (N := 10) ?hd (cs := #[.int .i64 0, .int .i64 0, .int .i64 0, .int .i64 0]) (t := 26) ?hr ?_; (case hd => rfl); (case hg => rfl); (case hr => first | (go_simp; done) | (go_simp; rfl)); intro gb201 hg w11 hbox hb; have n0_ := Aside0.mk (Kd.R_below (by (with_reducible repeat (first | apply Kd.R_alloc | apply Kd.R_drewN | apply Kd.R_drew)); exact HO_7.out) hb); have n1_ := Aside0.mk (Kd.R_below (by (with_reducible repeat (first | apply Kd.R_alloc | apply Kd.R_drewN | apply Kd.R_drew)); exact HO_8.out) hb); have n2_ := Aside0.mk (Kd.V_below (Kd.V_elderB (by (with_reducible repeat (first | apply Kd.V_alloc | apply Kd.V_drewN | apply Kd.V_drew)); exact HO_199001.out) gb201 (Nat.le_of_eq hg.symm)) hb); have n3_ := Aside0.mk (Kd.V_below (Kd.V_elderB (by (with_reducible repeat (first | apply Kd.V_alloc | apply Kd.V_drewN | apply Kd.V_drew)); exact HO_199002.out) gb201 (Nat.le_of_eq hg.symm)) hb); have n4_ := Aside0.mk (blk_below (g := gb198) (o := .cells #[.int .i64 x199000_1, u199001, u199002] 24 (0, 0)) (by (with_reducible repeat (first | refine blk_drewN ?_ _ | refine blk_drew ?_ | refine blk_alloc ?_ _)); exact BK198.out) hb); have n5_ := Aside0.mk (blk_below (g := gb199) (o := .cells #[.int .i64 0, .slice none 0 0, .slice none 0 0] 24 (0, 0)) (by (with_reducible repeat (first | refine blk_drewN ?_ _ | refine blk_drew ?_ | refine blk_alloc ?_ _)); exact BK199.out) hb); have n6_ := Aside0.mk (below_step (by repeat (first | (with_reducible first | exact HB.out | apply below_alloc | apply pw_below_drewN | apply below_drew1 | refine below_set ?_ GE198.out | refine below_set ?_ GE199.out) | exact HB.out)) hb); have n7_ := Aside0.mk (hbox); have n8_ := Aside0.mk ((by rw [hg]; exact (below_size (by repeat (first | (with_reducible first | exact HB.out | apply below_alloc | apply pw_below_drewN | apply below_drew1 | refine below_set ?_ GE198.out | refine below_set ?_ GE199.out) | exact HB.out))) : w.heap.size ≤ gb201)); have n9_ := Aside0.mk ((by rw [hg]; exact (below_size (by repeat (first | (with_reducible first | exact HB.out | apply below_alloc | apply pw_below_drewN | apply below_drew1 | refine below_set ?_ GE198.out | refine below_set ?_ GE199.out) | exact HB.out))) : w.heap.size ≤ gb201)); have n10_ := Aside0.mk ((by rw [hg]; exact Nat.ne_of_lt (blk_lt (g := gb198) (o := .cells #[.int .i64 x199000_1, u199001, u199002] 24 (0, 0)) (by (with_reducible repeat (first | refine blk_drewN ?_ _ | refine blk_drew ?_ | refine blk_alloc ?_ _)); exact BK198.out)) : gb198 ≠ gb201)); have n11_ := Aside0.mk ((by rw [hg]; exact Nat.ne_of_gt (blk_lt (g := gb198) (o := .cells #[.int .i64 x199000_1, u199001, u199002] 24 (0, 0)) (by (with_reducible repeat (first | refine blk_drewN ?_ _ | refine blk_drew ?_ | refine blk_alloc ?_ _)); exact BK198.out)) : gb201 ≠ gb198)); have n12_ := Aside0.mk ((by rw [hg]; exact Nat.ne_of_lt (blk_lt (g := gb199) (o := .cells #[.int .i64 0, .slice none 0 0, .slice none 0 0] 24 (0, 0)) (by (with_reducible repeat (first | refine blk_drewN ?_ _ | refine blk_drew ?_ | refine blk_alloc ?_ _)); exact BK199.out)) : gb199 ≠ gb201)); have n13_ := Aside0.mk ((by rw [hg]; exact Nat.ne_of_gt (blk_lt (g := gb199) (o := .cells #[.int .i64 0, .slice none 0 0, .slice none 0 0] 24 (0, 0)) (by (with_reducible repeat (first | refine blk_drewN ?_ _ | refine blk_drew ?_ | refine blk_alloc ?_ _)); exact BK199.out)) : gb201 ≠ gb199)); clear HO_7; clear HO_8; clear HO_199001; clear HO_199002; clear BK198; clear BK199; clear HB; have HO_7 := n0_; have HO_8 := n1_; have HO_199001 := n2_; have HO_199002 := n3_; have BK198 := n4_; have BK199 := n5_; have HB := n6_; have BK201 := n7_; have GW201 := n8_; have GE201 := n9_; have NB198_201 := n10_; have NB201_198 := n11_; have NB199_201 := n12_; have NB201_199 := n13_; clear n0_ n1_ n2_ n3_ n4_ n5_ n6_ n7_ n8_ n9_ n10_ n11_ n12_ n13_; clear hb hbox hg; have hnb12 := NB201_198.out; have hnc12 := NB198_201.out; have hnb13 := NB201_199.out; have hnc13 := NB199_201.out; have hcz14_0 : w11.cell? ⟨gb201, 0, none⟩ = some (.int .i64 0) := (blk_cell BK201.out 0).trans rfl; have hcz14_1 : w11.cell? ⟨gb201, 1, none⟩ = some (.int .i64 0) := (blk_cell BK201.out 1).trans rfl; have hcz14_2 : w11.cell? ⟨gb201, 2, none⟩ = some (.int .i64 0) := (blk_cell BK201.out 2).trans rfl; have hcz14_3 : w11.cell? ⟨gb201, 3, none⟩ = some (.int .i64 0) := (blk_cell BK201.out 3).trans rfl; have hfz14_0 := blk_frozen BK201.out 0; have hfz14_1 := blk_frozen BK201.out 1; have hfz14_2 := blk_frozen BK201.out 2; have hfz14_3 := blk_frozen BK201.out 3) | ((with_reducible refine gate_store (t := 26) (p := 10) rfl ?_); refine store_event (t := 26) (p := 10) (v := ?vo_w15) (w1 := ((((w11.setCell ⟨gb201, 0, none⟩ (.int .i64 ((rd_T26 l1 x16_1).f0))).setCell ⟨gb201, 1, none⟩ (.int .i64 ((rd_T26 l1 x16_1).f1))).setCell ⟨gb201, 2, none⟩ (.int .i64 ((rd_T26 l1 x16_1).f2))).setCell ⟨gb201, 3, none⟩ (.int .i64 ((rd_T26 l1 x16_1).f3)))) ?hg ?ho ?hn ?hr ?_; (case ho => rfl); (case hg => rfl); (case hn => rfl); (case hr => first | (go_simp; done) | (go_simp; rfl)); intro w15 hw; have n0_ : Aside0 (Kd.R (Kd.int .i64) 3 w15 w.heap.size (fun k_ => (w.heap.size ≤ k_)) u7 x7_1) := ⟨(by rw [hw]; exact (by (with_reducible repeat (first | apply Kd.R_alloc | apply Kd.R_drewN | apply Kd.R_drew)); exact Kd.R_mono (Kd.R_far (p := ⟨gb201, 3, none⟩) (Kd.R_far (p := ⟨gb201, 2, none⟩) (Kd.R_far (p := ⟨gb201, 1, none⟩) (Kd.R_far (p := ⟨gb201, 0, none⟩) (Kd.R_types HO_7.out BK201.out (by decide)) (fun _ hk => hk.2) (.int .i64 ((rd_T26 l1 x16_1).f0))) (fun _ hk => hk.2) (.int .i64 ((rd_T26 l1 x16_1).f1))) (fun _ hk => hk.2) (.int .i64 ((rd_T26 l1 x16_1).f2))) (fun _ hk => hk.2) (.int .i64 ((rd_T26 l1 x16_1).f3))) (fun _ hk => hk.1)))⟩; have n1_ : Aside0 (Kd.R Kd.bool 4 w15 w.heap.size (fun k_ => (w.heap.size ≤ k_)) u8 x8_1) := ⟨(by rw [hw]; exact (by (with_reducible repeat (first | apply Kd.R_alloc | apply Kd.R_drewN | apply Kd.R_drew)); exact Kd.R_mono (Kd.R_far (p := ⟨gb201, 3, none⟩) (Kd.R_far (p := ⟨gb201, 2, none⟩) (Kd.R_far (p := ⟨gb201, 1, none⟩) (Kd.R_far (p := ⟨gb201, 0, none⟩) (Kd.R_types HO_8.out BK201.out (by decide)) (fun _ hk => hk.2) (.int .i64 ((rd_T26 l1 x16_1).f0))) (fun _ hk => hk.2) (.int .i64 ((rd_T26 l1 x16_1).f1))) (fun _ hk => hk.2) (.int .i64 ((rd_T26 l1 x16_1).f2))) (fun _ hk => hk.2) (.int .i64 ((rd_T26 l1 x16_1).f3))) (fun _ hk => hk.1)))⟩; have n2_ : Aside0 (Kd.V (Kd.int .i64) 3 w15 w.heap.size (fun k_ => ((P0_1_ k_ ∨ P0_2_ k_) ∨ w.heap.size ≤ k_) ∧ some k_ ≠ (u7 : Value).ownBlock ∧ some k_ ≠ (u8 : Value).ownBlock ∧ k_ ≠ gb198 ∧ k_ ≠ gb199 ∧ k_ ≠ gb201) u199001 x199001_1) := ⟨(by rw [hw]; exact (by (with_reducible repeat (first | apply Kd.V_alloc | apply Kd.V_drewN | apply Kd.V_drew)); exact Kd.V_mono (Kd.V_far (p := ⟨gb201, 3, none⟩) (Kd.V_far (p := ⟨gb201, 2, none⟩) (Kd.V_far (p := ⟨gb201, 1, none⟩) (Kd.V_far (p := ⟨gb201, 0, none⟩) (Kd.V_mono HO_199001.out (fun k_ hk => (⟨hk, hk.2⟩ : _ ∧ k_ ≠ gb201))) (fun _ hk => hk.2) (.int .i64 ((rd_T26 l1 x16_1).f0))) (fun _ hk => hk.2) (.int .i64 ((rd_T26 l1 x16_1).f1))) (fun _ hk => hk.2) (.int .i64 ((rd_T26 l1 x16_1).f2))) (fun _ hk => hk.2) (.int .i64 ((rd_T26 l1 x16_1).f3))) (fun _ hk => ⟨hk.1.1.1, ⟨hk.1.1.2.1, ⟨hk.1.1.2.2.1, ⟨hk.1.1.2.2.2.1, ⟨hk.1.1.2.2.2.2, hk.1.2⟩⟩⟩⟩⟩)))⟩; have n3_ : Aside0 (Kd.V (Kd.int .i64) 3 w15 w.heap.size (fun k_ => ((P0_1_ k_ ∨ P0_2_ k_) ∨ w.heap.size ≤ k_) ∧ some k_ ≠ (u7 : Value).ownBlock ∧ some k_ ≠ (u8 : Value).ownBlock ∧ k_ ≠ gb198 ∧ k_ ≠ gb199 ∧ k_ ≠ gb201) u199002 x199002_1) := ⟨(by rw [hw]; exact (by (with_reducible repeat (first | apply Kd.V_alloc | apply Kd.V_drewN | apply Kd.V_drew)); exact Kd.V_mono (Kd.V_far (p := ⟨gb201, 3, none⟩) (Kd.V_far (p := ⟨gb201, 2, none⟩) (Kd.V_far (p := ⟨gb201, 1, none⟩) (Kd.V_far (p := ⟨gb201, 0, none⟩) (Kd.V_mono HO_199002.out (fun k_ hk => (⟨hk, hk.2⟩ : _ ∧ k_ ≠ gb201))) (fun _ hk => hk.2) (.int .i64 ((rd_T26 l1 x16_1).f0))) (fun _ hk => hk.2) (.int .i64 ((rd_T26 l1 x16_1).f1))) (fun _ hk => hk.2) (.int .i64 ((rd_T26 l1 x16_1).f2))) (fun _ hk => hk.2) (.int .i64 ((rd_T26 l1 x16_1).f3))) (fun _ hk => ⟨hk.1.1.1, ⟨hk.1.1.2.1, ⟨hk.1.1.2.2.1, ⟨hk.1.1.2.2.2.1, ⟨hk.1.1.2.2.2.2, hk.1.2⟩⟩⟩⟩⟩)))⟩; have n4_ : Aside0 (w15.heap[gb198]? = some (.cells #[.int .i64 x199000_1, u199001, u199002] 24 (0, 0))) := ⟨(by rw [hw]; exact (by (with_reducible repeat (first | refine blk_drewN ?_ _ | refine blk_drew ?_ | refine blk_alloc ?_ _)); refine blk_far ?_ NB198_201.out _; (with_reducible repeat (first | refine blk_drewN ?_ _ | refine blk_drew ?_ | refine blk_alloc ?_ _)); refine blk_far ?_ NB198_201.out _; (with_reducible repeat (first | refine blk_drewN ?_ _ | refine blk_drew ?_ | refine blk_alloc ?_ _)); refine blk_far ?_ NB198_201.out _; (with_reducible repeat (first | refine blk_drewN ?_ _ | refine blk_drew ?_ | refine blk_alloc ?_ _)); refine blk_far ?_ NB198_201.out _; (with_reducible repeat (first | refine blk_drewN ?_ _ | refine blk_drew ?_ | refine blk_alloc ?_ _)); exact BK198.out))⟩; have n5_ : Aside0 (w15.heap[gb199]? = some (.cells #[.int .i64 0, .slice none 0 0, .slice none 0 0] 24 (0, 0))) := ⟨(by rw [hw]; exact (by (with_reducible repeat (first | refine blk_drewN ?_ _ | refine blk_drew ?_ | refine blk_alloc ?_ _)); refine blk_far ?_ NB199_201.out _; (with_reducible repeat (first | refine blk_drewN ?_ _ | refine blk_drew ?_ | refine blk_alloc ?_ _)); refine blk_far ?_ NB199_201.out _; (with_reducible repeat (first | refine blk_drewN ?_ _ | refine blk_drew ?_ | refine blk_alloc ?_ _)); refine blk_far ?_ NB199_201.out _; (with_reducible repeat (first | refine blk_drewN ?_ _ | refine blk_drew ?_ | refine blk_alloc ?_ _)); refine blk_far ?_ NB199_201.out _; (with_reducible repeat (first | refine blk_drewN ?_ _ | refine blk_drew ?_ | refine blk_alloc ?_ _)); exact BK199.out))⟩; have n6_ : Aside0 (w15.heap[gb201]? = some (.cells #[.int .i64 ((rd_T26 l1 x16_1).f0), .int .i64 ((rd_T26 l1 x16_1).f1), .int .i64 ((rd_T26 l1 x16_1).f2), .int .i64 ((rd_T26 l1 x16_1).f3)] 26 (0, 0))) := ⟨(by rw [hw]; exact (by (with_reducible repeat (first | refine blk_drewN ?_ _ | refine blk_drew ?_ | refine blk_alloc ?_ _)); refine blk_put (cs := #[.int .i64 ((rd_T26 l1 x16_1).f0), .int .i64 ((rd_T26 l1 x16_1).f1), .int .i64 ((rd_T26 l1 x16_1).f2), .int .i64 0]) ?_ 3 _ rfl; (with_reducible repeat (first | refine blk_drewN ?_ _ | refine blk_drew ?_ | refine blk_alloc ?_ _)); refine blk_put (cs := #[.int .i64 ((rd_T26 l1 x16_1).f0), .int .i64 ((rd_T26 l1 x16_1).f1), .int .i64 0, .int .i64 0]) ?_ 2 _ rfl; (with_reducible repeat (first | refine blk_drewN ?_ _ | refine blk_drew ?_ | refine blk_alloc ?_ _)); refine blk_put (cs := #[.int .i64 ((rd_T26 l1 x16_1).f0), .int .i64 0, .int .i64 0, .int .i64 0]) ?_ 1 _ rfl; (with_reducible repeat (first | refine blk_drewN ?_ _ | refine blk_drew ?_ | refine blk_alloc ?_ _)); refine blk_put (cs := #[.int .i64 0, .int .i64 0, .int .i64 0, .int .i64 0]) ?_ 0 _ rfl; (with_reducible repeat (first | refine blk_drewN ?_ _ | refine blk_drew ?_ | refine blk_alloc ?_ _)); exact BK201.out))⟩; have n7_ : Aside0 (Below w.heap.size w w15) := ⟨(by rw [hw]; exact (by repeat (first | (with_reducible first | exact HB.out | apply below_alloc | apply pw_below_drewN | apply below_drew1 | refine below_set ?_ GE198.out | refine below_set ?_ GE199.out | refine below_set ?_ GE201.out) | exact HB.out)))⟩; clear hw; clear HO_7; clear HO_8; clear HO_199001; clear HO_199002; clear BK198; clear BK199; clear BK201; clear HB; have HO_7 := n0_; have HO_8 := n1_; have HO_199001 := n2_; have HO_199002 := n3_; have BK198 := n4_; have BK199 := n5_; have BK201 := n6_; have HB := n7_; clear n0_ n1_ n2_ n3_ n4_ n5_ n6_ n7_; have hnb16 := NB198_199.out; have hnc16 := NB199_198.out; have hcz17_0 : w15.cell? ⟨gb198, 0, none⟩ = some (.int .i64 x199000_1) := (blk_cell BK198.out 0).trans rfl; have hcz17_1 : w15.cell? ⟨gb198, 1, none⟩ = some (u199001) := (blk_cell BK198.out 1).trans rfl; have hcz17_2 : w15.cell? ⟨gb198, 2, none⟩ = some (u199002) := (blk_cell BK198.out 2).trans rfl; have hfz17_0 := blk_frozen BK198.out 0; have hfz17_1 := blk_frozen BK198.out 1; have hfz17_2 := blk_frozen BK198.out 2; have hcz18_0 : w15.cell? ⟨gb201, 0, none⟩ = some (.int .i64 ((rd_T26 l1 x16_1).f0)) := (blk_cell BK201.out 0).trans rfl; have hcz18_1 : w15.cell? ⟨gb201, 1, none⟩ = some (.int .i64 ((rd_T26 l1 x16_1).f1)) := (blk_cell BK201.out 1).trans rfl; have hcz18_2 : w15.cell? ⟨gb201, 2, none⟩ = some (.int .i64 ((rd_T26 l1 x16_1).f2)) := (blk_cell BK201.out 2).trans rfl; have hcz18_3 : w15.cell? ⟨gb201, 3, none⟩ = some (.int .i64 ((rd_T26 l1 x16_1).f3)) := (blk_cell BK201.out 3).trans rfl; have hfz18_0 := blk_frozen BK201.out 0; have hfz18_1 := blk_frozen BK201.out 1; have hfz18_2 := blk_frozen BK201.out 2; have hfz18_3 := blk_frozen BK201.out 3; obtain ⟨Ao19, co19, eo19⟩ := Kd.V_slice HO_199001.out; subst eo19; obtain ⟨Ao20, co20, eo20⟩ := Kd.V_slice HO_199002.out; subst eo20) | ((with_reducible refine gate_callee (f := 11) rfl ?_); refine goesL_ (some 23) rfl rfl Try.func11 (by kernel_rfl) rfl #[.agg #[.int .i64 x199000_1, .slice Ao19 x199001_1.length co19, .slice Ao20 x199002_1.length co20], .agg #[.int .i64 ((rd_T26 l1 x16_1).f0), .int .i64 ((rd_T26 l1 x16_1).f1), .int .i64 ((rd_T26 l1 x16_1).f2), .int .i64 ((rd_T26 l1 x16_1).f3)]] rfl (by (try simp only [List.map_toArray, List.map_cons, List.map_nil]); first | done | rfl | (simp only [List.length_drop, List.length_take]; rfl)) ?_; (with_reducible refine (spec_Do.calls k1 x199000_1 (fun k_ => (((P0_1_ k_ ∨ P0_2_ k_) ∨ w.heap.size ≤ k_) ∧ (some k_ ≠ (u7 : Value).ownBlock ∧ (some k_ ≠ (u8 : Value).ownBlock ∧ (k_ ≠ gb198 ∧ (k_ ≠ gb199 ∧ k_ ≠ gb201)))))) _ _ x199001_1 (fun k_ => (((P0_1_ k_ ∨ P0_2_ k_) ∨ w.heap.size ≤ k_) ∧ (some k_ ≠ (u7 : Value).ownBlock ∧ (some k_ ≠ (u8 : Value).ownBlock ∧ (k_ ≠ gb198 ∧ (k_ ≠ gb199 ∧ k_ ≠ gb201)))))) _ _ x199002_1 ((rd_T26 l1 x16_1).f0) ((rd_T26 l1 x16_1).f1) ((rd_T26 l1 x16_1).f2) ((rd_T26 l1 x16_1).f3) t202 t203 t206 t209 t210 _ ?side1 ?side2 A8.out).mono ?_); (case side1 => exact HO_199001.out); (case side2 => exact HO_199002.out); rintro e w21 ⟨v204, v207, rfl, ho0, ho1, hb⟩; refine ⟨_, rfl, ?_⟩; have n0_ := Aside0.mk (Kd.R_below (by (with_reducible repeat (first | apply Kd.R_alloc | apply Kd.R_drewN | apply Kd.R_drew)); exact HO_7.out) hb); have n1_ := Aside0.mk (Kd.R_below (by (with_reducible repeat (first | apply Kd.R_alloc | apply Kd.R_drewN | apply Kd.R_drew)); exact HO_8.out) hb); have n2_ := Aside0.mk (Kd.V_below (by (with_reducible repeat (first | apply Kd.V_alloc | apply Kd.V_drewN | apply Kd.V_drew)); exact HO_199001.out) hb); have n3_ := Aside0.mk (Kd.V_below (by (with_reducible repeat (first | apply Kd.V_alloc | apply Kd.V_drewN | apply Kd.V_drew)); exact HO_199002.out) hb); have n4_ := Aside0.mk (Kd.V_lower (Kd.V_mono (ok' := fun k_ => ((P0_1_ k_ ∨ P0_2_ k_) ∨ w.heap.size ≤ k_) ∧ some k_ ≠ (u7 : Value).ownBlock ∧ some k_ ≠ (u8 : Value).ownBlock ∧ k_ ≠ gb198 ∧ k_ ≠ gb199 ∧ k_ ≠ gb201) ho0 (fun k_ hk_ => by first | exact ⟨Or.elim hk_ (fun hs_ => Or.elim hs_ (fun hs_ => hs_.1) (fun hs_ => hs_.1)) (fun hn_ => (.inr (Nat.le_trans (below_size (by repeat (first | (with_reducible first | exact HB.out | apply below_alloc | apply pw_below_drewN | apply below_drew1 | refine below_set ?_ GE198.out | refine below_set ?_ GE199.out | refine below_set ?_ GE201.out) | exact HB.out))) hn_))), Or.elim hk_ (fun hs_ => Or.elim hs_ (fun hs_ => hs_.2.1) (fun hs_ => hs_.2.1)) (fun hn_ => (Kd.fresh' (Kd.R_lt (by (with_reducible repeat (first | apply Kd.R_alloc | apply Kd.R_drewN | apply Kd.R_drew)); exact HO_7.out)) k_ hn_)), Or.elim hk_ (fun hs_ => Or.elim hs_ (fun hs_ => hs_.2.2.1) (fun hs_ => hs_.2.2.1)) (fun hn_ => (Kd.fresh' (Kd.R_lt (by (with_reducible repeat (first | apply Kd.R_alloc | apply Kd.R_drewN | apply Kd.R_drew)); exact HO_8.out)) k_ hn_)), Or.elim hk_ (fun hs_ => Or.elim hs_ (fun hs_ => hs_.2.2.2.1) (fun hs_ => hs_.2.2.2.1)) (fun hn_ => (Kd.freshB (g := gb198) (o := .cells #[.int .i64 x199000_1, .slice Ao19 x199001_1.length co19, .slice Ao20 x199002_1.length co20] 24 (0, 0)) (by (with_reducible repeat (first | refine blk_drewN ?_ _ | refine blk_drew ?_ | refine blk_alloc ?_ _)); exact BK198.out) k_ hn_)), Or.elim hk_ (fun hs_ => Or.elim hs_ (fun hs_ => hs_.2.2.2.2.1) (fun hs_ => hs_.2.2.2.2.1)) (fun hn_ => (Kd.freshB (g := gb199) (o := .cells #[.int .i64 0, .slice none 0 0, .slice none 0 0] 24 (0, 0)) (by (with_reducible repeat (first | refine blk_drewN ?_ _ | refine blk_drew ?_ | refine blk_alloc ?_ _)); exact BK199.out) k_ hn_)), Or.elim hk_ (fun hs_ => Or.elim hs_ (fun hs_ => hs_.2.2.2.2.2) (fun hs_ => hs_.2.2.2.2.2)) (fun hn_ => (Kd.freshB (g := gb201) (o := .cells #[.int .i64 ((rd_T26 l1 x16_1).f0), .int .i64 ((rd_T26 l1 x16_1).f1), .int .i64 ((rd_T26 l1 x16_1).f2), .int .i64 ((rd_T26 l1 x16_1).f3)] 26 (0, 0)) (by (with_reducible repeat (first | refine blk_drewN ?_ _ | refine blk_drew ?_ | refine blk_alloc ?_ _)); exact BK201.out) k_ hn_))⟩ | grind)) (below_size (by repeat (first | (with_reducible first | exact HB.out | apply below_alloc | apply pw_below_drewN | apply below_drew1 | refine below_set ?_ GE198.out | refine below_set ?_ GE199.out | refine below_set ?_ GE201.out) | exact HB.out)))); have n5_ := Aside0.mk (Kd.V_lower (Kd.V_mono (ok' := fun k_ => ((P0_1_ k_ ∨ P0_2_ k_) ∨ w.heap.size ≤ k_) ∧ some k_ ≠ (u7 : Value).ownBlock ∧ some k_ ≠ (u8 : Value).ownBlock ∧ k_ ≠ gb198 ∧ k_ ≠ gb199 ∧ k_ ≠ gb201) ho1 (fun k_ hk_ => by first | exact ⟨Or.elim hk_ (fun hs_ => Or.elim hs_ (fun hs_ => hs_.1) (fun hs_ => hs_.1)) (fun hn_ => (.inr (Nat.le_trans (below_size (by repeat (first | (with_reducible first | exact HB.out | apply below_alloc | apply pw_below_drewN | apply below_drew1 | refine below_set ?_ GE198.out | refine below_set ?_ GE199.out | refine below_set ?_ GE201.out) | exact HB.out))) hn_))), Or.elim hk_ (fun hs_ => Or.elim hs_ (fun hs_ => hs_.2.1) (fun hs_ => hs_.2.1)) (fun hn_ => (Kd.fresh' (Kd.R_lt (by (with_reducible repeat (first | apply Kd.R_alloc | apply Kd.R_drewN | apply Kd.R_drew)); exact HO_7.out)) k_ hn_)), Or.elim hk_ (fun hs_ => Or.elim hs_ (fun hs_ => hs_.2.2.1) (fun hs_ => hs_.2.2.1)) (fun hn_ => (Kd.fresh' (Kd.R_lt (by (with_reducible repeat (first | apply Kd.R_alloc | apply Kd.R_drewN | apply Kd.R_drew)); exact HO_8.out)) k_ hn_)), Or.elim hk_ (fun hs_ => Or.elim hs_ (fun hs_ => hs_.2.2.2.1) (fun hs_ => hs_.2.2.2.1)) (fun hn_ => (Kd.freshB (g := gb198) (o := .cells #[.int .i64 x199000_1, .slice Ao19 x199001_1.length co19, .slice Ao20 x199002_1.length co20] 24 (0, 0)) (by (with_reducible repeat (first | refine blk_drewN ?_ _ | refine blk_drew ?_ | refine blk_alloc ?_ _)); exact BK198.out) k_ hn_)), Or.elim hk_ (fun hs_ => Or.elim hs_ (fun hs_ => hs_.2.2.2.2.1) (fun hs_ => hs_.2.2.2.2.1)) (fun hn_ => (Kd.freshB (g := gb199) (o := .cells #[.int .i64 0, .slice none 0 0, .slice none 0 0] 24 (0, 0)) (by (with_reducible repeat (first | refine blk_drewN ?_ _ | refine blk_drew ?_ | refine blk_alloc ?_ _)); exact BK199.out) k_ hn_)), Or.elim hk_ (fun hs_ => Or.elim hs_ (fun hs_ => hs_.2.2.2.2.2) (fun hs_ => hs_.2.2.2.2.2)) (fun hn_ => (Kd.freshB (g := gb201) (o := .cells #[.int .i64 ((rd_T26 l1 x16_1).f0), .int .i64 ((rd_T26 l1 x16_1).f1), .int .i64 ((rd_T26 l1 x16_1).f2), .int .i64 ((rd_T26 l1 x16_1).f3)] 26 (0, 0)) (by (with_reducible repeat (first | refine blk_drewN ?_ _ | refine blk_drew ?_ | refine blk_alloc ?_ _)); exact BK201.out) k_ hn_))⟩ | grind)) (below_size (by repeat (first | (with_reducible first | exact HB.out | apply below_alloc | apply pw_below_drewN | apply below_drew1 | refine below_set ?_ GE198.out | refine below_set ?_ GE199.out | refine below_set ?_ GE201.out) | exact HB.out)))); have n6_ := Aside0.mk (blk_below (g := gb198) (o := .cells #[.int .i64 x199000_1, .slice Ao19 x199001_1.length co19, .slice Ao20 x199002_1.length co20] 24 (0, 0)) (by (with_reducible repeat (first | refine blk_drewN ?_ _ | refine blk_drew ?_ | refine blk_alloc ?_ _)); exact BK198.out) hb); have n7_ := Aside0.mk (blk_below (g := gb199) (o := .cells #[.int .i64 0, .slice none 0 0, .slice none 0 0] 24 (0, 0)) (by (with_reducible repeat (first | refine blk_drewN ?_ _ | refine blk_drew ?_ | refine blk_alloc ?_ _)); exact BK199.out) hb); have n8_ := Aside0.mk (blk_below (g := gb201) (o := .cells #[.int .i64 ((rd_T26 l1 x16_1).f0), .int .i64 ((rd_T26 l1 x16_1).f1), .int .i64 ((rd_T26 l1 x16_1).f2), .int .i64 ((rd_T26 l1 x16_1).f3)] 26 (0, 0)) (by (with_reducible repeat (first | refine blk_drewN ?_ _ | refine blk_drew ?_ | refine blk_alloc ?_ _)); exact BK201.out) hb); have n9_ := Aside0.mk (below_step (by repeat (first | (with_reducible first | exact HB.out | apply below_alloc | apply pw_below_drewN | apply below_drew1 | refine below_set ?_ GE198.out | refine below_set ?_ GE199.out | refine below_set ?_ GE201.out) | exact HB.out)) hb); clear HO_7; clear HO_8; clear HO_199001; clear HO_199002; clear BK198; clear BK199; clear BK201; clear HB; have HO_7 := n0_; have HO_8 := n1_; have HO_199001 := n2_; have HO_199002 := n3_; have HO205 := n4_; have HO208 := n5_; have BK198 := n6_; have BK199 := n7_; have BK201 := n8_; have HB := n9_; clear n0_ n1_ n2_ n3_ n4_ n5_ n6_ n7_ n8_ n9_; (try clear hb); (try clear hb2); (try clear hk); (try clear hi); (try clear ho0); (try clear ho1)) | ((with_reducible refine gate_dst (N := 11) rfl ?_); refine box_event ?hg (N := 11) ?hd (cs := #[.int .i64 0, .slice none 0 0, .slice none 0 0]) (t := 24) ?hr ?_; (case hd => rfl); (case hg => rfl); (case hr => first | (go_simp; done) | (go_simp; rfl)); intro gb211 hg w22 hbox hb; have n0_ := Aside0.mk (Kd.R_below (by (with_reducible repeat (first | apply Kd.R_alloc | apply Kd.R_drewN | apply Kd.R_drew)); exact HO_7.out) hb); have n1_ := Aside0.mk (Kd.R_below (by (with_reducible repeat (first | apply Kd.R_alloc | apply Kd.R_drewN | apply Kd.R_drew)); exact HO_8.out) hb); have n2_ := Aside0.mk (Kd.V_below (Kd.V_elderB (by (with_reducible repeat (first | apply Kd.V_alloc | apply Kd.V_drewN | apply Kd.V_drew)); exact HO_199001.out) gb211 (Nat.le_of_eq hg.symm)) hb); have n3_ := Aside0.mk (Kd.V_below (Kd.V_elderB (by (with_reducible repeat (first | apply Kd.V_alloc | apply Kd.V_drewN | apply Kd.V_drew)); exact HO_199002.out) gb211 (Nat.le_of_eq hg.symm)) hb); have n4_ := Aside0.mk (Kd.V_below (Kd.V_elderB (by (with_reducible repeat (first | apply Kd.V_alloc | apply Kd.V_drewN | apply Kd.V_drew)); exact HO205.out) gb211 (Nat.le_of_eq hg.symm)) hb); have n5_ := Aside0.mk (Kd.V_below (Kd.V_elderB (by (with_reducible repeat (first | apply Kd.V_alloc | apply Kd.V_drewN | apply Kd.V_drew)); exact HO208.out) gb211 (Nat.le_of_eq hg.symm)) hb); have n6_ := Aside0.mk (blk_below (g := gb198) (o := .cells #[.int .i64 x199000_1, .slice Ao19 x199001_1.length co19, .slice Ao20 x199002_1.length co20] 24 (0, 0)) (by (with_reducible repeat (first | refine blk_drewN ?_ _ | refine blk_drew ?_ | refine blk_alloc ?_ _)); exact BK198.out) hb); have n7_ := Aside0.mk (blk_below (g := gb199) (o := .cells #[.int .i64 0, .slice none 0 0, .slice none 0 0] 24 (0, 0)) (by (with_reducible repeat (first | refine blk_drewN ?_ _ | refine blk_drew ?_ | refine blk_alloc ?_ _)); exact BK199.out) hb); have n8_ := Aside0.mk (blk_below (g := gb201) (o := .cells #[.int .i64 ((rd_T26 l1 x16_1).f0), .int .i64 ((rd_T26 l1 x16_1).f1), .int .i64 ((rd_T26 l1 x16_1).f2), .int .i64 ((rd_T26 l1 x16_1).f3)] 26 (0, 0)) (by (with_reducible repeat (first | refine blk_drewN ?_ _ | refine blk_drew ?_ | refine blk_alloc ?_ _)); exact BK201.out) hb); have n9_ := Aside0.mk (below_step (by repeat (first | (with_reducible first | exact HB.out | apply below_alloc | apply pw_below_drewN | apply below_drew1 | refine below_set ?_ GE198.out | refine below_set ?_ GE199.out | refine below_set ?_ GE201.out) | exact HB.out)) hb); have n10_ := Aside0.mk (hbox); have n11_ := Aside0.mk ((by rw [hg]; exact (below_size (by repeat (first | (with_reducible first | exact HB.out | apply below_alloc | apply pw_below_drewN | apply below_drew1 | refine below_set ?_ GE198.out | refine below_set ?_ GE199.out | refine below_set ?_ GE201.out) | exact HB.out))) : w.heap.size ≤ gb211)); have n12_ := Aside0.mk ((by rw [hg]; exact (below_size (by repeat (first | (with_reducible first | exact HB.out | apply below_alloc | apply pw_below_drewN | apply below_drew1 | refine below_set ?_ GE198.out | refine below_set ?_ GE199.out | refine below_set ?_ GE201.out) | exact HB.out))) : w.heap.size ≤ gb211)); have n13_ := Aside0.mk ((by rw [hg]; exact Nat.ne_of_lt (blk_lt (g := gb198) (o := .cells #[.int .i64 x199000_1, .slice Ao19 x199001_1.length co19, .slice Ao20 x199002_1.length co20] 24 (0, 0)) (by (with_reducible repeat (first | refine blk_drewN ?_ _ | refine blk_drew ?_ | refine blk_alloc ?_ _)); exact BK198.out)) : gb198 ≠ gb211)); have n14_ := Aside0.mk ((by rw [hg]; exact Nat.ne_of_gt (blk_lt (g := gb198) (o := .cells #[.int .i64 x199000_1, .slice Ao19 x199001_1.length co19, .slice Ao20 x199002_1.length co20] 24 (0, 0)) (by (with_reducible repeat (first | refine blk_drewN ?_ _ | refine blk_drew ?_ | refine blk_alloc ?_ _)); exact BK198.out)) : gb211 ≠ gb198)); have n15_ := Aside0.mk ((by rw [hg]; exact Nat.ne_of_lt (blk_lt (g := gb199) (o := .cells #[.int .i64 0, .slice none 0 0, .slice none 0 0] 24 (0, 0)) (by (with_reducible repeat (first | refine blk_drewN ?_ _ | refine blk_drew ?_ | refine blk_alloc ?_ _)); exact BK199.out)) : gb199 ≠ gb211)); have n16_ := Aside0.mk ((by rw [hg]; exact Nat.ne_of_gt (blk_lt (g := gb199) (o := .cells #[.int .i64 0, .slice none 0 0, .slice none 0 0] 24 (0, 0)) (by (with_reducible repeat (first | refine blk_drewN ?_ _ | refine blk_drew ?_ | refine blk_alloc ?_ _)); exact BK199.out)) : gb211 ≠ gb199)); have n17_ := Aside0.mk ((by rw [hg]; exact Nat.ne_of_lt (blk_lt (g := gb201) (o := .cells #[.int .i64 ((rd_T26 l1 x16_1).f0), .int .i64 ((rd_T26 l1 x16_1).f1), .int .i64 ((rd_T26 l1 x16_1).f2), .int .i64 ((rd_T26 l1 x16_1).f3)] 26 (0, 0)) (by (with_reducible repeat (first | refine blk_drewN ?_ _ | refine blk_drew ?_ | refine blk_alloc ?_ _)); exact BK201.out)) : gb201 ≠ gb211)); have n18_ := Aside0.mk ((by rw [hg]; exact Nat.ne_of_gt (blk_lt (g := gb201) (o := .cells #[.int .i64 ((rd_T26 l1 x16_1).f0), .int .i64 ((rd_T26 l1 x16_1).f1), .int .i64 ((rd_T26 l1 x16_1).f2), .int .i64 ((rd_T26 l1 x16_1).f3)] 26 (0, 0)) (by (with_reducible repeat (first | refine blk_drewN ?_ _ | refine blk_drew ?_ | refine blk_alloc ?_ _)); exact BK201.out)) : gb211 ≠ gb201)); clear HO_7; clear HO_8; clear HO_199001; clear HO_199002; clear HO205; clear HO208; clear BK198; clear BK199; clear BK201; clear HB; have HO_7 := n0_; have HO_8 := n1_; have HO_199001 := n2_; have HO_199002 := n3_; have HO205 := n4_; have HO208 := n5_; have BK198 := n6_; have BK199 := n7_; have BK201 := n8_; have HB := n9_; have BK211 := n10_; have GW211 := n11_; have GE211 := n12_; have NB198_211 := n13_; have NB211_198 := n14_; have NB199_211 := n15_; have NB211_199 := n16_; have NB201_211 := n17_; have NB211_201 := n18_; clear n0_ n1_ n2_ n3_ n4_ n5_ n6_ n7_ n8_ n9_ n10_ n11_ n12_ n13_ n14_ n15_ n16_ n17_ n18_; clear hb hbox hg; have hnb23 := NB211_198.out; have hnc23 := NB198_211.out; have hnb24 := NB211_199.out; have hnc24 := NB199_211.out; have hnb25 := NB211_201.out; have hnc25 := NB201_211.out; have hcz26_0 : w22.cell? ⟨gb211, 0, none⟩ = some (.int .i64 0) := (blk_cell BK211.out 0).trans rfl; have hcz26_1 : w22.cell? ⟨gb211, 1, none⟩ = some (.slice none 0 0) := (blk_cell BK211.out 1).trans rfl; have hcz26_2 : w22.cell? ⟨gb211, 2, none⟩ = some (.slice none 0 0) := (blk_cell BK211.out 2).trans rfl; have hfz26_0 := blk_frozen BK211.out 0; have hfz26_1 := blk_frozen BK211.out 1; have hfz26_2 := blk_frozen BK211.out 2; obtain ⟨Ao27, co27, eo27⟩ := Kd.V_slice HO205.out; subst eo27; obtain ⟨Ao28, co28, eo28⟩ := Kd.V_slice HO208.out; subst eo28; obtain ⟨Ao29, co29, eo29⟩ := Kd.R_slice HO_7.out; subst eo29; obtain ⟨Ao30, co30, eo30⟩ := Kd.R_slice HO_8.out; subst eo30))
                have n0_ : Aside0 (Kd.R (Kd.int .i64) 3 (((w22.setCell ⟨gb211, 0, none⟩ (.int .i64 t202)).setCell ⟨gb211, 1, none⟩ (.slice Ao27 t203.length co27)).setCell ⟨gb211, 2, none⟩ (.slice Ao28 t206.length co28)) w.heap.size (fun k_ => (w.heap.size ≤ k_)) (.slice Ao29 x7_1.length co29) x7_1) := ⟨by (with_reducible repeat (first | apply Kd.R_alloc | apply Kd.R_drewN | apply Kd.R_drew)); exact Kd.R_mono (Kd.R_far (p := ⟨gb211, 2, none⟩) (Kd.R_far (p := ⟨gb211, 1, none⟩) (Kd.R_far (p := ⟨gb211, 0, none⟩) (Kd.R_types HO_7.out BK211.out (by decide)) (fun _ hk => hk.2) (.int .i64 t202)) (fun _ hk => hk.2) (.slice Ao27 t203.length co27)) (fun _ hk => hk.2) (.slice Ao28 t206.length co28)) (fun _ hk => hk.1)⟩
                have n1_ : Aside0 (Kd.R Kd.bool 4 (((w22.setCell ⟨gb211, 0, none⟩ (.int .i64 t202)).setCell ⟨gb211, 1, none⟩ (.slice Ao27 t203.length co27)).setCell ⟨gb211, 2, none⟩ (.slice Ao28 t206.length co28)) w.heap.size (fun k_ => (w.heap.size ≤ k_)) (.slice Ao30 x8_1.length co30) x8_1) := ⟨by (with_reducible repeat (first | apply Kd.R_alloc | apply Kd.R_drewN | apply Kd.R_drew)); exact Kd.R_mono (Kd.R_far (p := ⟨gb211, 2, none⟩) (Kd.R_far (p := ⟨gb211, 1, none⟩) (Kd.R_far (p := ⟨gb211, 0, none⟩) (Kd.R_types HO_8.out BK211.out (by decide)) (fun _ hk => hk.2) (.int .i64 t202)) (fun _ hk => hk.2) (.slice Ao27 t203.length co27)) (fun _ hk => hk.2) (.slice Ao28 t206.length co28)) (fun _ hk => hk.1)⟩
                have n2_ : Aside0 (Kd.V (Kd.int .i64) 3 (((w22.setCell ⟨gb211, 0, none⟩ (.int .i64 t202)).setCell ⟨gb211, 1, none⟩ (.slice Ao27 t203.length co27)).setCell ⟨gb211, 2, none⟩ (.slice Ao28 t206.length co28)) w.heap.size (fun k_ => ((P0_1_ k_ ∨ P0_2_ k_) ∨ w.heap.size ≤ k_) ∧ some k_ ≠ (.slice Ao29 x7_1.length co29 : Value).ownBlock ∧ some k_ ≠ (.slice Ao30 x8_1.length co30 : Value).ownBlock ∧ k_ ≠ gb198 ∧ k_ ≠ gb199 ∧ k_ ≠ gb201 ∧ k_ ≠ gb211) (.slice Ao19 x199001_1.length co19) x199001_1) := ⟨by (with_reducible repeat (first | apply Kd.V_alloc | apply Kd.V_drewN | apply Kd.V_drew)); exact Kd.V_mono (Kd.V_far (p := ⟨gb211, 2, none⟩) (Kd.V_far (p := ⟨gb211, 1, none⟩) (Kd.V_far (p := ⟨gb211, 0, none⟩) (Kd.V_mono HO_199001.out (fun k_ hk => (⟨hk, hk.2⟩ : _ ∧ k_ ≠ gb211))) (fun _ hk => hk.2) (.int .i64 t202)) (fun _ hk => hk.2) (.slice Ao27 t203.length co27)) (fun _ hk => hk.2) (.slice Ao28 t206.length co28)) (fun _ hk => ⟨hk.1.1.1, ⟨hk.1.1.2.1, ⟨hk.1.1.2.2.1, ⟨hk.1.1.2.2.2.1, ⟨hk.1.1.2.2.2.2.1, ⟨hk.1.1.2.2.2.2.2, hk.1.2⟩⟩⟩⟩⟩⟩)⟩
                have n3_ : Aside0 (Kd.V (Kd.int .i64) 3 (((w22.setCell ⟨gb211, 0, none⟩ (.int .i64 t202)).setCell ⟨gb211, 1, none⟩ (.slice Ao27 t203.length co27)).setCell ⟨gb211, 2, none⟩ (.slice Ao28 t206.length co28)) w.heap.size (fun k_ => ((P0_1_ k_ ∨ P0_2_ k_) ∨ w.heap.size ≤ k_) ∧ some k_ ≠ (.slice Ao29 x7_1.length co29 : Value).ownBlock ∧ some k_ ≠ (.slice Ao30 x8_1.length co30 : Value).ownBlock ∧ k_ ≠ gb198 ∧ k_ ≠ gb199 ∧ k_ ≠ gb201 ∧ k_ ≠ gb211) (.slice Ao20 x199002_1.length co20) x199002_1) := ⟨by (with_reducible repeat (first | apply Kd.V_alloc | apply Kd.V_drewN | apply Kd.V_drew)); exact Kd.V_mono (Kd.V_far (p := ⟨gb211, 2, none⟩) (Kd.V_far (p := ⟨gb211, 1, none⟩) (Kd.V_far (p := ⟨gb211, 0, none⟩) (Kd.V_mono HO_199002.out (fun k_ hk => (⟨hk, hk.2⟩ : _ ∧ k_ ≠ gb211))) (fun _ hk => hk.2) (.int .i64 t202)) (fun _ hk => hk.2) (.slice Ao27 t203.length co27)) (fun _ hk => hk.2) (.slice Ao28 t206.length co28)) (fun _ hk => ⟨hk.1.1.1, ⟨hk.1.1.2.1, ⟨hk.1.1.2.2.1, ⟨hk.1.1.2.2.2.1, ⟨hk.1.1.2.2.2.2.1, ⟨hk.1.1.2.2.2.2.2, hk.1.2⟩⟩⟩⟩⟩⟩)⟩
                have n4_ : Aside0 (Kd.V (Kd.int .i64) 3 (((w22.setCell ⟨gb211, 0, none⟩ (.int .i64 t202)).setCell ⟨gb211, 1, none⟩ (.slice Ao27 t203.length co27)).setCell ⟨gb211, 2, none⟩ (.slice Ao28 t206.length co28)) w.heap.size (fun k_ => ((P0_1_ k_ ∨ P0_2_ k_) ∨ w.heap.size ≤ k_) ∧ some k_ ≠ (.slice Ao29 x7_1.length co29 : Value).ownBlock ∧ some k_ ≠ (.slice Ao30 x8_1.length co30 : Value).ownBlock ∧ k_ ≠ gb198 ∧ k_ ≠ gb199 ∧ k_ ≠ gb201 ∧ k_ ≠ gb211) (.slice Ao27 t203.length co27) t203) := ⟨by (with_reducible repeat (first | apply Kd.V_alloc | apply Kd.V_drewN | apply Kd.V_drew)); exact Kd.V_mono (Kd.V_far (p := ⟨gb211, 2, none⟩) (Kd.V_far (p := ⟨gb211, 1, none⟩) (Kd.V_far (p := ⟨gb211, 0, none⟩) (Kd.V_mono HO205.out (fun k_ hk => (⟨hk, hk.2⟩ : _ ∧ k_ ≠ gb211))) (fun _ hk => hk.2) (.int .i64 t202)) (fun _ hk => hk.2) (.slice Ao27 t203.length co27)) (fun _ hk => hk.2) (.slice Ao28 t206.length co28)) (fun _ hk => ⟨hk.1.1.1, ⟨hk.1.1.2.1, ⟨hk.1.1.2.2.1, ⟨hk.1.1.2.2.2.1, ⟨hk.1.1.2.2.2.2.1, ⟨hk.1.1.2.2.2.2.2, hk.1.2⟩⟩⟩⟩⟩⟩)⟩
                have n5_ : Aside0 (Kd.V (Kd.int .i64) 3 (((w22.setCell ⟨gb211, 0, none⟩ (.int .i64 t202)).setCell ⟨gb211, 1, none⟩ (.slice Ao27 t203.length co27)).setCell ⟨gb211, 2, none⟩ (.slice Ao28 t206.length co28)) w.heap.size (fun k_ => ((P0_1_ k_ ∨ P0_2_ k_) ∨ w.heap.size ≤ k_) ∧ some k_ ≠ (.slice Ao29 x7_1.length co29 : Value).ownBlock ∧ some k_ ≠ (.slice Ao30 x8_1.length co30 : Value).ownBlock ∧ k_ ≠ gb198 ∧ k_ ≠ gb199 ∧ k_ ≠ gb201 ∧ k_ ≠ gb211) (.slice Ao28 t206.length co28) t206) := ⟨by (with_reducible repeat (first | apply Kd.V_alloc | apply Kd.V_drewN | apply Kd.V_drew)); exact Kd.V_mono (Kd.V_far (p := ⟨gb211, 2, none⟩) (Kd.V_far (p := ⟨gb211, 1, none⟩) (Kd.V_far (p := ⟨gb211, 0, none⟩) (Kd.V_mono HO208.out (fun k_ hk => (⟨hk, hk.2⟩ : _ ∧ k_ ≠ gb211))) (fun _ hk => hk.2) (.int .i64 t202)) (fun _ hk => hk.2) (.slice Ao27 t203.length co27)) (fun _ hk => hk.2) (.slice Ao28 t206.length co28)) (fun _ hk => ⟨hk.1.1.1, ⟨hk.1.1.2.1, ⟨hk.1.1.2.2.1, ⟨hk.1.1.2.2.2.1, ⟨hk.1.1.2.2.2.2.1, ⟨hk.1.1.2.2.2.2.2, hk.1.2⟩⟩⟩⟩⟩⟩)⟩
                have n6_ : Aside0 ((((w22.setCell ⟨gb211, 0, none⟩ (.int .i64 t202)).setCell ⟨gb211, 1, none⟩ (.slice Ao27 t203.length co27)).setCell ⟨gb211, 2, none⟩ (.slice Ao28 t206.length co28)).heap[gb198]? = some (.cells #[.int .i64 x199000_1, .slice Ao19 x199001_1.length co19, .slice Ao20 x199002_1.length co20] 24 (0, 0))) := ⟨by (with_reducible repeat (first | refine blk_drewN ?_ _ | refine blk_drew ?_ | refine blk_alloc ?_ _)); refine blk_far ?_ NB198_211.out _; (with_reducible repeat (first | refine blk_drewN ?_ _ | refine blk_drew ?_ | refine blk_alloc ?_ _)); refine blk_far ?_ NB198_211.out _; (with_reducible repeat (first | refine blk_drewN ?_ _ | refine blk_drew ?_ | refine blk_alloc ?_ _)); refine blk_far ?_ NB198_211.out _; (with_reducible repeat (first | refine blk_drewN ?_ _ | refine blk_drew ?_ | refine blk_alloc ?_ _)); exact BK198.out⟩
                have n7_ : Aside0 ((((w22.setCell ⟨gb211, 0, none⟩ (.int .i64 t202)).setCell ⟨gb211, 1, none⟩ (.slice Ao27 t203.length co27)).setCell ⟨gb211, 2, none⟩ (.slice Ao28 t206.length co28)).heap[gb199]? = some (.cells #[.int .i64 0, .slice none 0 0, .slice none 0 0] 24 (0, 0))) := ⟨by (with_reducible repeat (first | refine blk_drewN ?_ _ | refine blk_drew ?_ | refine blk_alloc ?_ _)); refine blk_far ?_ NB199_211.out _; (with_reducible repeat (first | refine blk_drewN ?_ _ | refine blk_drew ?_ | refine blk_alloc ?_ _)); refine blk_far ?_ NB199_211.out _; (with_reducible repeat (first | refine blk_drewN ?_ _ | refine blk_drew ?_ | refine blk_alloc ?_ _)); refine blk_far ?_ NB199_211.out _; (with_reducible repeat (first | refine blk_drewN ?_ _ | refine blk_drew ?_ | refine blk_alloc ?_ _)); exact BK199.out⟩
                have n8_ : Aside0 ((((w22.setCell ⟨gb211, 0, none⟩ (.int .i64 t202)).setCell ⟨gb211, 1, none⟩ (.slice Ao27 t203.length co27)).setCell ⟨gb211, 2, none⟩ (.slice Ao28 t206.length co28)).heap[gb201]? = some (.cells #[.int .i64 ((rd_T26 l1 x16_1).f0), .int .i64 ((rd_T26 l1 x16_1).f1), .int .i64 ((rd_T26 l1 x16_1).f2), .int .i64 ((rd_T26 l1 x16_1).f3)] 26 (0, 0))) := ⟨by (with_reducible repeat (first | refine blk_drewN ?_ _ | refine blk_drew ?_ | refine blk_alloc ?_ _)); refine blk_far ?_ NB201_211.out _; (with_reducible repeat (first | refine blk_drewN ?_ _ | refine blk_drew ?_ | refine blk_alloc ?_ _)); refine blk_far ?_ NB201_211.out _; (with_reducible repeat (first | refine blk_drewN ?_ _ | refine blk_drew ?_ | refine blk_alloc ?_ _)); refine blk_far ?_ NB201_211.out _; (with_reducible repeat (first | refine blk_drewN ?_ _ | refine blk_drew ?_ | refine blk_alloc ?_ _)); exact BK201.out⟩
                have n9_ : Aside0 ((((w22.setCell ⟨gb211, 0, none⟩ (.int .i64 t202)).setCell ⟨gb211, 1, none⟩ (.slice Ao27 t203.length co27)).setCell ⟨gb211, 2, none⟩ (.slice Ao28 t206.length co28)).heap[gb211]? = some (.cells #[.int .i64 t202, .slice Ao27 t203.length co27, .slice Ao28 t206.length co28] 24 (0, 0))) := ⟨by (with_reducible repeat (first | refine blk_drewN ?_ _ | refine blk_drew ?_ | refine blk_alloc ?_ _)); refine blk_put (cs := #[.int .i64 t202, .slice Ao27 t203.length co27, .slice none 0 0]) ?_ 2 _ rfl; (with_reducible repeat (first | refine blk_drewN ?_ _ | refine blk_drew ?_ | refine blk_alloc ?_ _)); refine blk_put (cs := #[.int .i64 t202, .slice none 0 0, .slice none 0 0]) ?_ 1 _ rfl; (with_reducible repeat (first | refine blk_drewN ?_ _ | refine blk_drew ?_ | refine blk_alloc ?_ _)); refine blk_put (cs := #[.int .i64 0, .slice none 0 0, .slice none 0 0]) ?_ 0 _ rfl; (with_reducible repeat (first | refine blk_drewN ?_ _ | refine blk_drew ?_ | refine blk_alloc ?_ _)); exact BK211.out⟩
                have n10_ : Aside0 (Below w.heap.size w (((w22.setCell ⟨gb211, 0, none⟩ (.int .i64 t202)).setCell ⟨gb211, 1, none⟩ (.slice Ao27 t203.length co27)).setCell ⟨gb211, 2, none⟩ (.slice Ao28 t206.length co28))) := ⟨by repeat (first | (with_reducible first | exact HB.out | apply below_alloc | apply pw_below_drewN | apply below_drew1 | refine below_set ?_ GE198.out | refine below_set ?_ GE199.out | refine below_set ?_ GE201.out | refine below_set ?_ GE211.out) | exact HB.out)⟩
                (try clear HO_7)
                (try clear HO_8)
                (try clear HO_199001)
                (try clear HO_199002)
                (try clear HO205)
                (try clear HO208)
                (try clear BK198)
                (try clear BK199)
                (try clear BK201)
                (try clear BK211)
                (try clear HB)
                generalize (((w22.setCell ⟨gb211, 0, none⟩ (.int .i64 t202)).setCell ⟨gb211, 1, none⟩ (.slice Ao27 t203.length co27)).setCell ⟨gb211, 2, none⟩ (.slice Ao28 t206.length co28)) = w31 at n0_ n1_ n2_ n3_ n4_ n5_ n6_ n7_ n8_ n9_ n10_ ⊢
                have HO_7 := n0_
                have HO_8 := n1_
                have HO_199001 := n2_
                have HO_199002 := n3_
                have HO205 := n4_
                have HO208 := n5_
                have BK198 := n6_
                have BK199 := n7_
                have BK201 := n8_
                have BK211 := n9_
                have HB := n10_
                clear n0_ n1_ n2_ n3_ n4_ n5_ n6_ n7_ n8_ n9_ n10_
                have n0_ := Aside0.mk (Kd.R_drew HO_7.out)
                have n1_ := Aside0.mk (Kd.R_drew HO_8.out)
                have n2_ := Aside0.mk (Kd.V_drew HO_199001.out)
                have n3_ := Aside0.mk (Kd.V_drew HO_199002.out)
                have n4_ := Aside0.mk (Kd.V_drew HO205.out)
                have n5_ := Aside0.mk (Kd.V_drew HO208.out)
                have n6_ := Aside0.mk (blk_drew BK198.out)
                have n7_ := Aside0.mk (blk_drew BK199.out)
                have n8_ := Aside0.mk (blk_drew BK201.out)
                have n9_ := Aside0.mk (blk_drew BK211.out)
                have n10_ := Aside0.mk (below_drew1 HB.out)
                clear HO_7
                clear HO_8
                clear HO_199001
                clear HO_199002
                clear HO205
                clear HO208
                clear BK198
                clear BK199
                clear BK201
                clear BK211
                clear HB
                have HO_7 := n0_
                have HO_8 := n1_
                have HO_199001 := n2_
                have HO_199002 := n3_
                have HO205 := n4_
                have HO208 := n5_
                have BK198 := n6_
                have BK199 := n7_
                have BK201 := n8_
                have BK211 := n9_
                have HB := n10_
                clear n0_ n1_ n2_ n3_ n4_ n5_ n6_ n7_ n8_ n9_ n10_
                refine start_ (n := 12) (S := fun w' => w'.cell? ⟨gb211, 0, none⟩ = some (.int .i64 t202) ∧ w'.cell? ⟨gb211, 1, none⟩ = some (.slice Ao27 t203.length co27) ∧ w'.cell? ⟨gb211, 2, none⟩ = some (.slice Ao28 t206.length co28)) (ds := []) #[false, false, false, false, false, false, false, false, false, false, false, false] (by kernel_rfl) rfl rfl ⟨(blk_cell BK211.out 0).trans rfl, (blk_cell BK211.out 1).trans rfl, (blk_cell BK211.out 2).trans rfl⟩ (fun hHeld => ?_); refine with_tabW spec_All.tab7 spec_All.bits7 (fun HT_ HW_ => ?_)
                generalize w31.drew = w32 at HO_7 HO_8 HO_199001 HO_199002 HO205 HO208 BK198 BK199 BK201 BK211 HB hHeld ⊢
                refine pure_ (i := 1) (N := some 28) (v := ?_) (a' := ?_) #[false, true, false, false, false, false, false, false, false, false, false, false] rfl rfl (any_of HT_.out (by kernel_rfl)) (fun _ _ _ h => h) (Or.inl ⟨by rfl, ?_⟩) ?_ ?_
                rotate_left
                · intro w'
                  go_simp
                  with_reducible rfl
                rotate_left
                · simp only [Act.put, List.setIfInBounds_toArray, List.set_cons_zero, List.set_cons_succ, i64_w, i32_w]
                  rfl
                refine pure_ (i := 2) (N := some 29) (v := ?_) (a' := ?_) #[false, true, true, false, false, false, false, false, false, false, false, false] rfl rfl (any_of HT_.out (by kernel_rfl)) (fun _ _ _ h => h) (Or.inl ⟨by rfl, ?_⟩) ?_ ?_
                rotate_left
                · intro w'
                  go_simp
                  with_reducible rfl
                rotate_left
                · simp only [Act.put, List.setIfInBounds_toArray, List.set_cons_zero, List.set_cons_succ, i64_w, i32_w]
                  rfl
                refine pure_ (i := 5) (N := some 32) (v := ?_) (a' := ?_) #[false, true, true, false, false, true, false, false, false, false, false, false] rfl rfl (any_of HT_.out (by kernel_rfl)) (fun _ _ _ h => h) (Or.inl ⟨by rfl, ?_⟩) ?_ ?_
                rotate_left
                · intro w'
                  go_simp
                  with_reducible rfl
                rotate_left
                · simp only [Act.put, List.setIfInBounds_toArray, List.set_cons_zero, List.set_cons_succ, i64_w, i32_w]
                  rfl
                refine pure_ (i := 6) (N := some 33) (v := ?_) (a' := ?_) #[false, true, true, false, false, true, true, false, false, false, false, false] rfl rfl (any_of HT_.out (by kernel_rfl)) (fun _ _ _ h => h) (Or.inl ⟨by rfl, ?_⟩) ?_ ?_
                rotate_left
                · intro w'
                  go_simp
                  with_reducible rfl
                rotate_left
                · simp only [Act.put, List.setIfInBounds_toArray, List.set_cons_zero, List.set_cons_succ, i64_w, i32_w]
                  rfl
                refine take_ (i := 0) (N := some 27) (v := ?_) (a' := ?_) #[true, true, true, false, false, true, true, false, false, false, false, false] rfl rfl (take_ofW HT_.out HW_.out (by kernel_rfl)) (fun _ _ _ h => h) (Or.inl ⟨by rfl, ?_⟩) hHeld ?_ ?_
                rotate_left
                · rintro w' ⟨s0, s1, s2⟩
                  go_simp
                  with_reducible rfl
                rotate_left
                · simp only [Act.put, List.setIfInBounds_toArray, List.set_cons_zero, List.set_cons_succ, i64_w, i32_w]
                  rfl
                refine join_ (σ := Value × Value × Value) 4 #[true, true, true, true, true, true, true, true, false, false, false, false] (fun s_ => [(30, s_.1), (31, s_.2.1), (34, s_.2.2)]) (fun s_ w' => (w'.cell? ⟨gb211, 0, none⟩ = some (.int .i64 t202) ∧ w'.cell? ⟨gb211, 1, none⟩ = some (.slice Ao27 t203.length co27) ∧ w'.cell? ⟨gb211, 2, none⟩ = some (.slice Ao28 t206.length co28)) ∧ (Kd.V (Kd.int .i64) 3 w' w.heap.size (fun k_ => ((P0_1_ k_ ∨ P0_2_ k_) ∨ w.heap.size ≤ k_) ∧ some k_ ≠ (s_.1 : Value).ownBlock ∧ some k_ ≠ (s_.2.1 : Value).ownBlock ∧ some k_ ≠ (s_.2.2 : Value).ownBlock ∧ some k_ ≠ (.slice Ao30 x8_1.length co30 : Value).ownBlock ∧ k_ ≠ gb198 ∧ k_ ≠ gb199 ∧ k_ ≠ gb201 ∧ k_ ≠ gb211) (.slice Ao27 t203.length co27) t203) ∧ (Kd.V (Kd.int .i64) 3 w' w.heap.size (fun k_ => ((P0_1_ k_ ∨ P0_2_ k_) ∨ w.heap.size ≤ k_) ∧ some k_ ≠ (s_.1 : Value).ownBlock ∧ some k_ ≠ (s_.2.1 : Value).ownBlock ∧ some k_ ≠ (s_.2.2 : Value).ownBlock ∧ some k_ ≠ (.slice Ao30 x8_1.length co30 : Value).ownBlock ∧ k_ ≠ gb198 ∧ k_ ≠ gb199 ∧ k_ ≠ gb201 ∧ k_ ≠ gb211) (.slice Ao28 t206.length co28) t206) ∧ (Kd.R (Kd.int .i64) 3 w' w.heap.size (fun k_ => (w.heap.size ≤ k_) ∧ some k_ ≠ (s_.2.1 : Value).ownBlock) s_.1 y212) ∧ (Kd.R (Kd.int .i64) 3 w' w.heap.size (fun k_ => (w.heap.size ≤ k_) ∧ some k_ ≠ (s_.1 : Value).ownBlock) s_.2.1 y215) ∧ (Kd.R Kd.bool 4 w' w.heap.size (fun k_ => (w.heap.size ≤ k_) ∧ some k_ ≠ (.slice Ao30 x8_1.length co30 : Value).ownBlock) s_.2.2 y218) ∧ (Kd.V (Kd.int .i64) 3 w' w.heap.size (fun k_ => ((P0_1_ k_ ∨ P0_2_ k_) ∨ w.heap.size ≤ k_) ∧ some k_ ≠ (s_.1 : Value).ownBlock ∧ some k_ ≠ (s_.2.1 : Value).ownBlock ∧ some k_ ≠ (s_.2.2 : Value).ownBlock ∧ some k_ ≠ (.slice Ao30 x8_1.length co30 : Value).ownBlock ∧ k_ ≠ gb198 ∧ k_ ≠ gb199 ∧ k_ ≠ gb201 ∧ k_ ≠ gb211) (.slice Ao19 x199001_1.length co19) x199001_1) ∧ (Kd.V (Kd.int .i64) 3 w' w.heap.size (fun k_ => ((P0_1_ k_ ∨ P0_2_ k_) ∨ w.heap.size ≤ k_) ∧ some k_ ≠ (s_.1 : Value).ownBlock ∧ some k_ ≠ (s_.2.1 : Value).ownBlock ∧ some k_ ≠ (s_.2.2 : Value).ownBlock ∧ some k_ ≠ (.slice Ao30 x8_1.length co30 : Value).ownBlock ∧ k_ ≠ gb198 ∧ k_ ≠ gb199 ∧ k_ ≠ gb201 ∧ k_ ≠ gb211) (.slice Ao20 x199002_1.length co20) x199002_1) ∧ (Kd.R Kd.bool 4 w' w.heap.size (fun k_ => (w.heap.size ≤ k_) ∧ some k_ ≠ (s_.2.2 : Value).ownBlock) (.slice Ao30 x8_1.length co30) x8_1) ∧ (w'.heap[gb198]? = some (.cells #[.int .i64 x199000_1, .slice Ao19 x199001_1.length co19, .slice Ao20 x199002_1.length co20] 24 (0, 0))) ∧ (w'.heap[gb199]? = some (.cells #[.int .i64 0, .slice none 0 0, .slice none 0 0] 24 (0, 0))) ∧ (w'.heap[gb201]? = some (.cells #[.int .i64 ((rd_T26 l1 x16_1).f0), .int .i64 ((rd_T26 l1 x16_1).f1), .int .i64 ((rd_T26 l1 x16_1).f2), .int .i64 ((rd_T26 l1 x16_1).f3)] 26 (0, 0))) ∧ (w'.heap[gb211]? = some (.cells #[.int .i64 t202, .slice Ao27 t203.length co27, .slice Ao28 t206.length co28] 24 (0, 0))) ∧ (Below w.heap.size w w')) ?_ ?_
                rotate_left
                · intro hCont
                  refine two_ (i := 3) (j := 7) (Ni := some 30) (Nj := some 34) #[true, true, true, true, false, true, true, false, false, false, false, false] #[true, true, true, false, false, true, true, true, false, false, false, false] rfl rfl rfl rfl (two_of HT_.out (by kernel_rfl)) (by decide) (by decide) (fun K hK => ?_) (fun K hK => ?_)
                  · skip
                    refine Kd.R_lit_step (Kd.int .i64) _ 3 ?hg (N := 30) ?hd (xs := ([t209] : List Int)) (inner := [.int .i64 t209]) (ok := fun _ => True) (okp := fun _ => True) ?hr ?hp (fun _ hk => hk) trivial (Below.refl _ _) (Nat.le_refl _) (by simp) ?_; (case hd => rfl); (case hg => rfl); (case hr => first | (go_simp; done) | (go_simp; rfl)); (case hp => exact (Reps.one (show Kd.M (Kd.int .i64) _ _ _ t209 [.int .i64 t209] from rfl) (Reps.none _ _)))
                    intro v213 w33 ho34 hb hg_ hnew_
                    clear hg_ hnew_
                    (first | rw [← Ny212.out] at ho34 | (simp only [Int.reduceToNat] at ho34; rw [← Ny212.out] at ho34))
                    have n0_ := Aside0.mk (Kd.R_elder' (by (with_reducible repeat (first | apply Kd.R_alloc | apply Kd.R_drewN | apply Kd.R_drew)); exact HO_7.out) (Kd.R_base ho34) hb)
                    have n1_ := Aside0.mk (Kd.R_below (by (with_reducible repeat (first | apply Kd.R_alloc | apply Kd.R_drewN | apply Kd.R_drew)); exact HO_8.out) hb)
                    have n2_ := Aside0.mk (Kd.V_elder' (by (with_reducible repeat (first | apply Kd.V_alloc | apply Kd.V_drewN | apply Kd.V_drew)); exact HO_199001.out) (Kd.R_base ho34) hb)
                    have n3_ := Aside0.mk (Kd.V_elder' (by (with_reducible repeat (first | apply Kd.V_alloc | apply Kd.V_drewN | apply Kd.V_drew)); exact HO_199002.out) (Kd.R_base ho34) hb)
                    have n4_ := Aside0.mk (Kd.V_elder' (by (with_reducible repeat (first | apply Kd.V_alloc | apply Kd.V_drewN | apply Kd.V_drew)); exact HO205.out) (Kd.R_base ho34) hb)
                    have n5_ := Aside0.mk (Kd.V_elder' (by (with_reducible repeat (first | apply Kd.V_alloc | apply Kd.V_drewN | apply Kd.V_drew)); exact HO208.out) (Kd.R_base ho34) hb)
                    have n6_ := Aside0.mk (Kd.R_lower (Kd.R_new' (Kd.R_newM (M := fun k_ => (w.heap.size ≤ k_)) ho34 (below_size (by repeat (first | (with_reducible first | exact HB.out | apply below_alloc | apply pw_below_drewN | apply below_drew1 | refine below_set ?_ GE198.out | refine below_set ?_ GE199.out | refine below_set ?_ GE201.out | refine below_set ?_ GE211.out) | exact HB.out))) (fun k_ h_ => h_)) (Kd.R_lt (by (with_reducible repeat (first | apply Kd.R_alloc | apply Kd.R_drewN | apply Kd.R_drew)); exact HO_7.out))) (below_size (by repeat (first | (with_reducible first | exact HB.out | apply below_alloc | apply pw_below_drewN | apply below_drew1 | refine below_set ?_ GE198.out | refine below_set ?_ GE199.out | refine below_set ?_ GE201.out | refine below_set ?_ GE211.out) | exact HB.out))))
                    have n7_ := Aside0.mk (blk_below (g := gb198) (o := .cells #[.int .i64 x199000_1, .slice Ao19 x199001_1.length co19, .slice Ao20 x199002_1.length co20] 24 (0, 0)) (by (with_reducible repeat (first | refine blk_drewN ?_ _ | refine blk_drew ?_ | refine blk_alloc ?_ _)); exact BK198.out) hb)
                    have n8_ := Aside0.mk (blk_below (g := gb199) (o := .cells #[.int .i64 0, .slice none 0 0, .slice none 0 0] 24 (0, 0)) (by (with_reducible repeat (first | refine blk_drewN ?_ _ | refine blk_drew ?_ | refine blk_alloc ?_ _)); exact BK199.out) hb)
                    have n9_ := Aside0.mk (blk_below (g := gb201) (o := .cells #[.int .i64 ((rd_T26 l1 x16_1).f0), .int .i64 ((rd_T26 l1 x16_1).f1), .int .i64 ((rd_T26 l1 x16_1).f2), .int .i64 ((rd_T26 l1 x16_1).f3)] 26 (0, 0)) (by (with_reducible repeat (first | refine blk_drewN ?_ _ | refine blk_drew ?_ | refine blk_alloc ?_ _)); exact BK201.out) hb)
                    have n10_ := Aside0.mk (blk_below (g := gb211) (o := .cells #[.int .i64 t202, .slice Ao27 t203.length co27, .slice Ao28 t206.length co28] 24 (0, 0)) (by (with_reducible repeat (first | refine blk_drewN ?_ _ | refine blk_drew ?_ | refine blk_alloc ?_ _)); exact BK211.out) hb)
                    have n11_ := Aside0.mk (below_step (by repeat (first | (with_reducible first | exact HB.out | apply below_alloc | apply pw_below_drewN | apply below_drew1 | refine below_set ?_ GE198.out | refine below_set ?_ GE199.out | refine below_set ?_ GE201.out | refine below_set ?_ GE211.out) | exact HB.out)) hb)
                    clear HO_7
                    clear HO_8
                    clear HO_199001
                    clear HO_199002
                    clear HO205
                    clear HO208
                    clear BK198
                    clear BK199
                    clear BK201
                    clear BK211
                    clear HB
                    have HO_7 := n0_
                    have HO_8 := n1_
                    have HO_199001 := n2_
                    have HO_199002 := n3_
                    have HO205 := n4_
                    have HO208 := n5_
                    have HO214 := n6_
                    have BK198 := n7_
                    have BK199 := n8_
                    have BK201 := n9_
                    have BK211 := n10_
                    have HB := n11_
                    clear n0_ n1_ n2_ n3_ n4_ n5_ n6_ n7_ n8_ n9_ n10_ n11_
                    clear hb ho34
                    obtain ⟨Ao36, co36, eo36⟩ := Kd.R_slice HO214.out
                    (first | subst eo36 | (injection eo36 with f1_ f2_ f3_; have f4_ := f1_.symm; have f5_ := f3_.symm; clear f1_ f2_ f3_; subst f4_; subst f5_))
                    refine hK.out _ _ ⟨(blk_cell BK211.out 0).trans rfl, (blk_cell BK211.out 1).trans rfl, (blk_cell BK211.out 2).trans rfl⟩ (fun hHeld => ?_)
                    clear hK K
                    refine norm_ (a' := ?_) ?_ ?_
                    rotate_left
                    · show Act.put _ (some 30) _ = _
                      simp only [Act.put, List.setIfInBounds_toArray, List.set_cons_zero, List.set_cons_succ, i64_w, i32_w]
                      rfl
                    refine two_ (i := 4) (j := 7) (Ni := some 31) (Nj := some 34) #[true, true, true, true, true, true, true, false, false, false, false, false] #[true, true, true, true, false, true, true, true, false, false, false, false] rfl rfl rfl rfl (two_of HT_.out (by kernel_rfl)) (by decide) (by decide) (fun K hK => ?_) (fun K hK => ?_)
                    · skip
                      refine Kd.R_append_rows_step (Kd.int .i64) (w0 := w) w.heap.size (by rfl) (.tmp 28) (.tmp 30) 22 3 (.int .i64 0) 8 rfl Try.underlying22 info3 rfl (by decide) (by omega) (.slice Ao29 x7_1.length co29) x7_1 y212 _ _ _ (fun k_ => (w.heap.size ≤ k_) ∧ some k_ ≠ (.slice Ao36 y212.length co36 : Value).ownBlock) (fun _ => False) rfl rfl ?aO ?aR (fun _ _ h => h) (fun _ h => h.elim) ?aF ?aB ?aS ?aL ?_
                      (case aR => repeat (first | exact (Kd.R_reads' HO214.out).2.2 | (with_reducible refine Kd.C_alloc ?_ _) | (with_reducible refine Kd.C_drewN ?_ _) | (with_reducible refine Kd.C_drew ?_)))
                      (case aB => exact (by repeat (first | (with_reducible first | exact HB.out | apply below_alloc | apply pw_below_drewN | apply below_drew1 | refine below_set ?_ GE198.out | refine below_set ?_ GE199.out | refine below_set ?_ GE201.out | refine below_set ?_ GE211.out) | exact HB.out)))
                      (case aF => exact (fun k_ hk => ⟨(Nat.le_trans (below_size (by repeat (first | (with_reducible first | exact HB.out | apply below_alloc | apply pw_below_drewN | apply below_drew1 | refine below_set ?_ GE198.out | refine below_set ?_ GE199.out | refine below_set ?_ GE201.out | refine below_set ?_ GE211.out) | exact HB.out))) hk), Kd.fresh' (Kd.R_lt (by (with_reducible repeat (first | apply Kd.R_alloc | apply Kd.R_drewN | apply Kd.R_drew)); exact HO214.out)) k_ hk⟩))
                      (case aO => exact (by (with_reducible repeat (first | apply Kd.R_alloc | apply Kd.R_drewN | apply Kd.R_drew)); exact HO_7.out))
                      (case aS => exact (below_size (by repeat (first | (with_reducible first | exact HB.out | apply below_alloc | apply pw_below_drewN | apply below_drew1 | refine below_set ?_ GE198.out | refine below_set ?_ GE199.out | refine below_set ?_ GE201.out | refine below_set ?_ GE211.out) | exact HB.out))))
                      (case aL => have := LMc9.out; omega)
                      intro v216 w35 ho hb hg hat
                      rw [← Ny215.out] at ho
                      have n0_ := Aside0.mk (Kd.R_over' (by (with_reducible repeat (first | apply Kd.R_alloc | apply Kd.R_drewN | apply Kd.R_drew)); exact HO_8.out) (Kd.R_typed (by (with_reducible repeat (first | apply Kd.R_alloc | apply Kd.R_drewN | apply Kd.R_drew)); exact HO_7.out)) (by decide) hg)
                      have n1_ := Aside0.mk (Kd.V_afterv (ok := (fun k_ => ((P0_1_ k_ ∨ P0_2_ k_) ∨ w.heap.size ≤ k_) ∧ some k_ ≠ (.slice Ao30 x8_1.length co30 : Value).ownBlock ∧ some k_ ≠ (.slice Ao36 y212.length co36 : Value).ownBlock ∧ k_ ≠ gb198 ∧ k_ ≠ gb199 ∧ k_ ≠ gb201 ∧ k_ ≠ gb211)) (by (with_reducible repeat (first | apply Kd.V_alloc | apply Kd.V_drewN | apply Kd.V_drew)); exact Kd.V_mono HO_199001.out (fun _ hk => ⟨⟨hk.1.1, ⟨hk.1.2.2.1, ⟨hk.2, ⟨hk.1.2.2.2.1, ⟨hk.1.2.2.2.2.1, ⟨hk.1.2.2.2.2.2.1, hk.1.2.2.2.2.2.2⟩⟩⟩⟩⟩⟩, hk.1.2.1⟩)) hg hat)
                      have n2_ := Aside0.mk (Kd.V_afterv (ok := (fun k_ => ((P0_1_ k_ ∨ P0_2_ k_) ∨ w.heap.size ≤ k_) ∧ some k_ ≠ (.slice Ao30 x8_1.length co30 : Value).ownBlock ∧ some k_ ≠ (.slice Ao36 y212.length co36 : Value).ownBlock ∧ k_ ≠ gb198 ∧ k_ ≠ gb199 ∧ k_ ≠ gb201 ∧ k_ ≠ gb211)) (by (with_reducible repeat (first | apply Kd.V_alloc | apply Kd.V_drewN | apply Kd.V_drew)); exact Kd.V_mono HO_199002.out (fun _ hk => ⟨⟨hk.1.1, ⟨hk.1.2.2.1, ⟨hk.2, ⟨hk.1.2.2.2.1, ⟨hk.1.2.2.2.2.1, ⟨hk.1.2.2.2.2.2.1, hk.1.2.2.2.2.2.2⟩⟩⟩⟩⟩⟩, hk.1.2.1⟩)) hg hat)
                      have n3_ := Aside0.mk (blk_grown (g := gb198) (o := .cells #[.int .i64 x199000_1, .slice Ao19 x199001_1.length co19, .slice Ao20 x199002_1.length co20] 24 (0, 0)) (by (with_reducible repeat (first | refine blk_drewN ?_ _ | refine blk_drew ?_ | refine blk_alloc ?_ _)); exact BK198.out) hg (Kd.R_ne HO_7.out BK198.out (by decide)))
                      have n4_ := Aside0.mk (blk_grown (g := gb199) (o := .cells #[.int .i64 0, .slice none 0 0, .slice none 0 0] 24 (0, 0)) (by (with_reducible repeat (first | refine blk_drewN ?_ _ | refine blk_drew ?_ | refine blk_alloc ?_ _)); exact BK199.out) hg (Kd.R_ne HO_7.out BK199.out (by decide)))
                      have n5_ := Aside0.mk (blk_grown (g := gb201) (o := .cells #[.int .i64 ((rd_T26 l1 x16_1).f0), .int .i64 ((rd_T26 l1 x16_1).f1), .int .i64 ((rd_T26 l1 x16_1).f2), .int .i64 ((rd_T26 l1 x16_1).f3)] 26 (0, 0)) (by (with_reducible repeat (first | refine blk_drewN ?_ _ | refine blk_drew ?_ | refine blk_alloc ?_ _)); exact BK201.out) hg (Kd.R_ne HO_7.out BK201.out (by decide)))
                      have n6_ := Aside0.mk (Kd.V_afterv (ok := (fun k_ => ((P0_1_ k_ ∨ P0_2_ k_) ∨ w.heap.size ≤ k_) ∧ some k_ ≠ (.slice Ao30 x8_1.length co30 : Value).ownBlock ∧ some k_ ≠ (.slice Ao36 y212.length co36 : Value).ownBlock ∧ k_ ≠ gb198 ∧ k_ ≠ gb199 ∧ k_ ≠ gb201 ∧ k_ ≠ gb211)) (by (with_reducible repeat (first | apply Kd.V_alloc | apply Kd.V_drewN | apply Kd.V_drew)); exact Kd.V_mono HO205.out (fun _ hk => ⟨⟨hk.1.1, ⟨hk.1.2.2.1, ⟨hk.2, ⟨hk.1.2.2.2.1, ⟨hk.1.2.2.2.2.1, ⟨hk.1.2.2.2.2.2.1, hk.1.2.2.2.2.2.2⟩⟩⟩⟩⟩⟩, hk.1.2.1⟩)) hg hat)
                      have n7_ := Aside0.mk (Kd.V_afterv (ok := (fun k_ => ((P0_1_ k_ ∨ P0_2_ k_) ∨ w.heap.size ≤ k_) ∧ some k_ ≠ (.slice Ao30 x8_1.length co30 : Value).ownBlock ∧ some k_ ≠ (.slice Ao36 y212.length co36 : Value).ownBlock ∧ k_ ≠ gb198 ∧ k_ ≠ gb199 ∧ k_ ≠ gb201 ∧ k_ ≠ gb211)) (by (with_reducible repeat (first | apply Kd.V_alloc | apply Kd.V_drewN | apply Kd.V_drew)); exact Kd.V_mono HO208.out (fun _ hk => ⟨⟨hk.1.1, ⟨hk.1.2.2.1, ⟨hk.2, ⟨hk.1.2.2.2.1, ⟨hk.1.2.2.2.2.1, ⟨hk.1.2.2.2.2.2.1, hk.1.2.2.2.2.2.2⟩⟩⟩⟩⟩⟩, hk.1.2.1⟩)) hg hat)
                      have n8_ := Aside0.mk (blk_grown (g := gb211) (o := .cells #[.int .i64 t202, .slice Ao27 t203.length co27, .slice Ao28 t206.length co28] 24 (0, 0)) (by (with_reducible repeat (first | refine blk_drewN ?_ _ | refine blk_drew ?_ | refine blk_alloc ?_ _)); exact BK211.out) hg (Kd.R_ne HO_7.out BK211.out (by decide)))
                      have n9_ := Aside0.mk (Kd.R_after (ok := (fun k_ => (w.heap.size ≤ k_))) (by (with_reducible repeat (first | apply Kd.R_alloc | apply Kd.R_drewN | apply Kd.R_drew)); exact Kd.R_mono HO214.out (fun _ hk => ⟨hk.1.1, hk.2⟩)) hg hat)
                      have n10_ := Aside0.mk (hb)
                      have n11_ := Aside0.mk (ho)
                      clear HO_8
                      clear HO_199001
                      clear HO_199002
                      clear BK198
                      clear BK199
                      clear BK201
                      clear HO205
                      clear HO208
                      clear BK211
                      clear HO214
                      clear HB
                      clear HO_7
                      have HO_8 := n0_
                      have HO_199001 := n1_
                      have HO_199002 := n2_
                      have BK198 := n3_
                      have BK199 := n4_
                      have BK201 := n5_
                      have HO205 := n6_
                      have HO208 := n7_
                      have BK211 := n8_
                      have HO214 := n9_
                      have HB := n10_
                      have HO217 := n11_
                      clear n0_ n1_ n2_ n3_ n4_ n5_ n6_ n7_ n8_ n9_ n10_ n11_
                      clear ho hb hg hat
                      refine hK.out _ _ ⟨(blk_cell BK211.out 0).trans rfl, (blk_cell BK211.out 1).trans rfl, (blk_cell BK211.out 2).trans rfl⟩ (fun hHeld => ?_)
                      clear hK K
                      refine norm_ (a' := ?_) ?_ ?_
                      rotate_left
                      · show Act.put _ (some 31) _ = _
                        simp only [Act.put, List.setIfInBounds_toArray, List.set_cons_zero, List.set_cons_succ, i64_w, i32_w]
                        rfl
                      refine one_ (i := 7) (N := some 34) #[true, true, true, true, true, true, true, true, false, false, false, false] rfl rfl (one_of HT_.out (by kernel_rfl)) (by decide) (fun K hK => ?_)
                      refine Kd.R_lit_step Kd.bool _ 4 ?hg (N := 34) ?hd (xs := ([t210] : List Bool)) (inner := [.bool t210]) (ok := fun _ => True) (okp := fun _ => True) ?hr ?hp (fun _ hk => hk) trivial (Below.refl _ _) (Nat.le_refl _) (by simp) ?_; (case hd => rfl); (case hg => rfl); (case hr => first | (go_simp; done) | (go_simp; rfl)); (case hp => exact (Reps.one (show Kd.M Kd.bool _ _ _ t210 [.bool t210] from rfl) (Reps.none _ _)))
                      intro v219 w37 ho38 hb hg_ hnew_
                      clear hg_ hnew_
                      (first | rw [← Ny218.out] at ho38 | (simp only [Int.reduceToNat] at ho38; rw [← Ny218.out] at ho38))
                      have n0_ := Aside0.mk (Kd.R_elder' (by (with_reducible repeat (first | apply Kd.R_alloc | apply Kd.R_drewN | apply Kd.R_drew)); exact HO_8.out) (Kd.R_base ho38) hb)
                      have n1_ := Aside0.mk (Kd.V_elder' (by (with_reducible repeat (first | apply Kd.V_alloc | apply Kd.V_drewN | apply Kd.V_drew)); exact HO_199001.out) (Kd.R_base ho38) hb)
                      have n2_ := Aside0.mk (Kd.V_elder' (by (with_reducible repeat (first | apply Kd.V_alloc | apply Kd.V_drewN | apply Kd.V_drew)); exact HO_199002.out) (Kd.R_base ho38) hb)
                      have n3_ := Aside0.mk (Kd.V_elder' (by (with_reducible repeat (first | apply Kd.V_alloc | apply Kd.V_drewN | apply Kd.V_drew)); exact HO205.out) (Kd.R_base ho38) hb)
                      have n4_ := Aside0.mk (Kd.V_elder' (by (with_reducible repeat (first | apply Kd.V_alloc | apply Kd.V_drewN | apply Kd.V_drew)); exact HO208.out) (Kd.R_base ho38) hb)
                      have n5_ := Aside0.mk (Kd.R_below (by (with_reducible repeat (first | apply Kd.R_alloc | apply Kd.R_drewN | apply Kd.R_drew)); exact HO214.out) hb)
                      have n6_ := Aside0.mk (Kd.R_below (by (with_reducible repeat (first | apply Kd.R_alloc | apply Kd.R_drewN | apply Kd.R_drew)); exact HO217.out) hb)
                      have n7_ := Aside0.mk (Kd.R_lower (Kd.R_new' (Kd.R_newM (M := fun k_ => (w.heap.size ≤ k_)) ho38 (below_size (by repeat (first | (with_reducible first | exact HB.out | apply below_alloc | apply pw_below_drewN | apply below_drew1 | refine below_set ?_ GE198.out | refine below_set ?_ GE199.out | refine below_set ?_ GE201.out | refine below_set ?_ GE211.out) | exact HB.out))) (fun k_ h_ => h_)) (Kd.R_lt (by (with_reducible repeat (first | apply Kd.R_alloc | apply Kd.R_drewN | apply Kd.R_drew)); exact HO_8.out))) (below_size (by repeat (first | (with_reducible first | exact HB.out | apply below_alloc | apply pw_below_drewN | apply below_drew1 | refine below_set ?_ GE198.out | refine below_set ?_ GE199.out | refine below_set ?_ GE201.out | refine below_set ?_ GE211.out) | exact HB.out))))
                      have n8_ := Aside0.mk (blk_below (g := gb198) (o := .cells #[.int .i64 x199000_1, .slice Ao19 x199001_1.length co19, .slice Ao20 x199002_1.length co20] 24 (0, 0)) (by (with_reducible repeat (first | refine blk_drewN ?_ _ | refine blk_drew ?_ | refine blk_alloc ?_ _)); exact BK198.out) hb)
                      have n9_ := Aside0.mk (blk_below (g := gb199) (o := .cells #[.int .i64 0, .slice none 0 0, .slice none 0 0] 24 (0, 0)) (by (with_reducible repeat (first | refine blk_drewN ?_ _ | refine blk_drew ?_ | refine blk_alloc ?_ _)); exact BK199.out) hb)
                      have n10_ := Aside0.mk (blk_below (g := gb201) (o := .cells #[.int .i64 ((rd_T26 l1 x16_1).f0), .int .i64 ((rd_T26 l1 x16_1).f1), .int .i64 ((rd_T26 l1 x16_1).f2), .int .i64 ((rd_T26 l1 x16_1).f3)] 26 (0, 0)) (by (with_reducible repeat (first | refine blk_drewN ?_ _ | refine blk_drew ?_ | refine blk_alloc ?_ _)); exact BK201.out) hb)
                      have n11_ := Aside0.mk (blk_below (g := gb211) (o := .cells #[.int .i64 t202, .slice Ao27 t203.length co27, .slice Ao28 t206.length co28] 24 (0, 0)) (by (with_reducible repeat (first | refine blk_drewN ?_ _ | refine blk_drew ?_ | refine blk_alloc ?_ _)); exact BK211.out) hb)
                      have n12_ := Aside0.mk (below_step (by repeat (first | (with_reducible first | exact HB.out | apply below_alloc | apply pw_below_drewN | apply below_drew1 | refine below_set ?_ GE198.out | refine below_set ?_ GE199.out | refine below_set ?_ GE201.out | refine below_set ?_ GE211.out) | exact HB.out)) hb)
                      clear HO_8
                      clear HO_199001
                      clear HO_199002
                      clear HO205
                      clear HO208
                      clear HO214
                      clear HO217
                      clear BK198
                      clear BK199
                      clear BK201
                      clear BK211
                      clear HB
                      have HO_8 := n0_
                      have HO_199001 := n1_
                      have HO_199002 := n2_
                      have HO205 := n3_
                      have HO208 := n4_
                      have HO214 := n5_
                      have HO217 := n6_
                      have HO220 := n7_
                      have BK198 := n8_
                      have BK199 := n9_
                      have BK201 := n10_
                      have BK211 := n11_
                      have HB := n12_
                      clear n0_ n1_ n2_ n3_ n4_ n5_ n6_ n7_ n8_ n9_ n10_ n11_ n12_
                      clear hb ho38
                      refine hK.out _ _ ⟨(blk_cell BK211.out 0).trans rfl, (blk_cell BK211.out 1).trans rfl, (blk_cell BK211.out 2).trans rfl⟩ (fun hHeld => ?_)
                      clear hK K
                      refine norm_ (a' := ?_) ?_ ?_
                      rotate_left
                      · show Act.put _ (some 34) _ = _
                        simp only [Act.put, List.setIfInBounds_toArray, List.set_cons_zero, List.set_cons_succ, i64_w, i32_w]
                        rfl
                      exact norm_ (by simp only [putAll, Act.put, List.setIfInBounds_toArray, List.set_cons_zero, List.set_cons_succ]) (hCont (.slice Ao36 y212.length co36, v216, v219) _ ⟨hHeld, (by (with_reducible repeat (first | apply Kd.V_alloc | apply Kd.V_drewN | apply Kd.V_drew)); exact Kd.V_mono HO205.out (fun _ hk => ⟨hk.1.1.1, ⟨hk.1.1.2.2.1, ⟨hk.1.2, ⟨hk.2, ⟨hk.1.1.2.1, ⟨hk.1.1.2.2.2.1, ⟨hk.1.1.2.2.2.2.1, ⟨hk.1.1.2.2.2.2.2.1, hk.1.1.2.2.2.2.2.2⟩⟩⟩⟩⟩⟩⟩⟩)), (by (with_reducible repeat (first | apply Kd.V_alloc | apply Kd.V_drewN | apply Kd.V_drew)); exact Kd.V_mono HO208.out (fun _ hk => ⟨hk.1.1.1, ⟨hk.1.1.2.2.1, ⟨hk.1.2, ⟨hk.2, ⟨hk.1.1.2.1, ⟨hk.1.1.2.2.2.1, ⟨hk.1.1.2.2.2.2.1, ⟨hk.1.1.2.2.2.2.2.1, hk.1.1.2.2.2.2.2.2⟩⟩⟩⟩⟩⟩⟩⟩)), (by (with_reducible repeat (first | apply Kd.R_alloc | apply Kd.R_drewN | apply Kd.R_drew)); exact HO214.out), (by (with_reducible repeat (first | apply Kd.R_alloc | apply Kd.R_drewN | apply Kd.R_drew)); exact HO217.out), (by (with_reducible repeat (first | apply Kd.R_alloc | apply Kd.R_drewN | apply Kd.R_drew)); exact Kd.R_mono HO220.out (fun _ hk => ⟨hk.1.1, hk.2⟩)), (by (with_reducible repeat (first | apply Kd.V_alloc | apply Kd.V_drewN | apply Kd.V_drew)); exact Kd.V_mono HO_199001.out (fun _ hk => ⟨hk.1.1.1, ⟨hk.1.1.2.2.1, ⟨hk.1.2, ⟨hk.2, ⟨hk.1.1.2.1, ⟨hk.1.1.2.2.2.1, ⟨hk.1.1.2.2.2.2.1, ⟨hk.1.1.2.2.2.2.2.1, hk.1.1.2.2.2.2.2.2⟩⟩⟩⟩⟩⟩⟩⟩)), (by (with_reducible repeat (first | apply Kd.V_alloc | apply Kd.V_drewN | apply Kd.V_drew)); exact Kd.V_mono HO_199002.out (fun _ hk => ⟨hk.1.1.1, ⟨hk.1.1.2.2.1, ⟨hk.1.2, ⟨hk.2, ⟨hk.1.1.2.1, ⟨hk.1.1.2.2.2.1, ⟨hk.1.1.2.2.2.2.1, ⟨hk.1.1.2.2.2.2.2.1, hk.1.1.2.2.2.2.2.2⟩⟩⟩⟩⟩⟩⟩⟩)), (by (with_reducible repeat (first | apply Kd.R_alloc | apply Kd.R_drewN | apply Kd.R_drew)); exact HO_8.out), (by (with_reducible repeat (first | refine blk_drewN ?_ _ | refine blk_drew ?_ | refine blk_alloc ?_ _)); exact BK198.out), (by (with_reducible repeat (first | refine blk_drewN ?_ _ | refine blk_drew ?_ | refine blk_alloc ?_ _)); exact BK199.out), (by (with_reducible repeat (first | refine blk_drewN ?_ _ | refine blk_drew ?_ | refine blk_alloc ?_ _)); exact BK201.out), (by (with_reducible repeat (first | refine blk_drewN ?_ _ | refine blk_drew ?_ | refine blk_alloc ?_ _)); exact BK211.out), (by repeat (first | (with_reducible first | exact HB.out | apply below_alloc | apply pw_below_drewN | apply below_drew1 | refine below_set ?_ GE198.out | refine below_set ?_ GE199.out | refine below_set ?_ GE201.out | refine below_set ?_ GE211.out) | exact HB.out))⟩)
                    · skip
                      refine Kd.R_lit_step Kd.bool _ 4 ?hg (N := 34) ?hd (xs := ([t210] : List Bool)) (inner := [.bool t210]) (ok := fun _ => True) (okp := fun _ => True) ?hr ?hp (fun _ hk => hk) trivial (Below.refl _ _) (Nat.le_refl _) (by simp) ?_; (case hd => rfl); (case hg => rfl); (case hr => first | (go_simp; done) | (go_simp; rfl)); (case hp => exact (Reps.one (show Kd.M Kd.bool _ _ _ t210 [.bool t210] from rfl) (Reps.none _ _)))
                      intro v219 w35 ho36 hb hg_ hnew_
                      clear hg_ hnew_
                      (first | rw [← Ny218.out] at ho36 | (simp only [Int.reduceToNat] at ho36; rw [← Ny218.out] at ho36))
                      have n0_ := Aside0.mk (Kd.R_below (by (with_reducible repeat (first | apply Kd.R_alloc | apply Kd.R_drewN | apply Kd.R_drew)); exact HO_7.out) hb)
                      have n1_ := Aside0.mk (Kd.R_elder' (by (with_reducible repeat (first | apply Kd.R_alloc | apply Kd.R_drewN | apply Kd.R_drew)); exact HO_8.out) (Kd.R_base ho36) hb)
                      have n2_ := Aside0.mk (Kd.V_elder' (by (with_reducible repeat (first | apply Kd.V_alloc | apply Kd.V_drewN | apply Kd.V_drew)); exact HO_199001.out) (Kd.R_base ho36) hb)
                      have n3_ := Aside0.mk (Kd.V_elder' (by (with_reducible repeat (first | apply Kd.V_alloc | apply Kd.V_drewN | apply Kd.V_drew)); exact HO_199002.out) (Kd.R_base ho36) hb)
                      have n4_ := Aside0.mk (Kd.V_elder' (by (with_reducible repeat (first | apply Kd.V_alloc | apply Kd.V_drewN | apply Kd.V_drew)); exact HO205.out) (Kd.R_base ho36) hb)
                      have n5_ := Aside0.mk (Kd.V_elder' (by (with_reducible repeat (first | apply Kd.V_alloc | apply Kd.V_drewN | apply Kd.V_drew)); exact HO208.out) (Kd.R_base ho36) hb)
                      have n6_ := Aside0.mk (Kd.R_below (by (with_reducible repeat (first | apply Kd.R_alloc | apply Kd.R_drewN | apply Kd.R_drew)); exact HO214.out) hb)
                      have n7_ := Aside0.mk (Kd.R_lower (Kd.R_new' (Kd.R_newM (M := fun k_ => (w.heap.size ≤ k_)) ho36 (below_size (by repeat (first | (with_reducible first | exact HB.out | apply below_alloc | apply pw_below_drewN | apply below_drew1 | refine below_set ?_ GE198.out | refine below_set ?_ GE199.out | refine below_set ?_ GE201.out | refine below_set ?_ GE211.out) | exact HB.out))) (fun k_ h_ => h_)) (Kd.R_lt (by (with_reducible repeat (first | apply Kd.R_alloc | apply Kd.R_drewN | apply Kd.R_drew)); exact HO_8.out))) (below_size (by repeat (first | (with_reducible first | exact HB.out | apply below_alloc | apply pw_below_drewN | apply below_drew1 | refine below_set ?_ GE198.out | refine below_set ?_ GE199.out | refine below_set ?_ GE201.out | refine below_set ?_ GE211.out) | exact HB.out))))
                      have n8_ := Aside0.mk (blk_below (g := gb198) (o := .cells #[.int .i64 x199000_1, .slice Ao19 x199001_1.length co19, .slice Ao20 x199002_1.length co20] 24 (0, 0)) (by (with_reducible repeat (first | refine blk_drewN ?_ _ | refine blk_drew ?_ | refine blk_alloc ?_ _)); exact BK198.out) hb)
                      have n9_ := Aside0.mk (blk_below (g := gb199) (o := .cells #[.int .i64 0, .slice none 0 0, .slice none 0 0] 24 (0, 0)) (by (with_reducible repeat (first | refine blk_drewN ?_ _ | refine blk_drew ?_ | refine blk_alloc ?_ _)); exact BK199.out) hb)
                      have n10_ := Aside0.mk (blk_below (g := gb201) (o := .cells #[.int .i64 ((rd_T26 l1 x16_1).f0), .int .i64 ((rd_T26 l1 x16_1).f1), .int .i64 ((rd_T26 l1 x16_1).f2), .int .i64 ((rd_T26 l1 x16_1).f3)] 26 (0, 0)) (by (with_reducible repeat (first | refine blk_drewN ?_ _ | refine blk_drew ?_ | refine blk_alloc ?_ _)); exact BK201.out) hb)
                      have n11_ := Aside0.mk (blk_below (g := gb211) (o := .cells #[.int .i64 t202, .slice Ao27 t203.length co27, .slice Ao28 t206.length co28] 24 (0, 0)) (by (with_reducible repeat (first | refine blk_drewN ?_ _ | refine blk_drew ?_ | refine blk_alloc ?_ _)); exact BK211.out) hb)
                      have n12_ := Aside0.mk (below_step (by repeat (first | (with_reducible first | exact HB.out | apply below_alloc | apply pw_below_drewN | apply below_drew1 | refine below_set ?_ GE198.out | refine below_set ?_ GE199.out | refine below_set ?_ GE201.out | refine below_set ?_ GE211.out) | exact HB.out)) hb)
                      clear HO_7
                      clear HO_8
                      clear HO_199001
                      clear HO_199002
                      clear HO205
                      clear HO208
                      clear HO214
                      clear BK198
                      clear BK199
                      clear BK201
                      clear BK211
                      clear HB
                      have HO_7 := n0_
                      have HO_8 := n1_
                      have HO_199001 := n2_
                      have HO_199002 := n3_
                      have HO205 := n4_
                      have HO208 := n5_
                      have HO214 := n6_
                      have HO220 := n7_
                      have BK198 := n8_
                      have BK199 := n9_
                      have BK201 := n10_
                      have BK211 := n11_
                      have HB := n12_
                      clear n0_ n1_ n2_ n3_ n4_ n5_ n6_ n7_ n8_ n9_ n10_ n11_ n12_
                      clear hb ho36
                      obtain ⟨Ao38, co38, eo38⟩ := Kd.R_slice HO214.out
                      (first | subst eo38 | (injection eo38 with f1_ f2_ f3_; have f4_ := f1_.symm; have f5_ := f3_.symm; clear f1_ f2_ f3_; subst f4_; subst f5_))
                      refine hK.out _ _ ⟨(blk_cell BK211.out 0).trans rfl, (blk_cell BK211.out 1).trans rfl, (blk_cell BK211.out 2).trans rfl⟩ (fun hHeld => ?_)
                      clear hK K
                      refine norm_ (a' := ?_) ?_ ?_
                      rotate_left
                      · show Act.put _ (some 34) _ = _
                        simp only [Act.put, List.setIfInBounds_toArray, List.set_cons_zero, List.set_cons_succ, i64_w, i32_w]
                        rfl
                      refine one_ (i := 4) (N := some 31) #[true, true, true, true, true, true, true, true, false, false, false, false] rfl rfl (one_of HT_.out (by kernel_rfl)) (by decide) (fun K hK => ?_)
                      refine Kd.R_append_rows_step (Kd.int .i64) (w0 := w) w.heap.size (by rfl) (.tmp 28) (.tmp 30) 22 3 (.int .i64 0) 8 rfl Try.underlying22 info3 rfl (by decide) (by omega) (.slice Ao29 x7_1.length co29) x7_1 y212 _ _ _ (fun k_ => (w.heap.size ≤ k_) ∧ some k_ ≠ (.slice Ao38 y212.length co38 : Value).ownBlock) (fun _ => False) rfl rfl ?aO ?aR (fun _ _ h => h) (fun _ h => h.elim) ?aF ?aB ?aS ?aL ?_
                      (case aR => repeat (first | exact (Kd.R_reads' HO214.out).2.2 | (with_reducible refine Kd.C_alloc ?_ _) | (with_reducible refine Kd.C_drewN ?_ _) | (with_reducible refine Kd.C_drew ?_)))
                      (case aB => exact (by repeat (first | (with_reducible first | exact HB.out | apply below_alloc | apply pw_below_drewN | apply below_drew1 | refine below_set ?_ GE198.out | refine below_set ?_ GE199.out | refine below_set ?_ GE201.out | refine below_set ?_ GE211.out) | exact HB.out)))
                      (case aF => exact (fun k_ hk => ⟨(Nat.le_trans (below_size (by repeat (first | (with_reducible first | exact HB.out | apply below_alloc | apply pw_below_drewN | apply below_drew1 | refine below_set ?_ GE198.out | refine below_set ?_ GE199.out | refine below_set ?_ GE201.out | refine below_set ?_ GE211.out) | exact HB.out))) hk), Kd.fresh' (Kd.R_lt (by (with_reducible repeat (first | apply Kd.R_alloc | apply Kd.R_drewN | apply Kd.R_drew)); exact HO214.out)) k_ hk⟩))
                      (case aO => exact (by (with_reducible repeat (first | apply Kd.R_alloc | apply Kd.R_drewN | apply Kd.R_drew)); exact HO_7.out))
                      (case aS => exact (below_size (by repeat (first | (with_reducible first | exact HB.out | apply below_alloc | apply pw_below_drewN | apply below_drew1 | refine below_set ?_ GE198.out | refine below_set ?_ GE199.out | refine below_set ?_ GE201.out | refine below_set ?_ GE211.out) | exact HB.out))))
                      (case aL => have := LMc9.out; omega)
                      intro v216 w37 ho hb hg hat
                      rw [← Ny215.out] at ho
                      have n0_ := Aside0.mk (Kd.R_over' (by (with_reducible repeat (first | apply Kd.R_alloc | apply Kd.R_drewN | apply Kd.R_drew)); exact HO_8.out) (Kd.R_typed (by (with_reducible repeat (first | apply Kd.R_alloc | apply Kd.R_drewN | apply Kd.R_drew)); exact HO_7.out)) (by decide) hg)
                      have n1_ := Aside0.mk (Kd.V_afterv (ok := (fun k_ => ((P0_1_ k_ ∨ P0_2_ k_) ∨ w.heap.size ≤ k_) ∧ some k_ ≠ (.slice Ao30 x8_1.length co30 : Value).ownBlock ∧ some k_ ≠ (.slice Ao38 y212.length co38 : Value).ownBlock ∧ some k_ ≠ (v219 : Value).ownBlock ∧ k_ ≠ gb198 ∧ k_ ≠ gb199 ∧ k_ ≠ gb201 ∧ k_ ≠ gb211)) (by (with_reducible repeat (first | apply Kd.V_alloc | apply Kd.V_drewN | apply Kd.V_drew)); exact Kd.V_mono HO_199001.out (fun _ hk => ⟨⟨hk.1.1.1, ⟨hk.1.1.2.2.1, ⟨hk.1.2, ⟨hk.2, ⟨hk.1.1.2.2.2.1, ⟨hk.1.1.2.2.2.2.1, ⟨hk.1.1.2.2.2.2.2.1, hk.1.1.2.2.2.2.2.2⟩⟩⟩⟩⟩⟩⟩, hk.1.1.2.1⟩)) hg hat)
                      have n2_ := Aside0.mk (Kd.V_afterv (ok := (fun k_ => ((P0_1_ k_ ∨ P0_2_ k_) ∨ w.heap.size ≤ k_) ∧ some k_ ≠ (.slice Ao30 x8_1.length co30 : Value).ownBlock ∧ some k_ ≠ (.slice Ao38 y212.length co38 : Value).ownBlock ∧ some k_ ≠ (v219 : Value).ownBlock ∧ k_ ≠ gb198 ∧ k_ ≠ gb199 ∧ k_ ≠ gb201 ∧ k_ ≠ gb211)) (by (with_reducible repeat (first | apply Kd.V_alloc | apply Kd.V_drewN | apply Kd.V_drew)); exact Kd.V_mono HO_199002.out (fun _ hk => ⟨⟨hk.1.1.1, ⟨hk.1.1.2.2.1, ⟨hk.1.2, ⟨hk.2, ⟨hk.1.1.2.2.2.1, ⟨hk.1.1.2.2.2.2.1, ⟨hk.1.1.2.2.2.2.2.1, hk.1.1.2.2.2.2.2.2⟩⟩⟩⟩⟩⟩⟩, hk.1.1.2.1⟩)) hg hat)
                      have n3_ := Aside0.mk (blk_grown (g := gb198) (o := .cells #[.int .i64 x199000_1, .slice Ao19 x199001_1.length co19, .slice Ao20 x199002_1.length co20] 24 (0, 0)) (by (with_reducible repeat (first | refine blk_drewN ?_ _ | refine blk_drew ?_ | refine blk_alloc ?_ _)); exact BK198.out) hg (Kd.R_ne HO_7.out BK198.out (by decide)))
                      have n4_ := Aside0.mk (blk_grown (g := gb199) (o := .cells #[.int .i64 0, .slice none 0 0, .slice none 0 0] 24 (0, 0)) (by (with_reducible repeat (first | refine blk_drewN ?_ _ | refine blk_drew ?_ | refine blk_alloc ?_ _)); exact BK199.out) hg (Kd.R_ne HO_7.out BK199.out (by decide)))
                      have n5_ := Aside0.mk (blk_grown (g := gb201) (o := .cells #[.int .i64 ((rd_T26 l1 x16_1).f0), .int .i64 ((rd_T26 l1 x16_1).f1), .int .i64 ((rd_T26 l1 x16_1).f2), .int .i64 ((rd_T26 l1 x16_1).f3)] 26 (0, 0)) (by (with_reducible repeat (first | refine blk_drewN ?_ _ | refine blk_drew ?_ | refine blk_alloc ?_ _)); exact BK201.out) hg (Kd.R_ne HO_7.out BK201.out (by decide)))
                      have n6_ := Aside0.mk (Kd.V_afterv (ok := (fun k_ => ((P0_1_ k_ ∨ P0_2_ k_) ∨ w.heap.size ≤ k_) ∧ some k_ ≠ (.slice Ao30 x8_1.length co30 : Value).ownBlock ∧ some k_ ≠ (.slice Ao38 y212.length co38 : Value).ownBlock ∧ some k_ ≠ (v219 : Value).ownBlock ∧ k_ ≠ gb198 ∧ k_ ≠ gb199 ∧ k_ ≠ gb201 ∧ k_ ≠ gb211)) (by (with_reducible repeat (first | apply Kd.V_alloc | apply Kd.V_drewN | apply Kd.V_drew)); exact Kd.V_mono HO205.out (fun _ hk => ⟨⟨hk.1.1.1, ⟨hk.1.1.2.2.1, ⟨hk.1.2, ⟨hk.2, ⟨hk.1.1.2.2.2.1, ⟨hk.1.1.2.2.2.2.1, ⟨hk.1.1.2.2.2.2.2.1, hk.1.1.2.2.2.2.2.2⟩⟩⟩⟩⟩⟩⟩, hk.1.1.2.1⟩)) hg hat)
                      have n7_ := Aside0.mk (Kd.V_afterv (ok := (fun k_ => ((P0_1_ k_ ∨ P0_2_ k_) ∨ w.heap.size ≤ k_) ∧ some k_ ≠ (.slice Ao30 x8_1.length co30 : Value).ownBlock ∧ some k_ ≠ (.slice Ao38 y212.length co38 : Value).ownBlock ∧ some k_ ≠ (v219 : Value).ownBlock ∧ k_ ≠ gb198 ∧ k_ ≠ gb199 ∧ k_ ≠ gb201 ∧ k_ ≠ gb211)) (by (with_reducible repeat (first | apply Kd.V_alloc | apply Kd.V_drewN | apply Kd.V_drew)); exact Kd.V_mono HO208.out (fun _ hk => ⟨⟨hk.1.1.1, ⟨hk.1.1.2.2.1, ⟨hk.1.2, ⟨hk.2, ⟨hk.1.1.2.2.2.1, ⟨hk.1.1.2.2.2.2.1, ⟨hk.1.1.2.2.2.2.2.1, hk.1.1.2.2.2.2.2.2⟩⟩⟩⟩⟩⟩⟩, hk.1.1.2.1⟩)) hg hat)
                      have n8_ := Aside0.mk (blk_grown (g := gb211) (o := .cells #[.int .i64 t202, .slice Ao27 t203.length co27, .slice Ao28 t206.length co28] 24 (0, 0)) (by (with_reducible repeat (first | refine blk_drewN ?_ _ | refine blk_drew ?_ | refine blk_alloc ?_ _)); exact BK211.out) hg (Kd.R_ne HO_7.out BK211.out (by decide)))
                      have n9_ := Aside0.mk (Kd.R_after (ok := (fun k_ => (w.heap.size ≤ k_))) (by (with_reducible repeat (first | apply Kd.R_alloc | apply Kd.R_drewN | apply Kd.R_drew)); exact Kd.R_mono HO214.out (fun _ hk => ⟨hk.1.1, hk.2⟩)) hg hat)
                      have n10_ := Aside0.mk (Kd.R_over' (by (with_reducible repeat (first | apply Kd.R_alloc | apply Kd.R_drewN | apply Kd.R_drew)); exact HO220.out) (Kd.R_typed (by (with_reducible repeat (first | apply Kd.R_alloc | apply Kd.R_drewN | apply Kd.R_drew)); exact HO_7.out)) (by decide) hg)
                      have n11_ := Aside0.mk (hb)
                      have n12_ := Aside0.mk (ho)
                      clear HO_8
                      clear HO_199001
                      clear HO_199002
                      clear BK198
                      clear BK199
                      clear BK201
                      clear HO205
                      clear HO208
                      clear BK211
                      clear HO214
                      clear HO220
                      clear HB
                      clear HO_7
                      have HO_8 := n0_
                      have HO_199001 := n1_
                      have HO_199002 := n2_
                      have BK198 := n3_
                      have BK199 := n4_
                      have BK201 := n5_
                      have HO205 := n6_
                      have HO208 := n7_
                      have BK211 := n8_
                      have HO214 := n9_
                      have HO220 := n10_
                      have HB := n11_
                      have HO217 := n12_
                      clear n0_ n1_ n2_ n3_ n4_ n5_ n6_ n7_ n8_ n9_ n10_ n11_ n12_
                      clear ho hb hg hat
                      refine hK.out _ _ ⟨(blk_cell BK211.out 0).trans rfl, (blk_cell BK211.out 1).trans rfl, (blk_cell BK211.out 2).trans rfl⟩ (fun hHeld => ?_)
                      clear hK K
                      refine norm_ (a' := ?_) ?_ ?_
                      rotate_left
                      · show Act.put _ (some 31) _ = _
                        simp only [Act.put, List.setIfInBounds_toArray, List.set_cons_zero, List.set_cons_succ, i64_w, i32_w]
                        rfl
                      exact norm_ (by simp only [putAll, Act.put, List.setIfInBounds_toArray, List.set_cons_zero, List.set_cons_succ]) (hCont (.slice Ao38 y212.length co38, v216, v219) _ ⟨hHeld, (by (with_reducible repeat (first | apply Kd.V_alloc | apply Kd.V_drewN | apply Kd.V_drew)); exact Kd.V_mono HO205.out (fun _ hk => ⟨hk.1.1, ⟨hk.1.2.2.1, ⟨hk.2, ⟨hk.1.2.2.2.1, ⟨hk.1.2.1, ⟨hk.1.2.2.2.2.1, ⟨hk.1.2.2.2.2.2.1, ⟨hk.1.2.2.2.2.2.2.1, hk.1.2.2.2.2.2.2.2⟩⟩⟩⟩⟩⟩⟩⟩)), (by (with_reducible repeat (first | apply Kd.V_alloc | apply Kd.V_drewN | apply Kd.V_drew)); exact Kd.V_mono HO208.out (fun _ hk => ⟨hk.1.1, ⟨hk.1.2.2.1, ⟨hk.2, ⟨hk.1.2.2.2.1, ⟨hk.1.2.1, ⟨hk.1.2.2.2.2.1, ⟨hk.1.2.2.2.2.2.1, ⟨hk.1.2.2.2.2.2.2.1, hk.1.2.2.2.2.2.2.2⟩⟩⟩⟩⟩⟩⟩⟩)), (by (with_reducible repeat (first | apply Kd.R_alloc | apply Kd.R_drewN | apply Kd.R_drew)); exact HO214.out), (by (with_reducible repeat (first | apply Kd.R_alloc | apply Kd.R_drewN | apply Kd.R_drew)); exact HO217.out), (by (with_reducible repeat (first | apply Kd.R_alloc | apply Kd.R_drewN | apply Kd.R_drew)); exact Kd.R_mono HO220.out (fun _ hk => ⟨hk.1.1, hk.2⟩)), (by (with_reducible repeat (first | apply Kd.V_alloc | apply Kd.V_drewN | apply Kd.V_drew)); exact Kd.V_mono HO_199001.out (fun _ hk => ⟨hk.1.1, ⟨hk.1.2.2.1, ⟨hk.2, ⟨hk.1.2.2.2.1, ⟨hk.1.2.1, ⟨hk.1.2.2.2.2.1, ⟨hk.1.2.2.2.2.2.1, ⟨hk.1.2.2.2.2.2.2.1, hk.1.2.2.2.2.2.2.2⟩⟩⟩⟩⟩⟩⟩⟩)), (by (with_reducible repeat (first | apply Kd.V_alloc | apply Kd.V_drewN | apply Kd.V_drew)); exact Kd.V_mono HO_199002.out (fun _ hk => ⟨hk.1.1, ⟨hk.1.2.2.1, ⟨hk.2, ⟨hk.1.2.2.2.1, ⟨hk.1.2.1, ⟨hk.1.2.2.2.2.1, ⟨hk.1.2.2.2.2.2.1, ⟨hk.1.2.2.2.2.2.2.1, hk.1.2.2.2.2.2.2.2⟩⟩⟩⟩⟩⟩⟩⟩)), (by (with_reducible repeat (first | apply Kd.R_alloc | apply Kd.R_drewN | apply Kd.R_drew)); exact HO_8.out), (by (with_reducible repeat (first | refine blk_drewN ?_ _ | refine blk_drew ?_ | refine blk_alloc ?_ _)); exact BK198.out), (by (with_reducible repeat (first | refine blk_drewN ?_ _ | refine blk_drew ?_ | refine blk_alloc ?_ _)); exact BK199.out), (by (with_reducible repeat (first | refine blk_drewN ?_ _ | refine blk_drew ?_ | refine blk_alloc ?_ _)); exact BK201.out), (by (with_reducible repeat (first | refine blk_drewN ?_ _ | refine blk_drew ?_ | refine blk_alloc ?_ _)); exact BK211.out), (by repeat (first | (with_reducible first | exact HB.out | apply below_alloc | apply pw_below_drewN | apply below_drew1 | refine below_set ?_ GE198.out | refine below_set ?_ GE199.out | refine below_set ?_ GE201.out | refine below_set ?_ GE211.out) | exact HB.out))⟩)
                  · skip
                    refine Kd.R_lit_step Kd.bool _ 4 ?hg (N := 34) ?hd (xs := ([t210] : List Bool)) (inner := [.bool t210]) (ok := fun _ => True) (okp := fun _ => True) ?hr ?hp (fun _ hk => hk) trivial (Below.refl _ _) (Nat.le_refl _) (by simp) ?_; (case hd => rfl); (case hg => rfl); (case hr => first | (go_simp; done) | (go_simp; rfl)); (case hp => exact (Reps.one (show Kd.M Kd.bool _ _ _ t210 [.bool t210] from rfl) (Reps.none _ _)))
                    intro v219 w33 ho34 hb hg_ hnew_
                    clear hg_ hnew_
                    (first | rw [← Ny218.out] at ho34 | (simp only [Int.reduceToNat] at ho34; rw [← Ny218.out] at ho34))
                    have n0_ := Aside0.mk (Kd.R_below (by (with_reducible repeat (first | apply Kd.R_alloc | apply Kd.R_drewN | apply Kd.R_drew)); exact HO_7.out) hb)
                    have n1_ := Aside0.mk (Kd.R_elder' (by (with_reducible repeat (first | apply Kd.R_alloc | apply Kd.R_drewN | apply Kd.R_drew)); exact HO_8.out) (Kd.R_base ho34) hb)
                    have n2_ := Aside0.mk (Kd.V_elder' (by (with_reducible repeat (first | apply Kd.V_alloc | apply Kd.V_drewN | apply Kd.V_drew)); exact HO_199001.out) (Kd.R_base ho34) hb)
                    have n3_ := Aside0.mk (Kd.V_elder' (by (with_reducible repeat (first | apply Kd.V_alloc | apply Kd.V_drewN | apply Kd.V_drew)); exact HO_199002.out) (Kd.R_base ho34) hb)
                    have n4_ := Aside0.mk (Kd.V_elder' (by (with_reducible repeat (first | apply Kd.V_alloc | apply Kd.V_drewN | apply Kd.V_drew)); exact HO205.out) (Kd.R_base ho34) hb)
                    have n5_ := Aside0.mk (Kd.V_elder' (by (with_reducible repeat (first | apply Kd.V_alloc | apply Kd.V_drewN | apply Kd.V_drew)); exact HO208.out) (Kd.R_base ho34) hb)
                    have n6_ := Aside0.mk (Kd.R_lower (Kd.R_new' (Kd.R_newM (M := fun k_ => (w.heap.size ≤ k_)) ho34 (below_size (by repeat (first | (with_reducible first | exact HB.out | apply below_alloc | apply pw_below_drewN | apply below_drew1 | refine below_set ?_ GE198.out | refine below_set ?_ GE199.out | refine below_set ?_ GE201.out | refine below_set ?_ GE211.out) | exact HB.out))) (fun k_ h_ => h_)) (Kd.R_lt (by (with_reducible repeat (first | apply Kd.R_alloc | apply Kd.R_drewN | apply Kd.R_drew)); exact HO_8.out))) (below_size (by repeat (first | (with_reducible first | exact HB.out | apply below_alloc | apply pw_below_drewN | apply below_drew1 | refine below_set ?_ GE198.out | refine below_set ?_ GE199.out | refine below_set ?_ GE201.out | refine below_set ?_ GE211.out) | exact HB.out))))
                    have n7_ := Aside0.mk (blk_below (g := gb198) (o := .cells #[.int .i64 x199000_1, .slice Ao19 x199001_1.length co19, .slice Ao20 x199002_1.length co20] 24 (0, 0)) (by (with_reducible repeat (first | refine blk_drewN ?_ _ | refine blk_drew ?_ | refine blk_alloc ?_ _)); exact BK198.out) hb)
                    have n8_ := Aside0.mk (blk_below (g := gb199) (o := .cells #[.int .i64 0, .slice none 0 0, .slice none 0 0] 24 (0, 0)) (by (with_reducible repeat (first | refine blk_drewN ?_ _ | refine blk_drew ?_ | refine blk_alloc ?_ _)); exact BK199.out) hb)
                    have n9_ := Aside0.mk (blk_below (g := gb201) (o := .cells #[.int .i64 ((rd_T26 l1 x16_1).f0), .int .i64 ((rd_T26 l1 x16_1).f1), .int .i64 ((rd_T26 l1 x16_1).f2), .int .i64 ((rd_T26 l1 x16_1).f3)] 26 (0, 0)) (by (with_reducible repeat (first | refine blk_drewN ?_ _ | refine blk_drew ?_ | refine blk_alloc ?_ _)); exact BK201.out) hb)
                    have n10_ := Aside0.mk (blk_below (g := gb211) (o := .cells #[.int .i64 t202, .slice Ao27 t203.length co27, .slice Ao28 t206.length co28] 24 (0, 0)) (by (with_reducible repeat (first | refine blk_drewN ?_ _ | refine blk_drew ?_ | refine blk_alloc ?_ _)); exact BK211.out) hb)
                    have n11_ := Aside0.mk (below_step (by repeat (first | (with_reducible first | exact HB.out | apply below_alloc | apply pw_below_drewN | apply below_drew1 | refine below_set ?_ GE198.out | refine below_set ?_ GE199.out | refine below_set ?_ GE201.out | refine below_set ?_ GE211.out) | exact HB.out)) hb)
                    clear HO_7
                    clear HO_8
                    clear HO_199001
                    clear HO_199002
                    clear HO205
                    clear HO208
                    clear BK198
                    clear BK199
                    clear BK201
                    clear BK211
                    clear HB
                    have HO_7 := n0_
                    have HO_8 := n1_
                    have HO_199001 := n2_
                    have HO_199002 := n3_
                    have HO205 := n4_
                    have HO208 := n5_
                    have HO220 := n6_
                    have BK198 := n7_
                    have BK199 := n8_
                    have BK201 := n9_
                    have BK211 := n10_
                    have HB := n11_
                    clear n0_ n1_ n2_ n3_ n4_ n5_ n6_ n7_ n8_ n9_ n10_ n11_
                    clear hb ho34
                    refine hK.out _ _ ⟨(blk_cell BK211.out 0).trans rfl, (blk_cell BK211.out 1).trans rfl, (blk_cell BK211.out 2).trans rfl⟩ (fun hHeld => ?_)
                    clear hK K
                    refine norm_ (a' := ?_) ?_ ?_
                    rotate_left
                    · show Act.put _ (some 34) _ = _
                      simp only [Act.put, List.setIfInBounds_toArray, List.set_cons_zero, List.set_cons_succ, i64_w, i32_w]
                      rfl
                    refine one_ (i := 3) (N := some 30) #[true, true, true, true, false, true, true, true, false, false, false, false] rfl rfl (one_of HT_.out (by kernel_rfl)) (by decide) (fun K hK => ?_)
                    refine Kd.R_lit_step (Kd.int .i64) _ 3 ?hg (N := 30) ?hd (xs := ([t209] : List Int)) (inner := [.int .i64 t209]) (ok := fun _ => True) (okp := fun _ => True) ?hr ?hp (fun _ hk => hk) trivial (Below.refl _ _) (Nat.le_refl _) (by simp) ?_; (case hd => rfl); (case hg => rfl); (case hr => first | (go_simp; done) | (go_simp; rfl)); (case hp => exact (Reps.one (show Kd.M (Kd.int .i64) _ _ _ t209 [.int .i64 t209] from rfl) (Reps.none _ _)))
                    intro v213 w35 ho36 hb hg_ hnew_
                    clear hg_ hnew_
                    (first | rw [← Ny212.out] at ho36 | (simp only [Int.reduceToNat] at ho36; rw [← Ny212.out] at ho36))
                    have n0_ := Aside0.mk (Kd.R_elder' (by (with_reducible repeat (first | apply Kd.R_alloc | apply Kd.R_drewN | apply Kd.R_drew)); exact HO_7.out) (Kd.R_base ho36) hb)
                    have n1_ := Aside0.mk (Kd.R_below (by (with_reducible repeat (first | apply Kd.R_alloc | apply Kd.R_drewN | apply Kd.R_drew)); exact HO_8.out) hb)
                    have n2_ := Aside0.mk (Kd.V_elder' (by (with_reducible repeat (first | apply Kd.V_alloc | apply Kd.V_drewN | apply Kd.V_drew)); exact HO_199001.out) (Kd.R_base ho36) hb)
                    have n3_ := Aside0.mk (Kd.V_elder' (by (with_reducible repeat (first | apply Kd.V_alloc | apply Kd.V_drewN | apply Kd.V_drew)); exact HO_199002.out) (Kd.R_base ho36) hb)
                    have n4_ := Aside0.mk (Kd.V_elder' (by (with_reducible repeat (first | apply Kd.V_alloc | apply Kd.V_drewN | apply Kd.V_drew)); exact HO205.out) (Kd.R_base ho36) hb)
                    have n5_ := Aside0.mk (Kd.V_elder' (by (with_reducible repeat (first | apply Kd.V_alloc | apply Kd.V_drewN | apply Kd.V_drew)); exact HO208.out) (Kd.R_base ho36) hb)
                    have n6_ := Aside0.mk (Kd.R_below (by (with_reducible repeat (first | apply Kd.R_alloc | apply Kd.R_drewN | apply Kd.R_drew)); exact HO220.out) hb)
                    have n7_ := Aside0.mk (Kd.R_lower (Kd.R_new' (Kd.R_newM (M := fun k_ => (w.heap.size ≤ k_)) ho36 (below_size (by repeat (first | (with_reducible first | exact HB.out | apply below_alloc | apply pw_below_drewN | apply below_drew1 | refine below_set ?_ GE198.out | refine below_set ?_ GE199.out | refine below_set ?_ GE201.out | refine below_set ?_ GE211.out) | exact HB.out))) (fun k_ h_ => h_)) (Kd.R_lt (by (with_reducible repeat (first | apply Kd.R_alloc | apply Kd.R_drewN | apply Kd.R_drew)); exact HO_7.out))) (below_size (by repeat (first | (with_reducible first | exact HB.out | apply below_alloc | apply pw_below_drewN | apply below_drew1 | refine below_set ?_ GE198.out | refine below_set ?_ GE199.out | refine below_set ?_ GE201.out | refine below_set ?_ GE211.out) | exact HB.out))))
                    have n8_ := Aside0.mk (blk_below (g := gb198) (o := .cells #[.int .i64 x199000_1, .slice Ao19 x199001_1.length co19, .slice Ao20 x199002_1.length co20] 24 (0, 0)) (by (with_reducible repeat (first | refine blk_drewN ?_ _ | refine blk_drew ?_ | refine blk_alloc ?_ _)); exact BK198.out) hb)
                    have n9_ := Aside0.mk (blk_below (g := gb199) (o := .cells #[.int .i64 0, .slice none 0 0, .slice none 0 0] 24 (0, 0)) (by (with_reducible repeat (first | refine blk_drewN ?_ _ | refine blk_drew ?_ | refine blk_alloc ?_ _)); exact BK199.out) hb)
                    have n10_ := Aside0.mk (blk_below (g := gb201) (o := .cells #[.int .i64 ((rd_T26 l1 x16_1).f0), .int .i64 ((rd_T26 l1 x16_1).f1), .int .i64 ((rd_T26 l1 x16_1).f2), .int .i64 ((rd_T26 l1 x16_1).f3)] 26 (0, 0)) (by (with_reducible repeat (first | refine blk_drewN ?_ _ | refine blk_drew ?_ | refine blk_alloc ?_ _)); exact BK201.out) hb)
                    have n11_ := Aside0.mk (blk_below (g := gb211) (o := .cells #[.int .i64 t202, .slice Ao27 t203.length co27, .slice Ao28 t206.length co28] 24 (0, 0)) (by (with_reducible repeat (first | refine blk_drewN ?_ _ | refine blk_drew ?_ | refine blk_alloc ?_ _)); exact BK211.out) hb)
                    have n12_ := Aside0.mk (below_step (by repeat (first | (with_reducible first | exact HB.out | apply below_alloc | apply pw_below_drewN | apply below_drew1 | refine below_set ?_ GE198.out | refine below_set ?_ GE199.out | refine below_set ?_ GE201.out | refine below_set ?_ GE211.out) | exact HB.out)) hb)
                    clear HO_7
                    clear HO_8
                    clear HO_199001
                    clear HO_199002
                    clear HO205
                    clear HO208
                    clear HO220
                    clear BK198
                    clear BK199
                    clear BK201
                    clear BK211
                    clear HB
                    have HO_7 := n0_
                    have HO_8 := n1_
                    have HO_199001 := n2_
                    have HO_199002 := n3_
                    have HO205 := n4_
                    have HO208 := n5_
                    have HO220 := n6_
                    have HO214 := n7_
                    have BK198 := n8_
                    have BK199 := n9_
                    have BK201 := n10_
                    have BK211 := n11_
                    have HB := n12_
                    clear n0_ n1_ n2_ n3_ n4_ n5_ n6_ n7_ n8_ n9_ n10_ n11_ n12_
                    clear hb ho36
                    obtain ⟨Ao38, co38, eo38⟩ := Kd.R_slice HO214.out
                    (first | subst eo38 | (injection eo38 with f1_ f2_ f3_; have f4_ := f1_.symm; have f5_ := f3_.symm; clear f1_ f2_ f3_; subst f4_; subst f5_))
                    refine hK.out _ _ ⟨(blk_cell BK211.out 0).trans rfl, (blk_cell BK211.out 1).trans rfl, (blk_cell BK211.out 2).trans rfl⟩ (fun hHeld => ?_)
                    clear hK K
                    refine norm_ (a' := ?_) ?_ ?_
                    rotate_left
                    · show Act.put _ (some 30) _ = _
                      simp only [Act.put, List.setIfInBounds_toArray, List.set_cons_zero, List.set_cons_succ, i64_w, i32_w]
                      rfl
                    refine one_ (i := 4) (N := some 31) #[true, true, true, true, true, true, true, true, false, false, false, false] rfl rfl (one_of HT_.out (by kernel_rfl)) (by decide) (fun K hK => ?_)
                    refine Kd.R_append_rows_step (Kd.int .i64) (w0 := w) w.heap.size (by rfl) (.tmp 28) (.tmp 30) 22 3 (.int .i64 0) 8 rfl Try.underlying22 info3 rfl (by decide) (by omega) (.slice Ao29 x7_1.length co29) x7_1 y212 _ _ _ (fun k_ => (w.heap.size ≤ k_) ∧ some k_ ≠ (.slice Ao38 y212.length co38 : Value).ownBlock) (fun _ => False) rfl rfl ?aO ?aR (fun _ _ h => h) (fun _ h => h.elim) ?aF ?aB ?aS ?aL ?_
                    (case aR => repeat (first | exact (Kd.R_reads' HO214.out).2.2 | (with_reducible refine Kd.C_alloc ?_ _) | (with_reducible refine Kd.C_drewN ?_ _) | (with_reducible refine Kd.C_drew ?_)))
                    (case aB => exact (by repeat (first | (with_reducible first | exact HB.out | apply below_alloc | apply pw_below_drewN | apply below_drew1 | refine below_set ?_ GE198.out | refine below_set ?_ GE199.out | refine below_set ?_ GE201.out | refine below_set ?_ GE211.out) | exact HB.out)))
                    (case aF => exact (fun k_ hk => ⟨(Nat.le_trans (below_size (by repeat (first | (with_reducible first | exact HB.out | apply below_alloc | apply pw_below_drewN | apply below_drew1 | refine below_set ?_ GE198.out | refine below_set ?_ GE199.out | refine below_set ?_ GE201.out | refine below_set ?_ GE211.out) | exact HB.out))) hk), Kd.fresh' (Kd.R_lt (by (with_reducible repeat (first | apply Kd.R_alloc | apply Kd.R_drewN | apply Kd.R_drew)); exact HO214.out)) k_ hk⟩))
                    (case aO => exact (by (with_reducible repeat (first | apply Kd.R_alloc | apply Kd.R_drewN | apply Kd.R_drew)); exact HO_7.out))
                    (case aS => exact (below_size (by repeat (first | (with_reducible first | exact HB.out | apply below_alloc | apply pw_below_drewN | apply below_drew1 | refine below_set ?_ GE198.out | refine below_set ?_ GE199.out | refine below_set ?_ GE201.out | refine below_set ?_ GE211.out) | exact HB.out))))
                    (case aL => have := LMc9.out; omega)
                    intro v216 w37 ho hb hg hat
                    rw [← Ny215.out] at ho
                    have n0_ := Aside0.mk (Kd.R_over' (by (with_reducible repeat (first | apply Kd.R_alloc | apply Kd.R_drewN | apply Kd.R_drew)); exact HO_8.out) (Kd.R_typed (by (with_reducible repeat (first | apply Kd.R_alloc | apply Kd.R_drewN | apply Kd.R_drew)); exact HO_7.out)) (by decide) hg)
                    have n1_ := Aside0.mk (Kd.V_afterv (ok := (fun k_ => ((P0_1_ k_ ∨ P0_2_ k_) ∨ w.heap.size ≤ k_) ∧ some k_ ≠ (.slice Ao30 x8_1.length co30 : Value).ownBlock ∧ some k_ ≠ (v219 : Value).ownBlock ∧ some k_ ≠ (.slice Ao38 y212.length co38 : Value).ownBlock ∧ k_ ≠ gb198 ∧ k_ ≠ gb199 ∧ k_ ≠ gb201 ∧ k_ ≠ gb211)) (by (with_reducible repeat (first | apply Kd.V_alloc | apply Kd.V_drewN | apply Kd.V_drew)); exact Kd.V_mono HO_199001.out (fun _ hk => ⟨⟨hk.1.1.1, ⟨hk.1.1.2.2.1, ⟨hk.1.2, ⟨hk.2, ⟨hk.1.1.2.2.2.1, ⟨hk.1.1.2.2.2.2.1, ⟨hk.1.1.2.2.2.2.2.1, hk.1.1.2.2.2.2.2.2⟩⟩⟩⟩⟩⟩⟩, hk.1.1.2.1⟩)) hg hat)
                    have n2_ := Aside0.mk (Kd.V_afterv (ok := (fun k_ => ((P0_1_ k_ ∨ P0_2_ k_) ∨ w.heap.size ≤ k_) ∧ some k_ ≠ (.slice Ao30 x8_1.length co30 : Value).ownBlock ∧ some k_ ≠ (v219 : Value).ownBlock ∧ some k_ ≠ (.slice Ao38 y212.length co38 : Value).ownBlock ∧ k_ ≠ gb198 ∧ k_ ≠ gb199 ∧ k_ ≠ gb201 ∧ k_ ≠ gb211)) (by (with_reducible repeat (first | apply Kd.V_alloc | apply Kd.V_drewN | apply Kd.V_drew)); exact Kd.V_mono HO_199002.out (fun _ hk => ⟨⟨hk.1.1.1, ⟨hk.1.1.2.2.1, ⟨hk.1.2, ⟨hk.2, ⟨hk.1.1.2.2.2.1, ⟨hk.1.1.2.2.2.2.1, ⟨hk.1.1.2.2.2.2.2.1, hk.1.1.2.2.2.2.2.2⟩⟩⟩⟩⟩⟩⟩, hk.1.1.2.1⟩)) hg hat)
                    have n3_ := Aside0.mk (blk_grown (g := gb198) (o := .cells #[.int .i64 x199000_1, .slice Ao19 x199001_1.length co19, .slice Ao20 x199002_1.length co20] 24 (0, 0)) (by (with_reducible repeat (first | refine blk_drewN ?_ _ | refine blk_drew ?_ | refine blk_alloc ?_ _)); exact BK198.out) hg (Kd.R_ne HO_7.out BK198.out (by decide)))
                    have n4_ := Aside0.mk (blk_grown (g := gb199) (o := .cells #[.int .i64 0, .slice none 0 0, .slice none 0 0] 24 (0, 0)) (by (with_reducible repeat (first | refine blk_drewN ?_ _ | refine blk_drew ?_ | refine blk_alloc ?_ _)); exact BK199.out) hg (Kd.R_ne HO_7.out BK199.out (by decide)))
                    have n5_ := Aside0.mk (blk_grown (g := gb201) (o := .cells #[.int .i64 ((rd_T26 l1 x16_1).f0), .int .i64 ((rd_T26 l1 x16_1).f1), .int .i64 ((rd_T26 l1 x16_1).f2), .int .i64 ((rd_T26 l1 x16_1).f3)] 26 (0, 0)) (by (with_reducible repeat (first | refine blk_drewN ?_ _ | refine blk_drew ?_ | refine blk_alloc ?_ _)); exact BK201.out) hg (Kd.R_ne HO_7.out BK201.out (by decide)))
                    have n6_ := Aside0.mk (Kd.V_afterv (ok := (fun k_ => ((P0_1_ k_ ∨ P0_2_ k_) ∨ w.heap.size ≤ k_) ∧ some k_ ≠ (.slice Ao30 x8_1.length co30 : Value).ownBlock ∧ some k_ ≠ (v219 : Value).ownBlock ∧ some k_ ≠ (.slice Ao38 y212.length co38 : Value).ownBlock ∧ k_ ≠ gb198 ∧ k_ ≠ gb199 ∧ k_ ≠ gb201 ∧ k_ ≠ gb211)) (by (with_reducible repeat (first | apply Kd.V_alloc | apply Kd.V_drewN | apply Kd.V_drew)); exact Kd.V_mono HO205.out (fun _ hk => ⟨⟨hk.1.1.1, ⟨hk.1.1.2.2.1, ⟨hk.1.2, ⟨hk.2, ⟨hk.1.1.2.2.2.1, ⟨hk.1.1.2.2.2.2.1, ⟨hk.1.1.2.2.2.2.2.1, hk.1.1.2.2.2.2.2.2⟩⟩⟩⟩⟩⟩⟩, hk.1.1.2.1⟩)) hg hat)
                    have n7_ := Aside0.mk (Kd.V_afterv (ok := (fun k_ => ((P0_1_ k_ ∨ P0_2_ k_) ∨ w.heap.size ≤ k_) ∧ some k_ ≠ (.slice Ao30 x8_1.length co30 : Value).ownBlock ∧ some k_ ≠ (v219 : Value).ownBlock ∧ some k_ ≠ (.slice Ao38 y212.length co38 : Value).ownBlock ∧ k_ ≠ gb198 ∧ k_ ≠ gb199 ∧ k_ ≠ gb201 ∧ k_ ≠ gb211)) (by (with_reducible repeat (first | apply Kd.V_alloc | apply Kd.V_drewN | apply Kd.V_drew)); exact Kd.V_mono HO208.out (fun _ hk => ⟨⟨hk.1.1.1, ⟨hk.1.1.2.2.1, ⟨hk.1.2, ⟨hk.2, ⟨hk.1.1.2.2.2.1, ⟨hk.1.1.2.2.2.2.1, ⟨hk.1.1.2.2.2.2.2.1, hk.1.1.2.2.2.2.2.2⟩⟩⟩⟩⟩⟩⟩, hk.1.1.2.1⟩)) hg hat)
                    have n8_ := Aside0.mk (blk_grown (g := gb211) (o := .cells #[.int .i64 t202, .slice Ao27 t203.length co27, .slice Ao28 t206.length co28] 24 (0, 0)) (by (with_reducible repeat (first | refine blk_drewN ?_ _ | refine blk_drew ?_ | refine blk_alloc ?_ _)); exact BK211.out) hg (Kd.R_ne HO_7.out BK211.out (by decide)))
                    have n9_ := Aside0.mk (Kd.R_over' (by (with_reducible repeat (first | apply Kd.R_alloc | apply Kd.R_drewN | apply Kd.R_drew)); exact HO220.out) (Kd.R_typed (by (with_reducible repeat (first | apply Kd.R_alloc | apply Kd.R_drewN | apply Kd.R_drew)); exact HO_7.out)) (by decide) hg)
                    have n10_ := Aside0.mk (Kd.R_after (ok := (fun k_ => (w.heap.size ≤ k_))) (by (with_reducible repeat (first | apply Kd.R_alloc | apply Kd.R_drewN | apply Kd.R_drew)); exact Kd.R_mono HO214.out (fun _ hk => ⟨hk.1.1, hk.2⟩)) hg hat)
                    have n11_ := Aside0.mk (hb)
                    have n12_ := Aside0.mk (ho)
                    clear HO_8
                    clear HO_199001
                    clear HO_199002
                    clear BK198
                    clear BK199
                    clear BK201
                    clear HO205
                    clear HO208
                    clear BK211
                    clear HO220
                    clear HO214
                    clear HB
                    clear HO_7
                    have HO_8 := n0_
                    have HO_199001 := n1_
                    have HO_199002 := n2_
                    have BK198 := n3_
                    have BK199 := n4_
                    have BK201 := n5_
                    have HO205 := n6_
                    have HO208 := n7_
                    have BK211 := n8_
                    have HO220 := n9_
                    have HO214 := n10_
                    have HB := n11_
                    have HO217 := n12_
                    clear n0_ n1_ n2_ n3_ n4_ n5_ n6_ n7_ n8_ n9_ n10_ n11_ n12_
                    clear ho hb hg hat
                    refine hK.out _ _ ⟨(blk_cell BK211.out 0).trans rfl, (blk_cell BK211.out 1).trans rfl, (blk_cell BK211.out 2).trans rfl⟩ (fun hHeld => ?_)
                    clear hK K
                    refine norm_ (a' := ?_) ?_ ?_
                    rotate_left
                    · show Act.put _ (some 31) _ = _
                      simp only [Act.put, List.setIfInBounds_toArray, List.set_cons_zero, List.set_cons_succ, i64_w, i32_w]
                      rfl
                    exact norm_ (by simp only [putAll, Act.put, List.setIfInBounds_toArray, List.set_cons_zero, List.set_cons_succ]) (hCont (.slice Ao38 y212.length co38, v216, v219) _ ⟨hHeld, (by (with_reducible repeat (first | apply Kd.V_alloc | apply Kd.V_drewN | apply Kd.V_drew)); exact Kd.V_mono HO205.out (fun _ hk => ⟨hk.1.1, ⟨hk.1.2.2.2.1, ⟨hk.2, ⟨hk.1.2.2.1, ⟨hk.1.2.1, ⟨hk.1.2.2.2.2.1, ⟨hk.1.2.2.2.2.2.1, ⟨hk.1.2.2.2.2.2.2.1, hk.1.2.2.2.2.2.2.2⟩⟩⟩⟩⟩⟩⟩⟩)), (by (with_reducible repeat (first | apply Kd.V_alloc | apply Kd.V_drewN | apply Kd.V_drew)); exact Kd.V_mono HO208.out (fun _ hk => ⟨hk.1.1, ⟨hk.1.2.2.2.1, ⟨hk.2, ⟨hk.1.2.2.1, ⟨hk.1.2.1, ⟨hk.1.2.2.2.2.1, ⟨hk.1.2.2.2.2.2.1, ⟨hk.1.2.2.2.2.2.2.1, hk.1.2.2.2.2.2.2.2⟩⟩⟩⟩⟩⟩⟩⟩)), (by (with_reducible repeat (first | apply Kd.R_alloc | apply Kd.R_drewN | apply Kd.R_drew)); exact HO214.out), (by (with_reducible repeat (first | apply Kd.R_alloc | apply Kd.R_drewN | apply Kd.R_drew)); exact HO217.out), (by (with_reducible repeat (first | apply Kd.R_alloc | apply Kd.R_drewN | apply Kd.R_drew)); exact Kd.R_mono HO220.out (fun _ hk => ⟨hk.1.1, hk.2⟩)), (by (with_reducible repeat (first | apply Kd.V_alloc | apply Kd.V_drewN | apply Kd.V_drew)); exact Kd.V_mono HO_199001.out (fun _ hk => ⟨hk.1.1, ⟨hk.1.2.2.2.1, ⟨hk.2, ⟨hk.1.2.2.1, ⟨hk.1.2.1, ⟨hk.1.2.2.2.2.1, ⟨hk.1.2.2.2.2.2.1, ⟨hk.1.2.2.2.2.2.2.1, hk.1.2.2.2.2.2.2.2⟩⟩⟩⟩⟩⟩⟩⟩)), (by (with_reducible repeat (first | apply Kd.V_alloc | apply Kd.V_drewN | apply Kd.V_drew)); exact Kd.V_mono HO_199002.out (fun _ hk => ⟨hk.1.1, ⟨hk.1.2.2.2.1, ⟨hk.2, ⟨hk.1.2.2.1, ⟨hk.1.2.1, ⟨hk.1.2.2.2.2.1, ⟨hk.1.2.2.2.2.2.1, ⟨hk.1.2.2.2.2.2.2.1, hk.1.2.2.2.2.2.2.2⟩⟩⟩⟩⟩⟩⟩⟩)), (by (with_reducible repeat (first | apply Kd.R_alloc | apply Kd.R_drewN | apply Kd.R_drew)); exact HO_8.out), (by (with_reducible repeat (first | refine blk_drewN ?_ _ | refine blk_drew ?_ | refine blk_alloc ?_ _)); exact BK198.out), (by (with_reducible repeat (first | refine blk_drewN ?_ _ | refine blk_drew ?_ | refine blk_alloc ?_ _)); exact BK199.out), (by (with_reducible repeat (first | refine blk_drewN ?_ _ | refine blk_drew ?_ | refine blk_alloc ?_ _)); exact BK201.out), (by (with_reducible repeat (first | refine blk_drewN ?_ _ | refine blk_drew ?_ | refine blk_alloc ?_ _)); exact BK211.out), (by repeat (first | (with_reducible first | exact HB.out | apply below_alloc | apply pw_below_drewN | apply below_drew1 | refine below_set ?_ GE198.out | refine below_set ?_ GE199.out | refine below_set ?_ GE201.out | refine below_set ?_ GE211.out) | exact HB.out))⟩)
                rintro ⟨v213, v216, v219⟩ w39 ⟨hS_, h0_, h1_, h2_, h3_, h4_, h5_, h6_, h7_, h8_, h9_, h10_, h11_, h12_⟩
                have n0_ : Aside0 (Kd.V (Kd.int .i64) 3 w39 w.heap.size (fun k_ => ((P0_1_ k_ ∨ P0_2_ k_) ∨ w.heap.size ≤ k_) ∧ some k_ ≠ (v213 : Value).ownBlock ∧ some k_ ≠ (v216 : Value).ownBlock ∧ some k_ ≠ (v219 : Value).ownBlock ∧ some k_ ≠ (.slice Ao30 x8_1.length co30 : Value).ownBlock ∧ k_ ≠ gb198 ∧ k_ ≠ gb199 ∧ k_ ≠ gb201 ∧ k_ ≠ gb211) (.slice Ao27 t203.length co27) t203) := ⟨h0_⟩
                have n1_ : Aside0 (Kd.V (Kd.int .i64) 3 w39 w.heap.size (fun k_ => ((P0_1_ k_ ∨ P0_2_ k_) ∨ w.heap.size ≤ k_) ∧ some k_ ≠ (v213 : Value).ownBlock ∧ some k_ ≠ (v216 : Value).ownBlock ∧ some k_ ≠ (v219 : Value).ownBlock ∧ some k_ ≠ (.slice Ao30 x8_1.length co30 : Value).ownBlock ∧ k_ ≠ gb198 ∧ k_ ≠ gb199 ∧ k_ ≠ gb201 ∧ k_ ≠ gb211) (.slice Ao28 t206.length co28) t206) := ⟨h1_⟩
                have n2_ : Aside0 (Kd.R (Kd.int .i64) 3 w39 w.heap.size (fun k_ => (w.heap.size ≤ k_) ∧ some k_ ≠ (v216 : Value).ownBlock) v213 y212) := ⟨h2_⟩
                have n3_ : Aside0 (Kd.R (Kd.int .i64) 3 w39 w.heap.size (fun k_ => (w.heap.size ≤ k_) ∧ some k_ ≠ (v213 : Value).ownBlock) v216 y215) := ⟨h3_⟩
                have n4_ : Aside0 (Kd.R Kd.bool 4 w39 w.heap.size (fun k_ => (w.heap.size ≤ k_) ∧ some k_ ≠ (.slice Ao30 x8_1.length co30 : Value).ownBlock) v219 y218) := ⟨h4_⟩
                have n5_ : Aside0 (Kd.V (Kd.int .i64) 3 w39 w.heap.size (fun k_ => ((P0_1_ k_ ∨ P0_2_ k_) ∨ w.heap.size ≤ k_) ∧ some k_ ≠ (v213 : Value).ownBlock ∧ some k_ ≠ (v216 : Value).ownBlock ∧ some k_ ≠ (v219 : Value).ownBlock ∧ some k_ ≠ (.slice Ao30 x8_1.length co30 : Value).ownBlock ∧ k_ ≠ gb198 ∧ k_ ≠ gb199 ∧ k_ ≠ gb201 ∧ k_ ≠ gb211) (.slice Ao19 x199001_1.length co19) x199001_1) := ⟨h5_⟩
                have n6_ : Aside0 (Kd.V (Kd.int .i64) 3 w39 w.heap.size (fun k_ => ((P0_1_ k_ ∨ P0_2_ k_) ∨ w.heap.size ≤ k_) ∧ some k_ ≠ (v213 : Value).ownBlock ∧ some k_ ≠ (v216 : Value).ownBlock ∧ some k_ ≠ (v219 : Value).ownBlock ∧ some k_ ≠ (.slice Ao30 x8_1.length co30 : Value).ownBlock ∧ k_ ≠ gb198 ∧ k_ ≠ gb199 ∧ k_ ≠ gb201 ∧ k_ ≠ gb211) (.slice Ao20 x199002_1.length co20) x199002_1) := ⟨h6_⟩
                have n7_ : Aside0 (Kd.R Kd.bool 4 w39 w.heap.size (fun k_ => (w.heap.size ≤ k_) ∧ some k_ ≠ (v219 : Value).ownBlock) (.slice Ao30 x8_1.length co30) x8_1) := ⟨h7_⟩
                have n8_ : Aside0 (w39.heap[gb198]? = some (.cells #[.int .i64 x199000_1, .slice Ao19 x199001_1.length co19, .slice Ao20 x199002_1.length co20] 24 (0, 0))) := ⟨h8_⟩
                have n9_ : Aside0 (w39.heap[gb199]? = some (.cells #[.int .i64 0, .slice none 0 0, .slice none 0 0] 24 (0, 0))) := ⟨h9_⟩
                have n10_ : Aside0 (w39.heap[gb201]? = some (.cells #[.int .i64 ((rd_T26 l1 x16_1).f0), .int .i64 ((rd_T26 l1 x16_1).f1), .int .i64 ((rd_T26 l1 x16_1).f2), .int .i64 ((rd_T26 l1 x16_1).f3)] 26 (0, 0))) := ⟨h10_⟩
                have n11_ : Aside0 (w39.heap[gb211]? = some (.cells #[.int .i64 t202, .slice Ao27 t203.length co27, .slice Ao28 t206.length co28] 24 (0, 0))) := ⟨h11_⟩
                have n12_ : Aside0 (Below w.heap.size w w39) := ⟨h12_⟩
                clear HO_7
                clear HO_8
                clear HO_199001
                clear HO_199002
                clear HO205
                clear HO208
                clear BK198
                clear BK199
                clear BK201
                clear BK211
                clear HB
                clear h0_ h1_ h2_ h3_ h4_ h5_ h6_ h7_ h8_ h9_ h10_ h11_ h12_
                have HO205 := n0_
                have HO208 := n1_
                have HO214 := n2_
                have HO217 := n3_
                have HO220 := n4_
                have HO_199001 := n5_
                have HO_199002 := n6_
                have HO_8 := n7_
                have BK198 := n8_
                have BK199 := n9_
                have BK201 := n10_
                have BK211 := n11_
                have HB := n12_
                clear n0_ n1_ n2_ n3_ n4_ n5_ n6_ n7_ n8_ n9_ n10_ n11_ n12_
                have hHeld : w39.cell? ⟨gb211, 0, none⟩ = some (.int .i64 t202) ∧ w39.cell? ⟨gb211, 1, none⟩ = some (.slice Ao27 t203.length co27) ∧ w39.cell? ⟨gb211, 2, none⟩ = some (.slice Ao28 t206.length co28) := hS_
                obtain ⟨Ao41, co41, eo41⟩ := Kd.R_slice HO220.out
                (first | subst eo41 | (injection eo41 with f1_ f2_ f3_; have f4_ := f1_.symm; have f5_ := f3_.symm; clear f1_ f2_ f3_; subst f4_; subst f5_))
                refine norm_ (a' := ?_) ?_ ?_
                rotate_left
                · simp only [putAll, Act.put, List.setIfInBounds_toArray, List.set_cons_zero, List.set_cons_succ]
                  rfl
                refine one_ (i := 8) (N := some 35) #[true, true, true, true, true, true, true, true, true, false, false, false] rfl rfl (one_of HT_.out (by kernel_rfl)) (by decide) (fun K hK => ?_)
                refine Kd.R_append_rows_step Kd.bool (w0 := w) w.heap.size (by rfl) (.tmp 32) (.tmp 34) 34 4 (.bool false) 1 rfl Try.underlying34 info4 rfl (by decide) (by omega) (.slice Ao30 x8_1.length co30) x8_1 y218 _ _ _ (fun k_ => (w.heap.size ≤ k_) ∧ some k_ ≠ (.slice Ao41 y218.length co41 : Value).ownBlock) (fun _ => False) rfl rfl ?aO ?aR (fun _ _ h => h) (fun _ h => h.elim) ?aF ?aB ?aS ?aL ?_
                (case aR => repeat (first | exact (Kd.R_reads' HO220.out).2.2 | (with_reducible refine Kd.C_alloc ?_ _) | (with_reducible refine Kd.C_drewN ?_ _) | (with_reducible refine Kd.C_drew ?_)))
                (case aB => exact (by repeat (first | (with_reducible first | exact HB.out | apply below_alloc | apply pw_below_drewN | apply below_drew1 | refine below_set ?_ GE198.out | refine below_set ?_ GE199.out | refine below_set ?_ GE201.out | refine below_set ?_ GE211.out) | exact HB.out)))
                (case aF => exact (fun k_ hk => ⟨(Nat.le_trans (below_size (by repeat (first | (with_reducible first | exact HB.out | apply below_alloc | apply pw_below_drewN | apply below_drew1 | refine below_set ?_ GE198.out | refine below_set ?_ GE199.out | refine below_set ?_ GE201.out | refine below_set ?_ GE211.out) | exact HB.out))) hk), Kd.fresh' (Kd.R_lt (by (with_reducible repeat (first | apply Kd.R_alloc | apply Kd.R_drewN | apply Kd.R_drew)); exact HO220.out)) k_ hk⟩))
                (case aO => exact (by (with_reducible repeat (first | apply Kd.R_alloc | apply Kd.R_drewN | apply Kd.R_drew)); exact HO_8.out))
                (case aS => exact (below_size (by repeat (first | (with_reducible first | exact HB.out | apply below_alloc | apply pw_below_drewN | apply below_drew1 | refine below_set ?_ GE198.out | refine below_set ?_ GE199.out | refine below_set ?_ GE201.out | refine below_set ?_ GE211.out) | exact HB.out))))
                (case aL => have := LMc10.out; omega)
                intro v222 w40 ho hb hg hat
                rw [← Ny221.out] at ho
                have n0_ := Aside0.mk (Kd.V_afterv (ok := (fun k_ => ((P0_1_ k_ ∨ P0_2_ k_) ∨ w.heap.size ≤ k_) ∧ some k_ ≠ (v213 : Value).ownBlock ∧ some k_ ≠ (v216 : Value).ownBlock ∧ some k_ ≠ (.slice Ao41 y218.length co41 : Value).ownBlock ∧ k_ ≠ gb198 ∧ k_ ≠ gb199 ∧ k_ ≠ gb201 ∧ k_ ≠ gb211)) (by (with_reducible repeat (first | apply Kd.V_alloc | apply Kd.V_drewN | apply Kd.V_drew)); exact Kd.V_mono HO_199001.out (fun _ hk => ⟨⟨hk.1, ⟨hk.2.1, ⟨hk.2.2.1, ⟨hk.2.2.2.1, ⟨hk.2.2.2.2.2.1, ⟨hk.2.2.2.2.2.2.1, ⟨hk.2.2.2.2.2.2.2.1, hk.2.2.2.2.2.2.2.2⟩⟩⟩⟩⟩⟩⟩, hk.2.2.2.2.1⟩)) hg hat)
                have n1_ := Aside0.mk (Kd.V_afterv (ok := (fun k_ => ((P0_1_ k_ ∨ P0_2_ k_) ∨ w.heap.size ≤ k_) ∧ some k_ ≠ (v213 : Value).ownBlock ∧ some k_ ≠ (v216 : Value).ownBlock ∧ some k_ ≠ (.slice Ao41 y218.length co41 : Value).ownBlock ∧ k_ ≠ gb198 ∧ k_ ≠ gb199 ∧ k_ ≠ gb201 ∧ k_ ≠ gb211)) (by (with_reducible repeat (first | apply Kd.V_alloc | apply Kd.V_drewN | apply Kd.V_drew)); exact Kd.V_mono HO_199002.out (fun _ hk => ⟨⟨hk.1, ⟨hk.2.1, ⟨hk.2.2.1, ⟨hk.2.2.2.1, ⟨hk.2.2.2.2.2.1, ⟨hk.2.2.2.2.2.2.1, ⟨hk.2.2.2.2.2.2.2.1, hk.2.2.2.2.2.2.2.2⟩⟩⟩⟩⟩⟩⟩, hk.2.2.2.2.1⟩)) hg hat)
                have n2_ := Aside0.mk (blk_grown (g := gb198) (o := .cells #[.int .i64 x199000_1, .slice Ao19 x199001_1.length co19, .slice Ao20 x199002_1.length co20] 24 (0, 0)) (by (with_reducible repeat (first | refine blk_drewN ?_ _ | refine blk_drew ?_ | refine blk_alloc ?_ _)); exact BK198.out) hg (Kd.R_ne HO_8.out BK198.out (by decide)))
                have n3_ := Aside0.mk (blk_grown (g := gb199) (o := .cells #[.int .i64 0, .slice none 0 0, .slice none 0 0] 24 (0, 0)) (by (with_reducible repeat (first | refine blk_drewN ?_ _ | refine blk_drew ?_ | refine blk_alloc ?_ _)); exact BK199.out) hg (Kd.R_ne HO_8.out BK199.out (by decide)))
                have n4_ := Aside0.mk (blk_grown (g := gb201) (o := .cells #[.int .i64 ((rd_T26 l1 x16_1).f0), .int .i64 ((rd_T26 l1 x16_1).f1), .int .i64 ((rd_T26 l1 x16_1).f2), .int .i64 ((rd_T26 l1 x16_1).f3)] 26 (0, 0)) (by (with_reducible repeat (first | refine blk_drewN ?_ _ | refine blk_drew ?_ | refine blk_alloc ?_ _)); exact BK201.out) hg (Kd.R_ne HO_8.out BK201.out (by decide)))
                have n5_ := Aside0.mk (Kd.V_afterv (ok := (fun k_ => ((P0_1_ k_ ∨ P0_2_ k_) ∨ w.heap.size ≤ k_) ∧ some k_ ≠ (v213 : Value).ownBlock ∧ some k_ ≠ (v216 : Value).ownBlock ∧ some k_ ≠ (.slice Ao41 y218.length co41 : Value).ownBlock ∧ k_ ≠ gb198 ∧ k_ ≠ gb199 ∧ k_ ≠ gb201 ∧ k_ ≠ gb211)) (by (with_reducible repeat (first | apply Kd.V_alloc | apply Kd.V_drewN | apply Kd.V_drew)); exact Kd.V_mono HO205.out (fun _ hk => ⟨⟨hk.1, ⟨hk.2.1, ⟨hk.2.2.1, ⟨hk.2.2.2.1, ⟨hk.2.2.2.2.2.1, ⟨hk.2.2.2.2.2.2.1, ⟨hk.2.2.2.2.2.2.2.1, hk.2.2.2.2.2.2.2.2⟩⟩⟩⟩⟩⟩⟩, hk.2.2.2.2.1⟩)) hg hat)
                have n6_ := Aside0.mk (Kd.V_afterv (ok := (fun k_ => ((P0_1_ k_ ∨ P0_2_ k_) ∨ w.heap.size ≤ k_) ∧ some k_ ≠ (v213 : Value).ownBlock ∧ some k_ ≠ (v216 : Value).ownBlock ∧ some k_ ≠ (.slice Ao41 y218.length co41 : Value).ownBlock ∧ k_ ≠ gb198 ∧ k_ ≠ gb199 ∧ k_ ≠ gb201 ∧ k_ ≠ gb211)) (by (with_reducible repeat (first | apply Kd.V_alloc | apply Kd.V_drewN | apply Kd.V_drew)); exact Kd.V_mono HO208.out (fun _ hk => ⟨⟨hk.1, ⟨hk.2.1, ⟨hk.2.2.1, ⟨hk.2.2.2.1, ⟨hk.2.2.2.2.2.1, ⟨hk.2.2.2.2.2.2.1, ⟨hk.2.2.2.2.2.2.2.1, hk.2.2.2.2.2.2.2.2⟩⟩⟩⟩⟩⟩⟩, hk.2.2.2.2.1⟩)) hg hat)
                have n7_ := Aside0.mk (blk_grown (g := gb211) (o := .cells #[.int .i64 t202, .slice Ao27 t203.length co27, .slice Ao28 t206.length co28] 24 (0, 0)) (by (with_reducible repeat (first | refine blk_drewN ?_ _ | refine blk_drew ?_ | refine blk_alloc ?_ _)); exact BK211.out) hg (Kd.R_ne HO_8.out BK211.out (by decide)))
                have n8_ := Aside0.mk (Kd.R_over' (by (with_reducible repeat (first | apply Kd.R_alloc | apply Kd.R_drewN | apply Kd.R_drew)); exact HO214.out) (Kd.R_typed (by (with_reducible repeat (first | apply Kd.R_alloc | apply Kd.R_drewN | apply Kd.R_drew)); exact HO_8.out)) (by decide) hg)
                have n9_ := Aside0.mk (Kd.R_over' (by (with_reducible repeat (first | apply Kd.R_alloc | apply Kd.R_drewN | apply Kd.R_drew)); exact HO217.out) (Kd.R_typed (by (with_reducible repeat (first | apply Kd.R_alloc | apply Kd.R_drewN | apply Kd.R_drew)); exact HO_8.out)) (by decide) hg)
                have n10_ := Aside0.mk (Kd.R_after (ok := (fun k_ => (w.heap.size ≤ k_))) (by (with_reducible repeat (first | apply Kd.R_alloc | apply Kd.R_drewN | apply Kd.R_drew)); exact HO220.out) hg hat)
                have n11_ := Aside0.mk (hb)
                have n12_ := Aside0.mk (ho)
                clear HO_199001
                clear HO_199002
                clear BK198
                clear BK199
                clear BK201
                clear HO205
                clear HO208
                clear BK211
                clear HO214
                clear HO217
                clear HO220
                clear HB
                clear HO_8
                have HO_199001 := n0_
                have HO_199002 := n1_
                have BK198 := n2_
                have BK199 := n3_
                have BK201 := n4_
                have HO205 := n5_
                have HO208 := n6_
                have BK211 := n7_
                have HO214 := n8_
                have HO217 := n9_
                have HO220 := n10_
                have HB := n11_
                have HO223 := n12_
                clear n0_ n1_ n2_ n3_ n4_ n5_ n6_ n7_ n8_ n9_ n10_ n11_ n12_
                clear ho hb hg hat
                refine hK.out _ _ ⟨(blk_cell BK211.out 0).trans rfl, (blk_cell BK211.out 1).trans rfl, (blk_cell BK211.out 2).trans rfl⟩ (fun hHeld => ?_)
                clear hK K
                refine norm_ (a' := ?_) ?_ ?_
                rotate_left
                · show Act.put _ (some 35) _ = _
                  simp only [Act.put, List.setIfInBounds_toArray, List.set_cons_zero, List.set_cons_succ, i64_w, i32_w]
                  rfl
                refine one_ (i := 9) (N := none) #[true, true, true, true, true, true, true, true, true, true, false, false] rfl rfl (one_of HT_.out (by kernel_rfl)) (by decide) (fun K hK => ?_)
                have hs42 : w40.cell? ⟨gb198, 0, none⟩ = some (.int .i64 x199000_1) := (blk_cell BK198.out 0).trans rfl
                have hfs42 := blk_frozen BK198.out 0
                have hns42_1 := NB199_198.out
                have hns42_2 := NB201_198.out
                have hns42_3 := NB211_198.out
                have hms42_1 := NB198_199.out
                have hms42_2 := NB198_201.out
                have hms42_3 := NB198_211.out
                have hs43 : w40.cell? ⟨gb198, 1, none⟩ = some (.slice Ao19 x199001_1.length co19) := (blk_cell BK198.out 1).trans rfl
                have hfs43 := blk_frozen BK198.out 1
                have hns43_1 := NB199_198.out
                have hns43_2 := NB201_198.out
                have hns43_3 := NB211_198.out
                have hms43_1 := NB198_199.out
                have hms43_2 := NB198_201.out
                have hms43_3 := NB198_211.out
                have hs44 : w40.cell? ⟨gb198, 2, none⟩ = some (.slice Ao20 x199002_1.length co20) := (blk_cell BK198.out 2).trans rfl
                have hfs44 := blk_frozen BK198.out 2
                have hns44_1 := NB199_198.out
                have hns44_2 := NB201_198.out
                have hns44_3 := NB211_198.out
                have hms44_1 := NB198_199.out
                have hms44_2 := NB198_201.out
                have hms44_3 := NB198_211.out
                refine skip_ (w1 := ?_) (by rfl) rfl ?_ ?_
                rotate_left
                · go_simp
                  rfl
                refine hK.out _ _ ⟨((cell_far (p := ⟨gb198, _, none⟩) NB211_198.out _).trans (((cell_far (p := ⟨gb198, _, none⟩) NB211_198.out _).trans (((cell_far (p := ⟨gb198, _, none⟩) NB211_198.out _).trans (hHeld.1)))))), ((cell_far (p := ⟨gb198, _, none⟩) NB211_198.out _).trans (((cell_far (p := ⟨gb198, _, none⟩) NB211_198.out _).trans (((cell_far (p := ⟨gb198, _, none⟩) NB211_198.out _).trans (hHeld.2.1)))))), ((cell_far (p := ⟨gb198, _, none⟩) NB211_198.out _).trans (((cell_far (p := ⟨gb198, _, none⟩) NB211_198.out _).trans (((cell_far (p := ⟨gb198, _, none⟩) NB211_198.out _).trans (hHeld.2.2))))))⟩ (fun hHeld => ?_)
                clear hK K
                refine pure_ (i := 10) (N := some 7) (v := ?_) (a' := ?_) #[true, true, true, true, true, true, true, true, true, true, true, false] rfl rfl (any_of HT_.out (by kernel_rfl)) (fun _ _ _ h => h) (Or.inl ⟨by rfl, ?_⟩) ?_ ?_
                rotate_left
                · intro w'
                  go_simp
                  with_reducible rfl
                rotate_left
                · simp only [Act.put, List.setIfInBounds_toArray, List.set_cons_zero, List.set_cons_succ, i64_w, i32_w]
                  rfl
                refine pure_ (i := 11) (N := some 8) (v := ?_) (a' := ?_) #[true, true, true, true, true, true, true, true, true, true, true, true] rfl rfl (any_of HT_.out (by kernel_rfl)) (fun _ _ _ h => h) (Or.inl ⟨by rfl, ?_⟩) ?_ ?_
                rotate_left
                · intro w'
                  go_simp
                  with_reducible rfl
                rotate_left
                · simp only [Act.put, List.setIfInBounds_toArray, List.set_cons_zero, List.set_cons_succ, i64_w, i32_w]
                  rfl
                refine done_ (done_of HT_.out (by kernel_rfl)) ?_
                try go_wp2
                go_roundg k1
                case measure => have := HK1.out; omega
                case rel => exact ⟨(y215), (y221), (wrap64 (x16_1 + 1)), (t202), (t203), (t206), (.slice Ao27 t203.length co27), (.slice Ao28 t206.length co28), (by first | rfl | (simp; done) | (simp [*]; done)), H', ⟨by have := HK1.out; omega⟩, ⟨by (with_reducible repeat (first | apply Kd.R_alloc | apply Kd.R_drewN | apply Kd.R_drew)); exact Kd.R_mono (Kd.R_far (p := ⟨gb198, 2, none⟩) (Kd.R_far (p := ⟨gb198, 1, none⟩) (Kd.R_far (p := ⟨gb198, 0, none⟩) (Kd.R_types HO217.out BK198.out (by decide)) (fun _ hk => hk.2) (.int .i64 t202)) (fun _ hk => hk.2) (.slice Ao27 t203.length co27)) (fun _ hk => hk.2) (.slice Ao28 t206.length co28)) (fun _ hk => hk.1.1)⟩, ⟨by (with_reducible repeat (first | apply Kd.R_alloc | apply Kd.R_drewN | apply Kd.R_drew)); exact Kd.R_mono (Kd.R_far (p := ⟨gb198, 2, none⟩) (Kd.R_far (p := ⟨gb198, 1, none⟩) (Kd.R_far (p := ⟨gb198, 0, none⟩) (Kd.R_types HO223.out BK198.out (by decide)) (fun _ hk => hk.2) (.int .i64 t202)) (fun _ hk => hk.2) (.slice Ao27 t203.length co27)) (fun _ hk => hk.2) (.slice Ao28 t206.length co28)) (fun _ hk => hk.1.1)⟩, ⟨by (with_reducible repeat (first | apply Kd.V_alloc | apply Kd.V_drewN | apply Kd.V_drew)); exact Kd.V_mono (Kd.V_far (p := ⟨gb198, 2, none⟩) (Kd.V_far (p := ⟨gb198, 1, none⟩) (Kd.V_far (p := ⟨gb198, 0, none⟩) (Kd.V_mono HO205.out (fun k_ hk => (⟨hk, hk.1.2.2.2.2.1⟩ : _ ∧ k_ ≠ gb198))) (fun _ hk => hk.2) (.int .i64 t202)) (fun _ hk => hk.2) (.slice Ao27 t203.length co27)) (fun _ hk => hk.2) (.slice Ao28 t206.length co28)) (fun _ hk => ⟨hk.1.1.1, ⟨hk.1.1.2.2.1, ⟨hk.1.2, ⟨hk.1.1.2.2.2.2.1, hk.1.1.2.2.2.2.2.1⟩⟩⟩⟩)⟩, ⟨by (with_reducible repeat (first | apply Kd.V_alloc | apply Kd.V_drewN | apply Kd.V_drew)); exact Kd.V_mono (Kd.V_far (p := ⟨gb198, 2, none⟩) (Kd.V_far (p := ⟨gb198, 1, none⟩) (Kd.V_far (p := ⟨gb198, 0, none⟩) (Kd.V_mono HO208.out (fun k_ hk => (⟨hk, hk.1.2.2.2.2.1⟩ : _ ∧ k_ ≠ gb198))) (fun _ hk => hk.2) (.int .i64 t202)) (fun _ hk => hk.2) (.slice Ao27 t203.length co27)) (fun _ hk => hk.2) (.slice Ao28 t206.length co28)) (fun _ hk => ⟨hk.1.1.1, ⟨hk.1.1.2.2.1, ⟨hk.1.2, ⟨hk.1.1.2.2.2.2.1, hk.1.1.2.2.2.2.2.1⟩⟩⟩⟩)⟩, ⟨by (with_reducible repeat (first | refine blk_drewN ?_ _ | refine blk_drew ?_ | refine blk_alloc ?_ _)); refine blk_put (cs := #[.int .i64 t202, .slice Ao27 t203.length co27, .slice Ao20 x199002_1.length co20]) ?_ 2 _ rfl; (with_reducible repeat (first | refine blk_drewN ?_ _ | refine blk_drew ?_ | refine blk_alloc ?_ _)); refine blk_put (cs := #[.int .i64 t202, .slice Ao19 x199001_1.length co19, .slice Ao20 x199002_1.length co20]) ?_ 1 _ rfl; (with_reducible repeat (first | refine blk_drewN ?_ _ | refine blk_drew ?_ | refine blk_alloc ?_ _)); refine blk_put (cs := #[.int .i64 x199000_1, .slice Ao19 x199001_1.length co19, .slice Ao20 x199002_1.length co20]) ?_ 0 _ rfl; (with_reducible repeat (first | refine blk_drewN ?_ _ | refine blk_drew ?_ | refine blk_alloc ?_ _)); exact BK198.out⟩, ⟨by (with_reducible repeat (first | refine blk_drewN ?_ _ | refine blk_drew ?_ | refine blk_alloc ?_ _)); refine blk_far ?_ NB199_198.out _; (with_reducible repeat (first | refine blk_drewN ?_ _ | refine blk_drew ?_ | refine blk_alloc ?_ _)); refine blk_far ?_ NB199_198.out _; (with_reducible repeat (first | refine blk_drewN ?_ _ | refine blk_drew ?_ | refine blk_alloc ?_ _)); refine blk_far ?_ NB199_198.out _; (with_reducible repeat (first | refine blk_drewN ?_ _ | refine blk_drew ?_ | refine blk_alloc ?_ _)); exact BK199.out⟩, ⟨by repeat (first | (with_reducible first | exact HB.out | apply below_alloc | apply pw_below_drewN | apply below_drew1 | refine below_set ?_ GE198.out | refine below_set ?_ GE199.out | refine below_set ?_ GE201.out | refine below_set ?_ GE211.out) | exact HB.out)⟩⟩
              · rw [if_neg c10] at H
                exact absurd H (by simp)
            · rw [if_neg c9] at H
              exact absurd H (by simp)
          · rw [if_neg c7] at H
            exact absurd H (by simp)
        · rw [if_neg c6] at H
          exact absurd H (by simp)
      · rw [if_neg c5] at H
        have c5b0 : decide (x16_1 < (l1.length : Int)) = false := decide_eq_false c5
        clear c5
        simp only [Option.some.injEq, Prod.mk.injEq] at H
        obtain ⟨rfl, rfl, rfl, rfl, rfl⟩ := H
        have hnb45 := NB198_199.out
        have hnc45 := NB199_198.out
        have hcz46_0 : wr.cell? ⟨gb198, 0, none⟩ = some (.int .i64 x199000_1) := (blk_cell BK198.out 0).trans rfl
        have hcz46_1 : wr.cell? ⟨gb198, 1, none⟩ = some (u199001) := (blk_cell BK198.out 1).trans rfl
        have hcz46_2 : wr.cell? ⟨gb198, 2, none⟩ = some (u199002) := (blk_cell BK198.out 2).trans rfl
        have hfz46_0 := blk_frozen BK198.out 0
        have hfz46_1 := blk_frozen BK198.out 1
        have hfz46_2 := blk_frozen BK198.out 2
        have hcz47_0 : wr.cell? ⟨gb199, 0, none⟩ = some (.int .i64 0) := (blk_cell BK199.out 0).trans rfl
        have hcz47_1 : wr.cell? ⟨gb199, 1, none⟩ = some (.slice none 0 0) := (blk_cell BK199.out 1).trans rfl
        have hcz47_2 : wr.cell? ⟨gb199, 2, none⟩ = some (.slice none 0 0) := (blk_cell BK199.out 2).trans rfl
        have hfz47_0 := blk_frozen BK199.out 0
        have hfz47_1 := blk_frozen BK199.out 1
        have hfz47_2 := blk_frozen BK199.out 2
        obtain ⟨Ao48, co48, eo48⟩ := Kd.V_slice HO_199001.out
        subst eo48
        obtain ⟨Ao49, co49, eo49⟩ := Kd.V_slice HO_199002.out
        subst eo49
        go_wp2
        refine bodyPost_ret (results_ctt rfl _ _ gb199 24 #[.int .i64 x199000_1, .slice Ao48 x199001_1.length co48, .slice Ao49 x199002_1.length co49] (0, 0) _ rfl (by (with_reducible repeat (first | refine blk_drewN ?_ _ | refine blk_drew ?_ | refine blk_alloc ?_ _)); refine blk_put (cs := #[.int .i64 x199000_1, .slice Ao48 x199001_1.length co48, .slice none 0 0]) ?_ 2 _ rfl; (with_reducible repeat (first | refine blk_drewN ?_ _ | refine blk_drew ?_ | refine blk_alloc ?_ _)); refine blk_put (cs := #[.int .i64 x199000_1, .slice none 0 0, .slice none 0 0]) ?_ 1 _ rfl; (with_reducible repeat (first | refine blk_drewN ?_ _ | refine blk_drew ?_ | refine blk_alloc ?_ _)); refine blk_put (cs := #[.int .i64 0, .slice none 0 0, .slice none 0 0]) ?_ 0 _ rfl; (with_reducible repeat (first | refine blk_drewN ?_ _ | refine blk_drew ?_ | refine blk_alloc ?_ _)); exact BK199.out) Try.underlying24 rfl (by kernel_rfl)) rfl ?_
        exact ⟨_, _, _, _, by first | rfl | (simp [errW_none, errW_some] <;> rfl) | (simp [*, errW_none, errW_some] <;> rfl), by (with_reducible repeat (first | apply Kd.V_alloc | apply Kd.V_drewN | apply Kd.V_drew)); exact Kd.V_mono (Kd.V_far (p := ⟨gb199, 2, none⟩) (Kd.V_far (p := ⟨gb199, 1, none⟩) (Kd.V_far (p := ⟨gb199, 0, none⟩) (Kd.V_mono HO_199001.out (fun k_ hk => (⟨hk, hk.2.2.2.2⟩ : _ ∧ k_ ≠ gb199))) (fun _ hk => hk.2) (.int .i64 x199000_1)) (fun _ hk => hk.2) (.slice Ao48 x199001_1.length co48)) (fun _ hk => hk.2) (.slice Ao49 x199002_1.length co49)) (fun _ hk => ⟨hk.1.1, ⟨hk.1.2.1, hk.1.2.2.1⟩⟩), by (with_reducible repeat (first | apply Kd.V_alloc | apply Kd.V_drewN | apply Kd.V_drew)); exact Kd.V_mono (Kd.V_far (p := ⟨gb199, 2, none⟩) (Kd.V_far (p := ⟨gb199, 1, none⟩) (Kd.V_far (p := ⟨gb199, 0, none⟩) (Kd.V_mono HO_199002.out (fun k_ hk => (⟨hk, hk.2.2.2.2⟩ : _ ∧ k_ ≠ gb199))) (fun _ hk => hk.2) (.int .i64 x199000_1)) (fun _ hk => hk.2) (.slice Ao48 x199001_1.length co48)) (fun _ hk => hk.2) (.slice Ao49 x199002_1.length co49)) (fun _ hk => ⟨hk.1.1, ⟨hk.1.2.1, hk.1.2.2.1⟩⟩), by (with_reducible repeat (first | apply Kd.R_alloc | apply Kd.R_drewN | apply Kd.R_drew)); exact Kd.R_mono (Kd.R_far (p := ⟨gb199, 2, none⟩) (Kd.R_far (p := ⟨gb199, 1, none⟩) (Kd.R_far (p := ⟨gb199, 0, none⟩) (Kd.R_types HO_7.out BK199.out (by decide)) (fun _ hk => hk.2) (.int .i64 x199000_1)) (fun _ hk => hk.2) (.slice Ao48 x199001_1.length co48)) (fun _ hk => hk.2) (.slice Ao49 x199002_1.length co49)) (fun _ hk => hk.1), by (with_reducible repeat (first | apply Kd.R_alloc | apply Kd.R_drewN | apply Kd.R_drew)); exact Kd.R_mono (Kd.R_far (p := ⟨gb199, 2, none⟩) (Kd.R_far (p := ⟨gb199, 1, none⟩) (Kd.R_far (p := ⟨gb199, 0, none⟩) (Kd.R_types HO_8.out BK199.out (by decide)) (fun _ hk => hk.2) (.int .i64 x199000_1)) (fun _ hk => hk.2) (.slice Ao48 x199001_1.length co48)) (fun _ hk => hk.2) (.slice Ao49 x199002_1.length co49)) (fun _ hk => hk.1), by repeat (first | (with_reducible first | exact HB.out | apply below_alloc | apply pw_below_drewN | apply below_drew1 | refine below_set ?_ GE198.out | refine below_set ?_ GE199.out) | exact HB.out)⟩
end Go.Proofs.Ytmfgalcepaaolaa.PR
