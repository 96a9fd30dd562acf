/- A part of the proof of SpecCommutes: what functions do and tell, and words for that. -/
import Derived.Test.YtmfgalcepaaolaaCPSx0
import Derived.Test.YtmfgalcepaaolaaCPSx1
import Derived.Test.YtmfgalcepaaolaaCPSx7
import Derived.Test.YtmfgalcepaaolaaCPSx8
import Derived.Test.YtmfgalcepaaolaaCPSx11
namespace Go.Proofs.Ytmfgalcepaaolaa.PS
open Go.RowKit Go.Proofs.YtmfgalcepaaolaaW.PrintWords Go.Proofs.YtmfgalcepaaolaaW.PrintLast Go.Proofs.YtmfgalcepaaolaaW.PrintMore
set_option linter.unusedVariables false
set_option linter.unusedSimpArgs false
def underwoodlaw09_SpecCommutes.j0 : Nat → Bool → Bool → Int → List Int → List Int → Int → Int → Int → Int → Int → Int → Int → Int → Option (Bool)
  | 0, _, _, _, _, _, _, _, _, _, _, _, _, _ => none
  | k + 1, x7, x31, x403000, x403001, x403002, x404000, x404001, x404002, x404003, x405000, x405001, x405002, x405003 => if x31 = true then (if x7 = true then ((spec_Commute.f x404000 x404001 x404002 x404003 x405000 x405001 x405002 x405003).bind fun t410 => ((spec_Commute.f x405000 x405001 x405002 x405003 x404000 x404001 x404002 x404003).bind fun t411 => (some (t410 == t411)))) else (some false)) else ((spec_Commute.f x404000 x404001 x404002 x404003 x405000 x405001 x405002 x405003).bind fun t412 => (if t412 = true then ((spec_All.f k x403000 x403001 x403002 (([(⟨x404000, x404001, x404002, x404003⟩ : S26), (⟨x405000, x405001, x405002, x405003⟩ : S26)] : List (S26)))).bind fun bt418 => ((spec_All.f k x403000 x403001 x403002 (([(⟨x405000, x405001, x405002, x405003⟩ : S26), (⟨x404000, x404001, x404002, x404003⟩ : S26)] : List (S26)))).bind fun bt435 => (if (bt418.2.2.2.1.length : Int) = 2 then (if (bt435.2.2.2.1.length : Int) = 2 then (if (bt418.2.2.2.2.length : Int) = 2 then (if (bt435.2.2.2.2.length : Int) = 2 then (if x7 = true then ((underwoodref09_Same.f k bt418.1 bt418.2.1 bt418.2.2.1 bt435.1 bt435.2.1 bt435.2.2.1).bind fun t449 => (if t449 = true then (if 0 < (bt418.2.2.2.1.length : Int) then (if 1 < (bt435.2.2.2.1.length : Int) then (if (rd bt418.2.2.2.1 0) = (rd bt435.2.2.2.1 1) then (if 1 < (bt418.2.2.2.1.length : Int) then (if 0 < (bt435.2.2.2.1.length : Int) then (if (rd bt418.2.2.2.1 1) = (rd bt435.2.2.2.1 0) then (if 0 < (bt418.2.2.2.2.length : Int) then (if 1 < (bt435.2.2.2.2.length : Int) then (if ((rdOf false bt418.2.2.2.2 0) == (rdOf false bt435.2.2.2.2 1)) = true then (if 1 < (bt418.2.2.2.2.length : Int) then (if 0 < (bt435.2.2.2.2.length : Int) then (some ((rdOf false bt418.2.2.2.2 1) == (rdOf false bt435.2.2.2.2 0))) else (none)) else (none)) else (some false)) else (none)) else (none)) else (some false)) else (none)) else (none)) else (some false)) else (none)) else (none)) else (some false))) else (some false)) else (some false)) else (some false)) else (some false)) else (some false)))) else (if x7 = true then ((spec_Of.f x404000).bind fun t413 => ((spec_Of.f x405000).bind fun t414 => (some (t413 == t414)))) else (some false))))
def underwoodlaw09_SpecCommutes.f (k : Nat) (a0_0 : Int) (l0_1 : List Int) (l0_2 : List Int) (a1_0 : Int) (a1_1 : Int) (a1_2 : Int) (a1_3 : Int) (a2_0 : Int) (a2_1 : Int) (a2_2 : Int) (a2_3 : Int) : Option (Bool) := (underwoodlaw09_awake.f).bind fun t405 => ((underwoodlaw09_few.f a0_0 l0_1 l0_2).bind fun t406 => (if t406 = true then ((spec_Right.f k a0_0 l0_1 l0_2).bind fun t407 => (if t407 = true then ((spec_Commute.f a1_0 a1_1 a1_2 a1_3 a2_0 a2_1 a2_2 a2_3).bind fun t408 => ((spec_Commute.f a2_0 a2_1 a2_2 a2_3 a1_0 a1_1 a1_2 a1_3).bind fun t409 => (underwoodlaw09_SpecCommutes.j0 k t405 (t408 != t409) a0_0 l0_1 l0_2 a1_0 a1_1 a1_2 a1_3 a2_0 a2_1 a2_2 a2_3))) else (underwoodlaw09_SpecCommutes.j0 k t405 true a0_0 l0_1 l0_2 a1_0 a1_1 a1_2 a1_3 a2_0 a2_1 a2_2 a2_3))) else (underwoodlaw09_SpecCommutes.j0 k t405 true a0_0 l0_1 l0_2 a1_0 a1_1 a1_2 a1_3 a2_0 a2_1 a2_2 a2_3)))
theorem underwoodlaw09_SpecCommutes.mono_l : ∀ k, (∀ y0 y1 y2 y3 y4 y5 y6 y7 y8 y9 y10 y11 y12, LeO (underwoodlaw09_SpecCommutes.j0 k y0 y1 y2 y3 y4 y5 y6 y7 y8 y9 y10 y11 y12) (underwoodlaw09_SpecCommutes.j0 (k + 1) y0 y1 y2 y3 y4 y5 y6 y7 y8 y9 y10 y11 y12))
  | 0 => fun _ _ _ _ _ _ _ _ _ _ _ _ _ r h => by simp [underwoodlaw09_SpecCommutes.j0] at h
  | k + 1 => by
    have ih0 := underwoodlaw09_SpecCommutes.mono_l k
    · intro y0 y1 y2 y3 y4 y5 y6 y7 y8 y9 y10 y11 y12
      unfold underwoodlaw09_SpecCommutes.j0
      repeat' first
      | (with_reducible exact ih0 _ _ _ _ _ _ _ _ _ _ _ _ _)
      | (with_reducible exact spec_All.mono _ _ _ _ _)
      | (with_reducible exact spec_Right.mono _ _ _ _)
      | (with_reducible exact underwoodref09_Same.mono _ _ _ _ _ _ _)
      | (with_reducible exact LeO.refl _)
      | (with_reducible exact LeO.none _)
      | (with_reducible refine LeO.ite ?_ ?_)
      | (with_reducible refine LeO.bind ?_ (fun _ => ?_))
      | exact ih0 _ _ _ _ _ _ _ _ _ _ _ _ _
      | exact spec_All.mono _ _ _ _ _
      | exact spec_Right.mono _ _ _ _
      | exact underwoodref09_Same.mono _ _ _ _ _ _ _
      | exact LeO.none _
      | refine LeO.ite ?_ ?_
      | refine LeO.bind ?_ (fun _ => ?_)
theorem underwoodlaw09_SpecCommutes.mono : ∀ a0 a1 a2 a3 a4 a5 a6 a7 a8 a9 a10 k, LeO (underwoodlaw09_SpecCommutes.f k a0 a1 a2 a3 a4 a5 a6 a7 a8 a9 a10) (underwoodlaw09_SpecCommutes.f (k + 1) a0 a1 a2 a3 a4 a5 a6 a7 a8 a9 a10) := by
  intro a0 a1 a2 a3 a4 a5 a6 a7 a8 a9 a10 k
  have ih0 := underwoodlaw09_SpecCommutes.mono_l k
  unfold underwoodlaw09_SpecCommutes.f
  repeat' first
      | (with_reducible exact ih0 _ _ _ _ _ _ _ _ _ _ _ _ _)
      | (with_reducible exact spec_All.mono _ _ _ _ _)
      | (with_reducible exact spec_Right.mono _ _ _ _)
      | (with_reducible exact underwoodref09_Same.mono _ _ _ _ _ _ _)
      | (with_reducible exact LeO.refl _)
      | (with_reducible exact LeO.none _)
      | (with_reducible refine LeO.ite ?_ ?_)
      | (with_reducible refine LeO.bind ?_ (fun _ => ?_))
      | exact ih0 _ _ _ _ _ _ _ _ _ _ _ _ _
      | exact spec_All.mono _ _ _ _ _
      | exact spec_Right.mono _ _ _ _
      | exact underwoodref09_Same.mono _ _ _ _ _ _ _
      | exact LeO.none _
      | refine LeO.ite ?_ ?_
      | refine LeO.bind ?_ (fun _ => ?_)
def underwoodlaw09_SpecCommutes.T2 : Bool × List (List Nat × List Nat) := (true, [([], []), ([0], [0]), ([1], [1]), ([2, 1], [2]), ([3], [3]), ([4, 3, 3], [3, 4]), ([5, 3], [3, 5]), ([3, 6], [3, 6]), ([7, 5], [7]), ([8], [8]), ([8], [8]), ([9, 10, 8, 8], [8, 9, 10]), ([8], [8]), ([8], [8]), ([12, 13, 11, 8], [8, 12, 13]), ([11, 14, 8], [8, 11, 14]), ([8, 15], [8, 15])])
def underwoodlaw09_SpecCommutes.B2 : List Nat := [0, 1, 3, 7, 15, 31, 63, 127, 255, 511, 511, 2047, 511, 511, 16383, 32767, 65535]
theorem underwoodlaw09_SpecCommutes.tab2 : rtab .any (opsOf Try.f6 2) = underwoodlaw09_SpecCommutes.T2 := by kernel_rfl
theorem underwoodlaw09_SpecCommutes.bits2 : waitsOk underwoodlaw09_SpecCommutes.T2.2 underwoodlaw09_SpecCommutes.B2 = true := by kernel_rfl
def underwoodlaw09_SpecCommutes.T3 : Bool × List (List Nat × List Nat) := (true, [([], []), ([0], [0]), ([1], [1]), ([1], [1]), ([2, 3, 1, 1], [1, 2, 3]), ([1], [1]), ([1], [1]), ([5, 6, 4, 1], [1, 5, 6]), ([4, 7, 1], [1, 4, 7]), ([1, 8], [1, 8]), ([9, 7, 0, 1, 2, 3, 4, 5, 6, 7, 8, 9], [9])])
def underwoodlaw09_SpecCommutes.B3 : List Nat := [0, 1, 3, 3, 15, 3, 3, 127, 255, 511, 1023]
theorem underwoodlaw09_SpecCommutes.tab3 : rtab .any (opsOf Try.f6 3) = underwoodlaw09_SpecCommutes.T3 := by kernel_rfl
theorem underwoodlaw09_SpecCommutes.bits3 : waitsOk underwoodlaw09_SpecCommutes.T3.2 underwoodlaw09_SpecCommutes.B3 = true := by kernel_rfl
def underwoodlaw09_SpecCommutes.T5 : Bool × List (List Nat × List Nat) := (true, [([], []), ([0], [0]), ([1], [1]), ([2, 1], [1, 2]), ([3, 1, 1], [1, 3]), ([1], [1]), ([5, 1], [1, 5]), ([6, 4, 1], [1, 6]), ([4, 7, 1], [1, 4, 7]), ([1, 8], [1, 8]), ([9, 7, 0, 1, 2, 3, 4, 5, 6, 7, 8, 9], [9])])
def underwoodlaw09_SpecCommutes.B5 : List Nat := [0, 1, 3, 7, 15, 3, 35, 127, 255, 511, 1023]
theorem underwoodlaw09_SpecCommutes.tab5 : rtab .any (opsOf Try.f6 5) = underwoodlaw09_SpecCommutes.T5 := by kernel_rfl
theorem underwoodlaw09_SpecCommutes.bits5 : waitsOk underwoodlaw09_SpecCommutes.T5.2 underwoodlaw09_SpecCommutes.B5 = true := by kernel_rfl
def underwoodlaw09_SpecCommutes.T10 : Bool × List (List Nat × List Nat) := (true, [([], []), ([0], [0]), ([1], [1]), ([1], [1]), ([2, 3, 1, 1], [1, 2, 3]), ([1, 4], [1, 4]), ([5, 4], [5]), ([6], [6]), ([7, 6], [6, 7]), ([8, 6], [6, 8]), ([6], [6]), ([10, 6], [6, 10]), ([11, 6], [6, 11]), ([9, 12, 6], [6, 9, 12]), ([6, 13], [6, 13]), ([14, 6], [14]), ([15], [15]), ([16, 15], [15, 16]), ([17, 15], [15, 17]), ([15], [15]), ([19, 15], [15, 19]), ([20, 15], [15, 20]), ([18, 21, 15], [15, 18, 21]), ([15, 22], [15, 22]), ([23, 15], [23]), ([24], [24]), ([25, 24], [24, 25]), ([26, 24], [24, 26]), ([24], [24]), ([28, 24], [24, 28]), ([29, 24], [24, 29]), ([27, 30, 24], [24, 27, 30]), ([24, 31], [24, 31]), ([32, 24], [32]), ([33], [33]), ([34, 33], [33, 34]), ([35, 33], [33, 35]), ([33], [33]), ([37, 33], [33, 37]), ([38, 33], [33, 38]), ([36, 39, 33], [33, 36, 39]), ([33, 40], [33, 40]), ([41, 33, 0, 1, 2, 3, 4, 5, 6, 7, 8, 9, 10, 11, 12, 13, 14, 15, 16, 17, 18, 19, 20, 21, 22, 23, 24, 25, 26, 27, 28, 29, 30, 31, 32, 33, 34, 35, 36, 37, 38, 39, 40, 41], [41])])
def underwoodlaw09_SpecCommutes.B10 : List Nat := [0, 1, 3, 3, 15, 31, 63, 127, 255, 511, 127, 1151, 3199, 8191, 16383, 32767, 65535, 131071, 262143, 65535, 589823, 1638399, 4194303, 8388607, 16777215, 33554431, 67108863, 134217727, 33554431, 301989887, 838860799, 2147483647, 4294967295, 8589934591, 17179869183, 34359738367, 68719476735, 17179869183, 154618822655, 429496729599, 1099511627775, 2199023255551, 4398046511103]
theorem underwoodlaw09_SpecCommutes.tab10 : rtab .any (opsOf Try.f6 10) = underwoodlaw09_SpecCommutes.T10 := by kernel_rfl
theorem underwoodlaw09_SpecCommutes.bits10 : waitsOk underwoodlaw09_SpecCommutes.T10.2 underwoodlaw09_SpecCommutes.B10 = true := by kernel_rfl
set_option maxHeartbeats 8000000 in
set_option maxRecDepth 100000 in
theorem underwoodlaw09_SpecCommutes.calls (k : Nat) (a0_0 : Int) (A0_1 : Option Addr) (c0_1 : Nat) (l0_1 : List Int) (A0_2 : Option Addr) (c0_2 : Nat) (l0_2 : List Int) (a1_0 : Int) (a1_1 : Int) (a1_2 : Int) (a1_3 : Int) (a2_0 : Int) (a2_1 : Int) (a2_2 : Int) (a2_3 : Int) (r : Bool) (w : World) (hr0_1 : Kd.C (Kd.int .i64) w A0_1 l0_1.length l0_1) (hc0_1 : l0_1.length ≤ c0_1) (hr0_2 : Kd.C (Kd.int .i64) w A0_2 l0_2.length l0_2) (hc0_2 : l0_2.length ≤ c0_2) (h : underwoodlaw09_SpecCommutes.f k a0_0 l0_1 l0_2 a1_0 a1_1 a1_2 a1_3 a2_0 a2_1 a2_2 a2_3 = some r) (hr : r = true) :
    Calls Try.prog 6 #[.agg #[.int .i64 a0_0, .slice A0_1 l0_1.length c0_1, .slice A0_2 l0_2.length c0_2], .agg #[.int .i64 a1_0, .int .i64 a1_1, .int .i64 a1_2, .int .i64 a1_3], .agg #[.int .i64 a2_0, .int .i64 a2_1, .int .i64 a2_2, .int .i64 a2_3]] w fun e w' => e = .returned (.bool r) ∧ Below w.heap.size w w' := by
  have hu24 := Try.underlying24
  have hu26 := Try.underlying26
  have HR0_1 := Aside0.mk hr0_1
  have HC0_1 := Aside0.mk hc0_1
  clear hr0_1 hc0_1
  have HR0_2 := Aside0.mk hr0_2
  have HC0_2 := Aside0.mk hc0_2
  clear hr0_2 hc0_2
  have HB := Aside0.mk (Below.refl w.heap.size w)
  have H : ((underwoodlaw09_awake.f).bind fun t405 => ((underwoodlaw09_few.f a0_0 l0_1 l0_2).bind fun t406 => (if t406 = true then ((spec_Right.f k a0_0 l0_1 l0_2).bind fun t407 => (if t407 = true then ((spec_Commute.f a1_0 a1_1 a1_2 a1_3 a2_0 a2_1 a2_2 a2_3).bind fun t408 => ((spec_Commute.f a2_0 a2_1 a2_2 a2_3 a1_0 a1_1 a1_2 a1_3).bind fun t409 => (underwoodlaw09_SpecCommutes.j0 k t405 (t408 != t409) a0_0 l0_1 l0_2 a1_0 a1_1 a1_2 a1_3 a2_0 a2_1 a2_2 a2_3))) else (underwoodlaw09_SpecCommutes.j0 k t405 true a0_0 l0_1 l0_2 a1_0 a1_1 a1_2 a1_3 a2_0 a2_1 a2_2 a2_3))) else (underwoodlaw09_SpecCommutes.j0 k t405 true a0_0 l0_1 l0_2 a1_0 a1_1 a1_2 a1_3 a2_0 a2_1 a2_2 a2_3)))) = some r := h
  clear h
  replace H := Option.bind_eq_some_iff.mp H
  obtain ⟨t405, A40, H⟩ := H
  replace H : ((underwoodlaw09_few.f a0_0 l0_1 l0_2).bind fun t406 => (if t406 = true then ((spec_Right.f k a0_0 l0_1 l0_2).bind fun t407 => (if t407 = true then ((spec_Commute.f a1_0 a1_1 a1_2 a1_3 a2_0 a2_1 a2_2 a2_3).bind fun t408 => ((spec_Commute.f a2_0 a2_1 a2_2 a2_3 a1_0 a1_1 a1_2 a1_3).bind fun t409 => (underwoodlaw09_SpecCommutes.j0 k t405 (t408 != t409) a0_0 l0_1 l0_2 a1_0 a1_1 a1_2 a1_3 a2_0 a2_1 a2_2 a2_3))) else (underwoodlaw09_SpecCommutes.j0 k t405 true a0_0 l0_1 l0_2 a1_0 a1_1 a1_2 a1_3 a2_0 a2_1 a2_2 a2_3))) else (underwoodlaw09_SpecCommutes.j0 k t405 true a0_0 l0_1 l0_2 a1_0 a1_1 a1_2 a1_3 a2_0 a2_1 a2_2 a2_3))) = some r := H
  have A4 := Aside0.mk A40
  clear A40
  have HC5 := Aside0.mk H
  clear H
  go_enter Try.func6, Try.ntmps6
  go_upto_region 2 with (first | ((with_reducible refine gate_dst (N := 3) rfl ?_); (try (refine gate_guard (by rfl) ?_; dsimp only)); refine box_event ?hg (N := 3) ?hd (cs := #[.int .i64 a0_0, .slice A0_1 l0_1.length c0_1, .slice A0_2 l0_2.length c0_2]) (t := 24) ?hr ?_; (case hd => rfl); (case hg => rfl); (case hr => first | (go_simp; done) | (go_simp; rfl)); intro gb402 hg w6 hbox hb; have n0_ := Aside0.mk (below_step (by repeat (first | (with_reducible first | exact HB.out | apply below_alloc | apply pw_below_drewN | apply below_drew1) | exact HB.out)) hb); have n1_ := Aside0.mk (hbox); have n2_ := Aside0.mk ((by rw [hg]; exact (below_size (by repeat (first | (with_reducible first | exact HB.out | apply below_alloc | apply pw_below_drewN | apply below_drew1) | exact HB.out))) : w.heap.size ≤ gb402)); have n3_ := Aside0.mk ((by rw [hg]; exact (below_size (by repeat (first | (with_reducible first | exact HB.out | apply below_alloc | apply pw_below_drewN | apply below_drew1) | exact HB.out))) : w.heap.size ≤ gb402)); clear HB; have HB := n0_; have BK402 := n1_; have GW402 := n2_; have GE402 := n3_; clear n0_ n1_ n2_ n3_; clear hb hbox hg) | ((with_reducible refine gate_dst (N := 4) rfl ?_); (try (refine gate_guard (by rfl) ?_; dsimp only)); refine box_event ?hg (N := 4) ?hd (cs := #[.int .i64 a1_0, .int .i64 a1_1, .int .i64 a1_2, .int .i64 a1_3]) (t := 26) ?hr ?_; (case hd => rfl); (case hg => rfl); (case hr => first | (go_simp; done) | (go_simp; rfl)); intro gb403 hg w7 hbox hb; have n0_ := Aside0.mk (blk_below (g := gb402) (o := .cells #[.int .i64 a0_0, .slice A0_1 l0_1.length c0_1, .slice A0_2 l0_2.length c0_2] 24 (0, 0)) (by (with_reducible repeat (first | refine blk_drewN ?_ _ | refine blk_drew ?_ | refine blk_alloc ?_ _)); exact BK402.out) hb); have n1_ := Aside0.mk (below_step (by repeat (first | (with_reducible first | exact HB.out | apply below_alloc | apply pw_below_drewN | apply below_drew1 | refine below_set ?_ GE402.out) | exact HB.out)) hb); have n2_ := Aside0.mk (hbox); have n3_ := Aside0.mk ((by rw [hg]; exact (below_size (by repeat (first | (with_reducible first | exact HB.out | apply below_alloc | apply pw_below_drewN | apply below_drew1 | refine below_set ?_ GE402.out) | exact HB.out))) : w.heap.size ≤ gb403)); have n4_ := Aside0.mk ((by rw [hg]; exact (below_size (by repeat (first | (with_reducible first | exact HB.out | apply below_alloc | apply pw_below_drewN | apply below_drew1 | refine below_set ?_ GE402.out) | exact HB.out))) : w.heap.size ≤ gb403)); have n5_ := Aside0.mk ((by rw [hg]; exact Nat.ne_of_lt (blk_lt (g := gb402) (o := .cells #[.int .i64 a0_0, .slice A0_1 l0_1.length c0_1, .slice A0_2 l0_2.length c0_2] 24 (0, 0)) (by (with_reducible repeat (first | refine blk_drewN ?_ _ | refine blk_drew ?_ | refine blk_alloc ?_ _)); exact BK402.out)) : gb402 ≠ gb403)); have n6_ := Aside0.mk ((by rw [hg]; exact Nat.ne_of_gt (blk_lt (g := gb402) (o := .cells #[.int .i64 a0_0, .slice A0_1 l0_1.length c0_1, .slice A0_2 l0_2.length c0_2] 24 (0, 0)) (by (with_reducible repeat (first | refine blk_drewN ?_ _ | refine blk_drew ?_ | refine blk_alloc ?_ _)); exact BK402.out)) : gb403 ≠ gb402)); clear BK402; clear HB; have BK402 := n0_; have HB := n1_; have BK403 := n2_; have GW403 := n3_; have GE403 := n4_; have NB402_403 := n5_; have NB403_402 := n6_; clear n0_ n1_ n2_ n3_ n4_ n5_ n6_; clear hb hbox hg) | ((with_reducible refine gate_dst (N := 5) rfl ?_); (try (refine gate_guard (by rfl) ?_; dsimp only)); refine box_event ?hg (N := 5) ?hd (cs := #[.int .i64 a2_0, .int .i64 a2_1, .int .i64 a2_2, .int .i64 a2_3]) (t := 26) ?hr ?_; (case hd => rfl); (case hg => rfl); (case hr => first | (go_simp; done) | (go_simp; rfl)); intro gb404 hg w8 hbox hb; have n0_ := Aside0.mk (blk_below (g := gb402) (o := .cells #[.int .i64 a0_0, .slice A0_1 l0_1.length c0_1, .slice A0_2 l0_2.length c0_2] 24 (0, 0)) (by (with_reducible repeat (first | refine blk_drewN ?_ _ | refine blk_drew ?_ | refine blk_alloc ?_ _)); exact BK402.out) hb); have n1_ := Aside0.mk (blk_below (g := gb403) (o := .cells #[.int .i64 a1_0, .int .i64 a1_1, .int .i64 a1_2, .int .i64 a1_3] 26 (0, 0)) (by (with_reducible repeat (first | refine blk_drewN ?_ _ | refine blk_drew ?_ | refine blk_alloc ?_ _)); exact BK403.out) hb); have n2_ := Aside0.mk (below_step (by repeat (first | (with_reducible first | exact HB.out | apply below_alloc | apply pw_below_drewN | apply below_drew1 | refine below_set ?_ GE402.out | refine below_set ?_ GE403.out) | exact HB.out)) hb); have n3_ := Aside0.mk (hbox); have n4_ := Aside0.mk ((by rw [hg]; exact (below_size (by repeat (first | (with_reducible first | exact HB.out | apply below_alloc | apply pw_below_drewN | apply below_drew1 | refine below_set ?_ GE402.out | refine below_set ?_ GE403.out) | exact HB.out))) : w.heap.size ≤ gb404)); have n5_ := Aside0.mk ((by rw [hg]; exact (below_size (by repeat (first | (with_reducible first | exact HB.out | apply below_alloc | apply pw_below_drewN | apply below_drew1 | refine below_set ?_ GE402.out | refine below_set ?_ GE403.out) | exact HB.out))) : w.heap.size ≤ gb404)); have n6_ := Aside0.mk ((by rw [hg]; exact Nat.ne_of_lt (blk_lt (g := gb402) (o := .cells #[.int .i64 a0_0, .slice A0_1 l0_1.length c0_1, .slice A0_2 l0_2.length c0_2] 24 (0, 0)) (by (with_reducible repeat (first | refine blk_drewN ?_ _ | refine blk_drew ?_ | refine blk_alloc ?_ _)); exact BK402.out)) : gb402 ≠ gb404)); have n7_ := Aside0.mk ((by rw [hg]; exact Nat.ne_of_gt (blk_lt (g := gb402) (o := .cells #[.int .i64 a0_0, .slice A0_1 l0_1.length c0_1, .slice A0_2 l0_2.length c0_2] 24 (0, 0)) (by (with_reducible repeat (first | refine blk_drewN ?_ _ | refine blk_drew ?_ | refine blk_alloc ?_ _)); exact BK402.out)) : gb404 ≠ gb402)); have n8_ := Aside0.mk ((by rw [hg]; exact Nat.ne_of_lt (blk_lt (g := gb403) (o := .cells #[.int .i64 a1_0, .int .i64 a1_1, .int .i64 a1_2, .int .i64 a1_3] 26 (0, 0)) (by (with_reducible repeat (first | refine blk_drewN ?_ _ | refine blk_drew ?_ | refine blk_alloc ?_ _)); exact BK403.out)) : gb403 ≠ gb404)); have n9_ := Aside0.mk ((by rw [hg]; exact Nat.ne_of_gt (blk_lt (g := gb403) (o := .cells #[.int .i64 a1_0, .int .i64 a1_1, .int .i64 a1_2, .int .i64 a1_3] 26 (0, 0)) (by (with_reducible repeat (first | refine blk_drewN ?_ _ | refine blk_drew ?_ | refine blk_alloc ?_ _)); exact BK403.out)) : gb404 ≠ gb403)); clear BK402; clear BK403; clear HB; have BK402 := n0_; have BK403 := n1_; have HB := n2_; have BK404 := n3_; have GW404 := n4_; have GE404 := n5_; have NB402_404 := n6_; have NB404_402 := n7_; have NB403_404 := n8_; have NB404_403 := n9_; clear n0_ n1_ n2_ n3_ n4_ n5_ n6_ n7_ n8_ n9_; clear hb hbox hg) | ((with_reducible refine gate_callee (f := 8) rfl ?_); refine goesL_ (some 14) rfl rfl Try.func8 (by kernel_rfl) rfl #[] rfl (by (try simp only [List.map_toArray, List.map_cons, List.map_nil]); first | done | rfl | (simp only [List.length_drop, List.length_take]; rfl)) ?_; (with_reducible refine (underwoodlaw09_awake.calls  t405 _ A4.out).mono ?_); rintro e w9 ⟨rfl, hb⟩; refine ⟨_, rfl, ?_⟩; have n0_ := Aside0.mk (blk_below (g := gb402) (o := .cells #[.int .i64 a0_0, .slice A0_1 l0_1.length c0_1, .slice A0_2 l0_2.length c0_2] 24 (0, 0)) (by (with_reducible repeat (first | refine blk_drewN ?_ _ | refine blk_drew ?_ | refine blk_alloc ?_ _)); exact BK402.out) hb); have n1_ := Aside0.mk (blk_below (g := gb403) (o := .cells #[.int .i64 a1_0, .int .i64 a1_1, .int .i64 a1_2, .int .i64 a1_3] 26 (0, 0)) (by (with_reducible repeat (first | refine blk_drewN ?_ _ | refine blk_drew ?_ | refine blk_alloc ?_ _)); exact BK403.out) hb); have n2_ := Aside0.mk (blk_below (g := gb404) (o := .cells #[.int .i64 a2_0, .int .i64 a2_1, .int .i64 a2_2, .int .i64 a2_3] 26 (0, 0)) (by (with_reducible repeat (first | refine blk_drewN ?_ _ | refine blk_drew ?_ | refine blk_alloc ?_ _)); exact BK404.out) hb); have n3_ := Aside0.mk (below_step (by repeat (first | (with_reducible first | exact HB.out | apply below_alloc | apply pw_below_drewN | apply below_drew1 | refine below_set ?_ GE402.out | refine below_set ?_ GE403.out | refine below_set ?_ GE404.out) | exact HB.out)) hb); clear BK402; clear BK403; clear BK404; clear HB; have BK402 := n0_; have BK403 := n1_; have BK404 := n2_; have HB := n3_; clear n0_ n1_ n2_ n3_; (try clear hb); (try clear hb2); (try clear hk); (try clear hi)))
  (try simp only [Act.put, List.setIfInBounds_toArray, List.set_cons_zero, List.set_cons_succ])
  go_cut [31] (fun v31 wc => ∃ (kq : Nat) (x31_4 : Bool), v31 = .bool x31_4 ∧ Aside0 (underwoodlaw09_SpecCommutes.j0 kq t405 x31_4 a0_0 l0_1 l0_2 a1_0 a1_1 a1_2 a1_3 a2_0 a2_1 a2_2 a2_3 = some r) ∧ Aside0 (kq ≤ k) ∧ Aside0 (wc.heap[gb402]? = some (.cells #[.int .i64 a0_0, (.slice A0_1 l0_1.length c0_1), (.slice A0_2 l0_2.length c0_2)] 24 (0, 0))) ∧ Aside0 (wc.heap[gb403]? = some (.cells #[.int .i64 a1_0, .int .i64 a1_1, .int .i64 a1_2, .int .i64 a1_3] 26 (0, 0))) ∧ Aside0 (wc.heap[gb404]? = some (.cells #[.int .i64 a2_0, .int .i64 a2_1, .int .i64 a2_2, .int .i64 a2_3] 26 (0, 0))) ∧ Aside0 (Below w.heap.size w wc))
  case first =>
    have H := HC5.out
    clear HC5
    replace H := Option.bind_eq_some_iff.mp H
    obtain ⟨t406, A100, H⟩ := H
    replace H : (if t406 = true then ((spec_Right.f k a0_0 l0_1 l0_2).bind fun t407 => (if t407 = true then ((spec_Commute.f a1_0 a1_1 a1_2 a1_3 a2_0 a2_1 a2_2 a2_3).bind fun t408 => ((spec_Commute.f a2_0 a2_1 a2_2 a2_3 a1_0 a1_1 a1_2 a1_3).bind fun t409 => (underwoodlaw09_SpecCommutes.j0 k t405 (t408 != t409) a0_0 l0_1 l0_2 a1_0 a1_1 a1_2 a1_3 a2_0 a2_1 a2_2 a2_3))) else (underwoodlaw09_SpecCommutes.j0 k t405 true a0_0 l0_1 l0_2 a1_0 a1_1 a1_2 a1_3 a2_0 a2_1 a2_2 a2_3))) else (underwoodlaw09_SpecCommutes.j0 k t405 true a0_0 l0_1 l0_2 a1_0 a1_1 a1_2 a1_3 a2_0 a2_1 a2_2 a2_3)) = some r := H
    have A10 := Aside0.mk A100
    clear A100
    by_cases c11 : t406 = true
    rotate_left
    · replace c11 := Bool.eq_false_iff.mpr c11
      subst c11
      have H1 : (underwoodlaw09_SpecCommutes.j0 k t405 true a0_0 l0_1 l0_2 a1_0 a1_1 a1_2 a1_3 a2_0 a2_1 a2_2 a2_3) = some r := by rw [if_neg (show ¬ (false = true) by decide)] at H; exact H
      clear H
      have H := H1
      clear H1
      have H' := Aside0.mk H
      clear H
      try go_wp2
      have n0_ := Aside0.mk (blk_drew BK402.out)
      have n1_ := Aside0.mk (blk_drew BK403.out)
      have n2_ := Aside0.mk (blk_drew BK404.out)
      have n3_ := Aside0.mk (below_drew1 HB.out)
      clear BK402 BK403 BK404 HB
      have BK402 := n0_
      have BK403 := n1_
      have BK404 := n2_
      have HB := n3_
      clear n0_ n1_ n2_ n3_
      refine start_ (n := 17) (S := fun w' => w'.cell? ⟨gb402, 0, none⟩ = some (.int .i64 a0_0) ∧ w'.cell? ⟨gb402, 1, none⟩ = some (.slice A0_1 l0_1.length c0_1) ∧ w'.cell? ⟨gb402, 2, none⟩ = some (.slice A0_2 l0_2.length c0_2)) (ds := []) #[false, false, false, false, false, false, false, false, false, false, false, false, false, false, false, false, false] (by kernel_rfl) rfl rfl ⟨(blk_cell BK402.out 0).trans rfl, (blk_cell BK402.out 1).trans rfl, (blk_cell BK402.out 2).trans rfl⟩ (fun hHeld => ?_); refine with_tabW underwoodlaw09_SpecCommutes.tab2 underwoodlaw09_SpecCommutes.bits2 (fun HT_ HW_ => ?_)
      generalize w9.drew = w24 at BK402 BK403 BK404 HB hHeld ⊢
      refine take_ (i := 0) (N := some 15) (v := ?_) (a' := ?_) #[true, false, false, false, false, false, false, false, false, false, false, false, false, false, false, false, false] rfl rfl (take_ofW HT_.out HW_.out (by kernel_rfl)) (fun _ _ _ h => h) (Or.inl ⟨by rfl, ?_⟩) hHeld ?_ ?_
      rotate_left
      · rintro w' ⟨s0, s1, s2⟩
        go_simp
        with_reducible rfl
      rotate_left
      · simp only [Act.put, List.setIfInBounds_toArray, List.set_cons_zero, List.set_cons_succ, i64_w, i32_w]
        rfl
      refine one_ (i := 1) (N := some 16) #[true, true, false, false, false, false, false, false, false, false, false, false, false, false, false, false, false] rfl rfl (one_of HT_.out (by kernel_rfl)) (by decide) (fun K hK => ?_)
      refine goes_ Try.func9 (by kernel_rfl) rfl #[.agg #[.int .i64 a0_0, .slice A0_1 l0_1.length c0_1, .slice A0_2 l0_2.length c0_2]] (by rfl) rfl rfl (by (try simp only [List.map_toArray, List.map_cons, List.map_nil]); first | done | rfl | (simp only [List.length_drop, List.length_take]; rfl)) ?_
      with_reducible refine (underwoodlaw09_few.calls a0_0 _ _ l0_1 _ _ l0_2 false _ ?side1 ?side2 ?side3 ?side4 A10.out).mono ?_
      (case side1 => repeat (first | exact (Kd.C_below HR0_1.out HB.out) | (with_reducible refine Kd.C_alloc ?_ _) | (with_reducible refine Kd.C_drewN ?_ _) | (with_reducible refine Kd.C_drew ?_)))
      (case side2 => exact HC0_1.out)
      (case side3 => repeat (first | exact (Kd.C_below HR0_2.out HB.out) | (with_reducible refine Kd.C_alloc ?_ _) | (with_reducible refine Kd.C_drewN ?_ _) | (with_reducible refine Kd.C_drew ?_)))
      (case side4 => exact HC0_2.out)
      rintro e w25 ⟨rfl, hb⟩
      refine ⟨_, rfl, ?_⟩
      have n0_ := Aside0.mk (blk_below (g := gb402) (o := .cells #[.int .i64 a0_0, .slice A0_1 l0_1.length c0_1, .slice A0_2 l0_2.length c0_2] 24 (0, 0)) (by (with_reducible repeat (first | refine blk_drewN ?_ _ | refine blk_drew ?_ | refine blk_alloc ?_ _)); exact BK402.out) hb)
      have n1_ := Aside0.mk (blk_below (g := gb403) (o := .cells #[.int .i64 a1_0, .int .i64 a1_1, .int .i64 a1_2, .int .i64 a1_3] 26 (0, 0)) (by (with_reducible repeat (first | refine blk_drewN ?_ _ | refine blk_drew ?_ | refine blk_alloc ?_ _)); exact BK403.out) hb)
      have n2_ := Aside0.mk (blk_below (g := gb404) (o := .cells #[.int .i64 a2_0, .int .i64 a2_1, .int .i64 a2_2, .int .i64 a2_3] 26 (0, 0)) (by (with_reducible repeat (first | refine blk_drewN ?_ _ | refine blk_drew ?_ | refine blk_alloc ?_ _)); exact BK404.out) hb)
      have n3_ := Aside0.mk (below_step (by repeat (first | (with_reducible first | exact HB.out | apply below_alloc | apply pw_below_drewN | apply below_drew1 | refine below_set ?_ GE402.out | refine below_set ?_ GE403.out | refine below_set ?_ GE404.out) | exact HB.out)) hb)
      clear BK402 BK403 BK404 HB
      have BK402 := n0_
      have BK403 := n1_
      have BK404 := n2_
      have HB := n3_
      clear n0_ n1_ n2_ n3_
      (try clear hb)
      (try clear hb2)
      (try clear hk)
      (try clear hi)
      refine hK.out _ _ ⟨(blk_cell BK402.out 0).trans rfl, (blk_cell BK402.out 1).trans rfl, (blk_cell BK402.out 2).trans rfl⟩ (fun hHeld => ?_)
      clear hK K
      refine norm_ (a' := ?_) ?_ ?_
      rotate_left
      · show Act.put _ (some 16) _ = _
        simp only [Act.put, List.setIfInBounds_toArray, List.set_cons_zero, List.set_cons_succ, i64_w, i32_w]
        rfl
      refine pure_ (i := 2) (N := some 17) (v := ?_) (a' := ?_) #[true, true, true, false, false, false, false, false, false, false, false, false, false, false, false, false, false] rfl rfl (any_of HT_.out (by kernel_rfl)) (fun _ _ _ h => h) (Or.inl ⟨by rfl, ?_⟩) ?_ ?_
      rotate_left
      · intro w'
        go_simp
        with_reducible rfl
      rotate_left
      · simp only [Act.put, List.setIfInBounds_toArray, List.set_cons_zero, List.set_cons_succ, i64_w, i32_w]
        rfl
      refine pure_ (i := 3) (N := some 18) (v := ?_) (a' := ?_) #[true, true, true, true, false, false, false, false, false, false, false, false, false, false, false, false, false] rfl rfl (any_of HT_.out (by kernel_rfl)) (fun _ _ _ h => h) (Or.inl ⟨by rfl, ?_⟩) ?_ ?_
      rotate_left
      · intro w'
        go_simp
        with_reducible rfl
      rotate_left
      · simp only [Act.put, List.setIfInBounds_toArray, List.set_cons_zero, List.set_cons_succ, i64_w, i32_w]
        rfl
      refine pure_ (i := 4) (N := some 19) (v := undef) (a' := ?_) #[true, true, true, true, true, false, false, false, false, false, false, false, false, false, false, false, false] rfl rfl (any_of HT_.out (by kernel_rfl)) (fun _ _ _ h => h) (Or.inr ⟨by rfl, rfl⟩) ?_ ?_
      rotate_left
      · simp only [Act.put, List.setIfInBounds_toArray, List.set_cons_zero, List.set_cons_succ, i64_w, i32_w]
        rfl
      refine pure_ (i := 5) (N := some 20) (v := undef) (a' := ?_) #[true, true, true, true, true, true, false, false, false, false, false, false, false, false, false, false, false] rfl rfl (any_of HT_.out (by kernel_rfl)) (fun _ _ _ h => h) (Or.inr ⟨by rfl, rfl⟩) ?_ ?_
      rotate_left
      · simp only [Act.put, List.setIfInBounds_toArray, List.set_cons_zero, List.set_cons_succ, i64_w, i32_w]
        rfl
      refine pure_ (i := 6) (N := some 21) (v := undef) (a' := ?_) #[true, true, true, true, true, true, true, false, false, false, false, false, false, false, false, false, false] rfl rfl (any_of HT_.out (by kernel_rfl)) (fun _ _ _ h => h) (Or.inr ⟨by rfl, rfl⟩) ?_ ?_
      rotate_left
      · simp only [Act.put, List.setIfInBounds_toArray, List.set_cons_zero, List.set_cons_succ, i64_w, i32_w]
        rfl
      refine pure_ (i := 7) (N := some 22) (v := ?_) (a' := ?_) #[true, true, true, true, true, true, true, true, false, false, false, false, false, false, false, false, false] rfl rfl (any_of HT_.out (by kernel_rfl)) (fun _ _ _ h => h) (Or.inl ⟨by rfl, ?_⟩) ?_ ?_
      rotate_left
      · intro w'
        go_simp
        with_reducible rfl
      rotate_left
      · simp only [Act.put, List.setIfInBounds_toArray, List.set_cons_zero, List.set_cons_succ, i64_w, i32_w]
        rfl
      refine pure_ (i := 8) (N := some 23) (v := ?_) (a' := ?_) #[true, true, true, true, true, true, true, true, true, false, false, false, false, false, false, false, false] rfl rfl (any_of HT_.out (by kernel_rfl)) (fun _ _ _ h => h) (Or.inl ⟨by rfl, ?_⟩) ?_ ?_
      rotate_left
      · intro w'
        go_simp
        with_reducible rfl
      rotate_left
      · simp only [Act.put, List.setIfInBounds_toArray, List.set_cons_zero, List.set_cons_succ, i64_w, i32_w]
        rfl
      refine pure_ (i := 9) (N := some 24) (v := undef) (a' := ?_) #[true, true, true, true, true, true, true, true, true, true, false, false, false, false, false, false, false] rfl rfl (any_of HT_.out (by kernel_rfl)) (fun _ _ _ h => h) (Or.inr ⟨by rfl, rfl⟩) ?_ ?_
      rotate_left
      · simp only [Act.put, List.setIfInBounds_toArray, List.set_cons_zero, List.set_cons_succ, i64_w, i32_w]
        rfl
      refine pure_ (i := 10) (N := some 25) (v := undef) (a' := ?_) #[true, true, true, true, true, true, true, true, true, true, true, false, false, false, false, false, false] rfl rfl (any_of HT_.out (by kernel_rfl)) (fun _ _ _ h => h) (Or.inr ⟨by rfl, rfl⟩) ?_ ?_
      rotate_left
      · simp only [Act.put, List.setIfInBounds_toArray, List.set_cons_zero, List.set_cons_succ, i64_w, i32_w]
        rfl
      refine pure_ (i := 11) (N := some 26) (v := undef) (a' := ?_) #[true, true, true, true, true, true, true, true, true, true, true, true, false, false, false, false, false] rfl rfl (any_of HT_.out (by kernel_rfl)) (fun _ _ _ h => h) (Or.inr ⟨by rfl, rfl⟩) ?_ ?_
      rotate_left
      · simp only [Act.put, List.setIfInBounds_toArray, List.set_cons_zero, List.set_cons_succ, i64_w, i32_w]
        rfl
      refine pure_ (i := 12) (N := some 27) (v := undef) (a' := ?_) #[true, true, true, true, true, true, true, true, true, true, true, true, true, false, false, false, false] rfl rfl (any_of HT_.out (by kernel_rfl)) (fun _ _ _ h => h) (Or.inr ⟨by rfl, rfl⟩) ?_ ?_
      rotate_left
      · simp only [Act.put, List.setIfInBounds_toArray, List.set_cons_zero, List.set_cons_succ, i64_w, i32_w]
        rfl
      refine pure_ (i := 13) (N := some 28) (v := undef) (a' := ?_) #[true, true, true, true, true, true, true, true, true, true, true, true, true, true, false, false, false] rfl rfl (any_of HT_.out (by kernel_rfl)) (fun _ _ _ h => h) (Or.inr ⟨by rfl, rfl⟩) ?_ ?_
      rotate_left
      · simp only [Act.put, List.setIfInBounds_toArray, List.set_cons_zero, List.set_cons_succ, i64_w, i32_w]
        rfl
      refine pure_ (i := 14) (N := some 29) (v := undef) (a' := ?_) #[true, true, true, true, true, true, true, true, true, true, true, true, true, true, true, false, false] rfl rfl (any_of HT_.out (by kernel_rfl)) (fun _ _ _ h => h) (Or.inr ⟨by rfl, rfl⟩) ?_ ?_
      rotate_left
      · simp only [Act.put, List.setIfInBounds_toArray, List.set_cons_zero, List.set_cons_succ, i64_w, i32_w]
        rfl
      refine pure_ (i := 15) (N := some 30) (v := undef) (a' := ?_) #[true, true, true, true, true, true, true, true, true, true, true, true, true, true, true, true, false] rfl rfl (any_of HT_.out (by kernel_rfl)) (fun _ _ _ h => h) (Or.inr ⟨by rfl, rfl⟩) ?_ ?_
      rotate_left
      · simp only [Act.put, List.setIfInBounds_toArray, List.set_cons_zero, List.set_cons_succ, i64_w, i32_w]
        rfl
      refine pure_ (i := 16) (N := some 31) (v := ?_) (a' := ?_) #[true, true, true, true, true, true, true, true, true, true, true, true, true, true, true, true, true] rfl rfl (any_of HT_.out (by kernel_rfl)) (fun _ _ _ h => h) (Or.inl ⟨by rfl, ?_⟩) ?_ ?_
      rotate_left
      · intro w'
        go_simp
        with_reducible rfl
      rotate_left
      · simp only [Act.put, List.setIfInBounds_toArray, List.set_cons_zero, List.set_cons_succ, i64_w, i32_w]
        rfl
      refine done_ (done_of HT_.out (by kernel_rfl)) ?_
      try go_wp2
      go_meet
      case rel => exact ⟨_, (true), (by first | rfl | (simp; done) | (simp [*]; done)), H', ⟨by first | omega | exact Nat.le_refl _⟩, ⟨by (with_reducible repeat (first | refine blk_drewN ?_ _ | refine blk_drew ?_ | refine blk_alloc ?_ _)); exact BK402.out⟩, ⟨by (with_reducible repeat (first | refine blk_drewN ?_ _ | refine blk_drew ?_ | refine blk_alloc ?_ _)); exact BK403.out⟩, ⟨by (with_reducible repeat (first | refine blk_drewN ?_ _ | refine blk_drew ?_ | refine blk_alloc ?_ _)); exact BK404.out⟩, ⟨by repeat (first | (with_reducible first | exact HB.out | apply below_alloc | apply pw_below_drewN | apply below_drew1 | refine below_set ?_ GE402.out | refine below_set ?_ GE403.out | refine below_set ?_ GE404.out) | exact HB.out)⟩⟩
    subst c11
    have H1 : ((spec_Right.f k a0_0 l0_1 l0_2).bind fun t407 => (if t407 = true then ((spec_Commute.f a1_0 a1_1 a1_2 a1_3 a2_0 a2_1 a2_2 a2_3).bind fun t408 => ((spec_Commute.f a2_0 a2_1 a2_2 a2_3 a1_0 a1_1 a1_2 a1_3).bind fun t409 => (underwoodlaw09_SpecCommutes.j0 k t405 (t408 != t409) a0_0 l0_1 l0_2 a1_0 a1_1 a1_2 a1_3 a2_0 a2_1 a2_2 a2_3))) else (underwoodlaw09_SpecCommutes.j0 k t405 true a0_0 l0_1 l0_2 a1_0 a1_1 a1_2 a1_3 a2_0 a2_1 a2_2 a2_3))) = some r := by rw [if_pos rfl] at H; exact H
    clear H
    have H := H1
    clear H1
    replace H := Option.bind_eq_some_iff.mp H
    obtain ⟨t407, A120, H⟩ := H
    replace H : (if t407 = true then ((spec_Commute.f a1_0 a1_1 a1_2 a1_3 a2_0 a2_1 a2_2 a2_3).bind fun t408 => ((spec_Commute.f a2_0 a2_1 a2_2 a2_3 a1_0 a1_1 a1_2 a1_3).bind fun t409 => (underwoodlaw09_SpecCommutes.j0 k t405 (t408 != t409) a0_0 l0_1 l0_2 a1_0 a1_1 a1_2 a1_3 a2_0 a2_1 a2_2 a2_3))) else (underwoodlaw09_SpecCommutes.j0 k t405 true a0_0 l0_1 l0_2 a1_0 a1_1 a1_2 a1_3 a2_0 a2_1 a2_2 a2_3)) = some r := H
    have A12 := Aside0.mk A120
    clear A120
    by_cases c13 : t407 = true
    rotate_left
    · replace c13 := Bool.eq_false_iff.mpr c13
      subst c13
      have H1 : (underwoodlaw09_SpecCommutes.j0 k t405 true a0_0 l0_1 l0_2 a1_0 a1_1 a1_2 a1_3 a2_0 a2_1 a2_2 a2_3) = some r := by rw [if_neg (show ¬ (false = true) by decide)] at H; exact H
      clear H
      have H := H1
      clear H1
      have H' := Aside0.mk H
      clear H
      try go_wp2
      have n0_ := Aside0.mk (blk_drew BK402.out)
      have n1_ := Aside0.mk (blk_drew BK403.out)
      have n2_ := Aside0.mk (blk_drew BK404.out)
      have n3_ := Aside0.mk (below_drew1 HB.out)
      clear BK402 BK403 BK404 HB
      have BK402 := n0_
      have BK403 := n1_
      have BK404 := n2_
      have HB := n3_
      clear n0_ n1_ n2_ n3_
      refine start_ (n := 17) (S := fun w' => w'.cell? ⟨gb402, 0, none⟩ = some (.int .i64 a0_0) ∧ w'.cell? ⟨gb402, 1, none⟩ = some (.slice A0_1 l0_1.length c0_1) ∧ w'.cell? ⟨gb402, 2, none⟩ = some (.slice A0_2 l0_2.length c0_2)) (ds := []) #[false, false, false, false, false, false, false, false, false, false, false, false, false, false, false, false, false] (by kernel_rfl) rfl rfl ⟨(blk_cell BK402.out 0).trans rfl, (blk_cell BK402.out 1).trans rfl, (blk_cell BK402.out 2).trans rfl⟩ (fun hHeld => ?_); refine with_tabW underwoodlaw09_SpecCommutes.tab2 underwoodlaw09_SpecCommutes.bits2 (fun HT_ HW_ => ?_)
      generalize w9.drew = w21 at BK402 BK403 BK404 HB hHeld ⊢
      refine take_ (i := 0) (N := some 15) (v := ?_) (a' := ?_) #[true, false, false, false, false, false, false, false, false, false, false, false, false, false, false, false, false] rfl rfl (take_ofW HT_.out HW_.out (by kernel_rfl)) (fun _ _ _ h => h) (Or.inl ⟨by rfl, ?_⟩) hHeld ?_ ?_
      rotate_left
      · rintro w' ⟨s0, s1, s2⟩
        go_simp
        with_reducible rfl
      rotate_left
      · simp only [Act.put, List.setIfInBounds_toArray, List.set_cons_zero, List.set_cons_succ, i64_w, i32_w]
        rfl
      refine one_ (i := 1) (N := some 16) #[true, true, false, false, false, false, false, false, false, false, false, false, false, false, false, false, false] rfl rfl (one_of HT_.out (by kernel_rfl)) (by decide) (fun K hK => ?_)
      refine goes_ Try.func9 (by kernel_rfl) rfl #[.agg #[.int .i64 a0_0, .slice A0_1 l0_1.length c0_1, .slice A0_2 l0_2.length c0_2]] (by rfl) rfl rfl (by (try simp only [List.map_toArray, List.map_cons, List.map_nil]); first | done | rfl | (simp only [List.length_drop, List.length_take]; rfl)) ?_
      with_reducible refine (underwoodlaw09_few.calls a0_0 _ _ l0_1 _ _ l0_2 true _ ?side1 ?side2 ?side3 ?side4 A10.out).mono ?_
      (case side1 => repeat (first | exact (Kd.C_below HR0_1.out HB.out) | (with_reducible refine Kd.C_alloc ?_ _) | (with_reducible refine Kd.C_drewN ?_ _) | (with_reducible refine Kd.C_drew ?_)))
      (case side2 => exact HC0_1.out)
      (case side3 => repeat (first | exact (Kd.C_below HR0_2.out HB.out) | (with_reducible refine Kd.C_alloc ?_ _) | (with_reducible refine Kd.C_drewN ?_ _) | (with_reducible refine Kd.C_drew ?_)))
      (case side4 => exact HC0_2.out)
      rintro e w22 ⟨rfl, hb⟩
      refine ⟨_, rfl, ?_⟩
      have n0_ := Aside0.mk (blk_below (g := gb402) (o := .cells #[.int .i64 a0_0, .slice A0_1 l0_1.length c0_1, .slice A0_2 l0_2.length c0_2] 24 (0, 0)) (by (with_reducible repeat (first | refine blk_drewN ?_ _ | refine blk_drew ?_ | refine blk_alloc ?_ _)); exact BK402.out) hb)
      have n1_ := Aside0.mk (blk_below (g := gb403) (o := .cells #[.int .i64 a1_0, .int .i64 a1_1, .int .i64 a1_2, .int .i64 a1_3] 26 (0, 0)) (by (with_reducible repeat (first | refine blk_drewN ?_ _ | refine blk_drew ?_ | refine blk_alloc ?_ _)); exact BK403.out) hb)
      have n2_ := Aside0.mk (blk_below (g := gb404) (o := .cells #[.int .i64 a2_0, .int .i64 a2_1, .int .i64 a2_2, .int .i64 a2_3] 26 (0, 0)) (by (with_reducible repeat (first | refine blk_drewN ?_ _ | refine blk_drew ?_ | refine blk_alloc ?_ _)); exact BK404.out) hb)
      have n3_ := Aside0.mk (below_step (by repeat (first | (with_reducible first | exact HB.out | apply below_alloc | apply pw_below_drewN | apply below_drew1 | refine below_set ?_ GE402.out | refine below_set ?_ GE403.out | refine below_set ?_ GE404.out) | exact HB.out)) hb)
      clear BK402 BK403 BK404 HB
      have BK402 := n0_
      have BK403 := n1_
      have BK404 := n2_
      have HB := n3_
      clear n0_ n1_ n2_ n3_
      (try clear hb)
      (try clear hb2)
      (try clear hk)
      (try clear hi)
      refine hK.out _ _ ⟨(blk_cell BK402.out 0).trans rfl, (blk_cell BK402.out 1).trans rfl, (blk_cell BK402.out 2).trans rfl⟩ (fun hHeld => ?_)
      clear hK K
      refine norm_ (a' := ?_) ?_ ?_
      rotate_left
      · show Act.put _ (some 16) _ = _
        simp only [Act.put, List.setIfInBounds_toArray, List.set_cons_zero, List.set_cons_succ, i64_w, i32_w]
        rfl
      refine pure_ (i := 2) (N := some 17) (v := ?_) (a' := ?_) #[true, true, true, false, false, false, false, false, false, false, false, false, false, false, false, false, false] rfl rfl (any_of HT_.out (by kernel_rfl)) (fun _ _ _ h => h) (Or.inl ⟨by rfl, ?_⟩) ?_ ?_
      rotate_left
      · intro w'
        go_simp
        with_reducible rfl
      rotate_left
      · simp only [Act.put, List.setIfInBounds_toArray, List.set_cons_zero, List.set_cons_succ, i64_w, i32_w]
        rfl
      refine pure_ (i := 3) (N := some 18) (v := ?_) (a' := ?_) #[true, true, true, true, false, false, false, false, false, false, false, false, false, false, false, false, false] rfl rfl (any_of HT_.out (by kernel_rfl)) (fun _ _ _ h => h) (Or.inl ⟨by rfl, ?_⟩) ?_ ?_
      rotate_left
      · intro w'
        go_simp
        with_reducible rfl
      rotate_left
      · simp only [Act.put, List.setIfInBounds_toArray, List.set_cons_zero, List.set_cons_succ, i64_w, i32_w]
        rfl
      refine take_ (i := 4) (N := some 19) (v := ?_) (a' := ?_) #[true, true, true, true, true, false, false, false, false, false, false, false, false, false, false, false, false] rfl rfl (take_ofW HT_.out HW_.out (by kernel_rfl)) (fun _ _ _ h => h) (Or.inl ⟨by rfl, ?_⟩) hHeld ?_ ?_
      rotate_left
      · rintro w' ⟨s0, s1, s2⟩
        go_simp
        with_reducible rfl
      rotate_left
      · simp only [Act.put, List.setIfInBounds_toArray, List.set_cons_zero, List.set_cons_succ, i64_w, i32_w]
        rfl
      refine one_ (i := 5) (N := some 20) #[true, true, true, true, true, true, false, false, false, false, false, false, false, false, false, false, false] rfl rfl (one_of HT_.out (by kernel_rfl)) (by decide) (fun K hK => ?_)
      refine goes_ Try.func10 (by kernel_rfl) rfl #[.agg #[.int .i64 a0_0, .slice A0_1 l0_1.length c0_1, .slice A0_2 l0_2.length c0_2]] (by rfl) rfl rfl (by (try simp only [List.map_toArray, List.map_cons, List.map_nil]); first | done | rfl | (simp only [List.length_drop, List.length_take]; rfl)) ?_
      with_reducible refine (spec_Right.calls k a0_0 _ _ l0_1 _ _ l0_2 false _ ?side1 ?side2 ?side3 ?side4 A12.out).mono ?_
      (case side1 => repeat (first | exact (Kd.C_below HR0_1.out HB.out) | (with_reducible refine Kd.C_alloc ?_ _) | (with_reducible refine Kd.C_drewN ?_ _) | (with_reducible refine Kd.C_drew ?_)))
      (case side2 => exact HC0_1.out)
      (case side3 => repeat (first | exact (Kd.C_below HR0_2.out HB.out) | (with_reducible refine Kd.C_alloc ?_ _) | (with_reducible refine Kd.C_drewN ?_ _) | (with_reducible refine Kd.C_drew ?_)))
      (case side4 => exact HC0_2.out)
      rintro e w23 ⟨rfl, hb⟩
      refine ⟨_, rfl, ?_⟩
      have n0_ := Aside0.mk (blk_below (g := gb402) (o := .cells #[.int .i64 a0_0, .slice A0_1 l0_1.length c0_1, .slice A0_2 l0_2.length c0_2] 24 (0, 0)) (by (with_reducible repeat (first | refine blk_drewN ?_ _ | refine blk_drew ?_ | refine blk_alloc ?_ _)); exact BK402.out) hb)
      have n1_ := Aside0.mk (blk_below (g := gb403) (o := .cells #[.int .i64 a1_0, .int .i64 a1_1, .int .i64 a1_2, .int .i64 a1_3] 26 (0, 0)) (by (with_reducible repeat (first | refine blk_drewN ?_ _ | refine blk_drew ?_ | refine blk_alloc ?_ _)); exact BK403.out) hb)
      have n2_ := Aside0.mk (blk_below (g := gb404) (o := .cells #[.int .i64 a2_0, .int .i64 a2_1, .int .i64 a2_2, .int .i64 a2_3] 26 (0, 0)) (by (with_reducible repeat (first | refine blk_drewN ?_ _ | refine blk_drew ?_ | refine blk_alloc ?_ _)); exact BK404.out) hb)
      have n3_ := Aside0.mk (below_step (by repeat (first | (with_reducible first | exact HB.out | apply below_alloc | apply pw_below_drewN | apply below_drew1 | refine below_set ?_ GE402.out | refine below_set ?_ GE403.out | refine below_set ?_ GE404.out) | exact HB.out)) hb)
      clear BK402 BK403 BK404 HB
      have BK402 := n0_
      have BK403 := n1_
      have BK404 := n2_
      have HB := n3_
      clear n0_ n1_ n2_ n3_
      (try clear hb)
      (try clear hb2)
      (try clear hk)
      (try clear hi)
      refine hK.out _ _ ⟨(blk_cell BK402.out 0).trans rfl, (blk_cell BK402.out 1).trans rfl, (blk_cell BK402.out 2).trans rfl⟩ (fun hHeld => ?_)
      clear hK K
      refine norm_ (a' := ?_) ?_ ?_
      rotate_left
      · show Act.put _ (some 20) _ = _
        simp only [Act.put, List.setIfInBounds_toArray, List.set_cons_zero, List.set_cons_succ, i64_w, i32_w]
        rfl
      refine pure_ (i := 6) (N := some 21) (v := ?_) (a' := ?_) #[true, true, true, true, true, true, true, false, false, false, false, false, false, false, false, false, false] rfl rfl (any_of HT_.out (by kernel_rfl)) (fun _ _ _ h => h) (Or.inl ⟨by rfl, ?_⟩) ?_ ?_
      rotate_left
      · intro w'
        go_simp
        with_reducible rfl
      rotate_left
      · simp only [Act.put, List.setIfInBounds_toArray, List.set_cons_zero, List.set_cons_succ, i64_w, i32_w]
        rfl
      refine pure_ (i := 7) (N := some 22) (v := ?_) (a' := ?_) #[true, true, true, true, true, true, true, true, false, false, false, false, false, false, false, false, false] rfl rfl (any_of HT_.out (by kernel_rfl)) (fun _ _ _ h => h) (Or.inl ⟨by rfl, ?_⟩) ?_ ?_
      rotate_left
      · intro w'
        go_simp
        with_reducible rfl
      rotate_left
      · simp only [Act.put, List.setIfInBounds_toArray, List.set_cons_zero, List.set_cons_succ, i64_w, i32_w]
        rfl
      refine pure_ (i := 8) (N := some 23) (v := ?_) (a' := ?_) #[true, true, true, true, true, true, true, true, true, false, false, false, false, false, false, false, false] rfl rfl (any_of HT_.out (by kernel_rfl)) (fun _ _ _ h => h) (Or.inl ⟨by rfl, ?_⟩) ?_ ?_
      rotate_left
      · intro w'
        go_simp
        with_reducible rfl
      rotate_left
      · simp only [Act.put, List.setIfInBounds_toArray, List.set_cons_zero, List.set_cons_succ, i64_w, i32_w]
        rfl
      refine pure_ (i := 9) (N := some 24) (v := undef) (a' := ?_) #[true, true, true, true, true, true, true, true, true, true, false, false, false, false, false, false, false] rfl rfl (any_of HT_.out (by kernel_rfl)) (fun _ _ _ h => h) (Or.inr ⟨by rfl, rfl⟩) ?_ ?_
      rotate_left
      · simp only [Act.put, List.setIfInBounds_toArray, List.set_cons_zero, List.set_cons_succ, i64_w, i32_w]
        rfl
      refine pure_ (i := 10) (N := some 25) (v := undef) (a' := ?_) #[true, true, true, true, true, true, true, true, true, true, true, false, false, false, false, false, false] rfl rfl (any_of HT_.out (by kernel_rfl)) (fun _ _ _ h => h) (Or.inr ⟨by rfl, rfl⟩) ?_ ?_
      rotate_left
      · simp only [Act.put, List.setIfInBounds_toArray, List.set_cons_zero, List.set_cons_succ, i64_w, i32_w]
        rfl
      refine pure_ (i := 11) (N := some 26) (v := undef) (a' := ?_) #[true, true, true, true, true, true, true, true, true, true, true, true, false, false, false, false, false] rfl rfl (any_of HT_.out (by kernel_rfl)) (fun _ _ _ h => h) (Or.inr ⟨by rfl, rfl⟩) ?_ ?_
      rotate_left
      · simp only [Act.put, List.setIfInBounds_toArray, List.set_cons_zero, List.set_cons_succ, i64_w, i32_w]
        rfl
      refine pure_ (i := 12) (N := some 27) (v := undef) (a' := ?_) #[true, true, true, true, true, true, true, true, true, true, true, true, true, false, false, false, false] rfl rfl (any_of HT_.out (by kernel_rfl)) (fun _ _ _ h => h) (Or.inr ⟨by rfl, rfl⟩) ?_ ?_
      rotate_left
      · simp only [Act.put, List.setIfInBounds_toArray, List.set_cons_zero, List.set_cons_succ, i64_w, i32_w]
        rfl
      refine pure_ (i := 13) (N := some 28) (v := undef) (a' := ?_) #[true, true, true, true, true, true, true, true, true, true, true, true, true, true, false, false, false] rfl rfl (any_of HT_.out (by kernel_rfl)) (fun _ _ _ h => h) (Or.inr ⟨by rfl, rfl⟩) ?_ ?_
      rotate_left
      · simp only [Act.put, List.setIfInBounds_toArray, List.set_cons_zero, List.set_cons_succ, i64_w, i32_w]
        rfl
      refine pure_ (i := 14) (N := some 29) (v := undef) (a' := ?_) #[true, true, true, true, true, true, true, true, true, true, true, true, true, true, true, false, false] rfl rfl (any_of HT_.out (by kernel_rfl)) (fun _ _ _ h => h) (Or.inr ⟨by rfl, rfl⟩) ?_ ?_
      rotate_left
      · simp only [Act.put, List.setIfInBounds_toArray, List.set_cons_zero, List.set_cons_succ, i64_w, i32_w]
        rfl
      refine pure_ (i := 15) (N := some 30) (v := undef) (a' := ?_) #[true, true, true, true, true, true, true, true, true, true, true, true, true, true, true, true, false] rfl rfl (any_of HT_.out (by kernel_rfl)) (fun _ _ _ h => h) (Or.inr ⟨by rfl, rfl⟩) ?_ ?_
      rotate_left
      · simp only [Act.put, List.setIfInBounds_toArray, List.set_cons_zero, List.set_cons_succ, i64_w, i32_w]
        rfl
      refine pure_ (i := 16) (N := some 31) (v := ?_) (a' := ?_) #[true, true, true, true, true, true, true, true, true, true, true, true, true, true, true, true, true] rfl rfl (any_of HT_.out (by kernel_rfl)) (fun _ _ _ h => h) (Or.inl ⟨by rfl, ?_⟩) ?_ ?_
      rotate_left
      · intro w'
        go_simp
        with_reducible rfl
      rotate_left
      · simp only [Act.put, List.setIfInBounds_toArray, List.set_cons_zero, List.set_cons_succ, i64_w, i32_w]
        rfl
      refine done_ (done_of HT_.out (by kernel_rfl)) ?_
      try go_wp2
      go_meet
      case rel => exact ⟨_, (true), (by first | rfl | (simp; done) | (simp [*]; done)), H', ⟨by first | omega | exact Nat.le_refl _⟩, ⟨by (with_reducible repeat (first | refine blk_drewN ?_ _ | refine blk_drew ?_ | refine blk_alloc ?_ _)); exact BK402.out⟩, ⟨by (with_reducible repeat (first | refine blk_drewN ?_ _ | refine blk_drew ?_ | refine blk_alloc ?_ _)); exact BK403.out⟩, ⟨by (with_reducible repeat (first | refine blk_drewN ?_ _ | refine blk_drew ?_ | refine blk_alloc ?_ _)); exact BK404.out⟩, ⟨by repeat (first | (with_reducible first | exact HB.out | apply below_alloc | apply pw_below_drewN | apply below_drew1 | refine below_set ?_ GE402.out | refine below_set ?_ GE403.out | refine below_set ?_ GE404.out) | exact HB.out)⟩⟩
    subst c13
    have H1 : ((spec_Commute.f a1_0 a1_1 a1_2 a1_3 a2_0 a2_1 a2_2 a2_3).bind fun t408 => ((spec_Commute.f a2_0 a2_1 a2_2 a2_3 a1_0 a1_1 a1_2 a1_3).bind fun t409 => (underwoodlaw09_SpecCommutes.j0 k t405 (t408 != t409) a0_0 l0_1 l0_2 a1_0 a1_1 a1_2 a1_3 a2_0 a2_1 a2_2 a2_3))) = some r := by rw [if_pos rfl] at H; exact H
    clear H
    have H := H1
    clear H1
    replace H := Option.bind_eq_some_iff.mp H
    obtain ⟨t408, A140, H⟩ := H
    replace H : ((spec_Commute.f a2_0 a2_1 a2_2 a2_3 a1_0 a1_1 a1_2 a1_3).bind fun t409 => (underwoodlaw09_SpecCommutes.j0 k t405 (t408 != t409) a0_0 l0_1 l0_2 a1_0 a1_1 a1_2 a1_3 a2_0 a2_1 a2_2 a2_3)) = some r := H
    have A14 := Aside0.mk A140
    clear A140
    replace H := Option.bind_eq_some_iff.mp H
    obtain ⟨t409, A150, H⟩ := H
    replace H : (underwoodlaw09_SpecCommutes.j0 k t405 (t408 != t409) a0_0 l0_1 l0_2 a1_0 a1_1 a1_2 a1_3 a2_0 a2_1 a2_2 a2_3) = some r := H
    have A15 := Aside0.mk A150
    clear A150
    have H' := Aside0.mk H
    clear H
    try go_wp2
    have n0_ := Aside0.mk (blk_drew BK402.out)
    have n1_ := Aside0.mk (blk_drew BK403.out)
    have n2_ := Aside0.mk (blk_drew BK404.out)
    have n3_ := Aside0.mk (below_drew1 HB.out)
    clear BK402 BK403 BK404 HB
    have BK402 := n0_
    have BK403 := n1_
    have BK404 := n2_
    have HB := n3_
    clear n0_ n1_ n2_ n3_
    refine start_ (n := 17) (S := fun w' => w'.cell? ⟨gb402, 0, none⟩ = some (.int .i64 a0_0) ∧ w'.cell? ⟨gb402, 1, none⟩ = some (.slice A0_1 l0_1.length c0_1) ∧ w'.cell? ⟨gb402, 2, none⟩ = some (.slice A0_2 l0_2.length c0_2) ∧ w'.cell? ⟨gb403, 0, none⟩ = some (.int .i64 a1_0) ∧ w'.cell? ⟨gb403, 1, none⟩ = some (.int .i64 a1_1) ∧ w'.cell? ⟨gb403, 2, none⟩ = some (.int .i64 a1_2) ∧ w'.cell? ⟨gb403, 3, none⟩ = some (.int .i64 a1_3) ∧ w'.cell? ⟨gb404, 0, none⟩ = some (.int .i64 a2_0) ∧ w'.cell? ⟨gb404, 1, none⟩ = some (.int .i64 a2_1) ∧ w'.cell? ⟨gb404, 2, none⟩ = some (.int .i64 a2_2) ∧ w'.cell? ⟨gb404, 3, none⟩ = some (.int .i64 a2_3)) (ds := []) #[false, false, false, false, false, false, false, false, false, false, false, false, false, false, false, false, false] (by kernel_rfl) rfl rfl ⟨(blk_cell BK402.out 0).trans rfl, (blk_cell BK402.out 1).trans rfl, (blk_cell BK402.out 2).trans rfl, (blk_cell BK403.out 0).trans rfl, (blk_cell BK403.out 1).trans rfl, (blk_cell BK403.out 2).trans rfl, (blk_cell BK403.out 3).trans rfl, (blk_cell BK404.out 0).trans rfl, (blk_cell BK404.out 1).trans rfl, (blk_cell BK404.out 2).trans rfl, (blk_cell BK404.out 3).trans rfl⟩ (fun hHeld => ?_); refine with_tabW underwoodlaw09_SpecCommutes.tab2 underwoodlaw09_SpecCommutes.bits2 (fun HT_ HW_ => ?_)
    generalize w9.drew = w16 at BK402 BK403 BK404 HB hHeld ⊢
    refine take_ (i := 0) (N := some 15) (v := ?_) (a' := ?_) #[true, false, false, false, false, false, false, false, false, false, false, false, false, false, false, false, false] rfl rfl (take_ofW HT_.out HW_.out (by kernel_rfl)) (fun _ _ _ h => h) (Or.inl ⟨by rfl, ?_⟩) hHeld ?_ ?_
    rotate_left
    · rintro w' ⟨s0, s1, s2, s3, s4, s5, s6, s7, s8, s9, s10⟩
      go_simp
      with_reducible rfl
    rotate_left
    · simp only [Act.put, List.setIfInBounds_toArray, List.set_cons_zero, List.set_cons_succ, i64_w, i32_w]
      rfl
    refine one_ (i := 1) (N := some 16) #[true, true, false, false, false, false, false, false, false, false, false, false, false, false, false, false, false] rfl rfl (one_of HT_.out (by kernel_rfl)) (by decide) (fun K hK => ?_)
    refine goes_ Try.func9 (by kernel_rfl) rfl #[.agg #[.int .i64 a0_0, .slice A0_1 l0_1.length c0_1, .slice A0_2 l0_2.length c0_2]] (by rfl) rfl rfl (by (try simp only [List.map_toArray, List.map_cons, List.map_nil]); first | done | rfl | (simp only [List.length_drop, List.length_take]; rfl)) ?_
    with_reducible refine (underwoodlaw09_few.calls a0_0 _ _ l0_1 _ _ l0_2 true _ ?side1 ?side2 ?side3 ?side4 A10.out).mono ?_
    (case side1 => repeat (first | exact (Kd.C_below HR0_1.out HB.out) | (with_reducible refine Kd.C_alloc ?_ _) | (with_reducible refine Kd.C_drewN ?_ _) | (with_reducible refine Kd.C_drew ?_)))
    (case side2 => exact HC0_1.out)
    (case side3 => repeat (first | exact (Kd.C_below HR0_2.out HB.out) | (with_reducible refine Kd.C_alloc ?_ _) | (with_reducible refine Kd.C_drewN ?_ _) | (with_reducible refine Kd.C_drew ?_)))
    (case side4 => exact HC0_2.out)
    rintro e w17 ⟨rfl, hb⟩
    refine ⟨_, rfl, ?_⟩
    have n0_ := Aside0.mk (blk_below (g := gb402) (o := .cells #[.int .i64 a0_0, .slice A0_1 l0_1.length c0_1, .slice A0_2 l0_2.length c0_2] 24 (0, 0)) (by (with_reducible repeat (first | refine blk_drewN ?_ _ | refine blk_drew ?_ | refine blk_alloc ?_ _)); exact BK402.out) hb)
    have n1_ := Aside0.mk (blk_below (g := gb403) (o := .cells #[.int .i64 a1_0, .int .i64 a1_1, .int .i64 a1_2, .int .i64 a1_3] 26 (0, 0)) (by (with_reducible repeat (first | refine blk_drewN ?_ _ | refine blk_drew ?_ | refine blk_alloc ?_ _)); exact BK403.out) hb)
    have n2_ := Aside0.mk (blk_below (g := gb404) (o := .cells #[.int .i64 a2_0, .int .i64 a2_1, .int .i64 a2_2, .int .i64 a2_3] 26 (0, 0)) (by (with_reducible repeat (first | refine blk_drewN ?_ _ | refine blk_drew ?_ | refine blk_alloc ?_ _)); exact BK404.out) hb)
    have n3_ := Aside0.mk (below_step (by repeat (first | (with_reducible first | exact HB.out | apply below_alloc | apply pw_below_drewN | apply below_drew1 | refine below_set ?_ GE402.out | refine below_set ?_ GE403.out | refine below_set ?_ GE404.out) | exact HB.out)) hb)
    clear BK402 BK403 BK404 HB
    have BK402 := n0_
    have BK403 := n1_
    have BK404 := n2_
    have HB := n3_
    clear n0_ n1_ n2_ n3_
    (try clear hb)
    (try clear hb2)
    (try clear hk)
    (try clear hi)
    refine hK.out _ _ ⟨(blk_cell BK402.out 0).trans rfl, (blk_cell BK402.out 1).trans rfl, (blk_cell BK402.out 2).trans rfl, (blk_cell BK403.out 0).trans rfl, (blk_cell BK403.out 1).trans rfl, (blk_cell BK403.out 2).trans rfl, (blk_cell BK403.out 3).trans rfl, (blk_cell BK404.out 0).trans rfl, (blk_cell BK404.out 1).trans rfl, (blk_cell BK404.out 2).trans rfl, (blk_cell BK404.out 3).trans rfl⟩ (fun hHeld => ?_)
    clear hK K
    refine norm_ (a' := ?_) ?_ ?_
    rotate_left
    · show Act.put _ (some 16) _ = _
      simp only [Act.put, List.setIfInBounds_toArray, List.set_cons_zero, List.set_cons_succ, i64_w, i32_w]
      rfl
    refine pure_ (i := 2) (N := some 17) (v := ?_) (a' := ?_) #[true, true, true, false, false, false, false, false, false, false, false, false, false, false, false, false, false] rfl rfl (any_of HT_.out (by kernel_rfl)) (fun _ _ _ h => h) (Or.inl ⟨by rfl, ?_⟩) ?_ ?_
    rotate_left
    · intro w'
      go_simp
      with_reducible rfl
    rotate_left
    · simp only [Act.put, List.setIfInBounds_toArray, List.set_cons_zero, List.set_cons_succ, i64_w, i32_w]
      rfl
    refine pure_ (i := 3) (N := some 18) (v := ?_) (a' := ?_) #[true, true, true, true, false, false, false, false, false, false, false, false, false, false, false, false, false] rfl rfl (any_of HT_.out (by kernel_rfl)) (fun _ _ _ h => h) (Or.inl ⟨by rfl, ?_⟩) ?_ ?_
    rotate_left
    · intro w'
      go_simp
      with_reducible rfl
    rotate_left
    · simp only [Act.put, List.setIfInBounds_toArray, List.set_cons_zero, List.set_cons_succ, i64_w, i32_w]
      rfl
    refine take_ (i := 4) (N := some 19) (v := ?_) (a' := ?_) #[true, true, true, true, true, false, false, false, false, false, false, false, false, false, false, false, false] rfl rfl (take_ofW HT_.out HW_.out (by kernel_rfl)) (fun _ _ _ h => h) (Or.inl ⟨by rfl, ?_⟩) hHeld ?_ ?_
    rotate_left
    · rintro w' ⟨s0, s1, s2, s3, s4, s5, s6, s7, s8, s9, s10⟩
      go_simp
      with_reducible rfl
    rotate_left
    · simp only [Act.put, List.setIfInBounds_toArray, List.set_cons_zero, List.set_cons_succ, i64_w, i32_w]
      rfl
    refine one_ (i := 5) (N := some 20) #[true, true, true, true, true, true, false, false, false, false, false, false, false, false, false, false, false] rfl rfl (one_of HT_.out (by kernel_rfl)) (by decide) (fun K hK => ?_)
    refine goes_ Try.func10 (by kernel_rfl) rfl #[.agg #[.int .i64 a0_0, .slice A0_1 l0_1.length c0_1, .slice A0_2 l0_2.length c0_2]] (by rfl) rfl rfl (by (try simp only [List.map_toArray, List.map_cons, List.map_nil]); first | done | rfl | (simp only [List.length_drop, List.length_take]; rfl)) ?_
    with_reducible refine (spec_Right.calls k a0_0 _ _ l0_1 _ _ l0_2 true _ ?side1 ?side2 ?side3 ?side4 A12.out).mono ?_
    (case side1 => repeat (first | exact (Kd.C_below HR0_1.out HB.out) | (with_reducible refine Kd.C_alloc ?_ _) | (with_reducible refine Kd.C_drewN ?_ _) | (with_reducible refine Kd.C_drew ?_)))
    (case side2 => exact HC0_1.out)
    (case side3 => repeat (first | exact (Kd.C_below HR0_2.out HB.out) | (with_reducible refine Kd.C_alloc ?_ _) | (with_reducible refine Kd.C_drewN ?_ _) | (with_reducible refine Kd.C_drew ?_)))
    (case side4 => exact HC0_2.out)
    rintro e w18 ⟨rfl, hb⟩
    refine ⟨_, rfl, ?_⟩
    have n0_ := Aside0.mk (blk_below (g := gb402) (o := .cells #[.int .i64 a0_0, .slice A0_1 l0_1.length c0_1, .slice A0_2 l0_2.length c0_2] 24 (0, 0)) (by (with_reducible repeat (first | refine blk_drewN ?_ _ | refine blk_drew ?_ | refine blk_alloc ?_ _)); exact BK402.out) hb)
    have n1_ := Aside0.mk (blk_below (g := gb403) (o := .cells #[.int .i64 a1_0, .int .i64 a1_1, .int .i64 a1_2, .int .i64 a1_3] 26 (0, 0)) (by (with_reducible repeat (first | refine blk_drewN ?_ _ | refine blk_drew ?_ | refine blk_alloc ?_ _)); exact BK403.out) hb)
    have n2_ := Aside0.mk (blk_below (g := gb404) (o := .cells #[.int .i64 a2_0, .int .i64 a2_1, .int .i64 a2_2, .int .i64 a2_3] 26 (0, 0)) (by (with_reducible repeat (first | refine blk_drewN ?_ _ | refine blk_drew ?_ | refine blk_alloc ?_ _)); exact BK404.out) hb)
    have n3_ := Aside0.mk (below_step (by repeat (first | (with_reducible first | exact HB.out | apply below_alloc | apply pw_below_drewN | apply below_drew1 | refine below_set ?_ GE402.out | refine below_set ?_ GE403.out | refine below_set ?_ GE404.out) | exact HB.out)) hb)
    clear BK402 BK403 BK404 HB
    have BK402 := n0_
    have BK403 := n1_
    have BK404 := n2_
    have HB := n3_
    clear n0_ n1_ n2_ n3_
    (try clear hb)
    (try clear hb2)
    (try clear hk)
    (try clear hi)
    refine hK.out _ _ ⟨(blk_cell BK402.out 0).trans rfl, (blk_cell BK402.out 1).trans rfl, (blk_cell BK402.out 2).trans rfl, (blk_cell BK403.out 0).trans rfl, (blk_cell BK403.out 1).trans rfl, (blk_cell BK403.out 2).trans rfl, (blk_cell BK403.out 3).trans rfl, (blk_cell BK404.out 0).trans rfl, (blk_cell BK404.out 1).trans rfl, (blk_cell BK404.out 2).trans rfl, (blk_cell BK404.out 3).trans rfl⟩ (fun hHeld => ?_)
    clear hK K
    refine norm_ (a' := ?_) ?_ ?_
    rotate_left
    · show Act.put _ (some 20) _ = _
      simp only [Act.put, List.setIfInBounds_toArray, List.set_cons_zero, List.set_cons_succ, i64_w, i32_w]
      rfl
    refine pure_ (i := 6) (N := some 21) (v := ?_) (a' := ?_) #[true, true, true, true, true, true, true, false, false, false, false, false, false, false, false, false, false] rfl rfl (any_of HT_.out (by kernel_rfl)) (fun _ _ _ h => h) (Or.inl ⟨by rfl, ?_⟩) ?_ ?_
    rotate_left
    · intro w'
      go_simp
      with_reducible rfl
    rotate_left
    · simp only [Act.put, List.setIfInBounds_toArray, List.set_cons_zero, List.set_cons_succ, i64_w, i32_w]
      rfl
    refine pure_ (i := 7) (N := some 22) (v := ?_) (a' := ?_) #[true, true, true, true, true, true, true, true, false, false, false, false, false, false, false, false, false] rfl rfl (any_of HT_.out (by kernel_rfl)) (fun _ _ _ h => h) (Or.inl ⟨by rfl, ?_⟩) ?_ ?_
    rotate_left
    · intro w'
      go_simp
      with_reducible rfl
    rotate_left
    · simp only [Act.put, List.setIfInBounds_toArray, List.set_cons_zero, List.set_cons_succ, i64_w, i32_w]
      rfl
    refine pure_ (i := 8) (N := some 23) (v := ?_) (a' := ?_) #[true, true, true, true, true, true, true, true, true, false, false, false, false, false, false, false, false] rfl rfl (any_of HT_.out (by kernel_rfl)) (fun _ _ _ h => h) (Or.inl ⟨by rfl, ?_⟩) ?_ ?_
    rotate_left
    · intro w'
      go_simp
      with_reducible rfl
    rotate_left
    · simp only [Act.put, List.setIfInBounds_toArray, List.set_cons_zero, List.set_cons_succ, i64_w, i32_w]
      rfl
    refine take_ (i := 9) (N := some 24) (v := ?_) (a' := ?_) #[true, true, true, true, true, true, true, true, true, true, false, false, false, false, false, false, false] rfl rfl (take_ofW HT_.out HW_.out (by kernel_rfl)) (fun _ _ _ h => h) (Or.inl ⟨by rfl, ?_⟩) hHeld ?_ ?_
    rotate_left
    · rintro w' ⟨s0, s1, s2, s3, s4, s5, s6, s7, s8, s9, s10⟩
      go_simp
      with_reducible rfl
    rotate_left
    · simp only [Act.put, List.setIfInBounds_toArray, List.set_cons_zero, List.set_cons_succ, i64_w, i32_w]
      rfl
    refine take_ (i := 10) (N := some 25) (v := ?_) (a' := ?_) #[true, true, true, true, true, true, true, true, true, true, true, false, false, false, false, false, false] rfl rfl (take_ofW HT_.out HW_.out (by kernel_rfl)) (fun _ _ _ h => h) (Or.inl ⟨by rfl, ?_⟩) hHeld ?_ ?_
    rotate_left
    · rintro w' ⟨s0, s1, s2, s3, s4, s5, s6, s7, s8, s9, s10⟩
      go_simp
      with_reducible rfl
    rotate_left
    · simp only [Act.put, List.setIfInBounds_toArray, List.set_cons_zero, List.set_cons_succ, i64_w, i32_w]
      rfl
    refine take_ (i := 12) (N := some 27) (v := ?_) (a' := ?_) #[true, true, true, true, true, true, true, true, true, true, true, false, true, false, false, false, false] rfl rfl (take_ofW HT_.out HW_.out (by kernel_rfl)) (fun _ _ _ h => h) (Or.inl ⟨by rfl, ?_⟩) hHeld ?_ ?_
    rotate_left
    · rintro w' ⟨s0, s1, s2, s3, s4, s5, s6, s7, s8, s9, s10⟩
      go_simp
      with_reducible rfl
    rotate_left
    · simp only [Act.put, List.setIfInBounds_toArray, List.set_cons_zero, List.set_cons_succ, i64_w, i32_w]
      rfl
    refine take_ (i := 13) (N := some 28) (v := ?_) (a' := ?_) #[true, true, true, true, true, true, true, true, true, true, true, false, true, true, false, false, false] rfl rfl (take_ofW HT_.out HW_.out (by kernel_rfl)) (fun _ _ _ h => h) (Or.inl ⟨by rfl, ?_⟩) hHeld ?_ ?_
    rotate_left
    · rintro w' ⟨s0, s1, s2, s3, s4, s5, s6, s7, s8, s9, s10⟩
      go_simp
      with_reducible rfl
    rotate_left
    · simp only [Act.put, List.setIfInBounds_toArray, List.set_cons_zero, List.set_cons_succ, i64_w, i32_w]
      rfl
    refine one_ (i := 11) (N := some 26) #[true, true, true, true, true, true, true, true, true, true, true, true, true, true, false, false, false] rfl rfl (one_of HT_.out (by kernel_rfl)) (by decide) (fun K hK => ?_)
    refine goes_ Try.func17 (by kernel_rfl) rfl #[.agg #[.int .i64 a1_0, .int .i64 a1_1, .int .i64 a1_2, .int .i64 a1_3], .agg #[.int .i64 a2_0, .int .i64 a2_1, .int .i64 a2_2, .int .i64 a2_3]] (by rfl) rfl rfl (by (try simp only [List.map_toArray, List.map_cons, List.map_nil]); first | done | rfl | (simp only [List.length_drop, List.length_take]; rfl)) ?_
    with_reducible refine (spec_Commute.calls a1_0 a1_1 a1_2 a1_3 a2_0 a2_1 a2_2 a2_3 t408 _ A14.out).mono ?_
    rintro e w19 ⟨rfl, hb⟩
    refine ⟨_, rfl, ?_⟩
    have n0_ := Aside0.mk (blk_below (g := gb402) (o := .cells #[.int .i64 a0_0, .slice A0_1 l0_1.length c0_1, .slice A0_2 l0_2.length c0_2] 24 (0, 0)) (by (with_reducible repeat (first | refine blk_drewN ?_ _ | refine blk_drew ?_ | refine blk_alloc ?_ _)); exact BK402.out) hb)
    have n1_ := Aside0.mk (blk_below (g := gb403) (o := .cells #[.int .i64 a1_0, .int .i64 a1_1, .int .i64 a1_2, .int .i64 a1_3] 26 (0, 0)) (by (with_reducible repeat (first | refine blk_drewN ?_ _ | refine blk_drew ?_ | refine blk_alloc ?_ _)); exact BK403.out) hb)
    have n2_ := Aside0.mk (blk_below (g := gb404) (o := .cells #[.int .i64 a2_0, .int .i64 a2_1, .int .i64 a2_2, .int .i64 a2_3] 26 (0, 0)) (by (with_reducible repeat (first | refine blk_drewN ?_ _ | refine blk_drew ?_ | refine blk_alloc ?_ _)); exact BK404.out) hb)
    have n3_ := Aside0.mk (below_step (by repeat (first | (with_reducible first | exact HB.out | apply below_alloc | apply pw_below_drewN | apply below_drew1 | refine below_set ?_ GE402.out | refine below_set ?_ GE403.out | refine below_set ?_ GE404.out) | exact HB.out)) hb)
    clear BK402 BK403 BK404 HB
    have BK402 := n0_
    have BK403 := n1_
    have BK404 := n2_
    have HB := n3_
    clear n0_ n1_ n2_ n3_
    (try clear hb)
    (try clear hb2)
    (try clear hk)
    (try clear hi)
    refine hK.out _ _ ⟨(blk_cell BK402.out 0).trans rfl, (blk_cell BK402.out 1).trans rfl, (blk_cell BK402.out 2).trans rfl, (blk_cell BK403.out 0).trans rfl, (blk_cell BK403.out 1).trans rfl, (blk_cell BK403.out 2).trans rfl, (blk_cell BK403.out 3).trans rfl, (blk_cell BK404.out 0).trans rfl, (blk_cell BK404.out 1).trans rfl, (blk_cell BK404.out 2).trans rfl, (blk_cell BK404.out 3).trans rfl⟩ (fun hHeld => ?_)
    clear hK K
    refine norm_ (a' := ?_) ?_ ?_
    rotate_left
    · show Act.put _ (some 26) _ = _
      simp only [Act.put, List.setIfInBounds_toArray, List.set_cons_zero, List.set_cons_succ, i64_w, i32_w]
      rfl
    refine one_ (i := 14) (N := some 29) #[true, true, true, true, true, true, true, true, true, true, true, true, true, true, true, false, false] rfl rfl (one_of HT_.out (by kernel_rfl)) (by decide) (fun K hK => ?_)
    refine goes_ Try.func17 (by kernel_rfl) rfl #[.agg #[.int .i64 a2_0, .int .i64 a2_1, .int .i64 a2_2, .int .i64 a2_3], .agg #[.int .i64 a1_0, .int .i64 a1_1, .int .i64 a1_2, .int .i64 a1_3]] (by rfl) rfl rfl (by (try simp only [List.map_toArray, List.map_cons, List.map_nil]); first | done | rfl | (simp only [List.length_drop, List.length_take]; rfl)) ?_
    with_reducible refine (spec_Commute.calls a2_0 a2_1 a2_2 a2_3 a1_0 a1_1 a1_2 a1_3 t409 _ A15.out).mono ?_
    rintro e w20 ⟨rfl, hb⟩
    refine ⟨_, rfl, ?_⟩
    have n0_ := Aside0.mk (blk_below (g := gb402) (o := .cells #[.int .i64 a0_0, .slice A0_1 l0_1.length c0_1, .slice A0_2 l0_2.length c0_2] 24 (0, 0)) (by (with_reducible repeat (first | refine blk_drewN ?_ _ | refine blk_drew ?_ | refine blk_alloc ?_ _)); exact BK402.out) hb)
    have n1_ := Aside0.mk (blk_below (g := gb403) (o := .cells #[.int .i64 a1_0, .int .i64 a1_1, .int .i64 a1_2, .int .i64 a1_3] 26 (0, 0)) (by (with_reducible repeat (first | refine blk_drewN ?_ _ | refine blk_drew ?_ | refine blk_alloc ?_ _)); exact BK403.out) hb)
    have n2_ := Aside0.mk (blk_below (g := gb404) (o := .cells #[.int .i64 a2_0, .int .i64 a2_1, .int .i64 a2_2, .int .i64 a2_3] 26 (0, 0)) (by (with_reducible repeat (first | refine blk_drewN ?_ _ | refine blk_drew ?_ | refine blk_alloc ?_ _)); exact BK404.out) hb)
    have n3_ := Aside0.mk (below_step (by repeat (first | (with_reducible first | exact HB.out | apply below_alloc | apply pw_below_drewN | apply below_drew1 | refine below_set ?_ GE402.out | refine below_set ?_ GE403.out | refine below_set ?_ GE404.out) | exact HB.out)) hb)
    clear BK402 BK403 BK404 HB
    have BK402 := n0_
    have BK403 := n1_
    have BK404 := n2_
    have HB := n3_
    clear n0_ n1_ n2_ n3_
    (try clear hb)
    (try clear hb2)
    (try clear hk)
    (try clear hi)
    refine hK.out _ _ ⟨(blk_cell BK402.out 0).trans rfl, (blk_cell BK402.out 1).trans rfl, (blk_cell BK402.out 2).trans rfl, (blk_cell BK403.out 0).trans rfl, (blk_cell BK403.out 1).trans rfl, (blk_cell BK403.out 2).trans rfl, (blk_cell BK403.out 3).trans rfl, (blk_cell BK404.out 0).trans rfl, (blk_cell BK404.out 1).trans rfl, (blk_cell BK404.out 2).trans rfl, (blk_cell BK404.out 3).trans rfl⟩ (fun hHeld => ?_)
    clear hK K
    refine norm_ (a' := ?_) ?_ ?_
    rotate_left
    · show Act.put _ (some 29) _ = _
      simp only [Act.put, List.setIfInBounds_toArray, List.set_cons_zero, List.set_cons_succ, i64_w, i32_w]
      rfl
    refine pure_ (i := 15) (N := some 30) (v := ?_) (a' := ?_) #[true, true, true, true, true, true, true, true, true, true, true, true, true, true, true, true, false] rfl rfl (any_of HT_.out (by kernel_rfl)) (fun _ _ _ h => h) (Or.inl ⟨by rfl, ?_⟩) ?_ ?_
    rotate_left
    · intro w'
      go_simp
      with_reducible rfl
    rotate_left
    · simp only [Act.put, List.setIfInBounds_toArray, List.set_cons_zero, List.set_cons_succ, i64_w, i32_w]
      rfl
    refine pure_ (i := 16) (N := some 31) (v := ?_) (a' := ?_) #[true, true, true, true, true, true, true, true, true, true, true, true, true, true, true, true, true] rfl rfl (any_of HT_.out (by kernel_rfl)) (fun _ _ _ h => h) (Or.inl ⟨by rfl, ?_⟩) ?_ ?_
    rotate_left
    · intro w'
      go_simp
      with_reducible rfl
    rotate_left
    · simp only [Act.put, List.setIfInBounds_toArray, List.set_cons_zero, List.set_cons_succ, i64_w, i32_w]
      rfl
    refine done_ (done_of HT_.out (by kernel_rfl)) ?_
    try go_wp2
    go_meet
    case rel => exact ⟨_, ((t408 != t409)), (by first | rfl | (simp; done) | (simp [*]; done)), H', ⟨by first | omega | exact Nat.le_refl _⟩, ⟨by (with_reducible repeat (first | refine blk_drewN ?_ _ | refine blk_drew ?_ | refine blk_alloc ?_ _)); exact BK402.out⟩, ⟨by (with_reducible repeat (first | refine blk_drewN ?_ _ | refine blk_drew ?_ | refine blk_alloc ?_ _)); exact BK403.out⟩, ⟨by (with_reducible repeat (first | refine blk_drewN ?_ _ | refine blk_drew ?_ | refine blk_alloc ?_ _)); exact BK404.out⟩, ⟨by repeat (first | (with_reducible first | exact HB.out | apply below_alloc | apply pw_below_drewN | apply below_drew1 | refine below_set ?_ GE402.out | refine below_set ?_ GE403.out | refine below_set ?_ GE404.out) | exact HB.out)⟩⟩
  case rest =>
    clear HC5
    try clear c1
    try clear p2
    try clear c9
    try clear c10
    try clear c11
    try clear c13
    try clear c17
    obtain ⟨kq, x31_4, rfl, HA, HJ4, BK402, BK403, BK404, HB⟩ := hcut
    cases kq with
    | zero => exact absurd HA.out (by simp [underwoodlaw09_SpecCommutes.j0])
    | succ kj4 =>
      have H := HA.out
      clear HA
      simp only [underwoodlaw09_SpecCommutes.j0] at H
      by_cases c26 : x31_4 = true
      · subst c26
        have H1 : (if t405 = true then ((spec_Commute.f a1_0 a1_1 a1_2 a1_3 a2_0 a2_1 a2_2 a2_3).bind fun t410 => ((spec_Commute.f a2_0 a2_1 a2_2 a2_3 a1_0 a1_1 a1_2 a1_3).bind fun t411 => (some (t410 == t411)))) else (some false)) = some r := by rw [if_pos rfl] at H; exact H
        clear H
        have H := H1
        clear H1
        by_cases c27 : t405 = true
        rotate_left
        · replace c27 := Bool.eq_false_iff.mpr c27
          subst c27
          have H1 : (some false) = some r := by rw [if_neg (show ¬ (false = true) by decide)] at H; exact H
          clear H
          have H := H1
          clear H1
          exact absurd hr (by rw [← Option.some.inj H]; decide)
        subst c27
        have H1 : ((spec_Commute.f a1_0 a1_1 a1_2 a1_3 a2_0 a2_1 a2_2 a2_3).bind fun t410 => ((spec_Commute.f a2_0 a2_1 a2_2 a2_3 a1_0 a1_1 a1_2 a1_3).bind fun t411 => (some (t410 == t411)))) = some r := by rw [if_pos rfl] at H; exact H
        clear H
        have H := H1
        clear H1
        replace H := Option.bind_eq_some_iff.mp H
        obtain ⟨t410, A280, H⟩ := H
        replace H : ((spec_Commute.f a2_0 a2_1 a2_2 a2_3 a1_0 a1_1 a1_2 a1_3).bind fun t411 => (some (t410 == t411))) = some r := H
        have A28 := Aside0.mk A280
        clear A280
        replace H := Option.bind_eq_some_iff.mp H
        obtain ⟨t411, A290, H⟩ := H
        replace H : (some (t410 == t411)) = some r := H
        have A29 := Aside0.mk A290
        clear A290
        obtain rfl := Option.some.inj H
        try go_wp2
        have n1_ := Aside0.mk (blk_drew BK403.out)
        have n2_ := Aside0.mk (blk_drew BK404.out)
        have n3_ := Aside0.mk (below_drew1 HB.out)
        clear BK403 BK404 HB
        have BK403 := n1_
        have BK404 := n2_
        have HB := n3_
        clear n1_ n2_ n3_
        refine start_ (n := 11) (S := fun w' => w'.cell? ⟨gb403, 0, none⟩ = some (.int .i64 a1_0) ∧ w'.cell? ⟨gb403, 1, none⟩ = some (.int .i64 a1_1) ∧ w'.cell? ⟨gb403, 2, none⟩ = some (.int .i64 a1_2) ∧ w'.cell? ⟨gb403, 3, none⟩ = some (.int .i64 a1_3) ∧ w'.cell? ⟨gb404, 0, none⟩ = some (.int .i64 a2_0) ∧ w'.cell? ⟨gb404, 1, none⟩ = some (.int .i64 a2_1) ∧ w'.cell? ⟨gb404, 2, none⟩ = some (.int .i64 a2_2) ∧ w'.cell? ⟨gb404, 3, none⟩ = some (.int .i64 a2_3)) (ds := []) #[false, false, false, false, false, false, false, false, false, false, false] (by kernel_rfl) rfl rfl ⟨(blk_cell BK403.out 0).trans rfl, (blk_cell BK403.out 1).trans rfl, (blk_cell BK403.out 2).trans rfl, (blk_cell BK403.out 3).trans rfl, (blk_cell BK404.out 0).trans rfl, (blk_cell BK404.out 1).trans rfl, (blk_cell BK404.out 2).trans rfl, (blk_cell BK404.out 3).trans rfl⟩ (fun hHeld => ?_); refine with_tabW underwoodlaw09_SpecCommutes.tab3 underwoodlaw09_SpecCommutes.bits3 (fun HT_ HW_ => ?_)
        generalize wc.drew = w30 at BK403 BK404 HB hHeld ⊢
        refine pure_ (i := 0) (N := some 32) (v := ?_) (a' := ?_) #[true, false, false, false, false, false, false, false, false, false, false] rfl rfl (any_of HT_.out (by kernel_rfl)) (fun _ _ _ h => h) (Or.inl ⟨by rfl, ?_⟩) ?_ ?_
        rotate_left
        · intro w'
          go_simp
          with_reducible rfl
        rotate_left
        · simp only [Act.put, List.setIfInBounds_toArray, List.set_cons_zero, List.set_cons_succ, i64_w, i32_w]
          rfl
        refine pure_ (i := 1) (N := some 33) (v := ?_) (a' := ?_) #[true, true, false, false, false, false, false, false, false, false, false] rfl rfl (any_of HT_.out (by kernel_rfl)) (fun _ _ _ h => h) (Or.inl ⟨by rfl, ?_⟩) ?_ ?_
        rotate_left
        · intro w'
          go_simp
          with_reducible rfl
        rotate_left
        · simp only [Act.put, List.setIfInBounds_toArray, List.set_cons_zero, List.set_cons_succ, i64_w, i32_w]
          rfl
        refine take_ (i := 2) (N := some 34) (v := ?_) (a' := ?_) #[true, true, true, false, false, false, false, false, false, false, false] rfl rfl (take_ofW HT_.out HW_.out (by kernel_rfl)) (fun _ _ _ h => h) (Or.inl ⟨by rfl, ?_⟩) hHeld ?_ ?_
        rotate_left
        · rintro w' ⟨s0, s1, s2, s3, s4, s5, s6, s7⟩
          go_simp
          with_reducible rfl
        rotate_left
        · simp only [Act.put, List.setIfInBounds_toArray, List.set_cons_zero, List.set_cons_succ, i64_w, i32_w]
          rfl
        refine take_ (i := 3) (N := some 35) (v := ?_) (a' := ?_) #[true, true, true, true, false, false, false, false, false, false, false] rfl rfl (take_ofW HT_.out HW_.out (by kernel_rfl)) (fun _ _ _ h => h) (Or.inl ⟨by rfl, ?_⟩) hHeld ?_ ?_
        rotate_left
        · rintro w' ⟨s0, s1, s2, s3, s4, s5, s6, s7⟩
          go_simp
          with_reducible rfl
        rotate_left
        · simp only [Act.put, List.setIfInBounds_toArray, List.set_cons_zero, List.set_cons_succ, i64_w, i32_w]
          rfl
        refine take_ (i := 5) (N := some 37) (v := ?_) (a' := ?_) #[true, true, true, true, false, true, false, false, false, false, false] rfl rfl (take_ofW HT_.out HW_.out (by kernel_rfl)) (fun _ _ _ h => h) (Or.inl ⟨by rfl, ?_⟩) hHeld ?_ ?_
        rotate_left
        · rintro w' ⟨s0, s1, s2, s3, s4, s5, s6, s7⟩
          go_simp
          with_reducible rfl
        rotate_left
        · simp only [Act.put, List.setIfInBounds_toArray, List.set_cons_zero, List.set_cons_succ, i64_w, i32_w]
          rfl
        refine take_ (i := 6) (N := some 38) (v := ?_) (a' := ?_) #[true, true, true, true, false, true, true, false, false, false, false] rfl rfl (take_ofW HT_.out HW_.out (by kernel_rfl)) (fun _ _ _ h => h) (Or.inl ⟨by rfl, ?_⟩) hHeld ?_ ?_
        rotate_left
        · rintro w' ⟨s0, s1, s2, s3, s4, s5, s6, s7⟩
          go_simp
          with_reducible rfl
        rotate_left
        · simp only [Act.put, List.setIfInBounds_toArray, List.set_cons_zero, List.set_cons_succ, i64_w, i32_w]
          rfl
        refine one_ (i := 4) (N := some 36) #[true, true, true, true, true, true, true, false, false, false, false] rfl rfl (one_of HT_.out (by kernel_rfl)) (by decide) (fun K hK => ?_)
        refine goes_ Try.func17 (by kernel_rfl) rfl #[.agg #[.int .i64 a1_0, .int .i64 a1_1, .int .i64 a1_2, .int .i64 a1_3], .agg #[.int .i64 a2_0, .int .i64 a2_1, .int .i64 a2_2, .int .i64 a2_3]] (by rfl) rfl rfl (by (try simp only [List.map_toArray, List.map_cons, List.map_nil]); first | done | rfl | (simp only [List.length_drop, List.length_take]; rfl)) ?_
        with_reducible refine (spec_Commute.calls a1_0 a1_1 a1_2 a1_3 a2_0 a2_1 a2_2 a2_3 t410 _ A28.out).mono ?_
        rintro e w31 ⟨rfl, hb⟩
        refine ⟨_, rfl, ?_⟩
        have n1_ := Aside0.mk (blk_below (g := gb403) (o := .cells #[.int .i64 a1_0, .int .i64 a1_1, .int .i64 a1_2, .int .i64 a1_3] 26 (0, 0)) (by (with_reducible repeat (first | refine blk_drewN ?_ _ | refine blk_drew ?_ | refine blk_alloc ?_ _)); exact BK403.out) hb)
        have n2_ := Aside0.mk (blk_below (g := gb404) (o := .cells #[.int .i64 a2_0, .int .i64 a2_1, .int .i64 a2_2, .int .i64 a2_3] 26 (0, 0)) (by (with_reducible repeat (first | refine blk_drewN ?_ _ | refine blk_drew ?_ | refine blk_alloc ?_ _)); exact BK404.out) hb)
        have n3_ := Aside0.mk (below_step (by repeat (first | (with_reducible first | exact HB.out | apply below_alloc | apply pw_below_drewN | apply below_drew1 | refine below_set ?_ GE402.out | refine below_set ?_ GE403.out | refine below_set ?_ GE404.out) | exact HB.out)) hb)
        clear BK403 BK404 HB
        have BK403 := n1_
        have BK404 := n2_
        have HB := n3_
        clear n1_ n2_ n3_
        (try clear hb)
        (try clear hb2)
        (try clear hk)
        (try clear hi)
        refine hK.out _ _ ⟨(blk_cell BK403.out 0).trans rfl, (blk_cell BK403.out 1).trans rfl, (blk_cell BK403.out 2).trans rfl, (blk_cell BK403.out 3).trans rfl, (blk_cell BK404.out 0).trans rfl, (blk_cell BK404.out 1).trans rfl, (blk_cell BK404.out 2).trans rfl, (blk_cell BK404.out 3).trans rfl⟩ (fun hHeld => ?_)
        clear hK K
        refine norm_ (a' := ?_) ?_ ?_
        rotate_left
        · show Act.put _ (some 36) _ = _
          simp only [Act.put, List.setIfInBounds_toArray, List.set_cons_zero, List.set_cons_succ, i64_w, i32_w]
          rfl
        refine one_ (i := 7) (N := some 39) #[true, true, true, true, true, true, true, true, false, false, false] rfl rfl (one_of HT_.out (by kernel_rfl)) (by decide) (fun K hK => ?_)
        refine goes_ Try.func17 (by kernel_rfl) rfl #[.agg #[.int .i64 a2_0, .int .i64 a2_1, .int .i64 a2_2, .int .i64 a2_3], .agg #[.int .i64 a1_0, .int .i64 a1_1, .int .i64 a1_2, .int .i64 a1_3]] (by rfl) rfl rfl (by (try simp only [List.map_toArray, List.map_cons, List.map_nil]); first | done | rfl | (simp only [List.length_drop, List.length_take]; rfl)) ?_
        with_reducible refine (spec_Commute.calls a2_0 a2_1 a2_2 a2_3 a1_0 a1_1 a1_2 a1_3 t411 _ A29.out).mono ?_
        rintro e w32 ⟨rfl, hb⟩
        refine ⟨_, rfl, ?_⟩
        have n1_ := Aside0.mk (blk_below (g := gb403) (o := .cells #[.int .i64 a1_0, .int .i64 a1_1, .int .i64 a1_2, .int .i64 a1_3] 26 (0, 0)) (by (with_reducible repeat (first | refine blk_drewN ?_ _ | refine blk_drew ?_ | refine blk_alloc ?_ _)); exact BK403.out) hb)
        have n2_ := Aside0.mk (blk_below (g := gb404) (o := .cells #[.int .i64 a2_0, .int .i64 a2_1, .int .i64 a2_2, .int .i64 a2_3] 26 (0, 0)) (by (with_reducible repeat (first | refine blk_drewN ?_ _ | refine blk_drew ?_ | refine blk_alloc ?_ _)); exact BK404.out) hb)
        have n3_ := Aside0.mk (below_step (by repeat (first | (with_reducible first | exact HB.out | apply below_alloc | apply pw_below_drewN | apply below_drew1 | refine below_set ?_ GE402.out | refine below_set ?_ GE403.out | refine below_set ?_ GE404.out) | exact HB.out)) hb)
        clear BK403 BK404 HB
        have BK403 := n1_
        have BK404 := n2_
        have HB := n3_
        clear n1_ n2_ n3_
        (try clear hb)
        (try clear hb2)
        (try clear hk)
        (try clear hi)
        refine hK.out _ _ ⟨(blk_cell BK403.out 0).trans rfl, (blk_cell BK403.out 1).trans rfl, (blk_cell BK403.out 2).trans rfl, (blk_cell BK403.out 3).trans rfl, (blk_cell BK404.out 0).trans rfl, (blk_cell BK404.out 1).trans rfl, (blk_cell BK404.out 2).trans rfl, (blk_cell BK404.out 3).trans rfl⟩ (fun hHeld => ?_)
        clear hK K
        refine norm_ (a' := ?_) ?_ ?_
        rotate_left
        · show Act.put _ (some 39) _ = _
          simp only [Act.put, List.setIfInBounds_toArray, List.set_cons_zero, List.set_cons_succ, i64_w, i32_w]
          rfl
        refine pure_ (i := 8) (N := some 40) (v := ?_) (a' := ?_) #[true, true, true, true, true, true, true, true, true, false, false] rfl rfl (any_of HT_.out (by kernel_rfl)) (fun _ _ _ h => h) (Or.inl ⟨by rfl, ?_⟩) ?_ ?_
        rotate_left
        · intro w'
          go_simp
          with_reducible rfl
        rotate_left
        · simp only [Act.put, List.setIfInBounds_toArray, List.set_cons_zero, List.set_cons_succ, i64_w, i32_w]
          rfl
        refine pure_ (i := 9) (N := some 41) (v := ?_) (a' := ?_) #[true, true, true, true, true, true, true, true, true, true, false] rfl rfl (any_of HT_.out (by kernel_rfl)) (fun _ _ _ h => h) (Or.inl ⟨by rfl, ?_⟩) ?_ ?_
        rotate_left
        · intro w'
          go_simp
          with_reducible rfl
        rotate_left
        · simp only [Act.put, List.setIfInBounds_toArray, List.set_cons_zero, List.set_cons_succ, i64_w, i32_w]
          rfl
        refine pure_ (i := 10) (N := some 6) (v := ?_) (a' := ?_) #[true, true, true, true, true, true, true, true, true, true, true] rfl rfl (any_of HT_.out (by kernel_rfl)) (fun _ _ _ h => h) (Or.inl ⟨by rfl, ?_⟩) ?_ ?_
        rotate_left
        · intro w'
          go_simp
          with_reducible rfl
        rotate_left
        · simp only [Act.put, List.setIfInBounds_toArray, List.set_cons_zero, List.set_cons_succ, i64_w, i32_w]
          rfl
        refine done_ (done_of HT_.out (by kernel_rfl)) ?_
        try go_wp2
        go_ret
        exact ⟨by first | rfl | (simp [errW_none, errW_some] <;> rfl) | (simp [*, errW_none, errW_some] <;> rfl), by repeat (first | (with_reducible first | exact HB.out | apply below_alloc | apply pw_below_drewN | apply below_drew1 | refine below_set ?_ GE402.out | refine below_set ?_ GE403.out | refine below_set ?_ GE404.out) | exact HB.out)⟩
      replace c26 := Bool.eq_false_iff.mpr c26
      subst c26
      have H1 : ((spec_Commute.f a1_0 a1_1 a1_2 a1_3 a2_0 a2_1 a2_2 a2_3).bind fun t412 => (if t412 = true then ((spec_All.f kj4 a0_0 l0_1 l0_2 (([(⟨a1_0, a1_1, a1_2, a1_3⟩ : S26), (⟨a2_0, a2_1, a2_2, a2_3⟩ : S26)] : List (S26)))).bind fun bt418 => ((spec_All.f kj4 a0_0 l0_1 l0_2 (([(⟨a2_0, a2_1, a2_2, a2_3⟩ : S26), (⟨a1_0, a1_1, a1_2, a1_3⟩ : S26)] : List (S26)))).bind fun bt435 => (if (bt418.2.2.2.1.length : Int) = 2 then (if (bt435.2.2.2.1.length : Int) = 2 then (if (bt418.2.2.2.2.length : Int) = 2 then (if (bt435.2.2.2.2.length : Int) = 2 then (if t405 = true then ((underwoodref09_Same.f kj4 bt418.1 bt418.2.1 bt418.2.2.1 bt435.1 bt435.2.1 bt435.2.2.1).bind fun t449 => (if t449 = true then (if 0 < (bt418.2.2.2.1.length : Int) then (if 1 < (bt435.2.2.2.1.length : Int) then (if (rd bt418.2.2.2.1 0) = (rd bt435.2.2.2.1 1) then (if 1 < (bt418.2.2.2.1.length : Int) then (if 0 < (bt435.2.2.2.1.length : Int) then (if (rd bt418.2.2.2.1 1) = (rd bt435.2.2.2.1 0) then (if 0 < (bt418.2.2.2.2.length : Int) then (if 1 < (bt435.2.2.2.2.length : Int) then (if ((rdOf false bt418.2.2.2.2 0) == (rdOf false bt435.2.2.2.2 1)) = true then (if 1 < (bt418.2.2.2.2.length : Int) then (if 0 < (bt435.2.2.2.2.length : Int) then (some ((rdOf false bt418.2.2.2.2 1) == (rdOf false bt435.2.2.2.2 0))) else (none)) else (none)) else (some false)) else (none)) else (none)) else (some false)) else (none)) else (none)) else (some false)) else (none)) else (none)) else (some false))) else (some false)) else (some false)) else (some false)) else (some false)) else (some false)))) else (if t405 = true then ((spec_Of.f a1_0).bind fun t413 => ((spec_Of.f a2_0).bind fun t414 => (some (t413 == t414)))) else (some false)))) = some r := by rw [if_neg (show ¬ (false = true) by decide)] at H; exact H
      clear H
      have H := H1
      clear H1
      replace H := Option.bind_eq_some_iff.mp H
      obtain ⟨t412, A330, H⟩ := H
      replace H : (if t412 = true then ((spec_All.f kj4 a0_0 l0_1 l0_2 (([(⟨a1_0, a1_1, a1_2, a1_3⟩ : S26), (⟨a2_0, a2_1, a2_2, a2_3⟩ : S26)] : List (S26)))).bind fun bt418 => ((spec_All.f kj4 a0_0 l0_1 l0_2 (([(⟨a2_0, a2_1, a2_2, a2_3⟩ : S26), (⟨a1_0, a1_1, a1_2, a1_3⟩ : S26)] : List (S26)))).bind fun bt435 => (if (bt418.2.2.2.1.length : Int) = 2 then (if (bt435.2.2.2.1.length : Int) = 2 then (if (bt418.2.2.2.2.length : Int) = 2 then (if (bt435.2.2.2.2.length : Int) = 2 then (if t405 = true then ((underwoodref09_Same.f kj4 bt418.1 bt418.2.1 bt418.2.2.1 bt435.1 bt435.2.1 bt435.2.2.1).bind fun t449 => (if t449 = true then (if 0 < (bt418.2.2.2.1.length : Int) then (if 1 < (bt435.2.2.2.1.length : Int) then (if (rd bt418.2.2.2.1 0) = (rd bt435.2.2.2.1 1) then (if 1 < (bt418.2.2.2.1.length : Int) then (if 0 < (bt435.2.2.2.1.length : Int) then (if (rd bt418.2.2.2.1 1) = (rd bt435.2.2.2.1 0) then (if 0 < (bt418.2.2.2.2.length : Int) then (if 1 < (bt435.2.2.2.2.length : Int) then (if ((rdOf false bt418.2.2.2.2 0) == (rdOf false bt435.2.2.2.2 1)) = true then (if 1 < (bt418.2.2.2.2.length : Int) then (if 0 < (bt435.2.2.2.2.length : Int) then (some ((rdOf false bt418.2.2.2.2 1) == (rdOf false bt435.2.2.2.2 0))) else (none)) else (none)) else (some false)) else (none)) else (none)) else (some false)) else (none)) else (none)) else (some false)) else (none)) else (none)) else (some false))) else (some false)) else (some false)) else (some false)) else (some false)) else (some false)))) else (if t405 = true then ((spec_Of.f a1_0).bind fun t413 => ((spec_Of.f a2_0).bind fun t414 => (some (t413 == t414)))) else (some false))) = some r := H
      have A33 := Aside0.mk A330
      clear A330
      by_cases c34 : t412 = true
      rotate_left
      · replace c34 := Bool.eq_false_iff.mpr c34
        subst c34
        have H1 : (if t405 = true then ((spec_Of.f a1_0).bind fun t413 => ((spec_Of.f a2_0).bind fun t414 => (some (t413 == t414)))) else (some false)) = some r := by rw [if_neg (show ¬ (false = true) by decide)] at H; exact H
        clear H
        have H := H1
        clear H1
        by_cases c97 : t405 = true
        rotate_left
        · replace c97 := Bool.eq_false_iff.mpr c97
          subst c97
          have H1 : (some false) = some r := by rw [if_neg (show ¬ (false = true) by decide)] at H; exact H
          clear H
          have H := H1
          clear H1
          exact absurd hr (by rw [← Option.some.inj H]; decide)
        subst c97
        have H1 : ((spec_Of.f a1_0).bind fun t413 => ((spec_Of.f a2_0).bind fun t414 => (some (t413 == t414)))) = some r := by rw [if_pos rfl] at H; exact H
        clear H
        have H := H1
        clear H1
        replace H := Option.bind_eq_some_iff.mp H
        obtain ⟨t413, A980, H⟩ := H
        replace H : ((spec_Of.f a2_0).bind fun t414 => (some (t413 == t414))) = some r := H
        have A98 := Aside0.mk A980
        clear A980
        replace H := Option.bind_eq_some_iff.mp H
        obtain ⟨t414, A990, H⟩ := H
        replace H : (some (t413 == t414)) = some r := H
        have A99 := Aside0.mk A990
        clear A990
        obtain rfl := Option.some.inj H
        have hnb100 := NB403_402.out
        have hnc100 := NB402_403.out
        have hnb101 := NB403_404.out
        have hnc101 := NB404_403.out
        have hcz102_0 : wc.cell? ⟨gb403, 0, none⟩ = some (.int .i64 a1_0) := (blk_cell BK403.out 0).trans rfl
        have hcz102_1 : wc.cell? ⟨gb403, 1, none⟩ = some (.int .i64 a1_1) := (blk_cell BK403.out 1).trans rfl
        have hcz102_2 : wc.cell? ⟨gb403, 2, none⟩ = some (.int .i64 a1_2) := (blk_cell BK403.out 2).trans rfl
        have hcz102_3 : wc.cell? ⟨gb403, 3, none⟩ = some (.int .i64 a1_3) := (blk_cell BK403.out 3).trans rfl
        have hfz102_0 := blk_frozen BK403.out 0
        have hfz102_1 := blk_frozen BK403.out 1
        have hfz102_2 := blk_frozen BK403.out 2
        have hfz102_3 := blk_frozen BK403.out 3
        have hnb103 := NB404_402.out
        have hnc103 := NB402_404.out
        have hcz104_0 : wc.cell? ⟨gb404, 0, none⟩ = some (.int .i64 a2_0) := (blk_cell BK404.out 0).trans rfl
        have hcz104_1 : wc.cell? ⟨gb404, 1, none⟩ = some (.int .i64 a2_1) := (blk_cell BK404.out 1).trans rfl
        have hcz104_2 : wc.cell? ⟨gb404, 2, none⟩ = some (.int .i64 a2_2) := (blk_cell BK404.out 2).trans rfl
        have hcz104_3 : wc.cell? ⟨gb404, 3, none⟩ = some (.int .i64 a2_3) := (blk_cell BK404.out 3).trans rfl
        have hfz104_0 := blk_frozen BK404.out 0
        have hfz104_1 := blk_frozen BK404.out 1
        have hfz104_2 := blk_frozen BK404.out 2
        have hfz104_3 := blk_frozen BK404.out 3
        try go_wp2_with (first | ((with_reducible refine gate_callee (f := 17) rfl ?_); refine goesL_ (some 44) rfl rfl Try.func17 (by kernel_rfl) rfl #[.agg #[.int .i64 a1_0, .int .i64 a1_1, .int .i64 a1_2, .int .i64 a1_3], .agg #[.int .i64 a2_0, .int .i64 a2_1, .int .i64 a2_2, .int .i64 a2_3]] rfl (by (try simp only [List.map_toArray, List.map_cons, List.map_nil]); first | done | rfl | (simp only [List.length_drop, List.length_take]; rfl)) ?_; (with_reducible refine (spec_Commute.calls a1_0 a1_1 a1_2 a1_3 a2_0 a2_1 a2_2 a2_3 false _ A33.out).mono ?_); rintro e w105 ⟨rfl, hb⟩; refine ⟨_, rfl, ?_⟩; have n1_ := Aside0.mk (blk_below (g := gb403) (o := .cells #[.int .i64 a1_0, .int .i64 a1_1, .int .i64 a1_2, .int .i64 a1_3] 26 (0, 0)) (by (with_reducible repeat (first | refine blk_drewN ?_ _ | refine blk_drew ?_ | refine blk_alloc ?_ _)); exact BK403.out) hb); have n2_ := Aside0.mk (blk_below (g := gb404) (o := .cells #[.int .i64 a2_0, .int .i64 a2_1, .int .i64 a2_2, .int .i64 a2_3] 26 (0, 0)) (by (with_reducible repeat (first | refine blk_drewN ?_ _ | refine blk_drew ?_ | refine blk_alloc ?_ _)); exact BK404.out) hb); have n3_ := Aside0.mk (below_step (by repeat (first | (with_reducible first | exact HB.out | apply below_alloc | apply pw_below_drewN | apply below_drew1 | refine below_set ?_ GE402.out | refine below_set ?_ GE403.out | refine below_set ?_ GE404.out) | exact HB.out)) hb); clear BK403; clear BK404; clear HB; have BK403 := n1_; have BK404 := n2_; have HB := n3_; clear n1_ n2_ n3_; (try clear hb); (try clear hb2); (try clear hk); (try clear hi)))
        have n1_ := Aside0.mk (blk_drew BK403.out)
        have n2_ := Aside0.mk (blk_drew BK404.out)
        have n3_ := Aside0.mk (below_drew1 HB.out)
        clear BK403 BK404 HB
        have BK403 := n1_
        have BK404 := n2_
        have HB := n3_
        clear n1_ n2_ n3_
        refine start_ (n := 11) (S := fun w' => w'.cell? ⟨gb403, 0, none⟩ = some (.int .i64 a1_0) ∧ w'.cell? ⟨gb403, 1, none⟩ = some (.int .i64 a1_1) ∧ w'.cell? ⟨gb403, 2, none⟩ = some (.int .i64 a1_2) ∧ w'.cell? ⟨gb403, 3, none⟩ = some (.int .i64 a1_3) ∧ w'.cell? ⟨gb404, 0, none⟩ = some (.int .i64 a2_0) ∧ w'.cell? ⟨gb404, 1, none⟩ = some (.int .i64 a2_1) ∧ w'.cell? ⟨gb404, 2, none⟩ = some (.int .i64 a2_2) ∧ w'.cell? ⟨gb404, 3, none⟩ = some (.int .i64 a2_3)) (ds := []) #[false, false, false, false, false, false, false, false, false, false, false] (by kernel_rfl) rfl rfl ⟨(blk_cell BK403.out 0).trans rfl, (blk_cell BK403.out 1).trans rfl, (blk_cell BK403.out 2).trans rfl, (blk_cell BK403.out 3).trans rfl, (blk_cell BK404.out 0).trans rfl, (blk_cell BK404.out 1).trans rfl, (blk_cell BK404.out 2).trans rfl, (blk_cell BK404.out 3).trans rfl⟩ (fun hHeld => ?_); refine with_tabW underwoodlaw09_SpecCommutes.tab5 underwoodlaw09_SpecCommutes.bits5 (fun HT_ HW_ => ?_)
        generalize w105.drew = w106 at BK403 BK404 HB hHeld ⊢
        refine pure_ (i := 0) (N := some 46) (v := ?_) (a' := ?_) #[true, false, false, false, false, false, false, false, false, false, false] rfl rfl (any_of HT_.out (by kernel_rfl)) (fun _ _ _ h => h) (Or.inl ⟨by rfl, ?_⟩) ?_ ?_
        rotate_left
        · intro w'
          go_simp
          with_reducible rfl
        rotate_left
        · simp only [Act.put, List.setIfInBounds_toArray, List.set_cons_zero, List.set_cons_succ, i64_w, i32_w]
          rfl
        refine pure_ (i := 1) (N := some 47) (v := ?_) (a' := ?_) #[true, true, false, false, false, false, false, false, false, false, false] rfl rfl (any_of HT_.out (by kernel_rfl)) (fun _ _ _ h => h) (Or.inl ⟨by rfl, ?_⟩) ?_ ?_
        rotate_left
        · intro w'
          go_simp
          with_reducible rfl
        rotate_left
        · simp only [Act.put, List.setIfInBounds_toArray, List.set_cons_zero, List.set_cons_succ, i64_w, i32_w]
          rfl
        refine pure_ (i := 2) (N := some 48) (v := ?_) (a' := ?_) #[true, true, true, false, false, false, false, false, false, false, false] rfl rfl (any_of HT_.out (by kernel_rfl)) (fun _ _ _ h => h) (Or.inl ⟨by rfl, ?_⟩) ?_ ?_
        rotate_left
        · intro w'
          go_simp
          with_reducible rfl
        rotate_left
        · simp only [Act.put, List.setIfInBounds_toArray, List.set_cons_zero, List.set_cons_succ, i64_w, i32_w]
          rfl
        refine pure_ (i := 5) (N := some 51) (v := ?_) (a' := ?_) #[true, true, true, false, false, true, false, false, false, false, false] rfl rfl (any_of HT_.out (by kernel_rfl)) (fun _ _ _ h => h) (Or.inl ⟨by rfl, ?_⟩) ?_ ?_
        rotate_left
        · intro w'
          go_simp
          with_reducible rfl
        rotate_left
        · simp only [Act.put, List.setIfInBounds_toArray, List.set_cons_zero, List.set_cons_succ, i64_w, i32_w]
          rfl
        refine take_ (i := 3) (N := some 49) (v := ?_) (a' := ?_) #[true, true, true, true, false, true, false, false, false, false, false] rfl rfl (take_ofW HT_.out HW_.out (by kernel_rfl)) (fun _ _ _ h => h) (Or.inl ⟨by rfl, ?_⟩) hHeld ?_ ?_
        rotate_left
        · rintro w' ⟨s0, s1, s2, s3, s4, s5, s6, s7⟩
          go_simp
          with_reducible rfl
        rotate_left
        · simp only [Act.put, List.setIfInBounds_toArray, List.set_cons_zero, List.set_cons_succ, i64_w, i32_w]
          rfl
        refine take_ (i := 6) (N := some 52) (v := ?_) (a' := ?_) #[true, true, true, true, false, true, true, false, false, false, false] rfl rfl (take_ofW HT_.out HW_.out (by kernel_rfl)) (fun _ _ _ h => h) (Or.inl ⟨by rfl, ?_⟩) hHeld ?_ ?_
        rotate_left
        · rintro w' ⟨s0, s1, s2, s3, s4, s5, s6, s7⟩
          go_simp
          with_reducible rfl
        rotate_left
        · simp only [Act.put, List.setIfInBounds_toArray, List.set_cons_zero, List.set_cons_succ, i64_w, i32_w]
          rfl
        refine one_ (i := 4) (N := some 50) #[true, true, true, true, true, true, true, false, false, false, false] rfl rfl (one_of HT_.out (by kernel_rfl)) (by decide) (fun K hK => ?_)
        refine goes_ Try.func18 (by kernel_rfl) rfl #[.int .i64 a1_0] (by rfl) rfl rfl (by (try simp only [List.map_toArray, List.map_cons, List.map_nil]); first | done | rfl | (simp only [List.length_drop, List.length_take]; rfl)) ?_
        with_reducible refine (spec_Of.calls a1_0 t413 _ A98.out).mono ?_
        rintro e w107 ⟨rfl, hb⟩
        refine ⟨_, rfl, ?_⟩
        have n1_ := Aside0.mk (blk_below (g := gb403) (o := .cells #[.int .i64 a1_0, .int .i64 a1_1, .int .i64 a1_2, .int .i64 a1_3] 26 (0, 0)) (by (with_reducible repeat (first | refine blk_drewN ?_ _ | refine blk_drew ?_ | refine blk_alloc ?_ _)); exact BK403.out) hb)
        have n2_ := Aside0.mk (blk_below (g := gb404) (o := .cells #[.int .i64 a2_0, .int .i64 a2_1, .int .i64 a2_2, .int .i64 a2_3] 26 (0, 0)) (by (with_reducible repeat (first | refine blk_drewN ?_ _ | refine blk_drew ?_ | refine blk_alloc ?_ _)); exact BK404.out) hb)
        have n3_ := Aside0.mk (below_step (by repeat (first | (with_reducible first | exact HB.out | apply below_alloc | apply pw_below_drewN | apply below_drew1 | refine below_set ?_ GE402.out | refine below_set ?_ GE403.out | refine below_set ?_ GE404.out) | exact HB.out)) hb)
        clear BK403 BK404 HB
        have BK403 := n1_
        have BK404 := n2_
        have HB := n3_
        clear n1_ n2_ n3_
        (try clear hb)
        (try clear hb2)
        (try clear hk)
        (try clear hi)
        refine hK.out _ _ ⟨(blk_cell BK403.out 0).trans rfl, (blk_cell BK403.out 1).trans rfl, (blk_cell BK403.out 2).trans rfl, (blk_cell BK403.out 3).trans rfl, (blk_cell BK404.out 0).trans rfl, (blk_cell BK404.out 1).trans rfl, (blk_cell BK404.out 2).trans rfl, (blk_cell BK404.out 3).trans rfl⟩ (fun hHeld => ?_)
        clear hK K
        refine norm_ (a' := ?_) ?_ ?_
        rotate_left
        · show Act.put _ (some 50) _ = _
          simp only [Act.put, List.setIfInBounds_toArray, List.set_cons_zero, List.set_cons_succ, i64_w, i32_w]
          rfl
        refine one_ (i := 7) (N := some 53) #[true, true, true, true, true, true, true, true, false, false, false] rfl rfl (one_of HT_.out (by kernel_rfl)) (by decide) (fun K hK => ?_)
        refine goes_ Try.func18 (by kernel_rfl) rfl #[.int .i64 a2_0] (by rfl) rfl rfl (by (try simp only [List.map_toArray, List.map_cons, List.map_nil]); first | done | rfl | (simp only [List.length_drop, List.length_take]; rfl)) ?_
        with_reducible refine (spec_Of.calls a2_0 t414 _ A99.out).mono ?_
        rintro e w108 ⟨rfl, hb⟩
        refine ⟨_, rfl, ?_⟩
        have n1_ := Aside0.mk (blk_below (g := gb403) (o := .cells #[.int .i64 a1_0, .int .i64 a1_1, .int .i64 a1_2, .int .i64 a1_3] 26 (0, 0)) (by (with_reducible repeat (first | refine blk_drewN ?_ _ | refine blk_drew ?_ | refine blk_alloc ?_ _)); exact BK403.out) hb)
        have n2_ := Aside0.mk (blk_below (g := gb404) (o := .cells #[.int .i64 a2_0, .int .i64 a2_1, .int .i64 a2_2, .int .i64 a2_3] 26 (0, 0)) (by (with_reducible repeat (first | refine blk_drewN ?_ _ | refine blk_drew ?_ | refine blk_alloc ?_ _)); exact BK404.out) hb)
        have n3_ := Aside0.mk (below_step (by repeat (first | (with_reducible first | exact HB.out | apply below_alloc | apply pw_below_drewN | apply below_drew1 | refine below_set ?_ GE402.out | refine below_set ?_ GE403.out | refine below_set ?_ GE404.out) | exact HB.out)) hb)
        clear BK403 BK404 HB
        have BK403 := n1_
        have BK404 := n2_
        have HB := n3_
        clear n1_ n2_ n3_
        (try clear hb)
        (try clear hb2)
        (try clear hk)
        (try clear hi)
        refine hK.out _ _ ⟨(blk_cell BK403.out 0).trans rfl, (blk_cell BK403.out 1).trans rfl, (blk_cell BK403.out 2).trans rfl, (blk_cell BK403.out 3).trans rfl, (blk_cell BK404.out 0).trans rfl, (blk_cell BK404.out 1).trans rfl, (blk_cell BK404.out 2).trans rfl, (blk_cell BK404.out 3).trans rfl⟩ (fun hHeld => ?_)
        clear hK K
        refine norm_ (a' := ?_) ?_ ?_
        rotate_left
        · show Act.put _ (some 53) _ = _
          simp only [Act.put, List.setIfInBounds_toArray, List.set_cons_zero, List.set_cons_succ, i64_w, i32_w]
          rfl
        refine pure_ (i := 8) (N := some 54) (v := ?_) (a' := ?_) #[true, true, true, true, true, true, true, true, true, false, false] rfl rfl (any_of HT_.out (by kernel_rfl)) (fun _ _ _ h => h) (Or.inl ⟨by rfl, ?_⟩) ?_ ?_
        rotate_left
        · intro w'
          go_simp
          with_reducible rfl
        rotate_left
        · simp only [Act.put, List.setIfInBounds_toArray, List.set_cons_zero, List.set_cons_succ, i64_w, i32_w]
          rfl
        refine pure_ (i := 9) (N := some 55) (v := ?_) (a' := ?_) #[true, true, true, true, true, true, true, true, true, true, false] rfl rfl (any_of HT_.out (by kernel_rfl)) (fun _ _ _ h => h) (Or.inl ⟨by rfl, ?_⟩) ?_ ?_
        rotate_left
        · intro w'
          go_simp
          with_reducible rfl
        rotate_left
        · simp only [Act.put, List.setIfInBounds_toArray, List.set_cons_zero, List.set_cons_succ, i64_w, i32_w]
          rfl
        refine pure_ (i := 10) (N := some 6) (v := ?_) (a' := ?_) #[true, true, true, true, true, true, true, true, true, true, true] rfl rfl (any_of HT_.out (by kernel_rfl)) (fun _ _ _ h => h) (Or.inl ⟨by rfl, ?_⟩) ?_ ?_
        rotate_left
        · intro w'
          go_simp
          with_reducible rfl
        rotate_left
        · simp only [Act.put, List.setIfInBounds_toArray, List.set_cons_zero, List.set_cons_succ, i64_w, i32_w]
          rfl
        refine done_ (done_of HT_.out (by kernel_rfl)) ?_
        try go_wp2
        go_ret
        exact ⟨by first | rfl | (simp [errW_none, errW_some] <;> rfl) | (simp [*, errW_none, errW_some] <;> rfl), by repeat (first | (with_reducible first | exact HB.out | apply below_alloc | apply pw_below_drewN | apply below_drew1 | refine below_set ?_ GE402.out | refine below_set ?_ GE403.out | refine below_set ?_ GE404.out) | exact HB.out)⟩
      subst c34
      have H1 : ((spec_All.f kj4 a0_0 l0_1 l0_2 (([(⟨a1_0, a1_1, a1_2, a1_3⟩ : S26), (⟨a2_0, a2_1, a2_2, a2_3⟩ : S26)] : List (S26)))).bind fun bt418 => ((spec_All.f kj4 a0_0 l0_1 l0_2 (([(⟨a2_0, a2_1, a2_2, a2_3⟩ : S26), (⟨a1_0, a1_1, a1_2, a1_3⟩ : S26)] : List (S26)))).bind fun bt435 => (if (bt418.2.2.2.1.length : Int) = 2 then (if (bt435.2.2.2.1.length : Int) = 2 then (if (bt418.2.2.2.2.length : Int) = 2 then (if (bt435.2.2.2.2.length : Int) = 2 then (if t405 = true then ((underwoodref09_Same.f kj4 bt418.1 bt418.2.1 bt418.2.2.1 bt435.1 bt435.2.1 bt435.2.2.1).bind fun t449 => (if t449 = true then (if 0 < (bt418.2.2.2.1.length : Int) then (if 1 < (bt435.2.2.2.1.length : Int) then (if (rd bt418.2.2.2.1 0) = (rd bt435.2.2.2.1 1) then (if 1 < (bt418.2.2.2.1.length : Int) then (if 0 < (bt435.2.2.2.1.length : Int) then (if (rd bt418.2.2.2.1 1) = (rd bt435.2.2.2.1 0) then (if 0 < (bt418.2.2.2.2.length : Int) then (if 1 < (bt435.2.2.2.2.length : Int) then (if ((rdOf false bt418.2.2.2.2 0) == (rdOf false bt435.2.2.2.2 1)) = true then (if 1 < (bt418.2.2.2.2.length : Int) then (if 0 < (bt435.2.2.2.2.length : Int) then (some ((rdOf false bt418.2.2.2.2 1) == (rdOf false bt435.2.2.2.2 0))) else (none)) else (none)) else (some false)) else (none)) else (none)) else (some false)) else (none)) else (none)) else (some false)) else (none)) else (none)) else (some false))) else (some false)) else (some false)) else (some false)) else (some false)) else (some false)))) = some r := by rw [if_pos rfl] at H; exact H
      clear H
      have H := H1
      clear H1
      obtain ⟨y415, hy415⟩ : ∃ y_ : List (S26), y_ = (([(⟨a1_0, a1_1, a1_2, a1_3⟩ : S26), (⟨a2_0, a2_1, a2_2, a2_3⟩ : S26)] : List (S26))) := ⟨_, rfl⟩
      replace H : ((spec_All.f kj4 a0_0 l0_1 l0_2 y415).bind fun bt418 => ((spec_All.f kj4 a0_0 l0_1 l0_2 (([(⟨a2_0, a2_1, a2_2, a2_3⟩ : S26), (⟨a1_0, a1_1, a1_2, a1_3⟩ : S26)] : List (S26)))).bind fun bt435 => (if (bt418.2.2.2.1.length : Int) = 2 then (if (bt435.2.2.2.1.length : Int) = 2 then (if (bt418.2.2.2.2.length : Int) = 2 then (if (bt435.2.2.2.2.length : Int) = 2 then (if t405 = true then ((underwoodref09_Same.f kj4 bt418.1 bt418.2.1 bt418.2.2.1 bt435.1 bt435.2.1 bt435.2.2.1).bind fun t449 => (if t449 = true then (if 0 < (bt418.2.2.2.1.length : Int) then (if 1 < (bt435.2.2.2.1.length : Int) then (if (rd bt418.2.2.2.1 0) = (rd bt435.2.2.2.1 1) then (if 1 < (bt418.2.2.2.1.length : Int) then (if 0 < (bt435.2.2.2.1.length : Int) then (if (rd bt418.2.2.2.1 1) = (rd bt435.2.2.2.1 0) then (if 0 < (bt418.2.2.2.2.length : Int) then (if 1 < (bt435.2.2.2.2.length : Int) then (if ((rdOf false bt418.2.2.2.2 0) == (rdOf false bt435.2.2.2.2 1)) = true then (if 1 < (bt418.2.2.2.2.length : Int) then (if 0 < (bt435.2.2.2.2.length : Int) then (some ((rdOf false bt418.2.2.2.2 1) == (rdOf false bt435.2.2.2.2 0))) else (none)) else (none)) else (some false)) else (none)) else (none)) else (some false)) else (none)) else (none)) else (some false)) else (none)) else (none)) else (some false))) else (some false)) else (some false)) else (some false)) else (some false)) else (some false)))) = some r := by first | (rw [hy415]; with_reducible exact H) | (have H2_ := (Option.bind_some _ _).symm.trans H; rw [hy415]; with_reducible exact H2_) | (have H2_ := (Option.bind_some _ _).symm.trans H; with_reducible exact H2_) | with_reducible exact H | (rw [hy415]; exact H) | exact H
      have Ny415 := Aside0.mk hy415
      clear hy415
      replace H := Option.bind_eq_some_iff.mp H
      obtain ⟨⟨t418, t419, t422, t425, t428⟩, A350, H⟩ := H
      replace H : ((spec_All.f kj4 a0_0 l0_1 l0_2 (([(⟨a2_0, a2_1, a2_2, a2_3⟩ : S26), (⟨a1_0, a1_1, a1_2, a1_3⟩ : S26)] : List (S26)))).bind fun bt435 => (if (t425.length : Int) = 2 then (if (bt435.2.2.2.1.length : Int) = 2 then (if (t428.length : Int) = 2 then (if (bt435.2.2.2.2.length : Int) = 2 then (if t405 = true then ((underwoodref09_Same.f kj4 t418 t419 t422 bt435.1 bt435.2.1 bt435.2.2.1).bind fun t449 => (if t449 = true then (if 0 < (t425.length : Int) then (if 1 < (bt435.2.2.2.1.length : Int) then (if (rd t425 0) = (rd bt435.2.2.2.1 1) then (if 1 < (t425.length : Int) then (if 0 < (bt435.2.2.2.1.length : Int) then (if (rd t425 1) = (rd bt435.2.2.2.1 0) then (if 0 < (t428.length : Int) then (if 1 < (bt435.2.2.2.2.length : Int) then (if ((rdOf false t428 0) == (rdOf false bt435.2.2.2.2 1)) = true then (if 1 < (t428.length : Int) then (if 0 < (bt435.2.2.2.2.length : Int) then (some ((rdOf false t428 1) == (rdOf false bt435.2.2.2.2 0))) else (none)) else (none)) else (some false)) else (none)) else (none)) else (some false)) else (none)) else (none)) else (some false)) else (none)) else (none)) else (some false))) else (some false)) else (some false)) else (some false)) else (some false)) else (some false))) = some r := H
      have A35 := Aside0.mk A350
      clear A350
      obtain ⟨y432, hy432⟩ : ∃ y_ : List (S26), y_ = (([(⟨a2_0, a2_1, a2_2, a2_3⟩ : S26), (⟨a1_0, a1_1, a1_2, a1_3⟩ : S26)] : List (S26))) := ⟨_, rfl⟩
      replace H : ((spec_All.f kj4 a0_0 l0_1 l0_2 y432).bind fun bt435 => (if (t425.length : Int) = 2 then (if (bt435.2.2.2.1.length : Int) = 2 then (if (t428.length : Int) = 2 then (if (bt435.2.2.2.2.length : Int) = 2 then (if t405 = true then ((underwoodref09_Same.f kj4 t418 t419 t422 bt435.1 bt435.2.1 bt435.2.2.1).bind fun t449 => (if t449 = true then (if 0 < (t425.length : Int) then (if 1 < (bt435.2.2.2.1.length : Int) then (if (rd t425 0) = (rd bt435.2.2.2.1 1) then (if 1 < (t425.length : Int) then (if 0 < (bt435.2.2.2.1.length : Int) then (if (rd t425 1) = (rd bt435.2.2.2.1 0) then (if 0 < (t428.length : Int) then (if 1 < (bt435.2.2.2.2.length : Int) then (if ((rdOf false t428 0) == (rdOf false bt435.2.2.2.2 1)) = true then (if 1 < (t428.length : Int) then (if 0 < (bt435.2.2.2.2.length : Int) then (some ((rdOf false t428 1) == (rdOf false bt435.2.2.2.2 0))) else (none)) else (none)) else (some false)) else (none)) else (none)) else (some false)) else (none)) else (none)) else (some false)) else (none)) else (none)) else (some false))) else (some false)) else (some false)) else (some false)) else (some false)) else (some false))) = some r := by first | (rw [hy432]; with_reducible exact H) | (have H2_ := (Option.bind_some _ _).symm.trans H; rw [hy432]; with_reducible exact H2_) | (have H2_ := (Option.bind_some _ _).symm.trans H; with_reducible exact H2_) | with_reducible exact H | (rw [hy432]; exact H) | exact H
      have Ny432 := Aside0.mk hy432
      clear hy432
      replace H := Option.bind_eq_some_iff.mp H
      obtain ⟨⟨t435, t436, t439, t442, t445⟩, A360, H⟩ := H
      replace H : (if (t425.length : Int) = 2 then (if (t442.length : Int) = 2 then (if (t428.length : Int) = 2 then (if (t445.length : Int) = 2 then (if t405 = true then ((underwoodref09_Same.f kj4 t418 t419 t422 t435 t436 t439).bind fun t449 => (if t449 = true then (if 0 < (t425.length : Int) then (if 1 < (t442.length : Int) then (if (rd t425 0) = (rd t442 1) then (if 1 < (t425.length : Int) then (if 0 < (t442.length : Int) then (if (rd t425 1) = (rd t442 0) then (if 0 < (t428.length : Int) then (if 1 < (t445.length : Int) then (if ((rdOf false t428 0) == (rdOf false t445 1)) = true then (if 1 < (t428.length : Int) then (if 0 < (t445.length : Int) then (some ((rdOf false t428 1) == (rdOf false t445 0))) else (none)) else (none)) else (some false)) else (none)) else (none)) else (some false)) else (none)) else (none)) else (some false)) else (none)) else (none)) else (some false))) else (some false)) else (some false)) else (some false)) else (some false)) else (some false)) = some r := H
      have A36 := Aside0.mk A360
      clear A360
      by_cases c37 : (t425.length : Int) = 2
      rotate_left
      · rw [if_neg c37] at H
        have c37b0 : ((t425.length : Int) == 2) = false := beq_eq_false_iff_ne.mpr c37
        have c37b1 : ((t425.length : Int) != 2) = true := bne_iff_ne.mpr c37
        exact absurd hr (by rw [← Option.some.inj H]; decide)
      rw [if_pos c37] at H
      have c37b0 : ((t425.length : Int) == 2) = true := beq_iff_eq.mpr c37
      have c37b1 : ((t425.length : Int) != 2) = false := bne_eq_false_iff_eq.mpr c37
      clear c37
      by_cases c38 : (t442.length : Int) = 2
      rotate_left
      · rw [if_neg c38] at H
        have c38b0 : ((t442.length : Int) == 2) = false := beq_eq_false_iff_ne.mpr c38
        have c38b1 : ((t442.length : Int) != 2) = true := bne_iff_ne.mpr c38
        exact absurd hr (by rw [← Option.some.inj H]; decide)
      rw [if_pos c38] at H
      have c38b0 : ((t442.length : Int) == 2) = true := beq_iff_eq.mpr c38
      have c38b1 : ((t442.length : Int) != 2) = false := bne_eq_false_iff_eq.mpr c38
      clear c38
      by_cases c39 : (t428.length : Int) = 2
      rotate_left
      · rw [if_neg c39] at H
        have c39b0 : ((t428.length : Int) == 2) = false := beq_eq_false_iff_ne.mpr c39
        have c39b1 : ((t428.length : Int) != 2) = true := bne_iff_ne.mpr c39
        exact absurd hr (by rw [← Option.some.inj H]; decide)
      rw [if_pos c39] at H
      have c39b0 : ((t428.length : Int) == 2) = true := beq_iff_eq.mpr c39
      have c39b1 : ((t428.length : Int) != 2) = false := bne_eq_false_iff_eq.mpr c39
      clear c39
      by_cases c40 : (t445.length : Int) = 2
      rotate_left
      · rw [if_neg c40] at H
        have c40b0 : ((t445.length : Int) == 2) = false := beq_eq_false_iff_ne.mpr c40
        have c40b1 : ((t445.length : Int) != 2) = true := bne_iff_ne.mpr c40
        exact absurd hr (by rw [← Option.some.inj H]; decide)
      rw [if_pos c40] at H
      have c40b0 : ((t445.length : Int) == 2) = true := beq_iff_eq.mpr c40
      have c40b1 : ((t445.length : Int) != 2) = false := bne_eq_false_iff_eq.mpr c40
      clear c40
      by_cases c41 : t405 = true
      rotate_left
      · replace c41 := Bool.eq_false_iff.mpr c41
        subst c41
        have H1 : (some false) = some r := by rw [if_neg (show ¬ (false = true) by decide)] at H; exact H
        clear H
        have H := H1
        clear H1
        exact absurd hr (by rw [← Option.some.inj H]; decide)
      subst c41
      have H1 : ((underwoodref09_Same.f kj4 t418 t419 t422 t435 t436 t439).bind fun t449 => (if t449 = true then (if 0 < (t425.length : Int) then (if 1 < (t442.length : Int) then (if (rd t425 0) = (rd t442 1) then (if 1 < (t425.length : Int) then (if 0 < (t442.length : Int) then (if (rd t425 1) = (rd t442 0) then (if 0 < (t428.length : Int) then (if 1 < (t445.length : Int) then (if ((rdOf false t428 0) == (rdOf false t445 1)) = true then (if 1 < (t428.length : Int) then (if 0 < (t445.length : Int) then (some ((rdOf false t428 1) == (rdOf false t445 0))) else (none)) else (none)) else (some false)) else (none)) else (none)) else (some false)) else (none)) else (none)) else (some false)) else (none)) else (none)) else (some false))) = some r := by rw [if_pos rfl] at H; exact H
      clear H
      have H := H1
      clear H1
      replace H := Option.bind_eq_some_iff.mp H
      obtain ⟨t449, A420, H⟩ := H
      replace H : (if t449 = true then (if 0 < (t425.length : Int) then (if 1 < (t442.length : Int) then (if (rd t425 0) = (rd t442 1) then (if 1 < (t425.length : Int) then (if 0 < (t442.length : Int) then (if (rd t425 1) = (rd t442 0) then (if 0 < (t428.length : Int) then (if 1 < (t445.length : Int) then (if ((rdOf false t428 0) == (rdOf false t445 1)) = true then (if 1 < (t428.length : Int) then (if 0 < (t445.length : Int) then (some ((rdOf false t428 1) == (rdOf false t445 0))) else (none)) else (none)) else (some false)) else (none)) else (none)) else (some false)) else (none)) else (none)) else (some false)) else (none)) else (none)) else (some false)) = some r := H
      have A42 := Aside0.mk A420
      clear A420
      by_cases c43 : t449 = true
      rotate_left
      · replace c43 := Bool.eq_false_iff.mpr c43
        subst c43
        have H1 : (some false) = some r := by rw [if_neg (show ¬ (false = true) by decide)] at H; exact H
        clear H
        have H := H1
        clear H1
        exact absurd hr (by rw [← Option.some.inj H]; decide)
      subst c43
      have H1 : (if 0 < (t425.length : Int) then (if 1 < (t442.length : Int) then (if (rd t425 0) = (rd t442 1) then (if 1 < (t425.length : Int) then (if 0 < (t442.length : Int) then (if (rd t425 1) = (rd t442 0) then (if 0 < (t428.length : Int) then (if 1 < (t445.length : Int) then (if ((rdOf false t428 0) == (rdOf false t445 1)) = true then (if 1 < (t428.length : Int) then (if 0 < (t445.length : Int) then (some ((rdOf false t428 1) == (rdOf false t445 0))) else (none)) else (none)) else (some false)) else (none)) else (none)) else (some false)) else (none)) else (none)) else (some false)) else (none)) else (none)) = some r := by rw [if_pos rfl] at H; exact H
      clear H
      have H := H1
      clear H1
      by_cases c44 : 0 < (t425.length : Int)
      rotate_left
      · rw [if_neg c44] at H
        exact absurd H (by simp)
      rw [if_pos c44] at H
      have c44b0 : decide (0 < (t425.length : Int)) = true := decide_eq_true c44
      have c44b1 : decide (0 < t425.length) = true := decide_eq_true (by omega)
      clear c44
      by_cases c45 : 1 < (t442.length : Int)
      rotate_left
      · rw [if_neg c45] at H
        exact absurd H (by simp)
      rw [if_pos c45] at H
      have c45b0 : decide (1 < (t442.length : Int)) = true := decide_eq_true c45
      have c45b1 : decide (1 < t442.length) = true := decide_eq_true (by omega)
      clear c45
      by_cases c46 : (rd t425 0) = (rd t442 1)
      rotate_left
      · rw [if_neg c46] at H
        have c46b0 : ((rd t425 0) == (rd t442 1)) = false := beq_eq_false_iff_ne.mpr c46
        have c46b1 : ((rd t425 0) != (rd t442 1)) = true := bne_iff_ne.mpr c46
        exact absurd hr (by rw [← Option.some.inj H]; decide)
      rw [if_pos c46] at H
      have c46b0 : ((rd t425 0) == (rd t442 1)) = true := beq_iff_eq.mpr c46
      have c46b1 : ((rd t425 0) != (rd t442 1)) = false := bne_eq_false_iff_eq.mpr c46
      clear c46
      by_cases c47 : 1 < (t425.length : Int)
      rotate_left
      · rw [if_neg c47] at H
        exact absurd H (by simp)
      rw [if_pos c47] at H
      have c47b0 : decide (1 < (t425.length : Int)) = true := decide_eq_true c47
      have c47b1 : decide (1 < t425.length) = true := decide_eq_true (by omega)
      clear c47
      by_cases c48 : 0 < (t442.length : Int)
      rotate_left
      · rw [if_neg c48] at H
        exact absurd H (by simp)
      rw [if_pos c48] at H
      have c48b0 : decide (0 < (t442.length : Int)) = true := decide_eq_true c48
      have c48b1 : decide (0 < t442.length) = true := decide_eq_true (by omega)
      clear c48
      by_cases c49 : (rd t425 1) = (rd t442 0)
      rotate_left
      · rw [if_neg c49] at H
        have c49b0 : ((rd t425 1) == (rd t442 0)) = false := beq_eq_false_iff_ne.mpr c49
        have c49b1 : ((rd t425 1) != (rd t442 0)) = true := bne_iff_ne.mpr c49
        exact absurd hr (by rw [← Option.some.inj H]; decide)
      rw [if_pos c49] at H
      have c49b0 : ((rd t425 1) == (rd t442 0)) = true := beq_iff_eq.mpr c49
      have c49b1 : ((rd t425 1) != (rd t442 0)) = false := bne_eq_false_iff_eq.mpr c49
      clear c49
      by_cases c50 : 0 < (t428.length : Int)
      rotate_left
      · rw [if_neg c50] at H
        exact absurd H (by simp)
      rw [if_pos c50] at H
      have c50b0 : decide (0 < (t428.length : Int)) = true := decide_eq_true c50
      have c50b1 : decide (0 < t428.length) = true := decide_eq_true (by omega)
      clear c50
      by_cases c51 : 1 < (t445.length : Int)
      rotate_left
      · rw [if_neg c51] at H
        exact absurd H (by simp)
      rw [if_pos c51] at H
      have c51b0 : decide (1 < (t445.length : Int)) = true := decide_eq_true c51
      have c51b1 : decide (1 < t445.length) = true := decide_eq_true (by omega)
      clear c51
      by_cases c52 : ((rdOf false t428 0) == (rdOf false t445 1)) = true
      rotate_left
      · rw [if_neg c52] at H
        have c52b0 : ((rdOf false t428 0) == (rdOf false t445 1)) = false := by simpa using c52
        (try (have c52b1 : decide ((rdOf false t428 0) = (rdOf false t445 1)) = false := by simpa using c52))
        (try (have c52b2 : ((rdOf false t428 0) == (rdOf false t445 1)) = false := by simpa using c52))
        (try (have c52b3 : ¬ ((rdOf false t428 0) = (rdOf false t445 1)) := by simpa using c52))
        clear c52
        exact absurd hr (by rw [← Option.some.inj H]; decide)
      rw [if_pos c52] at H
      have c52b0 : ((rdOf false t428 0) == (rdOf false t445 1)) = true := c52
      (try (have c52b1 : decide ((rdOf false t428 0) = (rdOf false t445 1)) = true := by simpa using c52))
      (try (have c52b2 : ((rdOf false t428 0) == (rdOf false t445 1)) = true := by simpa using c52))
      clear c52
      by_cases c53 : 1 < (t428.length : Int)
      rotate_left
      · rw [if_neg c53] at H
        exact absurd H (by simp)
      rw [if_pos c53] at H
      have c53b0 : decide (1 < (t428.length : Int)) = true := decide_eq_true c53
      have c53b1 : decide (1 < t428.length) = true := decide_eq_true (by omega)
      clear c53
      by_cases c54 : 0 < (t445.length : Int)
      rotate_left
      · rw [if_neg c54] at H
        exact absurd H (by simp)
      rw [if_pos c54] at H
      have c54b0 : decide (0 < (t445.length : Int)) = true := decide_eq_true c54
      have c54b1 : decide (0 < t445.length) = true := decide_eq_true (by omega)
      clear c54
      obtain rfl := Option.some.inj H
      have hnb55 := NB403_402.out
      have hnc55 := NB402_403.out
      have hnb56 := NB403_404.out
      have hnc56 := NB404_403.out
      have hcz57_0 : wc.cell? ⟨gb403, 0, none⟩ = some (.int .i64 a1_0) := (blk_cell BK403.out 0).trans rfl
      have hcz57_1 : wc.cell? ⟨gb403, 1, none⟩ = some (.int .i64 a1_1) := (blk_cell BK403.out 1).trans rfl
      have hcz57_2 : wc.cell? ⟨gb403, 2, none⟩ = some (.int .i64 a1_2) := (blk_cell BK403.out 2).trans rfl
      have hcz57_3 : wc.cell? ⟨gb403, 3, none⟩ = some (.int .i64 a1_3) := (blk_cell BK403.out 3).trans rfl
      have hfz57_0 := blk_frozen BK403.out 0
      have hfz57_1 := blk_frozen BK403.out 1
      have hfz57_2 := blk_frozen BK403.out 2
      have hfz57_3 := blk_frozen BK403.out 3
      have hnb58 := NB404_402.out
      have hnc58 := NB402_404.out
      have hcz59_0 : wc.cell? ⟨gb404, 0, none⟩ = some (.int .i64 a2_0) := (blk_cell BK404.out 0).trans rfl
      have hcz59_1 : wc.cell? ⟨gb404, 1, none⟩ = some (.int .i64 a2_1) := (blk_cell BK404.out 1).trans rfl
      have hcz59_2 : wc.cell? ⟨gb404, 2, none⟩ = some (.int .i64 a2_2) := (blk_cell BK404.out 2).trans rfl
      have hcz59_3 : wc.cell? ⟨gb404, 3, none⟩ = some (.int .i64 a2_3) := (blk_cell BK404.out 3).trans rfl
      have hfz59_0 := blk_frozen BK404.out 0
      have hfz59_1 := blk_frozen BK404.out 1
      have hfz59_2 := blk_frozen BK404.out 2
      have hfz59_3 := blk_frozen BK404.out 3
      try go_wp2_with (first | ((with_reducible refine gate_callee (f := 17) rfl ?_); refine goesL_ (some 44) rfl rfl Try.func17 (by kernel_rfl) rfl #[.agg #[.int .i64 a1_0, .int .i64 a1_1, .int .i64 a1_2, .int .i64 a1_3], .agg #[.int .i64 a2_0, .int .i64 a2_1, .int .i64 a2_2, .int .i64 a2_3]] rfl (by (try simp only [List.map_toArray, List.map_cons, List.map_nil]); first | done | rfl | (simp only [List.length_drop, List.length_take]; rfl)) ?_; (with_reducible refine (spec_Commute.calls a1_0 a1_1 a1_2 a1_3 a2_0 a2_1 a2_2 a2_3 true _ A33.out).mono ?_); rintro e w60 ⟨rfl, hb⟩; refine ⟨_, rfl, ?_⟩; have n0_ := Aside0.mk (blk_below (g := gb402) (o := .cells #[.int .i64 a0_0, .slice A0_1 l0_1.length c0_1, .slice A0_2 l0_2.length c0_2] 24 (0, 0)) (by (with_reducible repeat (first | refine blk_drewN ?_ _ | refine blk_drew ?_ | refine blk_alloc ?_ _)); exact BK402.out) hb); have n1_ := Aside0.mk (blk_below (g := gb403) (o := .cells #[.int .i64 a1_0, .int .i64 a1_1, .int .i64 a1_2, .int .i64 a1_3] 26 (0, 0)) (by (with_reducible repeat (first | refine blk_drewN ?_ _ | refine blk_drew ?_ | refine blk_alloc ?_ _)); exact BK403.out) hb); have n2_ := Aside0.mk (blk_below (g := gb404) (o := .cells #[.int .i64 a2_0, .int .i64 a2_1, .int .i64 a2_2, .int .i64 a2_3] 26 (0, 0)) (by (with_reducible repeat (first | refine blk_drewN ?_ _ | refine blk_drew ?_ | refine blk_alloc ?_ _)); exact BK404.out) hb); have n3_ := Aside0.mk (below_step (by repeat (first | (with_reducible first | exact HB.out | apply below_alloc | apply pw_below_drewN | apply below_drew1 | refine below_set ?_ GE402.out | refine below_set ?_ GE403.out | refine below_set ?_ GE404.out) | exact HB.out)) hb); clear BK402; clear BK403; clear BK404; clear HB; have BK402 := n0_; have BK403 := n1_; have BK404 := n2_; have HB := n3_; clear n0_ n1_ n2_ n3_; (try clear hb); (try clear hb2); (try clear hk); (try clear hi); have hcz61_0 : w60.cell? ⟨gb402, 0, none⟩ = some (.int .i64 a0_0) := (blk_cell BK402.out 0).trans rfl; have hcz61_1 : w60.cell? ⟨gb402, 1, none⟩ = some (.slice A0_1 l0_1.length c0_1) := (blk_cell BK402.out 1).trans rfl; have hcz61_2 : w60.cell? ⟨gb402, 2, none⟩ = some (.slice A0_2 l0_2.length c0_2) := (blk_cell BK402.out 2).trans rfl; have hfz61_0 := blk_frozen BK402.out 0; have hfz61_1 := blk_frozen BK402.out 1; have hfz61_2 := blk_frozen BK402.out 2; have hcz62_0 : w60.cell? ⟨gb403, 0, none⟩ = some (.int .i64 a1_0) := (blk_cell BK403.out 0).trans rfl; have hcz62_1 : w60.cell? ⟨gb403, 1, none⟩ = some (.int .i64 a1_1) := (blk_cell BK403.out 1).trans rfl; have hcz62_2 : w60.cell? ⟨gb403, 2, none⟩ = some (.int .i64 a1_2) := (blk_cell BK403.out 2).trans rfl; have hcz62_3 : w60.cell? ⟨gb403, 3, none⟩ = some (.int .i64 a1_3) := (blk_cell BK403.out 3).trans rfl; have hfz62_0 := blk_frozen BK403.out 0; have hfz62_1 := blk_frozen BK403.out 1; have hfz62_2 := blk_frozen BK403.out 2; have hfz62_3 := blk_frozen BK403.out 3; have hcz63_0 : w60.cell? ⟨gb404, 0, none⟩ = some (.int .i64 a2_0) := (blk_cell BK404.out 0).trans rfl; have hcz63_1 : w60.cell? ⟨gb404, 1, none⟩ = some (.int .i64 a2_1) := (blk_cell BK404.out 1).trans rfl; have hcz63_2 : w60.cell? ⟨gb404, 2, none⟩ = some (.int .i64 a2_2) := (blk_cell BK404.out 2).trans rfl; have hcz63_3 : w60.cell? ⟨gb404, 3, none⟩ = some (.int .i64 a2_3) := (blk_cell BK404.out 3).trans rfl; have hfz63_0 := blk_frozen BK404.out 0; have hfz63_1 := blk_frozen BK404.out 1; have hfz63_2 := blk_frozen BK404.out 2; have hfz63_3 := blk_frozen BK404.out 3) | ((with_reducible refine gate_dst (N := 60) rfl ?_); (try (refine gate_guard (by rfl) ?_; dsimp only)); refine Kd.R_lit k26 _ 26 ?hg (N := 60) ?hd (xs := ([(⟨a1_0, a1_1, a1_2, a1_3⟩ : S26), (⟨a2_0, a2_1, a2_2, a2_3⟩ : S26)] : List (S26))) (inner := [.int .i64 a1_0, .int .i64 a1_1, .int .i64 a1_2, .int .i64 a1_3, .int .i64 a2_0, .int .i64 a2_1, .int .i64 a2_2, .int .i64 a2_3]) (ok := fun _ => True) (okp := fun _ => True) ?hr ?hp (fun _ hk => hk) trivial (Below.refl _ _) (Nat.le_refl _) (by simp) ?_; (case hd => rfl); (case hg => rfl); (case hr => first | (go_simp; done) | (go_simp; rfl)); (case hp => exact (Reps.c4 (show Kd.M k26 _ _ _ (⟨a1_0, a1_1, a1_2, a1_3⟩ : S26) [.int .i64 a1_0, .int .i64 a1_1, .int .i64 a1_2, .int .i64 a1_3] from (k26_mkM _ _ _ (⟨a1_0, a1_1, a1_2, a1_3⟩ : S26) )) (Reps.c4 (show Kd.M k26 _ _ _ (⟨a2_0, a2_1, a2_2, a2_3⟩ : S26) [.int .i64 a2_0, .int .i64 a2_1, .int .i64 a2_2, .int .i64 a2_3] from (k26_mkM _ _ _ (⟨a2_0, a2_1, a2_2, a2_3⟩ : S26) )) (Reps.none _ _)))); intro v416 w64 ho65 hb hg_ hnew_; clear hg_ hnew_; (first | rw [← Ny415.out] at ho65 | (simp only [Int.reduceToNat] at ho65; rw [← Ny415.out] at ho65)); have n0_ := Aside0.mk (Kd.R_lower (Kd.R_newB (Kd.R_newB ho65 (g := gb403) (o := .cells #[.int .i64 a1_0, .int .i64 a1_1, .int .i64 a1_2, .int .i64 a1_3] 26 (0, 0)) (by (with_reducible repeat (first | refine blk_drewN ?_ _ | refine blk_drew ?_ | refine blk_alloc ?_ _)); exact BK403.out)) (g := gb404) (o := .cells #[.int .i64 a2_0, .int .i64 a2_1, .int .i64 a2_2, .int .i64 a2_3] 26 (0, 0)) (by (with_reducible repeat (first | refine blk_drewN ?_ _ | refine blk_drew ?_ | refine blk_alloc ?_ _)); exact BK404.out)) (below_size (by repeat (first | (with_reducible first | exact HB.out | apply below_alloc | apply pw_below_drewN | apply below_drew1 | refine below_set ?_ GE402.out | refine below_set ?_ GE403.out | refine below_set ?_ GE404.out) | exact HB.out)))); have n1_ := Aside0.mk (blk_below (g := gb402) (o := .cells #[.int .i64 a0_0, .slice A0_1 l0_1.length c0_1, .slice A0_2 l0_2.length c0_2] 24 (0, 0)) (by (with_reducible repeat (first | refine blk_drewN ?_ _ | refine blk_drew ?_ | refine blk_alloc ?_ _)); exact BK402.out) hb); have n2_ := Aside0.mk (blk_below (g := gb403) (o := .cells #[.int .i64 a1_0, .int .i64 a1_1, .int .i64 a1_2, .int .i64 a1_3] 26 (0, 0)) (by (with_reducible repeat (first | refine blk_drewN ?_ _ | refine blk_drew ?_ | refine blk_alloc ?_ _)); exact BK403.out) hb); have n3_ := Aside0.mk (blk_below (g := gb404) (o := .cells #[.int .i64 a2_0, .int .i64 a2_1, .int .i64 a2_2, .int .i64 a2_3] 26 (0, 0)) (by (with_reducible repeat (first | refine blk_drewN ?_ _ | refine blk_drew ?_ | refine blk_alloc ?_ _)); exact BK404.out) hb); have n4_ := Aside0.mk (below_step (by repeat (first | (with_reducible first | exact HB.out | apply below_alloc | apply pw_below_drewN | apply below_drew1 | refine below_set ?_ GE402.out | refine below_set ?_ GE403.out | refine below_set ?_ GE404.out) | exact HB.out)) hb); clear BK402; clear BK403; clear BK404; clear HB; have HO417 := n0_; have BK402 := n1_; have BK403 := n2_; have BK404 := n3_; have HB := n4_; clear n0_ n1_ n2_ n3_ n4_; clear hb ho65; obtain ⟨Ao66, co66, eo66⟩ := Kd.R_slice HO417.out; subst eo66) | ((with_reducible refine gate_callee (f := 13) rfl ?_); refine goesL_ (some 61) rfl rfl Try.func13 (by kernel_rfl) rfl #[.agg #[.int .i64 a0_0, .slice A0_1 l0_1.length c0_1, .slice A0_2 l0_2.length c0_2], .slice Ao66 y415.length co66] rfl (by (try simp only [List.map_toArray, List.map_cons, List.map_nil]); first | done | rfl | (simp only [List.length_drop, List.length_take]; rfl)) ?_; (with_reducible refine (spec_All.calls kj4 a0_0 (fun k_ => k_ < w.heap.size) _ _ l0_1 (fun k_ => k_ < w.heap.size) _ _ l0_2 _ _ y415 t418 t419 t422 t425 t428 _ ?side1 ?side2 ?side3 ?side4 A35.out).mono ?_); (case side1 => exact Kd.V_mk HC0_1.out (Kd.F_below (Kd.C_F (Kd.heap_int .i64) HR0_1.out) (by repeat (first | (with_reducible first | exact HB.out | apply below_alloc | apply pw_below_drewN | apply below_drew1 | refine below_set ?_ GE402.out | refine below_set ?_ GE403.out | refine below_set ?_ GE404.out) | exact HB.out)))); (case side2 => exact Kd.V_mk HC0_2.out (Kd.F_below (Kd.C_F (Kd.heap_int .i64) HR0_2.out) (by repeat (first | (with_reducible first | exact HB.out | apply below_alloc | apply pw_below_drewN | apply below_drew1 | refine below_set ?_ GE402.out | refine below_set ?_ GE403.out | refine below_set ?_ GE404.out) | exact HB.out)))); (case side3 => repeat (first | exact (Kd.R_reads' HO417.out).2.2 | (with_reducible refine Kd.C_alloc ?_ _) | (with_reducible refine Kd.C_drewN ?_ _) | (with_reducible refine Kd.C_drew ?_))); (case side4 => exact (Kd.R_reads' HO417.out).2.1); rintro e w67 ⟨v420, v423, v426, v429, rfl, ho0, ho1, ho2, ho3, hb⟩; refine ⟨_, rfl, ?_⟩; have n0_ := Aside0.mk (Kd.R_below (by (with_reducible repeat (first | apply Kd.R_alloc | apply Kd.R_drewN | apply Kd.R_drew)); exact HO417.out) hb); have n1_ := Aside0.mk (Kd.V_lower (Kd.V_mono (ok' := fun k_ => some k_ ≠ (v426 : Value).ownBlock ∧ some k_ ≠ (v429 : Value).ownBlock ∧ some k_ ≠ (.slice Ao66 y415.length co66 : Value).ownBlock ∧ k_ ≠ gb402 ∧ k_ ≠ gb403 ∧ k_ ≠ gb404) ho0 (fun k_ hk_ => by first | exact ⟨hk_.2.1, hk_.2.2, Or.elim hk_.1 (fun hs_ => Or.elim hs_ (fun hs_ => fun e_ => Nat.not_le.2 hs_ (Kd.R_base HO417.out k_ e_.symm)) (fun hs_ => fun e_ => Nat.not_le.2 hs_ (Kd.R_base HO417.out k_ e_.symm))) (fun hn_ => (Kd.fresh' (Kd.R_lt (by (with_reducible repeat (first | apply Kd.R_alloc | apply Kd.R_drewN | apply Kd.R_drew)); exact HO417.out)) k_ hn_)), Or.elim hk_.1 (fun hs_ => Or.elim hs_ (fun hs_ => fun e_ => Nat.not_le.2 hs_ (by rw [e_]; exact GW402.out)) (fun hs_ => fun e_ => Nat.not_le.2 hs_ (by rw [e_]; exact GW402.out))) (fun hn_ => (Kd.freshB (g := gb402) (o := .cells #[.int .i64 a0_0, .slice A0_1 l0_1.length c0_1, .slice A0_2 l0_2.length c0_2] 24 (0, 0)) (by (with_reducible repeat (first | refine blk_drewN ?_ _ | refine blk_drew ?_ | refine blk_alloc ?_ _)); exact BK402.out) k_ hn_)), Or.elim hk_.1 (fun hs_ => Or.elim hs_ (fun hs_ => fun e_ => Nat.not_le.2 hs_ (by rw [e_]; exact GW403.out)) (fun hs_ => fun e_ => Nat.not_le.2 hs_ (by rw [e_]; exact GW403.out))) (fun hn_ => (Kd.freshB (g := gb403) (o := .cells #[.int .i64 a1_0, .int .i64 a1_1, .int .i64 a1_2, .int .i64 a1_3] 26 (0, 0)) (by (with_reducible repeat (first | refine blk_drewN ?_ _ | refine blk_drew ?_ | refine blk_alloc ?_ _)); exact BK403.out) k_ hn_)), Or.elim hk_.1 (fun hs_ => Or.elim hs_ (fun hs_ => fun e_ => Nat.not_le.2 hs_ (by rw [e_]; exact GW404.out)) (fun hs_ => fun e_ => Nat.not_le.2 hs_ (by rw [e_]; exact GW404.out))) (fun hn_ => (Kd.freshB (g := gb404) (o := .cells #[.int .i64 a2_0, .int .i64 a2_1, .int .i64 a2_2, .int .i64 a2_3] 26 (0, 0)) (by (with_reducible repeat (first | refine blk_drewN ?_ _ | refine blk_drew ?_ | refine blk_alloc ?_ _)); exact BK404.out) k_ hn_))⟩ | grind)) (below_size (by repeat (first | (with_reducible first | exact HB.out | apply below_alloc | apply pw_below_drewN | apply below_drew1 | refine below_set ?_ GE402.out | refine below_set ?_ GE403.out | refine below_set ?_ GE404.out) | exact HB.out)))); have n2_ := Aside0.mk (Kd.V_lower (Kd.V_mono (ok' := fun k_ => some k_ ≠ (v426 : Value).ownBlock ∧ some k_ ≠ (v429 : Value).ownBlock ∧ some k_ ≠ (.slice Ao66 y415.length co66 : Value).ownBlock ∧ k_ ≠ gb402 ∧ k_ ≠ gb403 ∧ k_ ≠ gb404) ho1 (fun k_ hk_ => by first | exact ⟨hk_.2.1, hk_.2.2, Or.elim hk_.1 (fun hs_ => Or.elim hs_ (fun hs_ => fun e_ => Nat.not_le.2 hs_ (Kd.R_base HO417.out k_ e_.symm)) (fun hs_ => fun e_ => Nat.not_le.2 hs_ (Kd.R_base HO417.out k_ e_.symm))) (fun hn_ => (Kd.fresh' (Kd.R_lt (by (with_reducible repeat (first | apply Kd.R_alloc | apply Kd.R_drewN | apply Kd.R_drew)); exact HO417.out)) k_ hn_)), Or.elim hk_.1 (fun hs_ => Or.elim hs_ (fun hs_ => fun e_ => Nat.not_le.2 hs_ (by rw [e_]; exact GW402.out)) (fun hs_ => fun e_ => Nat.not_le.2 hs_ (by rw [e_]; exact GW402.out))) (fun hn_ => (Kd.freshB (g := gb402) (o := .cells #[.int .i64 a0_0, .slice A0_1 l0_1.length c0_1, .slice A0_2 l0_2.length c0_2] 24 (0, 0)) (by (with_reducible repeat (first | refine blk_drewN ?_ _ | refine blk_drew ?_ | refine blk_alloc ?_ _)); exact BK402.out) k_ hn_)), Or.elim hk_.1 (fun hs_ => Or.elim hs_ (fun hs_ => fun e_ => Nat.not_le.2 hs_ (by rw [e_]; exact GW403.out)) (fun hs_ => fun e_ => Nat.not_le.2 hs_ (by rw [e_]; exact GW403.out))) (fun hn_ => (Kd.freshB (g := gb403) (o := .cells #[.int .i64 a1_0, .int .i64 a1_1, .int .i64 a1_2, .int .i64 a1_3] 26 (0, 0)) (by (with_reducible repeat (first | refine blk_drewN ?_ _ | refine blk_drew ?_ | refine blk_alloc ?_ _)); exact BK403.out) k_ hn_)), Or.elim hk_.1 (fun hs_ => Or.elim hs_ (fun hs_ => fun e_ => Nat.not_le.2 hs_ (by rw [e_]; exact GW404.out)) (fun hs_ => fun e_ => Nat.not_le.2 hs_ (by rw [e_]; exact GW404.out))) (fun hn_ => (Kd.freshB (g := gb404) (o := .cells #[.int .i64 a2_0, .int .i64 a2_1, .int .i64 a2_2, .int .i64 a2_3] 26 (0, 0)) (by (with_reducible repeat (first | refine blk_drewN ?_ _ | refine blk_drew ?_ | refine blk_alloc ?_ _)); exact BK404.out) k_ hn_))⟩ | grind)) (below_size (by repeat (first | (with_reducible first | exact HB.out | apply below_alloc | apply pw_below_drewN | apply below_drew1 | refine below_set ?_ GE402.out | refine below_set ?_ GE403.out | refine below_set ?_ GE404.out) | exact HB.out)))); have n3_ := Aside0.mk (Kd.R_lower (Kd.R_mono (ok' := fun k_ => True) ho2 (fun _ hk_ => trivial)) (below_size (by repeat (first | (with_reducible first | exact HB.out | apply below_alloc | apply pw_below_drewN | apply below_drew1 | refine below_set ?_ GE402.out | refine below_set ?_ GE403.out | refine below_set ?_ GE404.out) | exact HB.out)))); have n4_ := Aside0.mk (Kd.R_lower (Kd.R_mono (ok' := fun k_ => True) ho3 (fun _ hk_ => trivial)) (below_size (by repeat (first | (with_reducible first | exact HB.out | apply below_alloc | apply pw_below_drewN | apply below_drew1 | refine below_set ?_ GE402.out | refine below_set ?_ GE403.out | refine below_set ?_ GE404.out) | exact HB.out)))); have n5_ := Aside0.mk (blk_below (g := gb402) (o := .cells #[.int .i64 a0_0, .slice A0_1 l0_1.length c0_1, .slice A0_2 l0_2.length c0_2] 24 (0, 0)) (by (with_reducible repeat (first | refine blk_drewN ?_ _ | refine blk_drew ?_ | refine blk_alloc ?_ _)); exact BK402.out) hb); have n6_ := Aside0.mk (blk_below (g := gb403) (o := .cells #[.int .i64 a1_0, .int .i64 a1_1, .int .i64 a1_2, .int .i64 a1_3] 26 (0, 0)) (by (with_reducible repeat (first | refine blk_drewN ?_ _ | refine blk_drew ?_ | refine blk_alloc ?_ _)); exact BK403.out) hb); have n7_ := Aside0.mk (blk_below (g := gb404) (o := .cells #[.int .i64 a2_0, .int .i64 a2_1, .int .i64 a2_2, .int .i64 a2_3] 26 (0, 0)) (by (with_reducible repeat (first | refine blk_drewN ?_ _ | refine blk_drew ?_ | refine blk_alloc ?_ _)); exact BK404.out) hb); have n8_ := Aside0.mk (below_step (by repeat (first | (with_reducible first | exact HB.out | apply below_alloc | apply pw_below_drewN | apply below_drew1 | refine below_set ?_ GE402.out | refine below_set ?_ GE403.out | refine below_set ?_ GE404.out) | exact HB.out)) hb); clear HO417; clear BK402; clear BK403; clear BK404; clear HB; have HO417 := n0_; have HO421 := n1_; have HO424 := n2_; have HO427 := n3_; have HO430 := n4_; have BK402 := n5_; have BK403 := n6_; have BK404 := n7_; have HB := n8_; clear n0_ n1_ n2_ n3_ n4_ n5_ n6_ n7_ n8_; (try clear hb); (try clear hb2); (try clear hk); (try clear hi); (try clear ho0); (try clear ho1); (try clear ho2); (try clear ho3)) | ((with_reducible refine gate_dst (N := 8) rfl ?_); (try (refine gate_guard (by rfl) ?_; dsimp only)); refine box_event ?hg (N := 8) ?hd (cs := #[.int .i64 0, .slice none 0 0, .slice none 0 0]) (t := 24) ?hr ?_; (case hd => rfl); (case hg => rfl); (case hr => first | (go_simp; done) | (go_simp; rfl)); intro gb431 hg w68 hbox hb; have n0_ := Aside0.mk (Kd.R_below (by (with_reducible repeat (first | apply Kd.R_alloc | apply Kd.R_drewN | apply Kd.R_drew)); exact HO417.out) hb); have n1_ := Aside0.mk (Kd.V_below (Kd.V_elderB (by (with_reducible repeat (first | apply Kd.V_alloc | apply Kd.V_drewN | apply Kd.V_drew)); exact HO421.out) gb431 (Nat.le_of_eq hg.symm)) hb); have n2_ := Aside0.mk (Kd.V_below (Kd.V_elderB (by (with_reducible repeat (first | apply Kd.V_alloc | apply Kd.V_drewN | apply Kd.V_drew)); exact HO424.out) gb431 (Nat.le_of_eq hg.symm)) hb); have n3_ := Aside0.mk (Kd.R_below (by (with_reducible repeat (first | apply Kd.R_alloc | apply Kd.R_drewN | apply Kd.R_drew)); exact HO427.out) hb); have n4_ := Aside0.mk (Kd.R_below (by (with_reducible repeat (first | apply Kd.R_alloc | apply Kd.R_drewN | apply Kd.R_drew)); exact HO430.out) hb); have n5_ := Aside0.mk (blk_below (g := gb402) (o := .cells #[.int .i64 a0_0, .slice A0_1 l0_1.length c0_1, .slice A0_2 l0_2.length c0_2] 24 (0, 0)) (by (with_reducible repeat (first | refine blk_drewN ?_ _ | refine blk_drew ?_ | refine blk_alloc ?_ _)); exact BK402.out) hb); have n6_ := Aside0.mk (blk_below (g := gb403) (o := .cells #[.int .i64 a1_0, .int .i64 a1_1, .int .i64 a1_2, .int .i64 a1_3] 26 (0, 0)) (by (with_reducible repeat (first | refine blk_drewN ?_ _ | refine blk_drew ?_ | refine blk_alloc ?_ _)); exact BK403.out) hb); have n7_ := Aside0.mk (blk_below (g := gb404) (o := .cells #[.int .i64 a2_0, .int .i64 a2_1, .int .i64 a2_2, .int .i64 a2_3] 26 (0, 0)) (by (with_reducible repeat (first | refine blk_drewN ?_ _ | refine blk_drew ?_ | refine blk_alloc ?_ _)); exact BK404.out) hb); have n8_ := Aside0.mk (below_step (by repeat (first | (with_reducible first | exact HB.out | apply below_alloc | apply pw_below_drewN | apply below_drew1 | refine below_set ?_ GE402.out | refine below_set ?_ GE403.out | refine below_set ?_ GE404.out) | exact HB.out)) hb); have n9_ := Aside0.mk (hbox); have n10_ := Aside0.mk ((by rw [hg]; exact (below_size (by repeat (first | (with_reducible first | exact HB.out | apply below_alloc | apply pw_below_drewN | apply below_drew1 | refine below_set ?_ GE402.out | refine below_set ?_ GE403.out | refine below_set ?_ GE404.out) | exact HB.out))) : w.heap.size ≤ gb431)); have n11_ := Aside0.mk ((by rw [hg]; exact (below_size (by repeat (first | (with_reducible first | exact HB.out | apply below_alloc | apply pw_below_drewN | apply below_drew1 | refine below_set ?_ GE402.out | refine below_set ?_ GE403.out | refine below_set ?_ GE404.out) | exact HB.out))) : w.heap.size ≤ gb431)); have n12_ := Aside0.mk ((by rw [hg]; exact Nat.ne_of_lt (blk_lt (g := gb402) (o := .cells #[.int .i64 a0_0, .slice A0_1 l0_1.length c0_1, .slice A0_2 l0_2.length c0_2] 24 (0, 0)) (by (with_reducible repeat (first | refine blk_drewN ?_ _ | refine blk_drew ?_ | refine blk_alloc ?_ _)); exact BK402.out)) : gb402 ≠ gb431)); have n13_ := Aside0.mk ((by rw [hg]; exact Nat.ne_of_gt (blk_lt (g := gb402) (o := .cells #[.int .i64 a0_0, .slice A0_1 l0_1.length c0_1, .slice A0_2 l0_2.length c0_2] 24 (0, 0)) (by (with_reducible repeat (first | refine blk_drewN ?_ _ | refine blk_drew ?_ | refine blk_alloc ?_ _)); exact BK402.out)) : gb431 ≠ gb402)); have n14_ := Aside0.mk ((by rw [hg]; exact Nat.ne_of_lt (blk_lt (g := gb403) (o := .cells #[.int .i64 a1_0, .int .i64 a1_1, .int .i64 a1_2, .int .i64 a1_3] 26 (0, 0)) (by (with_reducible repeat (first | refine blk_drewN ?_ _ | refine blk_drew ?_ | refine blk_alloc ?_ _)); exact BK403.out)) : gb403 ≠ gb431)); have n15_ := Aside0.mk ((by rw [hg]; exact Nat.ne_of_gt (blk_lt (g := gb403) (o := .cells #[.int .i64 a1_0, .int .i64 a1_1, .int .i64 a1_2, .int .i64 a1_3] 26 (0, 0)) (by (with_reducible repeat (first | refine blk_drewN ?_ _ | refine blk_drew ?_ | refine blk_alloc ?_ _)); exact BK403.out)) : gb431 ≠ gb403)); have n16_ := Aside0.mk ((by rw [hg]; exact Nat.ne_of_lt (blk_lt (g := gb404) (o := .cells #[.int .i64 a2_0, .int .i64 a2_1, .int .i64 a2_2, .int .i64 a2_3] 26 (0, 0)) (by (with_reducible repeat (first | refine blk_drewN ?_ _ | refine blk_drew ?_ | refine blk_alloc ?_ _)); exact BK404.out)) : gb404 ≠ gb431)); have n17_ := Aside0.mk ((by rw [hg]; exact Nat.ne_of_gt (blk_lt (g := gb404) (o := .cells #[.int .i64 a2_0, .int .i64 a2_1, .int .i64 a2_2, .int .i64 a2_3] 26 (0, 0)) (by (with_reducible repeat (first | refine blk_drewN ?_ _ | refine blk_drew ?_ | refine blk_alloc ?_ _)); exact BK404.out)) : gb431 ≠ gb404)); clear HO417; clear HO421; clear HO424; clear HO427; clear HO430; clear BK402; clear BK403; clear BK404; clear HB; have HO417 := n0_; have HO421 := n1_; have HO424 := n2_; have HO427 := n3_; have HO430 := n4_; have BK402 := n5_; have BK403 := n6_; have BK404 := n7_; have HB := n8_; have BK431 := n9_; have GW431 := n10_; have GE431 := n11_; have NB402_431 := n12_; have NB431_402 := n13_; have NB403_431 := n14_; have NB431_403 := n15_; have NB404_431 := n16_; have NB431_404 := n17_; clear n0_ n1_ n2_ n3_ n4_ n5_ n6_ n7_ n8_ n9_ n10_ n11_ n12_ n13_ n14_ n15_ n16_ n17_; clear hb hbox hg; have hnb69 := NB431_402.out; have hnc69 := NB402_431.out; have hnb70 := NB431_403.out; have hnc70 := NB403_431.out; have hnb71 := NB431_404.out; have hnc71 := NB404_431.out; have hcz72_0 : w68.cell? ⟨gb431, 0, none⟩ = some (.int .i64 0) := (blk_cell BK431.out 0).trans rfl; have hcz72_1 : w68.cell? ⟨gb431, 1, none⟩ = some (.slice none 0 0) := (blk_cell BK431.out 1).trans rfl; have hcz72_2 : w68.cell? ⟨gb431, 2, none⟩ = some (.slice none 0 0) := (blk_cell BK431.out 2).trans rfl; have hfz72_0 := blk_frozen BK431.out 0; have hfz72_1 := blk_frozen BK431.out 1; have hfz72_2 := blk_frozen BK431.out 2; obtain ⟨Ao73, co73, eo73⟩ := Kd.V_slice HO421.out; subst eo73; obtain ⟨Ao74, co74, eo74⟩ := Kd.V_slice HO424.out; subst eo74; have hcz75_0 : w68.cell? ⟨gb402, 0, none⟩ = some (.int .i64 a0_0) := (blk_cell BK402.out 0).trans rfl; have hcz75_1 : w68.cell? ⟨gb402, 1, none⟩ = some (.slice A0_1 l0_1.length c0_1) := (blk_cell BK402.out 1).trans rfl; have hcz75_2 : w68.cell? ⟨gb402, 2, none⟩ = some (.slice A0_2 l0_2.length c0_2) := (blk_cell BK402.out 2).trans rfl; have hfz75_0 := blk_frozen BK402.out 0; have hfz75_1 := blk_frozen BK402.out 1; have hfz75_2 := blk_frozen BK402.out 2; have hcz76_0 : w68.cell? ⟨gb404, 0, none⟩ = some (.int .i64 a2_0) := (blk_cell BK404.out 0).trans rfl; have hcz76_1 : w68.cell? ⟨gb404, 1, none⟩ = some (.int .i64 a2_1) := (blk_cell BK404.out 1).trans rfl; have hcz76_2 : w68.cell? ⟨gb404, 2, none⟩ = some (.int .i64 a2_2) := (blk_cell BK404.out 2).trans rfl; have hcz76_3 : w68.cell? ⟨gb404, 3, none⟩ = some (.int .i64 a2_3) := (blk_cell BK404.out 3).trans rfl; have hfz76_0 := blk_frozen BK404.out 0; have hfz76_1 := blk_frozen BK404.out 1; have hfz76_2 := blk_frozen BK404.out 2; have hfz76_3 := blk_frozen BK404.out 3; have hcz77_0 : w68.cell? ⟨gb403, 0, none⟩ = some (.int .i64 a1_0) := (blk_cell BK403.out 0).trans rfl; have hcz77_1 : w68.cell? ⟨gb403, 1, none⟩ = some (.int .i64 a1_1) := (blk_cell BK403.out 1).trans rfl; have hcz77_2 : w68.cell? ⟨gb403, 2, none⟩ = some (.int .i64 a1_2) := (blk_cell BK403.out 2).trans rfl; have hcz77_3 : w68.cell? ⟨gb403, 3, none⟩ = some (.int .i64 a1_3) := (blk_cell BK403.out 3).trans rfl; have hfz77_0 := blk_frozen BK403.out 0; have hfz77_1 := blk_frozen BK403.out 1; have hfz77_2 := blk_frozen BK403.out 2; have hfz77_3 := blk_frozen BK403.out 3) | ((with_reducible refine gate_dst (N := 69) rfl ?_); (try (refine gate_guard (by rfl) ?_; dsimp only)); refine Kd.R_lit k26 _ 26 ?hg (N := 69) ?hd (xs := ([(⟨a2_0, a2_1, a2_2, a2_3⟩ : S26), (⟨a1_0, a1_1, a1_2, a1_3⟩ : S26)] : List (S26))) (inner := [.int .i64 a2_0, .int .i64 a2_1, .int .i64 a2_2, .int .i64 a2_3, .int .i64 a1_0, .int .i64 a1_1, .int .i64 a1_2, .int .i64 a1_3]) (ok := fun _ => True) (okp := fun _ => True) ?hr ?hp (fun _ hk => hk) trivial (Below.refl _ _) (Nat.le_refl _) (by simp) ?_; (case hd => rfl); (case hg => rfl); (case hr => first | (go_simp; done) | (go_simp; rfl)); (case hp => exact (Reps.c4 (show Kd.M k26 _ _ _ (⟨a2_0, a2_1, a2_2, a2_3⟩ : S26) [.int .i64 a2_0, .int .i64 a2_1, .int .i64 a2_2, .int .i64 a2_3] from (k26_mkM _ _ _ (⟨a2_0, a2_1, a2_2, a2_3⟩ : S26) )) (Reps.c4 (show Kd.M k26 _ _ _ (⟨a1_0, a1_1, a1_2, a1_3⟩ : S26) [.int .i64 a1_0, .int .i64 a1_1, .int .i64 a1_2, .int .i64 a1_3] from (k26_mkM _ _ _ (⟨a1_0, a1_1, a1_2, a1_3⟩ : S26) )) (Reps.none _ _)))); intro v433 w78 ho79 hb hg_ hnew_; clear hg_ hnew_; (first | rw [← Ny432.out] at ho79 | (simp only [Int.reduceToNat] at ho79; rw [← Ny432.out] at ho79)); have n0_ := Aside0.mk (Kd.R_elder' (by (with_reducible repeat (first | apply Kd.R_alloc | apply Kd.R_drewN | apply Kd.R_drew)); exact (Kd.R_mono (Kd.R_far (p := ⟨gb431, 2, none⟩) (Kd.R_far (p := ⟨gb431, 1, none⟩) (Kd.R_far (p := ⟨gb431, 0, none⟩) (Kd.R_types HO417.out BK431.out (by decide)) (fun _ hk => hk.2) (.int .i64 t418)) (fun _ hk => hk.2) (.slice Ao73 t419.length co73)) (fun _ hk => hk.2) (.slice Ao74 t422.length co74)) (fun _ h_ => h_.1))) (Kd.R_base ho79) hb); have n1_ := Aside0.mk (Kd.V_elder' (by (with_reducible repeat (first | apply Kd.V_alloc | apply Kd.V_drewN | apply Kd.V_drew)); exact (Kd.V_mono (Kd.V_far (p := ⟨gb431, 2, none⟩) (Kd.V_far (p := ⟨gb431, 1, none⟩) (Kd.V_far (p := ⟨gb431, 0, none⟩) (Kd.V_mono HO421.out (fun k_ hk => (⟨hk, hk.2⟩ : _ ∧ k_ ≠ gb431))) (fun _ hk => hk.2) (.int .i64 t418)) (fun _ hk => hk.2) (.slice Ao73 t419.length co73)) (fun _ hk => hk.2) (.slice Ao74 t422.length co74)) (fun _ h_ => h_.1))) (Kd.R_base ho79) hb); have n2_ := Aside0.mk (Kd.V_elder' (by (with_reducible repeat (first | apply Kd.V_alloc | apply Kd.V_drewN | apply Kd.V_drew)); exact (Kd.V_mono (Kd.V_far (p := ⟨gb431, 2, none⟩) (Kd.V_far (p := ⟨gb431, 1, none⟩) (Kd.V_far (p := ⟨gb431, 0, none⟩) (Kd.V_mono HO424.out (fun k_ hk => (⟨hk, hk.2⟩ : _ ∧ k_ ≠ gb431))) (fun _ hk => hk.2) (.int .i64 t418)) (fun _ hk => hk.2) (.slice Ao73 t419.length co73)) (fun _ hk => hk.2) (.slice Ao74 t422.length co74)) (fun _ h_ => h_.1))) (Kd.R_base ho79) hb); have n3_ := Aside0.mk (Kd.R_below (by (with_reducible repeat (first | apply Kd.R_alloc | apply Kd.R_drewN | apply Kd.R_drew)); exact (Kd.R_mono (Kd.R_far (p := ⟨gb431, 2, none⟩) (Kd.R_far (p := ⟨gb431, 1, none⟩) (Kd.R_far (p := ⟨gb431, 0, none⟩) (Kd.R_types HO427.out BK431.out (by decide)) (fun _ hk => hk.2) (.int .i64 t418)) (fun _ hk => hk.2) (.slice Ao73 t419.length co73)) (fun _ hk => hk.2) (.slice Ao74 t422.length co74)) (fun _ h_ => h_.1))) hb); have n4_ := Aside0.mk (Kd.R_below (by (with_reducible repeat (first | apply Kd.R_alloc | apply Kd.R_drewN | apply Kd.R_drew)); exact (Kd.R_mono (Kd.R_far (p := ⟨gb431, 2, none⟩) (Kd.R_far (p := ⟨gb431, 1, none⟩) (Kd.R_far (p := ⟨gb431, 0, none⟩) (Kd.R_types HO430.out BK431.out (by decide)) (fun _ hk => hk.2) (.int .i64 t418)) (fun _ hk => hk.2) (.slice Ao73 t419.length co73)) (fun _ hk => hk.2) (.slice Ao74 t422.length co74)) (fun _ h_ => h_.1))) hb); have n5_ := Aside0.mk (Kd.R_lower (Kd.R_newB (Kd.R_newB (Kd.R_new' ho79 (Kd.R_lt (by (with_reducible repeat (first | apply Kd.R_alloc | apply Kd.R_drewN | apply Kd.R_drew)); exact (Kd.R_mono (Kd.R_far (p := ⟨gb431, 2, none⟩) (Kd.R_far (p := ⟨gb431, 1, none⟩) (Kd.R_far (p := ⟨gb431, 0, none⟩) (Kd.R_types HO417.out BK431.out (by decide)) (fun _ hk => hk.2) (.int .i64 t418)) (fun _ hk => hk.2) (.slice Ao73 t419.length co73)) (fun _ hk => hk.2) (.slice Ao74 t422.length co74)) (fun _ h_ => h_.1))))) (g := gb403) (o := .cells #[.int .i64 a1_0, .int .i64 a1_1, .int .i64 a1_2, .int .i64 a1_3] 26 (0, 0)) (by (with_reducible repeat (first | refine blk_drewN ?_ _ | refine blk_drew ?_ | refine blk_alloc ?_ _)); refine blk_far ?_ NB403_431.out _; (with_reducible repeat (first | refine blk_drewN ?_ _ | refine blk_drew ?_ | refine blk_alloc ?_ _)); refine blk_far ?_ NB403_431.out _; (with_reducible repeat (first | refine blk_drewN ?_ _ | refine blk_drew ?_ | refine blk_alloc ?_ _)); refine blk_far ?_ NB403_431.out _; (with_reducible repeat (first | refine blk_drewN ?_ _ | refine blk_drew ?_ | refine blk_alloc ?_ _)); exact BK403.out)) (g := gb404) (o := .cells #[.int .i64 a2_0, .int .i64 a2_1, .int .i64 a2_2, .int .i64 a2_3] 26 (0, 0)) (by (with_reducible repeat (first | refine blk_drewN ?_ _ | refine blk_drew ?_ | refine blk_alloc ?_ _)); refine blk_far ?_ NB404_431.out _; (with_reducible repeat (first | refine blk_drewN ?_ _ | refine blk_drew ?_ | refine blk_alloc ?_ _)); refine blk_far ?_ NB404_431.out _; (with_reducible repeat (first | refine blk_drewN ?_ _ | refine blk_drew ?_ | refine blk_alloc ?_ _)); refine blk_far ?_ NB404_431.out _; (with_reducible repeat (first | refine blk_drewN ?_ _ | refine blk_drew ?_ | refine blk_alloc ?_ _)); exact BK404.out)) (below_size (by repeat (first | (with_reducible first | exact HB.out | apply below_alloc | apply pw_below_drewN | apply below_drew1 | refine below_set ?_ GE402.out | refine below_set ?_ GE403.out | refine below_set ?_ GE404.out | refine below_set ?_ GE431.out) | exact HB.out)))); have n6_ := Aside0.mk (blk_below (g := gb402) (o := .cells #[.int .i64 a0_0, .slice A0_1 l0_1.length c0_1, .slice A0_2 l0_2.length c0_2] 24 (0, 0)) (by (with_reducible repeat (first | refine blk_drewN ?_ _ | refine blk_drew ?_ | refine blk_alloc ?_ _)); refine blk_far ?_ NB402_431.out _; (with_reducible repeat (first | refine blk_drewN ?_ _ | refine blk_drew ?_ | refine blk_alloc ?_ _)); refine blk_far ?_ NB402_431.out _; (with_reducible repeat (first | refine blk_drewN ?_ _ | refine blk_drew ?_ | refine blk_alloc ?_ _)); refine blk_far ?_ NB402_431.out _; (with_reducible repeat (first | refine blk_drewN ?_ _ | refine blk_drew ?_ | refine blk_alloc ?_ _)); exact BK402.out) hb); have n7_ := Aside0.mk (blk_below (g := gb403) (o := .cells #[.int .i64 a1_0, .int .i64 a1_1, .int .i64 a1_2, .int .i64 a1_3] 26 (0, 0)) (by (with_reducible repeat (first | refine blk_drewN ?_ _ | refine blk_drew ?_ | refine blk_alloc ?_ _)); refine blk_far ?_ NB403_431.out _; (with_reducible repeat (first | refine blk_drewN ?_ _ | refine blk_drew ?_ | refine blk_alloc ?_ _)); refine blk_far ?_ NB403_431.out _; (with_reducible repeat (first | refine blk_drewN ?_ _ | refine blk_drew ?_ | refine blk_alloc ?_ _)); refine blk_far ?_ NB403_431.out _; (with_reducible repeat (first | refine blk_drewN ?_ _ | refine blk_drew ?_ | refine blk_alloc ?_ _)); exact BK403.out) hb); have n8_ := Aside0.mk (blk_below (g := gb404) (o := .cells #[.int .i64 a2_0, .int .i64 a2_1, .int .i64 a2_2, .int .i64 a2_3] 26 (0, 0)) (by (with_reducible repeat (first | refine blk_drewN ?_ _ | refine blk_drew ?_ | refine blk_alloc ?_ _)); refine blk_far ?_ NB404_431.out _; (with_reducible repeat (first | refine blk_drewN ?_ _ | refine blk_drew ?_ | refine blk_alloc ?_ _)); refine blk_far ?_ NB404_431.out _; (with_reducible repeat (first | refine blk_drewN ?_ _ | refine blk_drew ?_ | refine blk_alloc ?_ _)); refine blk_far ?_ NB404_431.out _; (with_reducible repeat (first | refine blk_drewN ?_ _ | refine blk_drew ?_ | refine blk_alloc ?_ _)); exact BK404.out) hb); have n9_ := Aside0.mk (blk_below (g := gb431) (o := .cells #[.int .i64 t418, .slice Ao73 t419.length co73, .slice Ao74 t422.length co74] 24 (0, 0)) (by (with_reducible repeat (first | refine blk_drewN ?_ _ | refine blk_drew ?_ | refine blk_alloc ?_ _)); refine blk_put (cs := #[.int .i64 t418, .slice Ao73 t419.length co73, .slice none 0 0]) ?_ 2 _ rfl; (with_reducible repeat (first | refine blk_drewN ?_ _ | refine blk_drew ?_ | refine blk_alloc ?_ _)); refine blk_put (cs := #[.int .i64 t418, .slice none 0 0, .slice none 0 0]) ?_ 1 _ rfl; (with_reducible repeat (first | refine blk_drewN ?_ _ | refine blk_drew ?_ | refine blk_alloc ?_ _)); refine blk_put (cs := #[.int .i64 0, .slice none 0 0, .slice none 0 0]) ?_ 0 _ rfl; (with_reducible repeat (first | refine blk_drewN ?_ _ | refine blk_drew ?_ | refine blk_alloc ?_ _)); exact BK431.out) hb); have n10_ := Aside0.mk (below_step (by repeat (first | (with_reducible first | exact HB.out | apply below_alloc | apply pw_below_drewN | apply below_drew1 | refine below_set ?_ GE402.out | refine below_set ?_ GE403.out | refine below_set ?_ GE404.out | refine below_set ?_ GE431.out) | exact HB.out)) hb); clear HO417; clear HO421; clear HO424; clear HO427; clear HO430; clear BK402; clear BK403; clear BK404; clear BK431; clear HB; have HO417 := n0_; have HO421 := n1_; have HO424 := n2_; have HO427 := n3_; have HO430 := n4_; have HO434 := n5_; have BK402 := n6_; have BK403 := n7_; have BK404 := n8_; have BK431 := n9_; have HB := n10_; clear n0_ n1_ n2_ n3_ n4_ n5_ n6_ n7_ n8_ n9_ n10_; clear hb ho79; obtain ⟨Ao80, co80, eo80⟩ := Kd.R_slice HO434.out; subst eo80) | ((with_reducible refine gate_callee (f := 13) rfl ?_); refine goesL_ (some 70) rfl rfl Try.func13 (by kernel_rfl) rfl #[.agg #[.int .i64 a0_0, .slice A0_1 l0_1.length c0_1, .slice A0_2 l0_2.length c0_2], .slice Ao80 y432.length co80] rfl (by (try simp only [List.map_toArray, List.map_cons, List.map_nil]); first | done | rfl | (simp only [List.length_drop, List.length_take]; rfl)) ?_; (with_reducible refine (spec_All.calls kj4 a0_0 (fun k_ => k_ < w.heap.size) _ _ l0_1 (fun k_ => k_ < w.heap.size) _ _ l0_2 _ _ y432 t435 t436 t439 t442 t445 _ ?side1 ?side2 ?side3 ?side4 A36.out).mono ?_); (case side1 => exact Kd.V_mk HC0_1.out (Kd.F_below (Kd.C_F (Kd.heap_int .i64) HR0_1.out) (by repeat (first | (with_reducible first | exact HB.out | apply below_alloc | apply pw_below_drewN | apply below_drew1 | refine below_set ?_ GE402.out | refine below_set ?_ GE403.out | refine below_set ?_ GE404.out | refine below_set ?_ GE431.out) | exact HB.out)))); (case side2 => exact Kd.V_mk HC0_2.out (Kd.F_below (Kd.C_F (Kd.heap_int .i64) HR0_2.out) (by repeat (first | (with_reducible first | exact HB.out | apply below_alloc | apply pw_below_drewN | apply below_drew1 | refine below_set ?_ GE402.out | refine below_set ?_ GE403.out | refine below_set ?_ GE404.out | refine below_set ?_ GE431.out) | exact HB.out)))); (case side3 => repeat (first | exact (Kd.R_reads' HO434.out).2.2 | (with_reducible refine Kd.C_alloc ?_ _) | (with_reducible refine Kd.C_drewN ?_ _) | (with_reducible refine Kd.C_drew ?_))); (case side4 => exact (Kd.R_reads' HO434.out).2.1); rintro e w81 ⟨v437, v440, v443, v446, rfl, ho0, ho1, ho2, ho3, hb⟩; refine ⟨_, rfl, ?_⟩; have n0_ := Aside0.mk (Kd.R_below (by (with_reducible repeat (first | apply Kd.R_alloc | apply Kd.R_drewN | apply Kd.R_drew)); exact HO417.out) hb); have n1_ := Aside0.mk (Kd.V_mono (Kd.V_told (Kd.V_told (Kd.V_old (by (with_reducible repeat (first | apply Kd.V_alloc | apply Kd.V_drewN | apply Kd.V_drew)); exact HO421.out) hb) (Kd.R_base ho2)) (Kd.R_base ho3)) (fun _ h_ => h_.1)); have n2_ := Aside0.mk (Kd.V_mono (Kd.V_told (Kd.V_told (Kd.V_old (by (with_reducible repeat (first | apply Kd.V_alloc | apply Kd.V_drewN | apply Kd.V_drew)); exact HO424.out) hb) (Kd.R_base ho2)) (Kd.R_base ho3)) (fun _ h_ => h_.1)); have n3_ := Aside0.mk (Kd.R_elder' (by (with_reducible repeat (first | apply Kd.R_alloc | apply Kd.R_drewN | apply Kd.R_drew)); exact HO427.out) (Kd.R_base ho2) hb); have n4_ := Aside0.mk (Kd.R_elder' (by (with_reducible repeat (first | apply Kd.R_alloc | apply Kd.R_drewN | apply Kd.R_drew)); exact HO430.out) (Kd.R_base ho3) hb); have n5_ := Aside0.mk (Kd.R_below (by (with_reducible repeat (first | apply Kd.R_alloc | apply Kd.R_drewN | apply Kd.R_drew)); exact HO434.out) hb); have n6_ := Aside0.mk (Kd.V_lower (Kd.V_mono (ok' := fun k_ => some k_ ≠ (v443 : Value).ownBlock ∧ some k_ ≠ (v446 : Value).ownBlock ∧ some k_ ≠ (.slice Ao66 y415.length co66 : Value).ownBlock ∧ some k_ ≠ (v426 : Value).ownBlock ∧ some k_ ≠ (v429 : Value).ownBlock ∧ some k_ ≠ (.slice Ao80 y432.length co80 : Value).ownBlock ∧ k_ ≠ gb402 ∧ k_ ≠ gb403 ∧ k_ ≠ gb404 ∧ k_ ≠ gb431) ho0 (fun k_ hk_ => by first | exact ⟨hk_.2.1, hk_.2.2, Or.elim hk_.1 (fun hs_ => Or.elim hs_ (fun hs_ => fun e_ => Nat.not_le.2 hs_ (Kd.R_base HO417.out k_ e_.symm)) (fun hs_ => fun e_ => Nat.not_le.2 hs_ (Kd.R_base HO417.out k_ e_.symm))) (fun hn_ => (Kd.fresh' (Kd.R_lt (by (with_reducible repeat (first | apply Kd.R_alloc | apply Kd.R_drewN | apply Kd.R_drew)); exact HO417.out)) k_ hn_)), Or.elim hk_.1 (fun hs_ => Or.elim hs_ (fun hs_ => fun e_ => Nat.not_le.2 hs_ (Kd.R_base HO427.out k_ e_.symm)) (fun hs_ => fun e_ => Nat.not_le.2 hs_ (Kd.R_base HO427.out k_ e_.symm))) (fun hn_ => (Kd.fresh' (Kd.R_lt (by (with_reducible repeat (first | apply Kd.R_alloc | apply Kd.R_drewN | apply Kd.R_drew)); exact HO427.out)) k_ hn_)), Or.elim hk_.1 (fun hs_ => Or.elim hs_ (fun hs_ => fun e_ => Nat.not_le.2 hs_ (Kd.R_base HO430.out k_ e_.symm)) (fun hs_ => fun e_ => Nat.not_le.2 hs_ (Kd.R_base HO430.out k_ e_.symm))) (fun hn_ => (Kd.fresh' (Kd.R_lt (by (with_reducible repeat (first | apply Kd.R_alloc | apply Kd.R_drewN | apply Kd.R_drew)); exact HO430.out)) k_ hn_)), Or.elim hk_.1 (fun hs_ => Or.elim hs_ (fun hs_ => fun e_ => Nat.not_le.2 hs_ (Kd.R_base HO434.out k_ e_.symm)) (fun hs_ => fun e_ => Nat.not_le.2 hs_ (Kd.R_base HO434.out k_ e_.symm))) (fun hn_ => (Kd.fresh' (Kd.R_lt (by (with_reducible repeat (first | apply Kd.R_alloc | apply Kd.R_drewN | apply Kd.R_drew)); exact HO434.out)) k_ hn_)), Or.elim hk_.1 (fun hs_ => Or.elim hs_ (fun hs_ => fun e_ => Nat.not_le.2 hs_ (by rw [e_]; exact GW402.out)) (fun hs_ => fun e_ => Nat.not_le.2 hs_ (by rw [e_]; exact GW402.out))) (fun hn_ => (Kd.freshB (g := gb402) (o := .cells #[.int .i64 a0_0, .slice A0_1 l0_1.length c0_1, .slice A0_2 l0_2.length c0_2] 24 (0, 0)) (by (with_reducible repeat (first | refine blk_drewN ?_ _ | refine blk_drew ?_ | refine blk_alloc ?_ _)); exact BK402.out) k_ hn_)), Or.elim hk_.1 (fun hs_ => Or.elim hs_ (fun hs_ => fun e_ => Nat.not_le.2 hs_ (by rw [e_]; exact GW403.out)) (fun hs_ => fun e_ => Nat.not_le.2 hs_ (by rw [e_]; exact GW403.out))) (fun hn_ => (Kd.freshB (g := gb403) (o := .cells #[.int .i64 a1_0, .int .i64 a1_1, .int .i64 a1_2, .int .i64 a1_3] 26 (0, 0)) (by (with_reducible repeat (first | refine blk_drewN ?_ _ | refine blk_drew ?_ | refine blk_alloc ?_ _)); exact BK403.out) k_ hn_)), Or.elim hk_.1 (fun hs_ => Or.elim hs_ (fun hs_ => fun e_ => Nat.not_le.2 hs_ (by rw [e_]; exact GW404.out)) (fun hs_ => fun e_ => Nat.not_le.2 hs_ (by rw [e_]; exact GW404.out))) (fun hn_ => (Kd.freshB (g := gb404) (o := .cells #[.int .i64 a2_0, .int .i64 a2_1, .int .i64 a2_2, .int .i64 a2_3] 26 (0, 0)) (by (with_reducible repeat (first | refine blk_drewN ?_ _ | refine blk_drew ?_ | refine blk_alloc ?_ _)); exact BK404.out) k_ hn_)), Or.elim hk_.1 (fun hs_ => Or.elim hs_ (fun hs_ => fun e_ => Nat.not_le.2 hs_ (by rw [e_]; exact GW431.out)) (fun hs_ => fun e_ => Nat.not_le.2 hs_ (by rw [e_]; exact GW431.out))) (fun hn_ => (Kd.freshB (g := gb431) (o := .cells #[.int .i64 t418, .slice Ao73 t419.length co73, .slice Ao74 t422.length co74] 24 (0, 0)) (by (with_reducible repeat (first | refine blk_drewN ?_ _ | refine blk_drew ?_ | refine blk_alloc ?_ _)); exact BK431.out) k_ hn_))⟩ | grind)) (below_size (by repeat (first | (with_reducible first | exact HB.out | apply below_alloc | apply pw_below_drewN | apply below_drew1 | refine below_set ?_ GE402.out | refine below_set ?_ GE403.out | refine below_set ?_ GE404.out | refine below_set ?_ GE431.out) | exact HB.out)))); have n7_ := Aside0.mk (Kd.V_lower (Kd.V_mono (ok' := fun k_ => some k_ ≠ (v443 : Value).ownBlock ∧ some k_ ≠ (v446 : Value).ownBlock ∧ some k_ ≠ (.slice Ao66 y415.length co66 : Value).ownBlock ∧ some k_ ≠ (v426 : Value).ownBlock ∧ some k_ ≠ (v429 : Value).ownBlock ∧ some k_ ≠ (.slice Ao80 y432.length co80 : Value).ownBlock ∧ k_ ≠ gb402 ∧ k_ ≠ gb403 ∧ k_ ≠ gb404 ∧ k_ ≠ gb431) ho1 (fun k_ hk_ => by first | exact ⟨hk_.2.1, hk_.2.2, Or.elim hk_.1 (fun hs_ => Or.elim hs_ (fun hs_ => fun e_ => Nat.not_le.2 hs_ (Kd.R_base HO417.out k_ e_.symm)) (fun hs_ => fun e_ => Nat.not_le.2 hs_ (Kd.R_base HO417.out k_ e_.symm))) (fun hn_ => (Kd.fresh' (Kd.R_lt (by (with_reducible repeat (first | apply Kd.R_alloc | apply Kd.R_drewN | apply Kd.R_drew)); exact HO417.out)) k_ hn_)), Or.elim hk_.1 (fun hs_ => Or.elim hs_ (fun hs_ => fun e_ => Nat.not_le.2 hs_ (Kd.R_base HO427.out k_ e_.symm)) (fun hs_ => fun e_ => Nat.not_le.2 hs_ (Kd.R_base HO427.out k_ e_.symm))) (fun hn_ => (Kd.fresh' (Kd.R_lt (by (with_reducible repeat (first | apply Kd.R_alloc | apply Kd.R_drewN | apply Kd.R_drew)); exact HO427.out)) k_ hn_)), Or.elim hk_.1 (fun hs_ => Or.elim hs_ (fun hs_ => fun e_ => Nat.not_le.2 hs_ (Kd.R_base HO430.out k_ e_.symm)) (fun hs_ => fun e_ => Nat.not_le.2 hs_ (Kd.R_base HO430.out k_ e_.symm))) (fun hn_ => (Kd.fresh' (Kd.R_lt (by (with_reducible repeat (first | apply Kd.R_alloc | apply Kd.R_drewN | apply Kd.R_drew)); exact HO430.out)) k_ hn_)), Or.elim hk_.1 (fun hs_ => Or.elim hs_ (fun hs_ => fun e_ => Nat.not_le.2 hs_ (Kd.R_base HO434.out k_ e_.symm)) (fun hs_ => fun e_ => Nat.not_le.2 hs_ (Kd.R_base HO434.out k_ e_.symm))) (fun hn_ => (Kd.fresh' (Kd.R_lt (by (with_reducible repeat (first | apply Kd.R_alloc | apply Kd.R_drewN | apply Kd.R_drew)); exact HO434.out)) k_ hn_)), Or.elim hk_.1 (fun hs_ => Or.elim hs_ (fun hs_ => fun e_ => Nat.not_le.2 hs_ (by rw [e_]; exact GW402.out)) (fun hs_ => fun e_ => Nat.not_le.2 hs_ (by rw [e_]; exact GW402.out))) (fun hn_ => (Kd.freshB (g := gb402) (o := .cells #[.int .i64 a0_0, .slice A0_1 l0_1.length c0_1, .slice A0_2 l0_2.length c0_2] 24 (0, 0)) (by (with_reducible repeat (first | refine blk_drewN ?_ _ | refine blk_drew ?_ | refine blk_alloc ?_ _)); exact BK402.out) k_ hn_)), Or.elim hk_.1 (fun hs_ => Or.elim hs_ (fun hs_ => fun e_ => Nat.not_le.2 hs_ (by rw [e_]; exact GW403.out)) (fun hs_ => fun e_ => Nat.not_le.2 hs_ (by rw [e_]; exact GW403.out))) (fun hn_ => (Kd.freshB (g := gb403) (o := .cells #[.int .i64 a1_0, .int .i64 a1_1, .int .i64 a1_2, .int .i64 a1_3] 26 (0, 0)) (by (with_reducible repeat (first | refine blk_drewN ?_ _ | refine blk_drew ?_ | refine blk_alloc ?_ _)); exact BK403.out) k_ hn_)), Or.elim hk_.1 (fun hs_ => Or.elim hs_ (fun hs_ => fun e_ => Nat.not_le.2 hs_ (by rw [e_]; exact GW404.out)) (fun hs_ => fun e_ => Nat.not_le.2 hs_ (by rw [e_]; exact GW404.out))) (fun hn_ => (Kd.freshB (g := gb404) (o := .cells #[.int .i64 a2_0, .int .i64 a2_1, .int .i64 a2_2, .int .i64 a2_3] 26 (0, 0)) (by (with_reducible repeat (first | refine blk_drewN ?_ _ | refine blk_drew ?_ | refine blk_alloc ?_ _)); exact BK404.out) k_ hn_)), Or.elim hk_.1 (fun hs_ => Or.elim hs_ (fun hs_ => fun e_ => Nat.not_le.2 hs_ (by rw [e_]; exact GW431.out)) (fun hs_ => fun e_ => Nat.not_le.2 hs_ (by rw [e_]; exact GW431.out))) (fun hn_ => (Kd.freshB (g := gb431) (o := .cells #[.int .i64 t418, .slice Ao73 t419.length co73, .slice Ao74 t422.length co74] 24 (0, 0)) (by (with_reducible repeat (first | refine blk_drewN ?_ _ | refine blk_drew ?_ | refine blk_alloc ?_ _)); exact BK431.out) k_ hn_))⟩ | grind)) (below_size (by repeat (first | (with_reducible first | exact HB.out | apply below_alloc | apply pw_below_drewN | apply below_drew1 | refine below_set ?_ GE402.out | refine below_set ?_ GE403.out | refine below_set ?_ GE404.out | refine below_set ?_ GE431.out) | exact HB.out)))); have n8_ := Aside0.mk (Kd.R_lower (Kd.R_new' (Kd.R_mono (ok' := fun k_ => True) ho2 (fun _ hk_ => trivial)) (Kd.R_lt (by (with_reducible repeat (first | apply Kd.R_alloc | apply Kd.R_drewN | apply Kd.R_drew)); exact HO427.out))) (below_size (by repeat (first | (with_reducible first | exact HB.out | apply below_alloc | apply pw_below_drewN | apply below_drew1 | refine below_set ?_ GE402.out | refine below_set ?_ GE403.out | refine below_set ?_ GE404.out | refine below_set ?_ GE431.out) | exact HB.out)))); have n9_ := Aside0.mk (Kd.R_lower (Kd.R_new' (Kd.R_mono (ok' := fun k_ => True) ho3 (fun _ hk_ => trivial)) (Kd.R_lt (by (with_reducible repeat (first | apply Kd.R_alloc | apply Kd.R_drewN | apply Kd.R_drew)); exact HO430.out))) (below_size (by repeat (first | (with_reducible first | exact HB.out | apply below_alloc | apply pw_below_drewN | apply below_drew1 | refine below_set ?_ GE402.out | refine below_set ?_ GE403.out | refine below_set ?_ GE404.out | refine below_set ?_ GE431.out) | exact HB.out)))); have n10_ := Aside0.mk (blk_below (g := gb402) (o := .cells #[.int .i64 a0_0, .slice A0_1 l0_1.length c0_1, .slice A0_2 l0_2.length c0_2] 24 (0, 0)) (by (with_reducible repeat (first | refine blk_drewN ?_ _ | refine blk_drew ?_ | refine blk_alloc ?_ _)); exact BK402.out) hb); have n11_ := Aside0.mk (blk_below (g := gb403) (o := .cells #[.int .i64 a1_0, .int .i64 a1_1, .int .i64 a1_2, .int .i64 a1_3] 26 (0, 0)) (by (with_reducible repeat (first | refine blk_drewN ?_ _ | refine blk_drew ?_ | refine blk_alloc ?_ _)); exact BK403.out) hb); have n12_ := Aside0.mk (blk_below (g := gb404) (o := .cells #[.int .i64 a2_0, .int .i64 a2_1, .int .i64 a2_2, .int .i64 a2_3] 26 (0, 0)) (by (with_reducible repeat (first | refine blk_drewN ?_ _ | refine blk_drew ?_ | refine blk_alloc ?_ _)); exact BK404.out) hb); have n13_ := Aside0.mk (blk_below (g := gb431) (o := .cells #[.int .i64 t418, .slice Ao73 t419.length co73, .slice Ao74 t422.length co74] 24 (0, 0)) (by (with_reducible repeat (first | refine blk_drewN ?_ _ | refine blk_drew ?_ | refine blk_alloc ?_ _)); exact BK431.out) hb); have n14_ := Aside0.mk (below_step (by repeat (first | (with_reducible first | exact HB.out | apply below_alloc | apply pw_below_drewN | apply below_drew1 | refine below_set ?_ GE402.out | refine below_set ?_ GE403.out | refine below_set ?_ GE404.out | refine below_set ?_ GE431.out) | exact HB.out)) hb); clear HO417; clear HO421; clear HO424; clear HO427; clear HO430; clear HO434; clear BK402; clear BK403; clear BK404; clear BK431; clear HB; have HO417 := n0_; have HO421 := n1_; have HO424 := n2_; have HO427 := n3_; have HO430 := n4_; have HO434 := n5_; have HO438 := n6_; have HO441 := n7_; have HO444 := n8_; have HO447 := n9_; have BK402 := n10_; have BK403 := n11_; have BK404 := n12_; have BK431 := n13_; have HB := n14_; clear n0_ n1_ n2_ n3_ n4_ n5_ n6_ n7_ n8_ n9_ n10_ n11_ n12_ n13_ n14_; (try clear hb); (try clear hb2); (try clear hk); (try clear hi); (try clear ho0); (try clear ho1); (try clear ho2); (try clear ho3)) | ((with_reducible refine gate_dst (N := 11) rfl ?_); (try (refine gate_guard (by rfl) ?_; dsimp only)); refine box_event ?hg (N := 11) ?hd (cs := #[.int .i64 0, .slice none 0 0, .slice none 0 0]) (t := 24) ?hr ?_; (case hd => rfl); (case hg => rfl); (case hr => first | (go_simp; done) | (go_simp; rfl)); intro gb448 hg w82 hbox hb; have n0_ := Aside0.mk (Kd.R_below (by (with_reducible repeat (first | apply Kd.R_alloc | apply Kd.R_drewN | apply Kd.R_drew)); exact HO417.out) hb); have n1_ := Aside0.mk (Kd.V_below (Kd.V_elderB (by (with_reducible repeat (first | apply Kd.V_alloc | apply Kd.V_drewN | apply Kd.V_drew)); exact HO421.out) gb448 (Nat.le_of_eq hg.symm)) hb); have n2_ := Aside0.mk (Kd.V_below (Kd.V_elderB (by (with_reducible repeat (first | apply Kd.V_alloc | apply Kd.V_drewN | apply Kd.V_drew)); exact HO424.out) gb448 (Nat.le_of_eq hg.symm)) hb); have n3_ := Aside0.mk (Kd.R_below (by (with_reducible repeat (first | apply Kd.R_alloc | apply Kd.R_drewN | apply Kd.R_drew)); exact HO427.out) hb); have n4_ := Aside0.mk (Kd.R_below (by (with_reducible repeat (first | apply Kd.R_alloc | apply Kd.R_drewN | apply Kd.R_drew)); exact HO430.out) hb); have n5_ := Aside0.mk (Kd.R_below (by (with_reducible repeat (first | apply Kd.R_alloc | apply Kd.R_drewN | apply Kd.R_drew)); exact HO434.out) hb); have n6_ := Aside0.mk (Kd.V_below (Kd.V_elderB (by (with_reducible repeat (first | apply Kd.V_alloc | apply Kd.V_drewN | apply Kd.V_drew)); exact HO438.out) gb448 (Nat.le_of_eq hg.symm)) hb); have n7_ := Aside0.mk (Kd.V_below (Kd.V_elderB (by (with_reducible repeat (first | apply Kd.V_alloc | apply Kd.V_drewN | apply Kd.V_drew)); exact HO441.out) gb448 (Nat.le_of_eq hg.symm)) hb); have n8_ := Aside0.mk (Kd.R_below (by (with_reducible repeat (first | apply Kd.R_alloc | apply Kd.R_drewN | apply Kd.R_drew)); exact HO444.out) hb); have n9_ := Aside0.mk (Kd.R_below (by (with_reducible repeat (first | apply Kd.R_alloc | apply Kd.R_drewN | apply Kd.R_drew)); exact HO447.out) hb); have n10_ := Aside0.mk (blk_below (g := gb402) (o := .cells #[.int .i64 a0_0, .slice A0_1 l0_1.length c0_1, .slice A0_2 l0_2.length c0_2] 24 (0, 0)) (by (with_reducible repeat (first | refine blk_drewN ?_ _ | refine blk_drew ?_ | refine blk_alloc ?_ _)); exact BK402.out) hb); have n11_ := Aside0.mk (blk_below (g := gb403) (o := .cells #[.int .i64 a1_0, .int .i64 a1_1, .int .i64 a1_2, .int .i64 a1_3] 26 (0, 0)) (by (with_reducible repeat (first | refine blk_drewN ?_ _ | refine blk_drew ?_ | refine blk_alloc ?_ _)); exact BK403.out) hb); have n12_ := Aside0.mk (blk_below (g := gb404) (o := .cells #[.int .i64 a2_0, .int .i64 a2_1, .int .i64 a2_2, .int .i64 a2_3] 26 (0, 0)) (by (with_reducible repeat (first | refine blk_drewN ?_ _ | refine blk_drew ?_ | refine blk_alloc ?_ _)); exact BK404.out) hb); have n13_ := Aside0.mk (blk_below (g := gb431) (o := .cells #[.int .i64 t418, .slice Ao73 t419.length co73, .slice Ao74 t422.length co74] 24 (0, 0)) (by (with_reducible repeat (first | refine blk_drewN ?_ _ | refine blk_drew ?_ | refine blk_alloc ?_ _)); exact BK431.out) hb); have n14_ := Aside0.mk (below_step (by repeat (first | (with_reducible first | exact HB.out | apply below_alloc | apply pw_below_drewN | apply below_drew1 | refine below_set ?_ GE402.out | refine below_set ?_ GE403.out | refine below_set ?_ GE404.out | refine below_set ?_ GE431.out) | exact HB.out)) hb); have n15_ := Aside0.mk (hbox); have n17_ := Aside0.mk ((by rw [hg]; exact (below_size (by repeat (first | (with_reducible first | exact HB.out | apply below_alloc | apply pw_below_drewN | apply below_drew1 | refine below_set ?_ GE402.out | refine below_set ?_ GE403.out | refine below_set ?_ GE404.out | refine below_set ?_ GE431.out) | exact HB.out))) : w.heap.size ≤ gb448)); have n18_ := Aside0.mk ((by rw [hg]; exact Nat.ne_of_lt (blk_lt (g := gb402) (o := .cells #[.int .i64 a0_0, .slice A0_1 l0_1.length c0_1, .slice A0_2 l0_2.length c0_2] 24 (0, 0)) (by (with_reducible repeat (first | refine blk_drewN ?_ _ | refine blk_drew ?_ | refine blk_alloc ?_ _)); exact BK402.out)) : gb402 ≠ gb448)); have n19_ := Aside0.mk ((by rw [hg]; exact Nat.ne_of_gt (blk_lt (g := gb402) (o := .cells #[.int .i64 a0_0, .slice A0_1 l0_1.length c0_1, .slice A0_2 l0_2.length c0_2] 24 (0, 0)) (by (with_reducible repeat (first | refine blk_drewN ?_ _ | refine blk_drew ?_ | refine blk_alloc ?_ _)); exact BK402.out)) : gb448 ≠ gb402)); have n20_ := Aside0.mk ((by rw [hg]; exact Nat.ne_of_lt (blk_lt (g := gb403) (o := .cells #[.int .i64 a1_0, .int .i64 a1_1, .int .i64 a1_2, .int .i64 a1_3] 26 (0, 0)) (by (with_reducible repeat (first | refine blk_drewN ?_ _ | refine blk_drew ?_ | refine blk_alloc ?_ _)); exact BK403.out)) : gb403 ≠ gb448)); have n21_ := Aside0.mk ((by rw [hg]; exact Nat.ne_of_gt (blk_lt (g := gb403) (o := .cells #[.int .i64 a1_0, .int .i64 a1_1, .int .i64 a1_2, .int .i64 a1_3] 26 (0, 0)) (by (with_reducible repeat (first | refine blk_drewN ?_ _ | refine blk_drew ?_ | refine blk_alloc ?_ _)); exact BK403.out)) : gb448 ≠ gb403)); have n22_ := Aside0.mk ((by rw [hg]; exact Nat.ne_of_lt (blk_lt (g := gb404) (o := .cells #[.int .i64 a2_0, .int .i64 a2_1, .int .i64 a2_2, .int .i64 a2_3] 26 (0, 0)) (by (with_reducible repeat (first | refine blk_drewN ?_ _ | refine blk_drew ?_ | refine blk_alloc ?_ _)); exact BK404.out)) : gb404 ≠ gb448)); have n23_ := Aside0.mk ((by rw [hg]; exact Nat.ne_of_gt (blk_lt (g := gb404) (o := .cells #[.int .i64 a2_0, .int .i64 a2_1, .int .i64 a2_2, .int .i64 a2_3] 26 (0, 0)) (by (with_reducible repeat (first | refine blk_drewN ?_ _ | refine blk_drew ?_ | refine blk_alloc ?_ _)); exact BK404.out)) : gb448 ≠ gb404)); have n24_ := Aside0.mk ((by rw [hg]; exact Nat.ne_of_lt (blk_lt (g := gb431) (o := .cells #[.int .i64 t418, .slice Ao73 t419.length co73, .slice Ao74 t422.length co74] 24 (0, 0)) (by (with_reducible repeat (first | refine blk_drewN ?_ _ | refine blk_drew ?_ | refine blk_alloc ?_ _)); exact BK431.out)) : gb431 ≠ gb448)); have n25_ := Aside0.mk ((by rw [hg]; exact Nat.ne_of_gt (blk_lt (g := gb431) (o := .cells #[.int .i64 t418, .slice Ao73 t419.length co73, .slice Ao74 t422.length co74] 24 (0, 0)) (by (with_reducible repeat (first | refine blk_drewN ?_ _ | refine blk_drew ?_ | refine blk_alloc ?_ _)); exact BK431.out)) : gb448 ≠ gb431)); clear HO417; clear HO421; clear HO424; clear HO427; clear HO430; clear HO434; clear HO438; clear HO441; clear HO444; clear HO447; clear BK402; clear BK403; clear BK404; clear BK431; clear HB; have HO417 := n0_; have HO421 := n1_; have HO424 := n2_; have HO427 := n3_; have HO430 := n4_; have HO434 := n5_; have HO438 := n6_; have HO441 := n7_; have HO444 := n8_; have HO447 := n9_; have BK402 := n10_; have BK403 := n11_; have BK404 := n12_; have BK431 := n13_; have HB := n14_; have BK448 := n15_; have GE448 := n17_; have NB402_448 := n18_; have NB448_402 := n19_; have NB403_448 := n20_; have NB448_403 := n21_; have NB404_448 := n22_; have NB448_404 := n23_; have NB431_448 := n24_; have NB448_431 := n25_; clear n0_ n1_ n2_ n3_ n4_ n5_ n6_ n7_ n8_ n9_ n10_ n11_ n12_ n13_ n14_ n15_ n17_ n18_ n19_ n20_ n21_ n22_ n23_ n24_ n25_; clear hb hbox hg; have hnb83 := NB448_402.out; have hnc83 := NB402_448.out; have hnb84 := NB448_403.out; have hnc84 := NB403_448.out; have hnb85 := NB448_404.out; have hnc85 := NB404_448.out; have hnb86 := NB448_431.out; have hnc86 := NB431_448.out; have hcz87_0 : w82.cell? ⟨gb448, 0, none⟩ = some (.int .i64 0) := (blk_cell BK448.out 0).trans rfl; have hcz87_1 : w82.cell? ⟨gb448, 1, none⟩ = some (.slice none 0 0) := (blk_cell BK448.out 1).trans rfl; have hcz87_2 : w82.cell? ⟨gb448, 2, none⟩ = some (.slice none 0 0) := (blk_cell BK448.out 2).trans rfl; have hfz87_0 := blk_frozen BK448.out 0; have hfz87_1 := blk_frozen BK448.out 1; have hfz87_2 := blk_frozen BK448.out 2; obtain ⟨Ao88, co88, eo88⟩ := Kd.V_slice HO438.out; subst eo88; obtain ⟨Ao89, co89, eo89⟩ := Kd.V_slice HO441.out; subst eo89; obtain ⟨Ao90, co90, eo90⟩ := Kd.R_slice HO427.out; subst eo90; obtain ⟨Ao91, co91, eo91⟩ := Kd.R_slice HO444.out; subst eo91; obtain ⟨Ao92, co92, eo92⟩ := Kd.R_slice HO430.out; subst eo92; obtain ⟨Ao93, co93, eo93⟩ := Kd.R_slice HO447.out; subst eo93))
      have n0_ : Aside0 (Kd.R k26 26 (((w82.setCell ⟨gb448, 0, none⟩ (.int .i64 t435)).setCell ⟨gb448, 1, none⟩ (.slice Ao88 t436.length co88)).setCell ⟨gb448, 2, none⟩ (.slice Ao89 t439.length co89)) w.heap.size (fun k_ => some k_ ≠ (.slice Ao80 y432.length co80 : Value).ownBlock ∧ k_ ≠ gb403 ∧ k_ ≠ gb404) (.slice Ao66 y415.length co66) y415) := ⟨by (with_reducible repeat (first | apply Kd.R_alloc | apply Kd.R_drewN | apply Kd.R_drew)); exact Kd.R_mono (Kd.R_far (p := ⟨gb448, 2, none⟩) (Kd.R_far (p := ⟨gb448, 1, none⟩) (Kd.R_far (p := ⟨gb448, 0, none⟩) (Kd.R_types HO417.out BK448.out (by decide)) (fun _ hk => hk.2) (.int .i64 t435)) (fun _ hk => hk.2) (.slice Ao88 t436.length co88)) (fun _ hk => hk.2) (.slice Ao89 t439.length co89)) (fun _ hk => ⟨hk.1.2, ⟨hk.1.1.1.2, hk.1.1.2⟩⟩)⟩
      have n1_ : Aside0 (Kd.V (Kd.int .i64) 3 (((w82.setCell ⟨gb448, 0, none⟩ (.int .i64 t435)).setCell ⟨gb448, 1, none⟩ (.slice Ao88 t436.length co88)).setCell ⟨gb448, 2, none⟩ (.slice Ao89 t439.length co89)) w.heap.size (fun k_ => some k_ ≠ (.slice Ao66 y415.length co66 : Value).ownBlock ∧ some k_ ≠ (.slice Ao90 t425.length co90 : Value).ownBlock ∧ some k_ ≠ (.slice Ao92 t428.length co92 : Value).ownBlock ∧ some k_ ≠ (.slice Ao80 y432.length co80 : Value).ownBlock ∧ some k_ ≠ (.slice Ao91 t442.length co91 : Value).ownBlock ∧ some k_ ≠ (.slice Ao93 t445.length co93 : Value).ownBlock ∧ k_ ≠ gb402 ∧ k_ ≠ gb403 ∧ k_ ≠ gb404 ∧ k_ ≠ gb431 ∧ k_ ≠ gb448) (.slice Ao73 t419.length co73) t419) := ⟨by (with_reducible repeat (first | apply Kd.V_alloc | apply Kd.V_drewN | apply Kd.V_drew)); exact Kd.V_mono (Kd.V_far (p := ⟨gb448, 2, none⟩) (Kd.V_far (p := ⟨gb448, 1, none⟩) (Kd.V_far (p := ⟨gb448, 0, none⟩) (Kd.V_mono HO421.out (fun k_ hk => (⟨hk, hk.2⟩ : _ ∧ k_ ≠ gb448))) (fun _ hk => hk.2) (.int .i64 t435)) (fun _ hk => hk.2) (.slice Ao88 t436.length co88)) (fun _ hk => hk.2) (.slice Ao89 t439.length co89)) (fun _ hk => ⟨hk.1.1.1.1.1.1.2.2.1, ⟨hk.1.1.1.1.1.1.1, ⟨hk.1.1.1.1.1.1.2.1, ⟨hk.1.1.1.1.2, ⟨hk.1.1.1.2, ⟨hk.1.1.2, ⟨hk.1.1.1.1.1.1.2.2.2.1, ⟨hk.1.1.1.1.1.1.2.2.2.2.1, ⟨hk.1.1.1.1.1.1.2.2.2.2.2, ⟨hk.1.1.1.1.1.2, hk.1.2⟩⟩⟩⟩⟩⟩⟩⟩⟩⟩)⟩
      have n2_ : Aside0 (Kd.V (Kd.int .i64) 3 (((w82.setCell ⟨gb448, 0, none⟩ (.int .i64 t435)).setCell ⟨gb448, 1, none⟩ (.slice Ao88 t436.length co88)).setCell ⟨gb448, 2, none⟩ (.slice Ao89 t439.length co89)) w.heap.size (fun k_ => some k_ ≠ (.slice Ao66 y415.length co66 : Value).ownBlock ∧ some k_ ≠ (.slice Ao90 t425.length co90 : Value).ownBlock ∧ some k_ ≠ (.slice Ao92 t428.length co92 : Value).ownBlock ∧ some k_ ≠ (.slice Ao80 y432.length co80 : Value).ownBlock ∧ some k_ ≠ (.slice Ao91 t442.length co91 : Value).ownBlock ∧ some k_ ≠ (.slice Ao93 t445.length co93 : Value).ownBlock ∧ k_ ≠ gb402 ∧ k_ ≠ gb403 ∧ k_ ≠ gb404 ∧ k_ ≠ gb431 ∧ k_ ≠ gb448) (.slice Ao74 t422.length co74) t422) := ⟨by (with_reducible repeat (first | apply Kd.V_alloc | apply Kd.V_drewN | apply Kd.V_drew)); exact Kd.V_mono (Kd.V_far (p := ⟨gb448, 2, none⟩) (Kd.V_far (p := ⟨gb448, 1, none⟩) (Kd.V_far (p := ⟨gb448, 0, none⟩) (Kd.V_mono HO424.out (fun k_ hk => (⟨hk, hk.2⟩ : _ ∧ k_ ≠ gb448))) (fun _ hk => hk.2) (.int .i64 t435)) (fun _ hk => hk.2) (.slice Ao88 t436.length co88)) (fun _ hk => hk.2) (.slice Ao89 t439.length co89)) (fun _ hk => ⟨hk.1.1.1.1.1.1.2.2.1, ⟨hk.1.1.1.1.1.1.1, ⟨hk.1.1.1.1.1.1.2.1, ⟨hk.1.1.1.1.2, ⟨hk.1.1.1.2, ⟨hk.1.1.2, ⟨hk.1.1.1.1.1.1.2.2.2.1, ⟨hk.1.1.1.1.1.1.2.2.2.2.1, ⟨hk.1.1.1.1.1.1.2.2.2.2.2, ⟨hk.1.1.1.1.1.2, hk.1.2⟩⟩⟩⟩⟩⟩⟩⟩⟩⟩)⟩
      have n3_ : Aside0 (Kd.R (Kd.int .i64) 3 (((w82.setCell ⟨gb448, 0, none⟩ (.int .i64 t435)).setCell ⟨gb448, 1, none⟩ (.slice Ao88 t436.length co88)).setCell ⟨gb448, 2, none⟩ (.slice Ao89 t439.length co89)) w.heap.size (fun k_ => some k_ ≠ (.slice Ao91 t442.length co91 : Value).ownBlock) (.slice Ao90 t425.length co90) t425) := ⟨by (with_reducible repeat (first | apply Kd.R_alloc | apply Kd.R_drewN | apply Kd.R_drew)); exact Kd.R_mono (Kd.R_far (p := ⟨gb448, 2, none⟩) (Kd.R_far (p := ⟨gb448, 1, none⟩) (Kd.R_far (p := ⟨gb448, 0, none⟩) (Kd.R_types HO427.out BK448.out (by decide)) (fun _ hk => hk.2) (.int .i64 t435)) (fun _ hk => hk.2) (.slice Ao88 t436.length co88)) (fun _ hk => hk.2) (.slice Ao89 t439.length co89)) (fun _ hk => hk.1.2)⟩
      have n4_ : Aside0 (Kd.R Kd.bool 4 (((w82.setCell ⟨gb448, 0, none⟩ (.int .i64 t435)).setCell ⟨gb448, 1, none⟩ (.slice Ao88 t436.length co88)).setCell ⟨gb448, 2, none⟩ (.slice Ao89 t439.length co89)) w.heap.size (fun k_ => some k_ ≠ (.slice Ao93 t445.length co93 : Value).ownBlock) (.slice Ao92 t428.length co92) t428) := ⟨by (with_reducible repeat (first | apply Kd.R_alloc | apply Kd.R_drewN | apply Kd.R_drew)); exact Kd.R_mono (Kd.R_far (p := ⟨gb448, 2, none⟩) (Kd.R_far (p := ⟨gb448, 1, none⟩) (Kd.R_far (p := ⟨gb448, 0, none⟩) (Kd.R_types HO430.out BK448.out (by decide)) (fun _ hk => hk.2) (.int .i64 t435)) (fun _ hk => hk.2) (.slice Ao88 t436.length co88)) (fun _ hk => hk.2) (.slice Ao89 t439.length co89)) (fun _ hk => hk.1.2)⟩
      have n5_ : Aside0 (Kd.R k26 26 (((w82.setCell ⟨gb448, 0, none⟩ (.int .i64 t435)).setCell ⟨gb448, 1, none⟩ (.slice Ao88 t436.length co88)).setCell ⟨gb448, 2, none⟩ (.slice Ao89 t439.length co89)) w.heap.size (fun k_ => some k_ ≠ (.slice Ao66 y415.length co66 : Value).ownBlock ∧ k_ ≠ gb403 ∧ k_ ≠ gb404) (.slice Ao80 y432.length co80) y432) := ⟨by (with_reducible repeat (first | apply Kd.R_alloc | apply Kd.R_drewN | apply Kd.R_drew)); exact Kd.R_mono (Kd.R_far (p := ⟨gb448, 2, none⟩) (Kd.R_far (p := ⟨gb448, 1, none⟩) (Kd.R_far (p := ⟨gb448, 0, none⟩) (Kd.R_types HO434.out BK448.out (by decide)) (fun _ hk => hk.2) (.int .i64 t435)) (fun _ hk => hk.2) (.slice Ao88 t436.length co88)) (fun _ hk => hk.2) (.slice Ao89 t439.length co89)) (fun _ hk => ⟨hk.1.1.1.2, ⟨hk.1.1.2, hk.1.2⟩⟩)⟩
      have n6_ : Aside0 (Kd.V (Kd.int .i64) 3 (((w82.setCell ⟨gb448, 0, none⟩ (.int .i64 t435)).setCell ⟨gb448, 1, none⟩ (.slice Ao88 t436.length co88)).setCell ⟨gb448, 2, none⟩ (.slice Ao89 t439.length co89)) w.heap.size (fun k_ => some k_ ≠ (.slice Ao66 y415.length co66 : Value).ownBlock ∧ some k_ ≠ (.slice Ao90 t425.length co90 : Value).ownBlock ∧ some k_ ≠ (.slice Ao92 t428.length co92 : Value).ownBlock ∧ some k_ ≠ (.slice Ao80 y432.length co80 : Value).ownBlock ∧ some k_ ≠ (.slice Ao91 t442.length co91 : Value).ownBlock ∧ some k_ ≠ (.slice Ao93 t445.length co93 : Value).ownBlock ∧ k_ ≠ gb402 ∧ k_ ≠ gb403 ∧ k_ ≠ gb404 ∧ k_ ≠ gb431 ∧ k_ ≠ gb448) (.slice Ao88 t436.length co88) t436) := ⟨by (with_reducible repeat (first | apply Kd.V_alloc | apply Kd.V_drewN | apply Kd.V_drew)); exact Kd.V_mono (Kd.V_far (p := ⟨gb448, 2, none⟩) (Kd.V_far (p := ⟨gb448, 1, none⟩) (Kd.V_far (p := ⟨gb448, 0, none⟩) (Kd.V_mono HO438.out (fun k_ hk => (⟨hk, hk.2⟩ : _ ∧ k_ ≠ gb448))) (fun _ hk => hk.2) (.int .i64 t435)) (fun _ hk => hk.2) (.slice Ao88 t436.length co88)) (fun _ hk => hk.2) (.slice Ao89 t439.length co89)) (fun _ hk => ⟨hk.1.1.2.2.1, ⟨hk.1.1.2.2.2.1, ⟨hk.1.1.2.2.2.2.1, ⟨hk.1.1.2.2.2.2.2.1, ⟨hk.1.1.1, ⟨hk.1.1.2.1, ⟨hk.1.1.2.2.2.2.2.2.1, ⟨hk.1.1.2.2.2.2.2.2.2.1, ⟨hk.1.1.2.2.2.2.2.2.2.2.1, ⟨hk.1.1.2.2.2.2.2.2.2.2.2, hk.1.2⟩⟩⟩⟩⟩⟩⟩⟩⟩⟩)⟩
      have n7_ : Aside0 (Kd.V (Kd.int .i64) 3 (((w82.setCell ⟨gb448, 0, none⟩ (.int .i64 t435)).setCell ⟨gb448, 1, none⟩ (.slice Ao88 t436.length co88)).setCell ⟨gb448, 2, none⟩ (.slice Ao89 t439.length co89)) w.heap.size (fun k_ => some k_ ≠ (.slice Ao66 y415.length co66 : Value).ownBlock ∧ some k_ ≠ (.slice Ao90 t425.length co90 : Value).ownBlock ∧ some k_ ≠ (.slice Ao92 t428.length co92 : Value).ownBlock ∧ some k_ ≠ (.slice Ao80 y432.length co80 : Value).ownBlock ∧ some k_ ≠ (.slice Ao91 t442.length co91 : Value).ownBlock ∧ some k_ ≠ (.slice Ao93 t445.length co93 : Value).ownBlock ∧ k_ ≠ gb402 ∧ k_ ≠ gb403 ∧ k_ ≠ gb404 ∧ k_ ≠ gb431 ∧ k_ ≠ gb448) (.slice Ao89 t439.length co89) t439) := ⟨by (with_reducible repeat (first | apply Kd.V_alloc | apply Kd.V_drewN | apply Kd.V_drew)); exact Kd.V_mono (Kd.V_far (p := ⟨gb448, 2, none⟩) (Kd.V_far (p := ⟨gb448, 1, none⟩) (Kd.V_far (p := ⟨gb448, 0, none⟩) (Kd.V_mono HO441.out (fun k_ hk => (⟨hk, hk.2⟩ : _ ∧ k_ ≠ gb448))) (fun _ hk => hk.2) (.int .i64 t435)) (fun _ hk => hk.2) (.slice Ao88 t436.length co88)) (fun _ hk => hk.2) (.slice Ao89 t439.length co89)) (fun _ hk => ⟨hk.1.1.2.2.1, ⟨hk.1.1.2.2.2.1, ⟨hk.1.1.2.2.2.2.1, ⟨hk.1.1.2.2.2.2.2.1, ⟨hk.1.1.1, ⟨hk.1.1.2.1, ⟨hk.1.1.2.2.2.2.2.2.1, ⟨hk.1.1.2.2.2.2.2.2.2.1, ⟨hk.1.1.2.2.2.2.2.2.2.2.1, ⟨hk.1.1.2.2.2.2.2.2.2.2.2, hk.1.2⟩⟩⟩⟩⟩⟩⟩⟩⟩⟩)⟩
      have n8_ : Aside0 (Kd.R (Kd.int .i64) 3 (((w82.setCell ⟨gb448, 0, none⟩ (.int .i64 t435)).setCell ⟨gb448, 1, none⟩ (.slice Ao88 t436.length co88)).setCell ⟨gb448, 2, none⟩ (.slice Ao89 t439.length co89)) w.heap.size (fun k_ => some k_ ≠ (.slice Ao90 t425.length co90 : Value).ownBlock) (.slice Ao91 t442.length co91) t442) := ⟨by (with_reducible repeat (first | apply Kd.R_alloc | apply Kd.R_drewN | apply Kd.R_drew)); exact Kd.R_mono (Kd.R_far (p := ⟨gb448, 2, none⟩) (Kd.R_far (p := ⟨gb448, 1, none⟩) (Kd.R_far (p := ⟨gb448, 0, none⟩) (Kd.R_types HO444.out BK448.out (by decide)) (fun _ hk => hk.2) (.int .i64 t435)) (fun _ hk => hk.2) (.slice Ao88 t436.length co88)) (fun _ hk => hk.2) (.slice Ao89 t439.length co89)) (fun _ hk => hk.1.2)⟩
      have n9_ : Aside0 (Kd.R Kd.bool 4 (((w82.setCell ⟨gb448, 0, none⟩ (.int .i64 t435)).setCell ⟨gb448, 1, none⟩ (.slice Ao88 t436.length co88)).setCell ⟨gb448, 2, none⟩ (.slice Ao89 t439.length co89)) w.heap.size (fun k_ => some k_ ≠ (.slice Ao92 t428.length co92 : Value).ownBlock) (.slice Ao93 t445.length co93) t445) := ⟨by (with_reducible repeat (first | apply Kd.R_alloc | apply Kd.R_drewN | apply Kd.R_drew)); exact Kd.R_mono (Kd.R_far (p := ⟨gb448, 2, none⟩) (Kd.R_far (p := ⟨gb448, 1, none⟩) (Kd.R_far (p := ⟨gb448, 0, none⟩) (Kd.R_types HO447.out BK448.out (by decide)) (fun _ hk => hk.2) (.int .i64 t435)) (fun _ hk => hk.2) (.slice Ao88 t436.length co88)) (fun _ hk => hk.2) (.slice Ao89 t439.length co89)) (fun _ hk => hk.1.2)⟩
      have n10_ : Aside0 ((((w82.setCell ⟨gb448, 0, none⟩ (.int .i64 t435)).setCell ⟨gb448, 1, none⟩ (.slice Ao88 t436.length co88)).setCell ⟨gb448, 2, none⟩ (.slice Ao89 t439.length co89)).heap[gb402]? = some (.cells #[.int .i64 a0_0, .slice A0_1 l0_1.length c0_1, .slice A0_2 l0_2.length c0_2] 24 (0, 0))) := ⟨by (with_reducible repeat (first | refine blk_drewN ?_ _ | refine blk_drew ?_ | refine blk_alloc ?_ _)); refine blk_far ?_ NB402_448.out _; (with_reducible repeat (first | refine blk_drewN ?_ _ | refine blk_drew ?_ | refine blk_alloc ?_ _)); refine blk_far ?_ NB402_448.out _; (with_reducible repeat (first | refine blk_drewN ?_ _ | refine blk_drew ?_ | refine blk_alloc ?_ _)); refine blk_far ?_ NB402_448.out _; (with_reducible repeat (first | refine blk_drewN ?_ _ | refine blk_drew ?_ | refine blk_alloc ?_ _)); exact BK402.out⟩
      have n11_ : Aside0 ((((w82.setCell ⟨gb448, 0, none⟩ (.int .i64 t435)).setCell ⟨gb448, 1, none⟩ (.slice Ao88 t436.length co88)).setCell ⟨gb448, 2, none⟩ (.slice Ao89 t439.length co89)).heap[gb403]? = some (.cells #[.int .i64 a1_0, .int .i64 a1_1, .int .i64 a1_2, .int .i64 a1_3] 26 (0, 0))) := ⟨by (with_reducible repeat (first | refine blk_drewN ?_ _ | refine blk_drew ?_ | refine blk_alloc ?_ _)); refine blk_far ?_ NB403_448.out _; (with_reducible repeat (first | refine blk_drewN ?_ _ | refine blk_drew ?_ | refine blk_alloc ?_ _)); refine blk_far ?_ NB403_448.out _; (with_reducible repeat (first | refine blk_drewN ?_ _ | refine blk_drew ?_ | refine blk_alloc ?_ _)); refine blk_far ?_ NB403_448.out _; (with_reducible repeat (first | refine blk_drewN ?_ _ | refine blk_drew ?_ | refine blk_alloc ?_ _)); exact BK403.out⟩
      have n12_ : Aside0 ((((w82.setCell ⟨gb448, 0, none⟩ (.int .i64 t435)).setCell ⟨gb448, 1, none⟩ (.slice Ao88 t436.length co88)).setCell ⟨gb448, 2, none⟩ (.slice Ao89 t439.length co89)).heap[gb404]? = some (.cells #[.int .i64 a2_0, .int .i64 a2_1, .int .i64 a2_2, .int .i64 a2_3] 26 (0, 0))) := ⟨by (with_reducible repeat (first | refine blk_drewN ?_ _ | refine blk_drew ?_ | refine blk_alloc ?_ _)); refine blk_far ?_ NB404_448.out _; (with_reducible repeat (first | refine blk_drewN ?_ _ | refine blk_drew ?_ | refine blk_alloc ?_ _)); refine blk_far ?_ NB404_448.out _; (with_reducible repeat (first | refine blk_drewN ?_ _ | refine blk_drew ?_ | refine blk_alloc ?_ _)); refine blk_far ?_ NB404_448.out _; (with_reducible repeat (first | refine blk_drewN ?_ _ | refine blk_drew ?_ | refine blk_alloc ?_ _)); exact BK404.out⟩
      have n13_ : Aside0 ((((w82.setCell ⟨gb448, 0, none⟩ (.int .i64 t435)).setCell ⟨gb448, 1, none⟩ (.slice Ao88 t436.length co88)).setCell ⟨gb448, 2, none⟩ (.slice Ao89 t439.length co89)).heap[gb431]? = some (.cells #[.int .i64 t418, .slice Ao73 t419.length co73, .slice Ao74 t422.length co74] 24 (0, 0))) := ⟨by (with_reducible repeat (first | refine blk_drewN ?_ _ | refine blk_drew ?_ | refine blk_alloc ?_ _)); refine blk_far ?_ NB431_448.out _; (with_reducible repeat (first | refine blk_drewN ?_ _ | refine blk_drew ?_ | refine blk_alloc ?_ _)); refine blk_far ?_ NB431_448.out _; (with_reducible repeat (first | refine blk_drewN ?_ _ | refine blk_drew ?_ | refine blk_alloc ?_ _)); refine blk_far ?_ NB431_448.out _; (with_reducible repeat (first | refine blk_drewN ?_ _ | refine blk_drew ?_ | refine blk_alloc ?_ _)); exact BK431.out⟩
      have n14_ : Aside0 ((((w82.setCell ⟨gb448, 0, none⟩ (.int .i64 t435)).setCell ⟨gb448, 1, none⟩ (.slice Ao88 t436.length co88)).setCell ⟨gb448, 2, none⟩ (.slice Ao89 t439.length co89)).heap[gb448]? = some (.cells #[.int .i64 t435, .slice Ao88 t436.length co88, .slice Ao89 t439.length co89] 24 (0, 0))) := ⟨by (with_reducible repeat (first | refine blk_drewN ?_ _ | refine blk_drew ?_ | refine blk_alloc ?_ _)); refine blk_put (cs := #[.int .i64 t435, .slice Ao88 t436.length co88, .slice none 0 0]) ?_ 2 _ rfl; (with_reducible repeat (first | refine blk_drewN ?_ _ | refine blk_drew ?_ | refine blk_alloc ?_ _)); refine blk_put (cs := #[.int .i64 t435, .slice none 0 0, .slice none 0 0]) ?_ 1 _ rfl; (with_reducible repeat (first | refine blk_drewN ?_ _ | refine blk_drew ?_ | refine blk_alloc ?_ _)); refine blk_put (cs := #[.int .i64 0, .slice none 0 0, .slice none 0 0]) ?_ 0 _ rfl; (with_reducible repeat (first | refine blk_drewN ?_ _ | refine blk_drew ?_ | refine blk_alloc ?_ _)); exact BK448.out⟩
      have n15_ : Aside0 (Below w.heap.size w (((w82.setCell ⟨gb448, 0, none⟩ (.int .i64 t435)).setCell ⟨gb448, 1, none⟩ (.slice Ao88 t436.length co88)).setCell ⟨gb448, 2, none⟩ (.slice Ao89 t439.length co89))) := ⟨by repeat (first | (with_reducible first | exact HB.out | apply below_alloc | apply pw_below_drewN | apply below_drew1 | refine below_set ?_ GE402.out | refine below_set ?_ GE403.out | refine below_set ?_ GE404.out | refine below_set ?_ GE431.out | refine below_set ?_ GE448.out) | exact HB.out)⟩
      (try clear HO417)
      (try clear HO421)
      (try clear HO424)
      (try clear HO427)
      (try clear HO430)
      (try clear HO434)
      (try clear HO438)
      (try clear HO441)
      (try clear HO444)
      (try clear HO447)
      (try clear BK402)
      (try clear BK403)
      (try clear BK404)
      (try clear BK431)
      (try clear BK448)
      (try clear HB)
      generalize (((w82.setCell ⟨gb448, 0, none⟩ (.int .i64 t435)).setCell ⟨gb448, 1, none⟩ (.slice Ao88 t436.length co88)).setCell ⟨gb448, 2, none⟩ (.slice Ao89 t439.length co89)) = w94 at n0_ n1_ n2_ n3_ n4_ n5_ n6_ n7_ n8_ n9_ n10_ n11_ n12_ n13_ n14_ n15_ ⊢
      have HO417 := n0_
      have HO421 := n1_
      have HO424 := n2_
      have HO427 := n3_
      have HO430 := n4_
      have HO434 := n5_
      have HO438 := n6_
      have HO441 := n7_
      have HO444 := n8_
      have HO447 := n9_
      have BK402 := n10_
      have BK403 := n11_
      have BK404 := n12_
      have BK431 := n13_
      have BK448 := n14_
      have HB := n15_
      clear n0_ n1_ n2_ n3_ n4_ n5_ n6_ n7_ n8_ n9_ n10_ n11_ n12_ n13_ n14_ n15_
      have n1_ := Aside0.mk (Kd.V_drew HO421.out)
      have n2_ := Aside0.mk (Kd.V_drew HO424.out)
      have n3_ := Aside0.mk (Kd.R_drew HO427.out)
      have n4_ := Aside0.mk (Kd.R_drew HO430.out)
      have n6_ := Aside0.mk (Kd.V_drew HO438.out)
      have n7_ := Aside0.mk (Kd.V_drew HO441.out)
      have n8_ := Aside0.mk (Kd.R_drew HO444.out)
      have n9_ := Aside0.mk (Kd.R_drew HO447.out)
      have n13_ := Aside0.mk (blk_drew BK431.out)
      have n14_ := Aside0.mk (blk_drew BK448.out)
      have n15_ := Aside0.mk (below_drew1 HB.out)
      clear HO421 HO424 HO427 HO430 HO438 HO441 HO444 HO447 BK431 BK448 HB
      have HO421 := n1_
      have HO424 := n2_
      have HO427 := n3_
      have HO430 := n4_
      have HO438 := n6_
      have HO441 := n7_
      have HO444 := n8_
      have HO447 := n9_
      have BK431 := n13_
      have BK448 := n14_
      have HB := n15_
      clear n1_ n2_ n3_ n4_ n6_ n7_ n8_ n9_ n13_ n14_ n15_
      have p450 : 0 ≤ (0 : Int) := (by omega)
      have q450 : 0 < (t425.length : Int) := of_decide_eq_true (by first | (with_reducible assumption) | assumption)
      obtain ⟨ad450, e450, hx450_0⟩ := Kd.at_int (Kd.R_reads' HO427.out).2.2 0 p450 q450
      cases e450
      have qi450 : (0 < t425.length) = True := eq_true (by omega)
      (try rw [show ((0 : Int)).toNat = 0 from rfl] at hx450_0)
      (try rw [Addr.add_zero'] at hx450_0)
      replace p450 := eq_true p450
      replace q450 := eq_true q450
      have p451 : 0 ≤ (1 : Int) := (by omega)
      have q451 : 1 < (t442.length : Int) := of_decide_eq_true (by first | (with_reducible assumption) | assumption)
      obtain ⟨ad451, e451, hx451_0⟩ := Kd.at_int (Kd.R_reads' HO444.out).2.2 1 p451 q451
      cases e451
      (try simp only [show (1 : Int).toNat = 1 from rfl, Nat.reduceMul, Nat.reduceEqDiff, Go.Addr.add, ↓reduceIte] at hx451_0)
      have qi451 : (1 < t442.length) = True := eq_true (by omega)
      (try rw [show ((1 : Int)).toNat = 1 from rfl] at hx451_0)
      replace p451 := eq_true p451
      replace q451 := eq_true q451
      have p452 : 0 ≤ (1 : Int) := (by omega)
      have q452 : 1 < (t425.length : Int) := of_decide_eq_true (by first | (with_reducible assumption) | assumption)
      obtain ⟨ad452, e452, hx452_0⟩ := Kd.at_int (Kd.R_reads' HO427.out).2.2 1 p452 q452
      obtain rfl : ad450 = ad452 := (by injection e452)
      (try simp only [show (1 : Int).toNat = 1 from rfl, Nat.reduceMul, Nat.reduceEqDiff, Go.Addr.add, ↓reduceIte] at hx452_0)
      have qi452 : (1 < t425.length) = True := eq_true (by omega)
      (try rw [show ((1 : Int)).toNat = 1 from rfl] at hx452_0)
      replace p452 := eq_true p452
      replace q452 := eq_true q452
      have p453 : 0 ≤ (0 : Int) := (by omega)
      have q453 : 0 < (t442.length : Int) := of_decide_eq_true (by first | (with_reducible assumption) | assumption)
      obtain ⟨ad453, e453, hx453_0⟩ := Kd.at_int (Kd.R_reads' HO444.out).2.2 0 p453 q453
      obtain rfl : ad451 = ad453 := (by injection e453)
      have qi453 : (0 < t442.length) = True := eq_true (by omega)
      (try rw [show ((0 : Int)).toNat = 0 from rfl] at hx453_0)
      (try rw [Addr.add_zero'] at hx453_0)
      replace p453 := eq_true p453
      replace q453 := eq_true q453
      have p454 : 0 ≤ (0 : Int) := (by omega)
      have q454 : 0 < (t428.length : Int) := of_decide_eq_true (by first | (with_reducible assumption) | assumption)
      obtain ⟨ad454, e454, hx454_0⟩ := Kd.at_bool (Kd.R_reads' HO430.out).2.2 0 p454 q454
      cases e454
      have qi454 : (0 < t428.length) = True := eq_true (by omega)
      (try rw [show ((0 : Int)).toNat = 0 from rfl] at hx454_0)
      (try rw [Addr.add_zero'] at hx454_0)
      replace p454 := eq_true p454
      replace q454 := eq_true q454
      have p455 : 0 ≤ (1 : Int) := (by omega)
      have q455 : 1 < (t445.length : Int) := of_decide_eq_true (by first | (with_reducible assumption) | assumption)
      obtain ⟨ad455, e455, hx455_0⟩ := Kd.at_bool (Kd.R_reads' HO447.out).2.2 1 p455 q455
      cases e455
      (try simp only [show (1 : Int).toNat = 1 from rfl, Nat.reduceMul, Nat.reduceEqDiff, Go.Addr.add, ↓reduceIte] at hx455_0)
      have qi455 : (1 < t445.length) = True := eq_true (by omega)
      (try rw [show ((1 : Int)).toNat = 1 from rfl] at hx455_0)
      replace p455 := eq_true p455
      replace q455 := eq_true q455
      have p456 : 0 ≤ (1 : Int) := (by omega)
      have q456 : 1 < (t428.length : Int) := of_decide_eq_true (by first | (with_reducible assumption) | assumption)
      obtain ⟨ad456, e456, hx456_0⟩ := Kd.at_bool (Kd.R_reads' HO430.out).2.2 1 p456 q456
      obtain rfl : ad454 = ad456 := (by injection e456)
      (try simp only [show (1 : Int).toNat = 1 from rfl, Nat.reduceMul, Nat.reduceEqDiff, Go.Addr.add, ↓reduceIte] at hx456_0)
      have qi456 : (1 < t428.length) = True := eq_true (by omega)
      (try rw [show ((1 : Int)).toNat = 1 from rfl] at hx456_0)
      replace p456 := eq_true p456
      replace q456 := eq_true q456
      have p457 : 0 ≤ (0 : Int) := (by omega)
      have q457 : 0 < (t445.length : Int) := of_decide_eq_true (by first | (with_reducible assumption) | assumption)
      obtain ⟨ad457, e457, hx457_0⟩ := Kd.at_bool (Kd.R_reads' HO447.out).2.2 0 p457 q457
      obtain rfl : ad455 = ad457 := (by injection e457)
      have qi457 : (0 < t445.length) = True := eq_true (by omega)
      (try rw [show ((0 : Int)).toNat = 0 from rfl] at hx457_0)
      (try rw [Addr.add_zero'] at hx457_0)
      replace p457 := eq_true p457
      replace q457 := eq_true q457
      refine start_ (n := 43) (S := fun w' => w'.cell? ⟨gb431, 0, none⟩ = some (.int .i64 t418) ∧ w'.cell? ⟨gb431, 1, none⟩ = some (.slice Ao73 t419.length co73) ∧ w'.cell? ⟨gb431, 2, none⟩ = some (.slice Ao74 t422.length co74) ∧ w'.cell? ⟨gb448, 0, none⟩ = some (.int .i64 t435) ∧ w'.cell? ⟨gb448, 1, none⟩ = some (.slice Ao88 t436.length co88) ∧ w'.cell? ⟨gb448, 2, none⟩ = some (.slice Ao89 t439.length co89) ∧ w'.cell? ad450 = some (.int .i64 (rd t425 0)) ∧ w'.cell? ⟨ad451.block, ad451.off + 1, none⟩ = some (.int .i64 (rd t442 1)) ∧ w'.cell? ⟨ad450.block, ad450.off + 1, none⟩ = some (.int .i64 (rd t425 1)) ∧ w'.cell? ad451 = some (.int .i64 (rd t442 0)) ∧ w'.cell? ad454 = some (.bool (rdOf false t428 0)) ∧ w'.cell? ⟨ad455.block, ad455.off + 1, none⟩ = some (.bool (rdOf false t445 1)) ∧ w'.cell? ⟨ad454.block, ad454.off + 1, none⟩ = some (.bool (rdOf false t428 1)) ∧ w'.cell? ad455 = some (.bool (rdOf false t445 0))) (ds := []) #[false, false, false, false, false, false, false, false, false, false, false, false, false, false, false, false, false, false, false, false, false, false, false, false, false, false, false, false, false, false, false, false, false, false, false, false, false, false, false, false, false, false, false] (by kernel_rfl) rfl rfl ⟨(blk_cell BK431.out 0).trans rfl, (blk_cell BK431.out 1).trans rfl, (blk_cell BK431.out 2).trans rfl, (blk_cell BK448.out 0).trans rfl, (blk_cell BK448.out 1).trans rfl, (blk_cell BK448.out 2).trans rfl, hx450_0, hx451_0, hx452_0, hx453_0, hx454_0, hx455_0, hx456_0, hx457_0⟩ (fun hHeld => ?_); refine with_tabW underwoodlaw09_SpecCommutes.tab10 underwoodlaw09_SpecCommutes.bits10 (fun HT_ HW_ => ?_)
      generalize w94.drew = w95 at HO421 HO424 HO438 HO441 BK431 BK448 HB hx450_0 hx451_0 hx452_0 hx453_0 hx454_0 hx455_0 hx456_0 hx457_0 hHeld ⊢
      refine pure_ (i := 0) (N := some 92) (v := ?_) (a' := ?_) #[true, false, false, false, false, false, false, false, false, false, false, false, false, false, false, false, false, false, false, false, false, false, false, false, false, false, false, false, false, false, false, false, false, false, false, false, false, false, false, false, false, false, false] rfl rfl (any_of HT_.out (by kernel_rfl)) (fun _ _ _ h => h) (Or.inl ⟨by rfl, ?_⟩) ?_ ?_
      rotate_left
      · intro w'
        go_simp
        with_reducible rfl
      rotate_left
      · simp only [Act.put, List.setIfInBounds_toArray, List.set_cons_zero, List.set_cons_succ, i64_w, i32_w]
        rfl
      refine pure_ (i := 1) (N := some 93) (v := ?_) (a' := ?_) #[true, true, false, false, false, false, false, false, false, false, false, false, false, false, false, false, false, false, false, false, false, false, false, false, false, false, false, false, false, false, false, false, false, false, false, false, false, false, false, false, false, false, false] rfl rfl (any_of HT_.out (by kernel_rfl)) (fun _ _ _ h => h) (Or.inl ⟨by rfl, ?_⟩) ?_ ?_
      rotate_left
      · intro w'
        go_simp
        with_reducible rfl
      rotate_left
      · simp only [Act.put, List.setIfInBounds_toArray, List.set_cons_zero, List.set_cons_succ, i64_w, i32_w]
        rfl
      refine take_ (i := 2) (N := some 94) (v := ?_) (a' := ?_) #[true, true, true, false, false, false, false, false, false, false, false, false, false, false, false, false, false, false, false, false, false, false, false, false, false, false, false, false, false, false, false, false, false, false, false, false, false, false, false, false, false, false, false] rfl rfl (take_ofW HT_.out HW_.out (by kernel_rfl)) (fun _ _ _ h => h) (Or.inl ⟨by rfl, ?_⟩) hHeld ?_ ?_
      rotate_left
      · rintro w' ⟨s0, s1, s2, s3, s4, s5, s6, s7, s8, s9, s10, s11, s12, s13⟩
        go_simp
        with_reducible rfl
      rotate_left
      · simp only [Act.put, List.setIfInBounds_toArray, List.set_cons_zero, List.set_cons_succ, i64_w, i32_w]
        rfl
      refine take_ (i := 3) (N := some 95) (v := ?_) (a' := ?_) #[true, true, true, true, false, false, false, false, false, false, false, false, false, false, false, false, false, false, false, false, false, false, false, false, false, false, false, false, false, false, false, false, false, false, false, false, false, false, false, false, false, false, false] rfl rfl (take_ofW HT_.out HW_.out (by kernel_rfl)) (fun _ _ _ h => h) (Or.inl ⟨by rfl, ?_⟩) hHeld ?_ ?_
      rotate_left
      · rintro w' ⟨s0, s1, s2, s3, s4, s5, s6, s7, s8, s9, s10, s11, s12, s13⟩
        go_simp
        with_reducible rfl
      rotate_left
      · simp only [Act.put, List.setIfInBounds_toArray, List.set_cons_zero, List.set_cons_succ, i64_w, i32_w]
        rfl
      refine one_ (i := 4) (N := some 96) #[true, true, true, true, true, false, false, false, false, false, false, false, false, false, false, false, false, false, false, false, false, false, false, false, false, false, false, false, false, false, false, false, false, false, false, false, false, false, false, false, false, false, false] rfl rfl (one_of HT_.out (by kernel_rfl)) (by decide) (fun K hK => ?_)
      refine goes_ Try.func12 (by kernel_rfl) rfl #[.agg #[.int .i64 t418, .slice Ao73 t419.length co73, .slice Ao74 t422.length co74], .agg #[.int .i64 t435, .slice Ao88 t436.length co88, .slice Ao89 t439.length co89]] (by rfl) rfl rfl (by (try simp only [List.map_toArray, List.map_cons, List.map_nil]); first | done | rfl | (simp only [List.length_drop, List.length_take]; rfl)) ?_
      with_reducible refine (underwoodref09_Same.calls kj4 t418 _ _ t419 _ _ t422 t435 _ _ t436 _ _ t439 true _ ?side1 ?side2 ?side3 ?side4 ?side5 ?side6 ?side7 ?side8 A42.out).mono ?_
      (case side1 => repeat (first | exact (Kd.V_reads' HO421.out).2.2 | (with_reducible refine Kd.C_alloc ?_ _) | (with_reducible refine Kd.C_drewN ?_ _) | (with_reducible refine Kd.C_drew ?_)))
      (case side2 => exact (Kd.V_reads' HO421.out).2.1)
      (case side3 => repeat (first | exact (Kd.V_reads' HO424.out).2.2 | (with_reducible refine Kd.C_alloc ?_ _) | (with_reducible refine Kd.C_drewN ?_ _) | (with_reducible refine Kd.C_drew ?_)))
      (case side4 => exact (Kd.V_reads' HO424.out).2.1)
      (case side5 => repeat (first | exact (Kd.V_reads' HO438.out).2.2 | (with_reducible refine Kd.C_alloc ?_ _) | (with_reducible refine Kd.C_drewN ?_ _) | (with_reducible refine Kd.C_drew ?_)))
      (case side6 => exact (Kd.V_reads' HO438.out).2.1)
      (case side7 => repeat (first | exact (Kd.V_reads' HO441.out).2.2 | (with_reducible refine Kd.C_alloc ?_ _) | (with_reducible refine Kd.C_drewN ?_ _) | (with_reducible refine Kd.C_drew ?_)))
      (case side8 => exact (Kd.V_reads' HO441.out).2.1)
      rintro e w96 ⟨rfl, hb⟩
      have HS6_ := (hb.cell (World.block_lt_of_cell? _ _ (hHeld.2.2.2.2.2.2.1))).trans (hHeld.2.2.2.2.2.2.1)
      have HS7_ := (hb.cell (World.block_lt_of_cell? _ _ (hHeld.2.2.2.2.2.2.2.1))).trans (hHeld.2.2.2.2.2.2.2.1)
      have HS8_ := (hb.cell (World.block_lt_of_cell? _ _ (hHeld.2.2.2.2.2.2.2.2.1))).trans (hHeld.2.2.2.2.2.2.2.2.1)
      have HS9_ := (hb.cell (World.block_lt_of_cell? _ _ (hHeld.2.2.2.2.2.2.2.2.2.1))).trans (hHeld.2.2.2.2.2.2.2.2.2.1)
      have HS10_ := (hb.cell (World.block_lt_of_cell? _ _ (hHeld.2.2.2.2.2.2.2.2.2.2.1))).trans (hHeld.2.2.2.2.2.2.2.2.2.2.1)
      have HS11_ := (hb.cell (World.block_lt_of_cell? _ _ (hHeld.2.2.2.2.2.2.2.2.2.2.2.1))).trans (hHeld.2.2.2.2.2.2.2.2.2.2.2.1)
      have HS12_ := (hb.cell (World.block_lt_of_cell? _ _ (hHeld.2.2.2.2.2.2.2.2.2.2.2.2.1))).trans (hHeld.2.2.2.2.2.2.2.2.2.2.2.2.1)
      have HS13_ := (hb.cell (World.block_lt_of_cell? _ _ (hHeld.2.2.2.2.2.2.2.2.2.2.2.2.2))).trans (hHeld.2.2.2.2.2.2.2.2.2.2.2.2.2)
      refine ⟨_, rfl, ?_⟩
      have n13_ := Aside0.mk (blk_below (g := gb431) (o := .cells #[.int .i64 t418, .slice Ao73 t419.length co73, .slice Ao74 t422.length co74] 24 (0, 0)) (by (with_reducible repeat (first | refine blk_drewN ?_ _ | refine blk_drew ?_ | refine blk_alloc ?_ _)); exact BK431.out) hb)
      have n14_ := Aside0.mk (blk_below (g := gb448) (o := .cells #[.int .i64 t435, .slice Ao88 t436.length co88, .slice Ao89 t439.length co89] 24 (0, 0)) (by (with_reducible repeat (first | refine blk_drewN ?_ _ | refine blk_drew ?_ | refine blk_alloc ?_ _)); exact BK448.out) hb)
      have n15_ := Aside0.mk (below_step (by repeat (first | (with_reducible first | exact HB.out | apply below_alloc | apply pw_below_drewN | apply below_drew1 | refine below_set ?_ GE402.out | refine below_set ?_ GE403.out | refine below_set ?_ GE404.out | refine below_set ?_ GE431.out | refine below_set ?_ GE448.out) | exact HB.out)) hb)
      clear BK431 BK448 HB
      have BK431 := n13_
      have BK448 := n14_
      have HB := n15_
      clear n13_ n14_ n15_
      (try clear hb)
      (try clear hb2)
      (try clear hk)
      (try clear hi)
      refine hK.out _ _ ⟨(blk_cell BK431.out 0).trans rfl, (blk_cell BK431.out 1).trans rfl, (blk_cell BK431.out 2).trans rfl, (blk_cell BK448.out 0).trans rfl, (blk_cell BK448.out 1).trans rfl, (blk_cell BK448.out 2).trans rfl, HS6_, HS7_, HS8_, HS9_, HS10_, HS11_, HS12_, HS13_⟩ (fun hHeld => ?_)
      clear hK K
      refine norm_ (a' := ?_) ?_ ?_
      rotate_left
      · show Act.put _ (some 96) _ = _
        simp only [Act.put, List.setIfInBounds_toArray, List.set_cons_zero, List.set_cons_succ, i64_w, i32_w]
        rfl
      refine pure_ (i := 5) (N := some 97) (v := ?_) (a' := ?_) #[true, true, true, true, true, true, false, false, false, false, false, false, false, false, false, false, false, false, false, false, false, false, false, false, false, false, false, false, false, false, false, false, false, false, false, false, false, false, false, false, false, false, false] rfl rfl (any_of HT_.out (by kernel_rfl)) (fun _ _ _ h => h) (Or.inl ⟨by rfl, ?_⟩) ?_ ?_
      rotate_left
      · intro w'
        go_simp
        with_reducible rfl
      rotate_left
      · simp only [Act.put, List.setIfInBounds_toArray, List.set_cons_zero, List.set_cons_succ, i64_w, i32_w]
        rfl
      refine pure_ (i := 6) (N := some 98) (v := ?_) (a' := ?_) #[true, true, true, true, true, true, true, false, false, false, false, false, false, false, false, false, false, false, false, false, false, false, false, false, false, false, false, false, false, false, false, false, false, false, false, false, false, false, false, false, false, false, false] rfl rfl (any_of HT_.out (by kernel_rfl)) (fun _ _ _ h => h) (Or.inl ⟨by rfl, ?_⟩) ?_ ?_
      rotate_left
      · intro w'
        go_simp
        with_reducible rfl
      rotate_left
      · simp only [Act.put, List.setIfInBounds_toArray, List.set_cons_zero, List.set_cons_succ, i64_w, i32_w]
        rfl
      refine pure_ (i := 7) (N := some 99) (v := ?_) (a' := ?_) #[true, true, true, true, true, true, true, true, false, false, false, false, false, false, false, false, false, false, false, false, false, false, false, false, false, false, false, false, false, false, false, false, false, false, false, false, false, false, false, false, false, false, false] rfl rfl (any_of HT_.out (by kernel_rfl)) (fun _ _ _ h => h) (Or.inl ⟨by rfl, ?_⟩) ?_ ?_
      rotate_left
      · intro w'
        go_simp
        with_reducible rfl
      rotate_left
      · simp only [Act.put, List.setIfInBounds_toArray, List.set_cons_zero, List.set_cons_succ, i64_w, i32_w]
        rfl
      refine pure_ (i := 8) (N := some 100) (v := ?_) (a' := ?_) #[true, true, true, true, true, true, true, true, true, false, false, false, false, false, false, false, false, false, false, false, false, false, false, false, false, false, false, false, false, false, false, false, false, false, false, false, false, false, false, false, false, false, false] rfl rfl (any_of HT_.out (by kernel_rfl)) (fun _ _ _ h => h) (Or.inl ⟨by rfl, ?_⟩) ?_ ?_
      rotate_left
      · intro w'
        go_simp
        with_reducible rfl
      rotate_left
      · simp only [Act.put, List.setIfInBounds_toArray, List.set_cons_zero, List.set_cons_succ, i64_w, i32_w]
        rfl
      refine pure_ (i := 10) (N := some 102) (v := ?_) (a' := ?_) #[true, true, true, true, true, true, true, true, true, false, true, false, false, false, false, false, false, false, false, false, false, false, false, false, false, false, false, false, false, false, false, false, false, false, false, false, false, false, false, false, false, false, false] rfl rfl (any_of HT_.out (by kernel_rfl)) (fun _ _ _ h => h) (Or.inl ⟨by rfl, ?_⟩) ?_ ?_
      rotate_left
      · intro w'
        go_simp
        with_reducible rfl
      rotate_left
      · simp only [Act.put, List.setIfInBounds_toArray, List.set_cons_zero, List.set_cons_succ, i64_w, i32_w]
        rfl
      refine pure_ (i := 11) (N := some 103) (v := ?_) (a' := ?_) #[true, true, true, true, true, true, true, true, true, false, true, true, false, false, false, false, false, false, false, false, false, false, false, false, false, false, false, false, false, false, false, false, false, false, false, false, false, false, false, false, false, false, false] rfl rfl (any_of HT_.out (by kernel_rfl)) (fun _ _ _ h => h) (Or.inl ⟨by rfl, ?_⟩) ?_ ?_
      rotate_left
      · intro w'
        go_simp
        with_reducible rfl
      rotate_left
      · simp only [Act.put, List.setIfInBounds_toArray, List.set_cons_zero, List.set_cons_succ, i64_w, i32_w]
        rfl
      refine take_ (i := 9) (N := some 101) (v := ?_) (a' := ?_) #[true, true, true, true, true, true, true, true, true, true, true, true, false, false, false, false, false, false, false, false, false, false, false, false, false, false, false, false, false, false, false, false, false, false, false, false, false, false, false, false, false, false, false] rfl rfl (take_ofW HT_.out HW_.out (by kernel_rfl)) (fun _ _ _ h => h) (Or.inl ⟨by rfl, ?_⟩) hHeld ?_ ?_
      rotate_left
      · rintro w' ⟨s0, s1, s2, s3, s4, s5, s6, s7, s8, s9, s10, s11, s12, s13⟩
        go_simp
        with_reducible rfl
      rotate_left
      · simp only [Act.put, List.setIfInBounds_toArray, List.set_cons_zero, List.set_cons_succ, i64_w, i32_w]
        rfl
      refine take_ (i := 12) (N := some 104) (v := ?_) (a' := ?_) #[true, true, true, true, true, true, true, true, true, true, true, true, true, false, false, false, false, false, false, false, false, false, false, false, false, false, false, false, false, false, false, false, false, false, false, false, false, false, false, false, false, false, false] rfl rfl (take_ofW HT_.out HW_.out (by kernel_rfl)) (fun _ _ _ h => h) (Or.inl ⟨by rfl, ?_⟩) hHeld ?_ ?_
      rotate_left
      · rintro w' ⟨s0, s1, s2, s3, s4, s5, s6, s7, s8, s9, s10, s11, s12, s13⟩
        go_simp
        with_reducible rfl
      rotate_left
      · simp only [Act.put, List.setIfInBounds_toArray, List.set_cons_zero, List.set_cons_succ, i64_w, i32_w]
        rfl
      refine pure_ (i := 13) (N := some 105) (v := ?_) (a' := ?_) #[true, true, true, true, true, true, true, true, true, true, true, true, true, true, false, false, false, false, false, false, false, false, false, false, false, false, false, false, false, false, false, false, false, false, false, false, false, false, false, false, false, false, false] rfl rfl (any_of HT_.out (by kernel_rfl)) (fun _ _ _ h => h) (Or.inl ⟨by rfl, ?_⟩) ?_ ?_
      rotate_left
      · intro w'
        go_simp
        with_reducible rfl
      rotate_left
      · simp only [Act.put, List.setIfInBounds_toArray, List.set_cons_zero, List.set_cons_succ, i64_w, i32_w]
        rfl
      refine pure_ (i := 14) (N := some 106) (v := ?_) (a' := ?_) #[true, true, true, true, true, true, true, true, true, true, true, true, true, true, true, false, false, false, false, false, false, false, false, false, false, false, false, false, false, false, false, false, false, false, false, false, false, false, false, false, false, false, false] rfl rfl (any_of HT_.out (by kernel_rfl)) (fun _ _ _ h => h) (Or.inl ⟨by rfl, ?_⟩) ?_ ?_
      rotate_left
      · intro w'
        go_simp
        with_reducible rfl
      rotate_left
      · simp only [Act.put, List.setIfInBounds_toArray, List.set_cons_zero, List.set_cons_succ, i64_w, i32_w]
        rfl
      refine pure_ (i := 15) (N := some 107) (v := ?_) (a' := ?_) #[true, true, true, true, true, true, true, true, true, true, true, true, true, true, true, true, false, false, false, false, false, false, false, false, false, false, false, false, false, false, false, false, false, false, false, false, false, false, false, false, false, false, false] rfl rfl (any_of HT_.out (by kernel_rfl)) (fun _ _ _ h => h) (Or.inl ⟨by rfl, ?_⟩) ?_ ?_
      rotate_left
      · intro w'
        go_simp
        with_reducible rfl
      rotate_left
      · simp only [Act.put, List.setIfInBounds_toArray, List.set_cons_zero, List.set_cons_succ, i64_w, i32_w]
        rfl
      refine pure_ (i := 16) (N := some 108) (v := ?_) (a' := ?_) #[true, true, true, true, true, true, true, true, true, true, true, true, true, true, true, true, true, false, false, false, false, false, false, false, false, false, false, false, false, false, false, false, false, false, false, false, false, false, false, false, false, false, false] rfl rfl (any_of HT_.out (by kernel_rfl)) (fun _ _ _ h => h) (Or.inl ⟨by rfl, ?_⟩) ?_ ?_
      rotate_left
      · intro w'
        go_simp
        with_reducible rfl
      rotate_left
      · simp only [Act.put, List.setIfInBounds_toArray, List.set_cons_zero, List.set_cons_succ, i64_w, i32_w]
        rfl
      refine pure_ (i := 17) (N := some 109) (v := ?_) (a' := ?_) #[true, true, true, true, true, true, true, true, true, true, true, true, true, true, true, true, true, true, false, false, false, false, false, false, false, false, false, false, false, false, false, false, false, false, false, false, false, false, false, false, false, false, false] rfl rfl (any_of HT_.out (by kernel_rfl)) (fun _ _ _ h => h) (Or.inl ⟨by rfl, ?_⟩) ?_ ?_
      rotate_left
      · intro w'
        go_simp
        with_reducible rfl
      rotate_left
      · simp only [Act.put, List.setIfInBounds_toArray, List.set_cons_zero, List.set_cons_succ, i64_w, i32_w]
        rfl
      refine pure_ (i := 19) (N := some 111) (v := ?_) (a' := ?_) #[true, true, true, true, true, true, true, true, true, true, true, true, true, true, true, true, true, true, false, true, false, false, false, false, false, false, false, false, false, false, false, false, false, false, false, false, false, false, false, false, false, false, false] rfl rfl (any_of HT_.out (by kernel_rfl)) (fun _ _ _ h => h) (Or.inl ⟨by rfl, ?_⟩) ?_ ?_
      rotate_left
      · intro w'
        go_simp
        with_reducible rfl
      rotate_left
      · simp only [Act.put, List.setIfInBounds_toArray, List.set_cons_zero, List.set_cons_succ, i64_w, i32_w]
        rfl
      refine pure_ (i := 20) (N := some 112) (v := ?_) (a' := ?_) #[true, true, true, true, true, true, true, true, true, true, true, true, true, true, true, true, true, true, false, true, true, false, false, false, false, false, false, false, false, false, false, false, false, false, false, false, false, false, false, false, false, false, false] rfl rfl (any_of HT_.out (by kernel_rfl)) (fun _ _ _ h => h) (Or.inl ⟨by rfl, ?_⟩) ?_ ?_
      rotate_left
      · intro w'
        go_simp
        with_reducible rfl
      rotate_left
      · simp only [Act.put, List.setIfInBounds_toArray, List.set_cons_zero, List.set_cons_succ, i64_w, i32_w]
        rfl
      refine take_ (i := 18) (N := some 110) (v := ?_) (a' := ?_) #[true, true, true, true, true, true, true, true, true, true, true, true, true, true, true, true, true, true, true, true, true, false, false, false, false, false, false, false, false, false, false, false, false, false, false, false, false, false, false, false, false, false, false] rfl rfl (take_ofW HT_.out HW_.out (by kernel_rfl)) (fun _ _ _ h => h) (Or.inl ⟨by rfl, ?_⟩) hHeld ?_ ?_
      rotate_left
      · rintro w' ⟨s0, s1, s2, s3, s4, s5, s6, s7, s8, s9, s10, s11, s12, s13⟩
        go_simp
        with_reducible rfl
      rotate_left
      · simp only [Act.put, List.setIfInBounds_toArray, List.set_cons_zero, List.set_cons_succ, i64_w, i32_w]
        rfl
      refine take_ (i := 21) (N := some 113) (v := ?_) (a' := ?_) #[true, true, true, true, true, true, true, true, true, true, true, true, true, true, true, true, true, true, true, true, true, true, false, false, false, false, false, false, false, false, false, false, false, false, false, false, false, false, false, false, false, false, false] rfl rfl (take_ofW HT_.out HW_.out (by kernel_rfl)) (fun _ _ _ h => h) (Or.inl ⟨by rfl, ?_⟩) hHeld ?_ ?_
      rotate_left
      · rintro w' ⟨s0, s1, s2, s3, s4, s5, s6, s7, s8, s9, s10, s11, s12, s13⟩
        go_simp
        with_reducible rfl
      rotate_left
      · simp only [Act.put, List.setIfInBounds_toArray, List.set_cons_zero, List.set_cons_succ, i64_w, i32_w]
        rfl
      refine pure_ (i := 22) (N := some 114) (v := ?_) (a' := ?_) #[true, true, true, true, true, true, true, true, true, true, true, true, true, true, true, true, true, true, true, true, true, true, true, false, false, false, false, false, false, false, false, false, false, false, false, false, false, false, false, false, false, false, false] rfl rfl (any_of HT_.out (by kernel_rfl)) (fun _ _ _ h => h) (Or.inl ⟨by rfl, ?_⟩) ?_ ?_
      rotate_left
      · intro w'
        go_simp
        with_reducible rfl
      rotate_left
      · simp only [Act.put, List.setIfInBounds_toArray, List.set_cons_zero, List.set_cons_succ, i64_w, i32_w]
        rfl
      refine pure_ (i := 23) (N := some 115) (v := ?_) (a' := ?_) #[true, true, true, true, true, true, true, true, true, true, true, true, true, true, true, true, true, true, true, true, true, true, true, true, false, false, false, false, false, false, false, false, false, false, false, false, false, false, false, false, false, false, false] rfl rfl (any_of HT_.out (by kernel_rfl)) (fun _ _ _ h => h) (Or.inl ⟨by rfl, ?_⟩) ?_ ?_
      rotate_left
      · intro w'
        go_simp
        with_reducible rfl
      rotate_left
      · simp only [Act.put, List.setIfInBounds_toArray, List.set_cons_zero, List.set_cons_succ, i64_w, i32_w]
        rfl
      refine pure_ (i := 24) (N := some 116) (v := ?_) (a' := ?_) #[true, true, true, true, true, true, true, true, true, true, true, true, true, true, true, true, true, true, true, true, true, true, true, true, true, false, false, false, false, false, false, false, false, false, false, false, false, false, false, false, false, false, false] rfl rfl (any_of HT_.out (by kernel_rfl)) (fun _ _ _ h => h) (Or.inl ⟨by rfl, ?_⟩) ?_ ?_
      rotate_left
      · intro w'
        go_simp
        with_reducible rfl
      rotate_left
      · simp only [Act.put, List.setIfInBounds_toArray, List.set_cons_zero, List.set_cons_succ, i64_w, i32_w]
        rfl
      refine pure_ (i := 25) (N := some 117) (v := ?_) (a' := ?_) #[true, true, true, true, true, true, true, true, true, true, true, true, true, true, true, true, true, true, true, true, true, true, true, true, true, true, false, false, false, false, false, false, false, false, false, false, false, false, false, false, false, false, false] rfl rfl (any_of HT_.out (by kernel_rfl)) (fun _ _ _ h => h) (Or.inl ⟨by rfl, ?_⟩) ?_ ?_
      rotate_left
      · intro w'
        go_simp
        with_reducible rfl
      rotate_left
      · simp only [Act.put, List.setIfInBounds_toArray, List.set_cons_zero, List.set_cons_succ, i64_w, i32_w]
        rfl
      refine pure_ (i := 26) (N := some 118) (v := ?_) (a' := ?_) #[true, true, true, true, true, true, true, true, true, true, true, true, true, true, true, true, true, true, true, true, true, true, true, true, true, true, true, false, false, false, false, false, false, false, false, false, false, false, false, false, false, false, false] rfl rfl (any_of HT_.out (by kernel_rfl)) (fun _ _ _ h => h) (Or.inl ⟨by rfl, ?_⟩) ?_ ?_
      rotate_left
      · intro w'
        go_simp
        with_reducible rfl
      rotate_left
      · simp only [Act.put, List.setIfInBounds_toArray, List.set_cons_zero, List.set_cons_succ, i64_w, i32_w]
        rfl
      refine pure_ (i := 28) (N := some 120) (v := ?_) (a' := ?_) #[true, true, true, true, true, true, true, true, true, true, true, true, true, true, true, true, true, true, true, true, true, true, true, true, true, true, true, false, true, false, false, false, false, false, false, false, false, false, false, false, false, false, false] rfl rfl (any_of HT_.out (by kernel_rfl)) (fun _ _ _ h => h) (Or.inl ⟨by rfl, ?_⟩) ?_ ?_
      rotate_left
      · intro w'
        go_simp
        with_reducible rfl
      rotate_left
      · simp only [Act.put, List.setIfInBounds_toArray, List.set_cons_zero, List.set_cons_succ, i64_w, i32_w]
        rfl
      refine pure_ (i := 29) (N := some 121) (v := ?_) (a' := ?_) #[true, true, true, true, true, true, true, true, true, true, true, true, true, true, true, true, true, true, true, true, true, true, true, true, true, true, true, false, true, true, false, false, false, false, false, false, false, false, false, false, false, false, false] rfl rfl (any_of HT_.out (by kernel_rfl)) (fun _ _ _ h => h) (Or.inl ⟨by rfl, ?_⟩) ?_ ?_
      rotate_left
      · intro w'
        go_simp
        with_reducible rfl
      rotate_left
      · simp only [Act.put, List.setIfInBounds_toArray, List.set_cons_zero, List.set_cons_succ, i64_w, i32_w]
        rfl
      refine take_ (i := 27) (N := some 119) (v := ?_) (a' := ?_) #[true, true, true, true, true, true, true, true, true, true, true, true, true, true, true, true, true, true, true, true, true, true, true, true, true, true, true, true, true, true, false, false, false, false, false, false, false, false, false, false, false, false, false] rfl rfl (take_ofW HT_.out HW_.out (by kernel_rfl)) (fun _ _ _ h => h) (Or.inl ⟨by rfl, ?_⟩) hHeld ?_ ?_
      rotate_left
      · rintro w' ⟨s0, s1, s2, s3, s4, s5, s6, s7, s8, s9, s10, s11, s12, s13⟩
        go_simp
        with_reducible rfl
      rotate_left
      · simp only [Act.put, List.setIfInBounds_toArray, List.set_cons_zero, List.set_cons_succ, i64_w, i32_w]
        rfl
      refine take_ (i := 30) (N := some 122) (v := ?_) (a' := ?_) #[true, true, true, true, true, true, true, true, true, true, true, true, true, true, true, true, true, true, true, true, true, true, true, true, true, true, true, true, true, true, true, false, false, false, false, false, false, false, false, false, false, false, false] rfl rfl (take_ofW HT_.out HW_.out (by kernel_rfl)) (fun _ _ _ h => h) (Or.inl ⟨by rfl, ?_⟩) hHeld ?_ ?_
      rotate_left
      · rintro w' ⟨s0, s1, s2, s3, s4, s5, s6, s7, s8, s9, s10, s11, s12, s13⟩
        go_simp
        with_reducible rfl
      rotate_left
      · simp only [Act.put, List.setIfInBounds_toArray, List.set_cons_zero, List.set_cons_succ, i64_w, i32_w]
        rfl
      refine pure_ (i := 31) (N := some 123) (v := ?_) (a' := ?_) #[true, true, true, true, true, true, true, true, true, true, true, true, true, true, true, true, true, true, true, true, true, true, true, true, true, true, true, true, true, true, true, true, false, false, false, false, false, false, false, false, false, false, false] rfl rfl (any_of HT_.out (by kernel_rfl)) (fun _ _ _ h => h) (Or.inl ⟨by rfl, ?_⟩) ?_ ?_
      rotate_left
      · intro w'
        go_simp
        with_reducible rfl
      rotate_left
      · simp only [Act.put, List.setIfInBounds_toArray, List.set_cons_zero, List.set_cons_succ, i64_w, i32_w]
        rfl
      refine pure_ (i := 32) (N := some 124) (v := ?_) (a' := ?_) #[true, true, true, true, true, true, true, true, true, true, true, true, true, true, true, true, true, true, true, true, true, true, true, true, true, true, true, true, true, true, true, true, true, false, false, false, false, false, false, false, false, false, false] rfl rfl (any_of HT_.out (by kernel_rfl)) (fun _ _ _ h => h) (Or.inl ⟨by rfl, ?_⟩) ?_ ?_
      rotate_left
      · intro w'
        go_simp
        with_reducible rfl
      rotate_left
      · simp only [Act.put, List.setIfInBounds_toArray, List.set_cons_zero, List.set_cons_succ, i64_w, i32_w]
        rfl
      refine pure_ (i := 33) (N := some 125) (v := ?_) (a' := ?_) #[true, true, true, true, true, true, true, true, true, true, true, true, true, true, true, true, true, true, true, true, true, true, true, true, true, true, true, true, true, true, true, true, true, true, false, false, false, false, false, false, false, false, false] rfl rfl (any_of HT_.out (by kernel_rfl)) (fun _ _ _ h => h) (Or.inl ⟨by rfl, ?_⟩) ?_ ?_
      rotate_left
      · intro w'
        go_simp
        with_reducible rfl
      rotate_left
      · simp only [Act.put, List.setIfInBounds_toArray, List.set_cons_zero, List.set_cons_succ, i64_w, i32_w]
        rfl
      refine pure_ (i := 34) (N := some 126) (v := ?_) (a' := ?_) #[true, true, true, true, true, true, true, true, true, true, true, true, true, true, true, true, true, true, true, true, true, true, true, true, true, true, true, true, true, true, true, true, true, true, true, false, false, false, false, false, false, false, false] rfl rfl (any_of HT_.out (by kernel_rfl)) (fun _ _ _ h => h) (Or.inl ⟨by rfl, ?_⟩) ?_ ?_
      rotate_left
      · intro w'
        go_simp
        with_reducible rfl
      rotate_left
      · simp only [Act.put, List.setIfInBounds_toArray, List.set_cons_zero, List.set_cons_succ, i64_w, i32_w]
        rfl
      refine pure_ (i := 35) (N := some 127) (v := ?_) (a' := ?_) #[true, true, true, true, true, true, true, true, true, true, true, true, true, true, true, true, true, true, true, true, true, true, true, true, true, true, true, true, true, true, true, true, true, true, true, true, false, false, false, false, false, false, false] rfl rfl (any_of HT_.out (by kernel_rfl)) (fun _ _ _ h => h) (Or.inl ⟨by rfl, ?_⟩) ?_ ?_
      rotate_left
      · intro w'
        go_simp
        with_reducible rfl
      rotate_left
      · simp only [Act.put, List.setIfInBounds_toArray, List.set_cons_zero, List.set_cons_succ, i64_w, i32_w]
        rfl
      refine pure_ (i := 37) (N := some 129) (v := ?_) (a' := ?_) #[true, true, true, true, true, true, true, true, true, true, true, true, true, true, true, true, true, true, true, true, true, true, true, true, true, true, true, true, true, true, true, true, true, true, true, true, false, true, false, false, false, false, false] rfl rfl (any_of HT_.out (by kernel_rfl)) (fun _ _ _ h => h) (Or.inl ⟨by rfl, ?_⟩) ?_ ?_
      rotate_left
      · intro w'
        go_simp
        with_reducible rfl
      rotate_left
      · simp only [Act.put, List.setIfInBounds_toArray, List.set_cons_zero, List.set_cons_succ, i64_w, i32_w]
        rfl
      refine pure_ (i := 38) (N := some 130) (v := ?_) (a' := ?_) #[true, true, true, true, true, true, true, true, true, true, true, true, true, true, true, true, true, true, true, true, true, true, true, true, true, true, true, true, true, true, true, true, true, true, true, true, false, true, true, false, false, false, false] rfl rfl (any_of HT_.out (by kernel_rfl)) (fun _ _ _ h => h) (Or.inl ⟨by rfl, ?_⟩) ?_ ?_
      rotate_left
      · intro w'
        go_simp
        with_reducible rfl
      rotate_left
      · simp only [Act.put, List.setIfInBounds_toArray, List.set_cons_zero, List.set_cons_succ, i64_w, i32_w]
        rfl
      refine take_ (i := 36) (N := some 128) (v := ?_) (a' := ?_) #[true, true, true, true, true, true, true, true, true, true, true, true, true, true, true, true, true, true, true, true, true, true, true, true, true, true, true, true, true, true, true, true, true, true, true, true, true, true, true, false, false, false, false] rfl rfl (take_ofW HT_.out HW_.out (by kernel_rfl)) (fun _ _ _ h => h) (Or.inl ⟨by rfl, ?_⟩) hHeld ?_ ?_
      rotate_left
      · rintro w' ⟨s0, s1, s2, s3, s4, s5, s6, s7, s8, s9, s10, s11, s12, s13⟩
        go_simp
        with_reducible rfl
      rotate_left
      · simp only [Act.put, List.setIfInBounds_toArray, List.set_cons_zero, List.set_cons_succ, i64_w, i32_w]
        rfl
      refine take_ (i := 39) (N := some 131) (v := ?_) (a' := ?_) #[true, true, true, true, true, true, true, true, true, true, true, true, true, true, true, true, true, true, true, true, true, true, true, true, true, true, true, true, true, true, true, true, true, true, true, true, true, true, true, true, false, false, false] rfl rfl (take_ofW HT_.out HW_.out (by kernel_rfl)) (fun _ _ _ h => h) (Or.inl ⟨by rfl, ?_⟩) hHeld ?_ ?_
      rotate_left
      · rintro w' ⟨s0, s1, s2, s3, s4, s5, s6, s7, s8, s9, s10, s11, s12, s13⟩
        go_simp
        with_reducible rfl
      rotate_left
      · simp only [Act.put, List.setIfInBounds_toArray, List.set_cons_zero, List.set_cons_succ, i64_w, i32_w]
        rfl
      refine pure_ (i := 40) (N := some 132) (v := ?_) (a' := ?_) #[true, true, true, true, true, true, true, true, true, true, true, true, true, true, true, true, true, true, true, true, true, true, true, true, true, true, true, true, true, true, true, true, true, true, true, true, true, true, true, true, true, false, false] rfl rfl (any_of HT_.out (by kernel_rfl)) (fun _ _ _ h => h) (Or.inl ⟨by rfl, ?_⟩) ?_ ?_
      rotate_left
      · intro w'
        go_simp
        with_reducible rfl
      rotate_left
      · simp only [Act.put, List.setIfInBounds_toArray, List.set_cons_zero, List.set_cons_succ, i64_w, i32_w]
        rfl
      refine pure_ (i := 41) (N := some 133) (v := ?_) (a' := ?_) #[true, true, true, true, true, true, true, true, true, true, true, true, true, true, true, true, true, true, true, true, true, true, true, true, true, true, true, true, true, true, true, true, true, true, true, true, true, true, true, true, true, true, false] rfl rfl (any_of HT_.out (by kernel_rfl)) (fun _ _ _ h => h) (Or.inl ⟨by rfl, ?_⟩) ?_ ?_
      rotate_left
      · intro w'
        go_simp
        with_reducible rfl
      rotate_left
      · simp only [Act.put, List.setIfInBounds_toArray, List.set_cons_zero, List.set_cons_succ, i64_w, i32_w]
        rfl
      refine pure_ (i := 42) (N := some 6) (v := ?_) (a' := ?_) #[true, true, true, true, true, true, true, true, true, true, true, true, true, true, true, true, true, true, true, true, true, true, true, true, true, true, true, true, true, true, true, true, true, true, true, true, true, true, true, true, true, true, true] rfl rfl (any_of HT_.out (by kernel_rfl)) (fun _ _ _ h => h) (Or.inl ⟨by rfl, ?_⟩) ?_ ?_
      rotate_left
      · intro w'
        go_simp
        with_reducible rfl
      rotate_left
      · simp only [Act.put, List.setIfInBounds_toArray, List.set_cons_zero, List.set_cons_succ, i64_w, i32_w]
        rfl
      refine done_ (done_of HT_.out (by kernel_rfl)) ?_
      try go_wp2
      go_ret
      exact ⟨by first | rfl | (simp [errW_none, errW_some] <;> rfl) | (simp [*, errW_none, errW_some] <;> rfl), by repeat (first | (with_reducible first | exact HB.out | apply below_alloc | apply pw_below_drewN | apply below_drew1 | refine below_set ?_ GE402.out | refine below_set ?_ GE403.out | refine below_set ?_ GE404.out | refine below_set ?_ GE431.out | refine below_set ?_ GE448.out) | exact HB.out)⟩
end Go.Proofs.Ytmfgalcepaaolaa.PS
