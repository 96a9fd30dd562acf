/- A part of the proof of SpecLast: what functions do and tell, and words for that. -/
import Derived.Test.YtmfgalcepaaolaaLGR
import Derived.Test.YtmfgalcepaaolaaLPRx0
import Derived.Test.YtmfgalcepaaolaaLPRx7
import Derived.Test.YtmfgalcepaaolaaLPRx8
import Derived.Test.YtmfgalcepaaolaaLPRy8
namespace Go.Proofs.Ytmfgalcepaaolaa.PR
open Go.Proofs.Ytmfgalcepaaolaa.GR Go.RowKit Go.Proofs.YtmfgalcepaaolaaW.PrintWords Go.Proofs.YtmfgalcepaaolaaW.PrintLast Go.Proofs.YtmfgalcepaaolaaW.PrintMore
set_option linter.unusedVariables false
set_option linter.unusedSimpArgs false
mutual
def underwoodlaw09_SpecLast.j0 : Nat → List Int → List Int → Bool → Bool → Option (Bool)
  | 0, _, _, _, _ => none
  | k + 1, x0, x1, x5, x31 => if x31 = true then (some x5) else (underwoodlaw09_SpecLast.l0 k x0 x1 x5 ([] : List (S26)) ([] : List (S26)) ([] : List Int) 0)
def underwoodlaw09_SpecLast.l0 : Nat → List Int → List Int → Bool → List (S26) → List (S26) → List Int → Int → Option (Bool)
  | 0, _, _, _, _, _, _, _ => none
  | k + 1, x0, x1, x5, x6, x7, x8, x9 => if x9 < (x1.length : Int) then (if 0 ≤ x9 then (if x6.length < 4398046511104 then (if x7.length < 4398046511104 then (if 0 ≤ (wrap64 ((wrap64 ((x1.length : Int) - 1)) - x9)) then (if (wrap64 ((wrap64 ((x1.length : Int) - 1)) - x9)) < (x1.length : Int) then (if x8.length < 17592186044416 then (underwoodlaw09_SpecLast.l0 k x0 x1 x5 (x6 ++ [(⟨4, 0, rd x1 x9, 0⟩ : S26)]) (x7 ++ [(⟨6, 0, rd x1 x9, 0⟩ : S26)]) (x8 ++ [rd x1 (wrap64 ((wrap64 ((x1.length : Int) - 1)) - x9))]) (wrap64 (x9 + 1))) else (none)) else (none)) else (none)) else (none)) else (none)) else (none)) else ((spec_All.f k 2 ([] : List Int) x0 x6).bind fun bt245 => ((spec_All.f k 3 ([] : List Int) x0 x7).bind fun bt259 => (underwoodlaw09_SpecLast.j2 k x0 x1 x5 x8 (wrap64 ((x0.length : Int) + (x1.length : Int))) bt245.1 bt245.2.1 bt245.2.2.1 bt259.1 bt259.2.1 bt259.2.2.1)))
def underwoodlaw09_SpecLast.j2 : Nat → List Int → List Int → Bool → List Int → Int → Int → List Int → List Int → Int → List Int → List Int → Option (Bool)
  | 0, _, _, _, _, _, _, _, _, _, _, _ => none
  | k + 1, x0, x1, x5, x8, x16, x259000, x259001, x259002, x273000, x273001, x273002 => (underwoodlaw09_takes.f k 5 (wrap64 (x16 + 1))).bind fun t273 => ((spec_All.f k x259000 x259001 x259002 t273).bind fun bt276 => ((underwoodlaw09_takes.f k 7 (wrap64 (x16 + 1))).bind fun t290 => ((spec_All.f k x273000 x273001 x273002 t290).bind fun bt293 => (if (bt276.2.2.2.1.length : Int) = (wrap64 (x16 + 1)) then (if (bt293.2.2.2.1.length : Int) = (wrap64 (x16 + 1)) then (if (bt276.2.2.2.2.length : Int) = (wrap64 (x16 + 1)) then (if (bt293.2.2.2.2.length : Int) = (wrap64 (x16 + 1)) then (if (wrap64 ((bt276.2.2.1.length : Int) + (bt293.2.2.1.length : Int))) > 0 then (underwoodlaw09_SpecLast.j3 k x0 x1 x5 x8 x16 bt276.2.2.2.1 bt293.2.2.2.1 true) else (if 0 ≤ x16 then (if x16 < (bt276.2.2.2.2.length : Int) then (if rdOf false bt276.2.2.2.2 x16 = true then (underwoodlaw09_SpecLast.j3 k x0 x1 x5 x8 x16 bt276.2.2.2.1 bt293.2.2.2.1 true) else (if x16 < (bt293.2.2.2.2.length : Int) then (underwoodlaw09_SpecLast.j3 k x0 x1 x5 x8 x16 bt276.2.2.2.1 bt293.2.2.2.1 (rdOf false bt293.2.2.2.2 x16)) else (none))) else (none)) else (none))) else (underwoodlaw09_SpecLast.j3 k x0 x1 x5 x8 x16 bt276.2.2.2.1 bt293.2.2.2.1 true)) else (underwoodlaw09_SpecLast.j3 k x0 x1 x5 x8 x16 bt276.2.2.2.1 bt293.2.2.2.1 true)) else (underwoodlaw09_SpecLast.j3 k x0 x1 x5 x8 x16 bt276.2.2.2.1 bt293.2.2.2.1 true)) else (underwoodlaw09_SpecLast.j3 k x0 x1 x5 x8 x16 bt276.2.2.2.1 bt293.2.2.2.1 true)))))
def underwoodlaw09_SpecLast.j3 : Nat → List Int → List Int → Bool → List Int → Int → List Int → List Int → Bool → Option (Bool)
  | 0, _, _, _, _, _, _, _, _ => none
  | k + 1, x0, x1, x5, x8, x16, x18, x21, x152 => if x152 = true then (some false) else (if x5 = true then (if 0 ≤ x16 then (if x16 ≤ (x18.length : Int) then ((some (([] : List Int) : List Int)).bind fun y313 => (if y313.length + x8.length < 17592186044416 then ((some (y313 ++ x8 : List Int)).bind fun y316 => (if y316.length + x0.length < 17592186044416 then ((underwoodref09_Ints.f k (x18.take (x16 : Int).toNat) (y316 ++ x0)).bind fun t322 => (if t322 = true then (if x16 ≤ (x21.length : Int) then ((some (([] : List Int) : List Int)).bind fun y327 => (if y327.length + x0.length < 17592186044416 then ((some (y327 ++ x0 : List Int)).bind fun y330 => (if y330.length + x1.length < 17592186044416 then ((underwoodref09_Ints.f k (x21.take (x16 : Int).toNat) (y330 ++ x1)).bind fun t336 => (some t336)) else (none))) else (none))) else (none)) else (some false))) else (none))) else (none))) else (none)) else (none)) else (some false))
end
def underwoodlaw09_SpecLast.f (k : Nat) (l0 : List Int) (l1 : List Int) : Option (Bool) := (underwoodlaw09_awake.f).bind fun t232 => (if (l0.length : Int) > 50 then (underwoodlaw09_SpecLast.j0 k l0 l1 t232 true) else (underwoodlaw09_SpecLast.j0 k l0 l1 t232 (decide ((l1.length : Int) > 50))))
theorem underwoodlaw09_SpecLast.mono_l : ∀ k, (∀ y0 y1 y2 y3, LeO (underwoodlaw09_SpecLast.j0 k y0 y1 y2 y3) (underwoodlaw09_SpecLast.j0 (k + 1) y0 y1 y2 y3)) ∧ (∀ y0 y1 y2 y3 y4 y5 y6, LeO (underwoodlaw09_SpecLast.l0 k y0 y1 y2 y3 y4 y5 y6) (underwoodlaw09_SpecLast.l0 (k + 1) y0 y1 y2 y3 y4 y5 y6)) ∧ (∀ y0 y1 y2 y3 y4 y5 y6 y7 y8 y9 y10, LeO (underwoodlaw09_SpecLast.j2 k y0 y1 y2 y3 y4 y5 y6 y7 y8 y9 y10) (underwoodlaw09_SpecLast.j2 (k + 1) y0 y1 y2 y3 y4 y5 y6 y7 y8 y9 y10)) ∧ (∀ y0 y1 y2 y3 y4 y5 y6 y7, LeO (underwoodlaw09_SpecLast.j3 k y0 y1 y2 y3 y4 y5 y6 y7) (underwoodlaw09_SpecLast.j3 (k + 1) y0 y1 y2 y3 y4 y5 y6 y7))
  | 0 => ⟨fun _ _ _ _ r h => by simp [underwoodlaw09_SpecLast.j0] at h, fun _ _ _ _ _ _ _ r h => by simp [underwoodlaw09_SpecLast.l0] at h, fun _ _ _ _ _ _ _ _ _ _ _ r h => by simp [underwoodlaw09_SpecLast.j2] at h, fun _ _ _ _ _ _ _ _ r h => by simp [underwoodlaw09_SpecLast.j3] at h⟩
  | k + 1 => by
    obtain ⟨ih0, ih1, ih2, ih3⟩ := underwoodlaw09_SpecLast.mono_l k
    refine ⟨?_, ?_, ?_, ?_⟩
    · intro y0 y1 y2 y3
      unfold underwoodlaw09_SpecLast.j0
      repeat' first
      | (with_reducible exact ih0 _ _ _ _)
      | (with_reducible exact ih1 _ _ _ _ _ _ _)
      | (with_reducible exact ih2 _ _ _ _ _ _ _ _ _ _ _)
      | (with_reducible exact ih3 _ _ _ _ _ _ _ _)
      | (with_reducible exact spec_All.mono _ _ _ _ _)
      | (with_reducible exact underwoodlaw09_takes.mono _ _ _)
      | (with_reducible exact underwoodref09_Ints.mono _ _ _)
      | (with_reducible exact LeO.refl _)
      | (with_reducible exact LeO.none _)
      | (with_reducible refine LeO.ite ?_ ?_)
      | (with_reducible refine LeO.bind ?_ (fun _ => ?_))
      | exact ih0 _ _ _ _
      | exact ih1 _ _ _ _ _ _ _
      | exact ih2 _ _ _ _ _ _ _ _ _ _ _
      | exact ih3 _ _ _ _ _ _ _ _
      | exact spec_All.mono _ _ _ _ _
      | exact underwoodlaw09_takes.mono _ _ _
      | exact underwoodref09_Ints.mono _ _ _
      | exact LeO.none _
      | refine LeO.ite ?_ ?_
      | refine LeO.bind ?_ (fun _ => ?_)
    · intro y0 y1 y2 y3 y4 y5 y6
      unfold underwoodlaw09_SpecLast.l0
      repeat' first
      | (with_reducible exact ih0 _ _ _ _)
      | (with_reducible exact ih1 _ _ _ _ _ _ _)
      | (with_reducible exact ih2 _ _ _ _ _ _ _ _ _ _ _)
      | (with_reducible exact ih3 _ _ _ _ _ _ _ _)
      | (with_reducible exact spec_All.mono _ _ _ _ _)
      | (with_reducible exact underwoodlaw09_takes.mono _ _ _)
      | (with_reducible exact underwoodref09_Ints.mono _ _ _)
      | (with_reducible exact LeO.refl _)
      | (with_reducible exact LeO.none _)
      | (with_reducible refine LeO.ite ?_ ?_)
      | (with_reducible refine LeO.bind ?_ (fun _ => ?_))
      | exact ih0 _ _ _ _
      | exact ih1 _ _ _ _ _ _ _
      | exact ih2 _ _ _ _ _ _ _ _ _ _ _
      | exact ih3 _ _ _ _ _ _ _ _
      | exact spec_All.mono _ _ _ _ _
      | exact underwoodlaw09_takes.mono _ _ _
      | exact underwoodref09_Ints.mono _ _ _
      | exact LeO.none _
      | refine LeO.ite ?_ ?_
      | refine LeO.bind ?_ (fun _ => ?_)
    · intro y0 y1 y2 y3 y4 y5 y6 y7 y8 y9 y10
      unfold underwoodlaw09_SpecLast.j2
      repeat' first
      | (with_reducible exact ih0 _ _ _ _)
      | (with_reducible exact ih1 _ _ _ _ _ _ _)
      | (with_reducible exact ih2 _ _ _ _ _ _ _ _ _ _ _)
      | (with_reducible exact ih3 _ _ _ _ _ _ _ _)
      | (with_reducible exact spec_All.mono _ _ _ _ _)
      | (with_reducible exact underwoodlaw09_takes.mono _ _ _)
      | (with_reducible exact underwoodref09_Ints.mono _ _ _)
      | (with_reducible exact LeO.refl _)
      | (with_reducible exact LeO.none _)
      | (with_reducible refine LeO.ite ?_ ?_)
      | (with_reducible refine LeO.bind ?_ (fun _ => ?_))
      | exact ih0 _ _ _ _
      | exact ih1 _ _ _ _ _ _ _
      | exact ih2 _ _ _ _ _ _ _ _ _ _ _
      | exact ih3 _ _ _ _ _ _ _ _
      | exact spec_All.mono _ _ _ _ _
      | exact underwoodlaw09_takes.mono _ _ _
      | exact underwoodref09_Ints.mono _ _ _
      | exact LeO.none _
      | refine LeO.ite ?_ ?_
      | refine LeO.bind ?_ (fun _ => ?_)
    · intro y0 y1 y2 y3 y4 y5 y6 y7
      unfold underwoodlaw09_SpecLast.j3
      repeat' first
      | (with_reducible exact ih0 _ _ _ _)
      | (with_reducible exact ih1 _ _ _ _ _ _ _)
      | (with_reducible exact ih2 _ _ _ _ _ _ _ _ _ _ _)
      | (with_reducible exact ih3 _ _ _ _ _ _ _ _)
      | (with_reducible exact spec_All.mono _ _ _ _ _)
      | (with_reducible exact underwoodlaw09_takes.mono _ _ _)
      | (with_reducible exact underwoodref09_Ints.mono _ _ _)
      | (with_reducible exact LeO.refl _)
      | (with_reducible exact LeO.none _)
      | (with_reducible refine LeO.ite ?_ ?_)
      | (with_reducible refine LeO.bind ?_ (fun _ => ?_))
      | exact ih0 _ _ _ _
      | exact ih1 _ _ _ _ _ _ _
      | exact ih2 _ _ _ _ _ _ _ _ _ _ _
      | exact ih3 _ _ _ _ _ _ _ _
      | exact spec_All.mono _ _ _ _ _
      | exact underwoodlaw09_takes.mono _ _ _
      | exact underwoodref09_Ints.mono _ _ _
      | exact LeO.none _
      | refine LeO.ite ?_ ?_
      | refine LeO.bind ?_ (fun _ => ?_)
theorem underwoodlaw09_SpecLast.mono : ∀ a0 a1 k, LeO (underwoodlaw09_SpecLast.f k a0 a1) (underwoodlaw09_SpecLast.f (k + 1) a0 a1) := by
  intro a0 a1 k
  obtain ⟨ih0, ih1, ih2, ih3⟩ := underwoodlaw09_SpecLast.mono_l k
  unfold underwoodlaw09_SpecLast.f
  repeat' first
      | (with_reducible exact ih0 _ _ _ _)
      | (with_reducible exact ih1 _ _ _ _ _ _ _)
      | (with_reducible exact ih2 _ _ _ _ _ _ _ _ _ _ _)
      | (with_reducible exact ih3 _ _ _ _ _ _ _ _)
      | (with_reducible exact spec_All.mono _ _ _ _ _)
      | (with_reducible exact underwoodlaw09_takes.mono _ _ _)
      | (with_reducible exact underwoodref09_Ints.mono _ _ _)
      | (with_reducible exact LeO.refl _)
      | (with_reducible exact LeO.none _)
      | (with_reducible refine LeO.ite ?_ ?_)
      | (with_reducible refine LeO.bind ?_ (fun _ => ?_))
      | exact ih0 _ _ _ _
      | exact ih1 _ _ _ _ _ _ _
      | exact ih2 _ _ _ _ _ _ _ _ _ _ _
      | exact ih3 _ _ _ _ _ _ _ _
      | exact spec_All.mono _ _ _ _ _
      | exact underwoodlaw09_takes.mono _ _ _
      | exact underwoodref09_Ints.mono _ _ _
      | exact LeO.none _
      | refine LeO.ite ?_ ?_
      | refine LeO.bind ?_ (fun _ => ?_)
def underwoodlaw09_SpecLast.T16 : Bool × List (List Nat × List Nat) := (true, [([], []), ([], []), ([1], [1]), ([2], [2]), ([0, 3, 3], [0, 3]), ([4], [4]), ([5], [5]), ([5], [5]), ([5], [5]), ([], []), ([9, 6, 4, 0, 1, 2, 3, 4, 5, 6, 9], [6, 9]), ([7, 10, 0, 1, 2, 3, 4, 5, 6, 7, 9, 10], [7]), ([8, 11, 0, 1, 2, 3, 4, 5, 6, 7, 8, 9, 10, 11], [8])])
def underwoodlaw09_SpecLast.B16 : List Nat := [0, 0, 2, 6, 15, 31, 63, 63, 63, 0, 639, 1791, 4095]
theorem underwoodlaw09_SpecLast.tab16 : rtab .any (opsOf Try.f4 16) = underwoodlaw09_SpecLast.T16 := by kernel_rfl
theorem underwoodlaw09_SpecLast.bits16 : waitsOk underwoodlaw09_SpecLast.T16.2 underwoodlaw09_SpecLast.B16 = true := by kernel_rfl
def underwoodlaw09_SpecLast.T17 : Bool × List (List Nat × List Nat) := (true, [([], []), ([], []), ([1], [1]), ([2], [2]), ([0, 3, 3], [0, 3]), ([4], [4]), ([5], [5]), ([5], [5]), ([5], [5]), ([], []), ([9, 6, 4, 0, 1, 2, 3, 4, 5, 6, 9], [6, 9]), ([7, 10, 0, 1, 2, 3, 4, 5, 6, 7, 9, 10], [7]), ([8, 11, 0, 1, 2, 3, 4, 5, 6, 7, 8, 9, 10, 11], [8])])
def underwoodlaw09_SpecLast.B17 : List Nat := [0, 0, 2, 6, 15, 31, 63, 63, 63, 0, 639, 1791, 4095]
theorem underwoodlaw09_SpecLast.tab17 : rtab .any (opsOf Try.f4 17) = underwoodlaw09_SpecLast.T17 := by kernel_rfl
theorem underwoodlaw09_SpecLast.bits17 : waitsOk underwoodlaw09_SpecLast.T17.2 underwoodlaw09_SpecLast.B17 = true := by kernel_rfl
def underwoodlaw09_SpecLast.T20 : Bool × List (List Nat × List Nat) := (true, [([], []), ([0], [0]), ([1], [1]), ([1], [1]), ([2, 3, 1], [1, 2, 3]), ([1], [1]), ([1], [1]), ([5, 6, 1, 1], [1, 5, 6]), ([1], [1]), ([7, 8, 7, 1], [1, 7, 8]), ([4, 9, 9, 1], [1, 4, 9]), ([1, 10], [1, 10]), ([11, 10], [11]), ([12], [12]), ([12], [12]), ([13, 14, 12], [12, 13, 14]), ([12], [12]), ([12], [12]), ([16, 17, 12, 12], [12, 16, 17]), ([12], [12]), ([18, 19, 18, 12], [12, 18, 19]), ([15, 20, 20, 12], [12, 15, 20]), ([12, 21], [12, 21]), ([22, 21, 0, 1, 2, 3, 4, 5, 6, 7, 8, 9, 10, 11, 12, 13, 14, 15, 16, 17, 18, 19, 20, 21, 22], [22])])
def underwoodlaw09_SpecLast.B20 : List Nat := [0, 1, 3, 3, 15, 3, 3, 99, 3, 483, 1023, 2047, 4095, 8191, 8191, 32767, 8191, 8191, 204799, 8191, 991231, 2097151, 4194303, 8388607]
theorem underwoodlaw09_SpecLast.tab20 : rtab .any (opsOf Try.f4 20) = underwoodlaw09_SpecLast.T20 := by kernel_rfl
theorem underwoodlaw09_SpecLast.bits20 : waitsOk underwoodlaw09_SpecLast.T20.2 underwoodlaw09_SpecLast.B20 = true := by kernel_rfl
set_option maxHeartbeats 8000000 in
set_option maxRecDepth 100000 in
theorem underwoodlaw09_SpecLast.calls (k : Nat) (A0 : Option Addr) (c0 : Nat) (l0 : List Int) (A1 : Option Addr) (c1 : Nat) (l1 : List Int) (r : Bool) (w : World) (hr0 : Kd.C (Kd.int .i64) w A0 l0.length l0) (hc0 : l0.length ≤ c0) (hr1 : Kd.C (Kd.int .i64) w A1 l1.length l1) (hc1 : l1.length ≤ c1) (h : underwoodlaw09_SpecLast.f k l0 l1 = some r) (hr : r = true) :
  Calls Try.prog 4 #[.slice A0 l0.length c0, .slice A1 l1.length c1] w fun e w' => e = .returned (.bool r) ∧ Below w.heap.size w w' := by
 have hu26 := Try.underlying26
 have hu24 := Try.underlying24
 have HR0 := Aside0.mk hr0
 have HC0 := Aside0.mk hc0
 clear hr0 hc0
 have HR1 := Aside0.mk hr1
 have HC1 := Aside0.mk hc1
 clear hr1 hc1
 have HB := Aside0.mk (Below.refl w.heap.size w)
 have H : ((underwoodlaw09_awake.f).bind fun t232 => (if (l0.length : Int) > 50 then (underwoodlaw09_SpecLast.j0 k l0 l1 t232 true) else (underwoodlaw09_SpecLast.j0 k l0 l1 t232 (decide ((l1.length : Int) > 50))))) = some r := h
 clear h
 replace H := Option.bind_eq_some_iff.mp H
 obtain ⟨t232, A30, H⟩ := H
 replace H : (if (l0.length : Int) > 50 then (underwoodlaw09_SpecLast.j0 k l0 l1 t232 true) else (underwoodlaw09_SpecLast.j0 k l0 l1 t232 (decide ((l1.length : Int) > 50)))) = some r := H
 have A3 := Aside0.mk A30
 clear A30
 have HC4 := Aside0.mk H
 clear H
 go_enter Try.func4, Try.ntmps4
 go_upto_region 2 with (first | ((with_reducible refine gate_callee (f := 8) rfl ?_); refine goesL_ (some 23) rfl rfl Try.func8 (by kernel_rfl) rfl #[] rfl ls ?_; (with_reducible refine (underwoodlaw09_awake.calls  t232 _ A3.out).mono ?_); rintro e w5 ⟨rfl, hb⟩; refine ⟨_, rfl, ?_⟩; replace HB := Aside0.mk (below_step (uB HB.out) hb); (try clear hb); (try clear hb2); (try clear hk); (try clear hi)))
 (try simp only [Act.put, List.setIfInBounds_toArray, List.set_cons_zero, List.set_cons_succ])
 go_cut [31] (fun v31 wc => ∃ (kq : Nat) (x31_3 : Bool), v31 = .bool x31_3 ∧ Aside0 (underwoodlaw09_SpecLast.j0 kq l0 l1 t232 x31_3 = some r) ∧ Aside0 (kq ≤ k) ∧ Aside0 (Below w.heap.size w wc))
 case first =>
  have H := HC4.out
  clear HC4
  by_cases c6 : (l0.length : Int) > 50
  ·rw [if_pos c6] at H
   have c6b0 : decide (50 < (l0.length : Int)) = true := decide_eq_true c6
   have c6b1 : decide (50 < l0.length) = true := decide_eq_true (by omega)
   clear c6
   (first | rw [c6b0] | (simp only [i64_w, i32_w]; rw [c6b0]) | skip)
   have H' := Aside0.mk H
   clear H
   go_wp2
   go_meet
   case rel => exact ⟨_, (true), (by first | rfl | (simp; done) | (simp [*]; done)), H', ⟨by first | omega | exact Nat.le_refl _⟩, ⟨uB HB.out⟩⟩
  rw [if_neg c6] at H
  have c6b0 : decide (50 < (l0.length : Int)) = false := decide_eq_false c6
  have c6b1 : decide (50 < l0.length) = false := decide_eq_false (by omega)
  clear c6
  (first | rw [c6b0] | (simp only [i64_w, i32_w]; rw [c6b0]) | skip)
  have H' := Aside0.mk H
  clear H
  go_wp2
  go_meet
  case rel => exact ⟨_, (decide ((l1.length : Int) > 50)), (by first | rfl | (simp; done) | (simp [*]; done)), H', ⟨by first | omega | exact Nat.le_refl _⟩, ⟨uB HB.out⟩⟩
 case rest =>
  clear HC4
  try clear c1
  try clear p2
  try clear c4
  try clear c6
  try clear c6b0
  try clear c6b1
  obtain ⟨kq, x31_3, rfl, HA, HJ3, HB⟩ := hcut
  cases kq with
  | zero => exact absurd HA.out (by simp [underwoodlaw09_SpecLast.j0])
  | succ kj3 =>
   have H := HA.out
   clear HA
   simp only [underwoodlaw09_SpecLast.j0] at H
   by_cases c7 : x31_3 = true
   ·subst c7
    have H1 : (some t232) = some r := by rw [if_pos rfl] at H; exact H
    clear H
    have H := H1
    clear H1
    obtain rfl := Option.some.inj H
    go_wp2
    go_ret
    exact ⟨by first | rfl | (simp [errW_none, errW_some] <;> rfl) | (simp [*, errW_none, errW_some] <;> rfl), uB HB.out⟩
   replace c7 := Bool.eq_false_iff.mpr c7
   subst c7
   have H1 : (underwoodlaw09_SpecLast.l0 kj3 l0 l1 t232 ([] : List (S26)) ([] : List (S26)) ([] : List Int) 0) = some r := by rw [if_neg (show ¬ (false = true) by decide)] at H; exact H
   clear H
   have H := H1
   clear H1
   have H' := Aside0.mk H
   clear H
   go_wp2
   go_loopg [6, 7, 8, 9] kj3 (fun kq v6 v7 v8 v9 w' => ∃ (x6_2 : List (S26)) (x7_2 : List (S26)) (x8_2 : List Int) (x9_2 : Int), v9 = .int .i64 x9_2 ∧ Aside0 (underwoodlaw09_SpecLast.l0 kq l0 l1 t232 x6_2 x7_2 x8_2 x9_2 = some r) ∧ Aside0 (kq ≤ kj3) ∧ Aside0 (Kd.R k26 26 w' w.heap.size (fun k_ => NB k_ v7) v6 x6_2) ∧ Aside0 (Kd.R k26 26 w' w.heap.size (fun k_ => NB k_ v6) v7 x7_2) ∧ Aside0 (Kd.R (Kd.int .i64) 3 w' w.heap.size (fun _ => True) v8 x8_2) ∧ Aside0 (Below w.heap.size w w'))
   case atStart => exact ⟨(([] : List (S26))), (([] : List (S26))), (([] : List Int)), (0), (by first | rfl | (simp; done) | (simp [*]; done)), H', ⟨Nat.le_refl _⟩, ⟨by first | exact Kd.R_nil _ _ _ _ _ | exact Kd.N_nil _ _ _ _ _ | exact Kd.V_nil _ _ _ _ _ | exact Kd.Q_nil _ _ _ _ _ | exact Kd.S_nil _ _ _ _ _⟩, ⟨by first | exact Kd.R_nil _ _ _ _ _ | exact Kd.N_nil _ _ _ _ _ | exact Kd.V_nil _ _ _ _ _ | exact Kd.Q_nil _ _ _ _ _ | exact Kd.S_nil _ _ _ _ _⟩, ⟨by first | exact Kd.R_nil _ _ _ _ _ | exact Kd.N_nil _ _ _ _ _ | exact Kd.V_nil _ _ _ _ _ | exact Kd.Q_nil _ _ _ _ _ | exact Kd.S_nil _ _ _ _ _⟩, ⟨uB HB.out⟩⟩
   case round =>
    clear H'
    try clear c1
    try clear p2
    try clear c4
    try clear c6
    try clear c6b0
    try clear c6b1
    try clear c7
    try clear p2
    obtain ⟨x6_2, x7_2, x8_2, x9_2, rfl, HA, HK2, HO_6, HO_7, HO_8, HB⟩ := hrel
    cases gk with
    | zero => exact absurd HA.out (by simp [underwoodlaw09_SpecLast.l0])
    | succ k2 =>
     have H := HA.out
     clear HA
     simp only [underwoodlaw09_SpecLast.l0] at H
     by_cases c8 : x9_2 < (l1.length : Int)
     ·rw [if_pos c8] at H
      have c8b0 : decide (x9_2 < (l1.length : Int)) = true := decide_eq_true c8
      clear c8
      by_cases c9 : 0 ≤ x9_2
      rotate_left
      ·rw [if_neg c9] at H
       exact absurd H (by simp)
      rw [if_pos c9] at H
      have c9b0 : decide (0 ≤ x9_2) = true := decide_eq_true c9
      clear c9
      by_cases c10 : x6_2.length < 4398046511104
      rotate_left
      ·rw [if_neg c10] at H
       exact absurd H (by simp)
      rw [if_pos c10] at H
      have LMc10 := Aside0.mk c10
      clear c10
      obtain ⟨y234, hy234⟩ : ∃ y_ : List (S26), y_ = (x6_2 ++ [(⟨4, 0, rd l1 x9_2, 0⟩ : S26)]) := ⟨_, rfl⟩
      replace H : (if x7_2.length < 4398046511104 then (if 0 ≤ (wrap64 ((wrap64 ((l1.length : Int) - 1)) - x9_2)) then (if (wrap64 ((wrap64 ((l1.length : Int) - 1)) - x9_2)) < (l1.length : Int) then (if x8_2.length < 17592186044416 then (underwoodlaw09_SpecLast.l0 k2 l0 l1 t232 y234 (x7_2 ++ [(⟨6, 0, rd l1 x9_2, 0⟩ : S26)]) (x8_2 ++ [rd l1 (wrap64 ((wrap64 ((l1.length : Int) - 1)) - x9_2))]) (wrap64 (x9_2 + 1))) else (none)) else (none)) else (none)) else (none)) = some r := by first | (rw [hy234]; with_reducible exact H) | (have H2_ := (Option.bind_some _ _).symm.trans H; rw [hy234]; with_reducible exact H2_) | (have H2_ := (Option.bind_some _ _).symm.trans H; with_reducible exact H2_) | with_reducible exact H | (rw [hy234]; exact H) | exact H
      have Ny234 := Aside0.mk hy234
      clear hy234
      by_cases c11 : x7_2.length < 4398046511104
      rotate_left
      ·rw [if_neg c11] at H
       exact absurd H (by simp)
      rw [if_pos c11] at H
      have LMc11 := Aside0.mk c11
      clear c11
      obtain ⟨y238, hy238⟩ : ∃ y_ : List (S26), y_ = (x7_2 ++ [(⟨6, 0, rd l1 x9_2, 0⟩ : S26)]) := ⟨_, rfl⟩
      replace H : (if 0 ≤ (wrap64 ((wrap64 ((l1.length : Int) - 1)) - x9_2)) then (if (wrap64 ((wrap64 ((l1.length : Int) - 1)) - x9_2)) < (l1.length : Int) then (if x8_2.length < 17592186044416 then (underwoodlaw09_SpecLast.l0 k2 l0 l1 t232 y234 y238 (x8_2 ++ [rd l1 (wrap64 ((wrap64 ((l1.length : Int) - 1)) - x9_2))]) (wrap64 (x9_2 + 1))) else (none)) else (none)) else (none)) = some r := by first | (rw [hy238]; with_reducible exact H) | (have H2_ := (Option.bind_some _ _).symm.trans H; rw [hy238]; with_reducible exact H2_) | (have H2_ := (Option.bind_some _ _).symm.trans H; with_reducible exact H2_) | with_reducible exact H | (rw [hy238]; exact H) | exact H
      have Ny238 := Aside0.mk hy238
      clear hy238
      obtain ⟨ji12, hji12⟩ : ∃ j_ : Int, (wrap64 ((wrap64 ((l1.length : Int) - 1)) - x9_2)) = j_ := ⟨_, rfl⟩
      replace H : (if 0 ≤ (ji12) then (if (ji12) < (l1.length : Int) then (if x8_2.length < 17592186044416 then (underwoodlaw09_SpecLast.l0 k2 l0 l1 t232 y234 y238 (x8_2 ++ [rd l1 (ji12)]) (wrap64 (x9_2 + 1))) else (none)) else (none)) else (none)) = some r := by first | (rw [hji12] at H; exact H) | (simp only [hji12] at H ⊢; exact H)
      have hji12w : (IntKind.i64.wrap ((wrap64 ((l1.length : Int) - 1)) - x9_2)) = ji12 := (i64_w _).trans hji12
      by_cases c13 : 0 ≤ (ji12)
      rotate_left
      ·rw [if_neg c13] at H
       exact absurd H (by simp)
      rw [if_pos c13] at H
      have c13b0 : decide (0 ≤ (ji12)) = true := decide_eq_true c13
      clear c13
      by_cases c14 : (ji12) < (l1.length : Int)
      rotate_left
      ·rw [if_neg c14] at H
       exact absurd H (by simp)
      rw [if_pos c14] at H
      have c14b0 : decide ((ji12) < (l1.length : Int)) = true := decide_eq_true c14
      clear c14
      by_cases c15 : x8_2.length < 17592186044416
      rotate_left
      ·rw [if_neg c15] at H
       exact absurd H (by simp)
      rw [if_pos c15] at H
      have LMc15 := Aside0.mk c15
      clear c15
      obtain ⟨y242, hy242⟩ : ∃ y_ : List Int, y_ = (x8_2 ++ [rd l1 (ji12)]) := ⟨_, rfl⟩
      replace H : (underwoodlaw09_SpecLast.l0 k2 l0 l1 t232 y234 y238 y242 (wrap64 (x9_2 + 1))) = some r := by first | (rw [hy242]; with_reducible exact H) | (have H2_ := (Option.bind_some _ _).symm.trans H; rw [hy242]; with_reducible exact H2_) | (have H2_ := (Option.bind_some _ _).symm.trans H; with_reducible exact H2_) | with_reducible exact H | (rw [hy242]; exact H) | exact H
      have Ny242 := Aside0.mk hy242
      clear hy242
      have H' := Aside0.mk H
      clear H
      have p233 : 0 ≤ (x9_2 : Int) := of_decide_eq_true (by first | (with_reducible assumption) | assumption)
      have q233 : x9_2 < (l1.length : Int) := of_decide_eq_true (by first | (with_reducible assumption) | assumption)
      obtain ⟨ad233, e233, hx233_0⟩ := Kd.at_int HR1.out x9_2 p233 q233
      cases e233
      replace hx233_0 := (HB.out.cell (World.block_lt_of_cell? w _ hx233_0)).trans hx233_0
      replace p233 := eq_true p233
      replace q233 := eq_true q233
      go_wp2_with (first | ((with_reducible refine gate_builtin (b := .append) (xs := #[.tmp 39, .tmp 45]) rfl ?_); (try (refine gate_guard (by rfl) ?_; dsimp only)); at_builtin; refine Kd.R_append k26 (w0 := w) w.heap.size rfl (.tmp 39) (.tmp 45) 33 26 (.agg #[(.int .i64 0), (.int .i64 0), (.int .i64 0), (.int .i64 0)]) 32 rfl Try.underlying33 info26 rfl (by decide) (by omega) u6 x6_2 (⟨4, 0, rd l1 x9_2, 0⟩ : S26) [.int .i64 4, .int .i64 0, .int .i64 (rd l1 x9_2), .int .i64 0] (fun k_ => NB k_ u7) (fun _ => False) rfl rfl ?aP (fun _ hk => hk.elim) ?aF ?aO ?aB ?aS ?aL ?_; (case aP => exact k26_mkM _ _ _ (⟨4, 0, rd l1 x9_2, 0⟩ : S26)); (case aB => exact (uB HB.out)); (case aF => exact (fun k_ hk => Kd.fresh' (Kd.R_lt (uR HO_7.out)) k_ hk)); (case aO => exact (uR HO_6.out)); (case aS => exact (below_size (uB HB.out))); (case aL => have := LMc10.out; omega); intro v235 w16 ho hb hg hat; rw [← Ny234.out] at ho; have n0_ := Aside0.mk (Kd.R_after (ok := (fun _ => True)) (by refine pR ?_; exact Kd.R_mono HO_7.out (fun _ hk => ⟨trivial, hk⟩)) hg hat); have n1_ := Aside0.mk (Kd.R_over' (uR HO_8.out) (Kd.R_typed (uR HO_6.out)) (by decide) hg); have n2_ := Aside0.mk (hb); have n3_ := Aside0.mk (ho); clear HO_7; clear HO_8; clear HB; clear HO_6; have HO_7 := n0_; have HO_8 := n1_; have HB := n2_; have HO236 := n3_; clear n0_ n1_ n2_ n3_; clear ho hb hg hat; have p237 : 0 ≤ (x9_2 : Int) := of_decide_eq_true (by first | (with_reducible assumption) | assumption); have q237 : x9_2 < (l1.length : Int) := of_decide_eq_true (by first | (with_reducible assumption) | assumption); obtain ⟨ad237, e237, hx237_0⟩ := Kd.at_int HR1.out x9_2 p237 q237; obtain rfl : ad233 = ad237 := (by injection e237); replace hx237_0 := (HB.out.cell (World.block_lt_of_cell? w _ hx237_0)).trans hx237_0; replace p237 := eq_true p237; replace q237 := eq_true q237) | ((with_reducible refine gate_builtin (b := .append) (xs := #[.tmp 47, .tmp 53]) rfl ?_); (try (refine gate_guard (by rfl) ?_; dsimp only)); at_builtin; refine Kd.R_append k26 (w0 := w) w.heap.size rfl (.tmp 47) (.tmp 53) 33 26 (.agg #[(.int .i64 0), (.int .i64 0), (.int .i64 0), (.int .i64 0)]) 32 rfl Try.underlying33 info26 rfl (by decide) (by omega) u7 x7_2 (⟨6, 0, rd l1 x9_2, 0⟩ : S26) [.int .i64 6, .int .i64 0, .int .i64 (rd l1 x9_2), .int .i64 0] (fun k_ => NB k_ v235) (fun _ => False) rfl rfl ?aP (fun _ hk => hk.elim) ?aF ?aO ?aB ?aS ?aL ?_; (case aP => exact k26_mkM _ _ _ (⟨6, 0, rd l1 x9_2, 0⟩ : S26)); (case aB => exact (uB HB.out)); (case aF => exact (fun k_ hk => Kd.fresh' (Kd.R_lt (uR HO236.out)) k_ hk)); (case aO => exact (by refine pR ?_; exact Kd.R_mono HO_7.out (fun _ hk => hk.2))); (case aS => exact (below_size (uB HB.out))); (case aL => have := LMc11.out; omega); intro v239 w17 ho hb hg hat; rw [← Ny238.out] at ho; have n0_ := Aside0.mk (Kd.R_over' (uR HO_8.out) (Kd.R_typed (uR HO_7.out)) (by decide) hg); have n1_ := Aside0.mk (Kd.R_after (ok := (fun _ => True)) (by refine pR ?_; exact Kd.R_mono HO236.out (fun _ hk => ⟨trivial, hk⟩)) hg hat); have n2_ := Aside0.mk (hb); have n3_ := Aside0.mk (ho); clear HO_8; clear HO236; clear HB; clear HO_7; have HO_8 := n0_; have HO236 := n1_; have HB := n2_; have HO240 := n3_; clear n0_ n1_ n2_ n3_; clear ho hb hg hat; have p241 : 0 ≤ ((ji12) : Int) := of_decide_eq_true (by first | (with_reducible assumption) | assumption); have q241 : (ji12) < (l1.length : Int) := of_decide_eq_true (by first | (with_reducible assumption) | assumption); obtain ⟨ad241, e241, hx241_0⟩ := Kd.at_int HR1.out (ji12) p241 q241; obtain rfl : ad233 = ad241 := (by injection e241); replace hx241_0 := (HB.out.cell (World.block_lt_of_cell? w _ hx241_0)).trans hx241_0; replace p241 := eq_true p241; replace q241 := eq_true q241) | ((with_reducible refine gate_builtin (b := .append) (xs := #[.tmp 55, .tmp 64]) rfl ?_); (try (refine gate_guard (by rfl) ?_; dsimp only)); at_builtin; refine Kd.R_append (Kd.int .i64) (w0 := w) w.heap.size rfl (.tmp 55) (.tmp 64) 22 3 (.int .i64 0) 8 rfl Try.underlying22 info3 rfl (by decide) (by omega) u8 x8_2 (rd l1 (ji12)) [.int .i64 (rd l1 (ji12))] (fun _ => True) (fun _ => False) rfl rfl ?aP (fun _ hk => hk.elim) ?aF ?aO ?aB ?aS ?aL ?_; (case aP => exact rfl); (case aB => exact (uB HB.out)); (case aF => exact (fun _ _ => trivial)); (case aO => exact (uR HO_8.out)); (case aS => exact (below_size (uB HB.out))); (case aL => have := LMc15.out; omega); intro v243 w18 ho hb hg hat; rw [← Ny242.out] at ho; have n0_ := Aside0.mk (Kd.R_over' (uR HO236.out) (Kd.R_typed (uR HO_8.out)) (by decide) hg); have n1_ := Aside0.mk (Kd.R_over' (uR HO240.out) (Kd.R_typed (uR HO_8.out)) (by decide) hg); have n2_ := Aside0.mk (hb); have n3_ := Aside0.mk (ho); clear HO236; clear HO240; clear HB; clear HO_8; have HO236 := n0_; have HO240 := n1_; have HB := n2_; have HO244 := n3_; clear n0_ n1_ n2_ n3_; clear ho hb hg hat))
      go_roundg k2
      case measure => have := HJ3.out; have := HK2.out; omega
      case rel => exact ⟨(y234), (y238), (y242), (wrap64 (x9_2 + 1)), (by first | rfl | (simp; done) | (simp [*]; done)), H', ⟨by have := HJ3.out; have := HK2.out; omega⟩, ⟨by refine pR ?_; exact Kd.R_mono HO236.out (fun _ hk => hk.2)⟩, ⟨by refine pR ?_; exact HO240.out⟩, ⟨by refine pR ?_; exact HO244.out⟩, ⟨uB HB.out⟩⟩
     rw [if_neg c8] at H
     have c8b0 : decide (x9_2 < (l1.length : Int)) = false := decide_eq_false c8
     clear c8
     replace H := Option.bind_eq_some_iff.mp H
     obtain ⟨⟨t245, t246, t249, t252, t255⟩, A190, H⟩ := H
     replace H : ((spec_All.f k2 3 ([] : List Int) l0 x7_2).bind fun bt259 => (underwoodlaw09_SpecLast.j2 k2 l0 l1 t232 x8_2 (wrap64 ((l0.length : Int) + (l1.length : Int))) t245 t246 t249 bt259.1 bt259.2.1 bt259.2.2.1)) = some r := H
     have A19 := Aside0.mk A190
     clear A190
     replace H := Option.bind_eq_some_iff.mp H
     obtain ⟨⟨t259, t260, t263, t266, t269⟩, A200, H⟩ := H
     replace H : (underwoodlaw09_SpecLast.j2 k2 l0 l1 t232 x8_2 (wrap64 ((l0.length : Int) + (l1.length : Int))) t245 t246 t249 t259 t260 t263) = some r := H
     have A20 := Aside0.mk A200
     clear A200
     have HC21 := Aside0.mk H
     clear H
     obtain ⟨Ao22, co22, eo22⟩ := Kd.R_slice HO_6.out
     subst eo22
     go_upto_region 15 with (first | ((with_reducible refine gate_callee (f := 13) rfl ?_); refine goesL_ (some 70) rfl rfl Try.func13 (by kernel_rfl) rfl #[.agg #[.int .i64 2, .slice none 0 0, .slice A0 l0.length c0], .slice Ao22 x6_2.length co22] rfl ls ?_; (refine (spec_All.calls k2 2 (fun k_ => False) _ _ ([] : List Int) (fun k_ => k_ < w.heap.size) _ _ l0 _ _ x6_2 t245 t246 t249 t252 t255 _ ?side1 ?side2 ?side3 ?side4 A19.out).mono ?_); (case side1 => exact Kd.V_nil _ _ _ _ _); (case side2 => exact Kd.V_mk HC0.out (Kd.F_below (Kd.C_F (Kd.heap_int .i64) HR0.out) (uB HB.out))); (case side3 => repeat (first | exact (Kd.R_reads' HO_6.out).2.2 | (with_reducible refine Kd.C_alloc ?_ _) | (with_reducible refine Kd.C_drewN ?_ _) | (with_reducible refine Kd.C_drew ?_))); (case side4 => exact (Kd.R_reads' HO_6.out).2.1); rintro e w23 ⟨v247, v250, v253, v256, rfl, ho0, ho1, ho2, ho3, hb⟩; refine ⟨_, rfl, ?_⟩; have HO248 := Aside0.mk (Kd.V_lower (Kd.V_mono (ok' := fun k_ => NB k_ v253 ∧ NB k_ v256 ∧ NB k_ (.slice Ao22 x6_2.length co22) ∧ NB k_ u7 ∧ NB k_ u8) ho0 (fun k_ hk_ => by first | exact ⟨hk_.2.1, hk_.2.2, Or.elim hk_.1 (fun hs_ => Or.elim hs_ (fun hs_ => (hs_).elim) (fun hs_ => fun e_ => Nat.not_le.2 hs_ (Kd.R_base HO_6.out k_ e_.symm))) (fun hn_ => (Kd.fresh' (Kd.R_lt (uR HO_6.out)) k_ hn_)), Or.elim hk_.1 (fun hs_ => Or.elim hs_ (fun hs_ => (hs_).elim) (fun hs_ => fun e_ => Nat.not_le.2 hs_ (Kd.R_base HO_7.out k_ e_.symm))) (fun hn_ => (Kd.fresh' (Kd.R_lt (uR HO_7.out)) k_ hn_)), Or.elim hk_.1 (fun hs_ => Or.elim hs_ (fun hs_ => (hs_).elim) (fun hs_ => fun e_ => Nat.not_le.2 hs_ (Kd.R_base HO_8.out k_ e_.symm))) (fun hn_ => (Kd.fresh' (Kd.R_lt (uR HO_8.out)) k_ hn_))⟩ | grind)) (below_size (uB HB.out))); have HO251 := Aside0.mk (Kd.V_lower (Kd.V_mono (ok' := fun k_ => NB k_ v253 ∧ NB k_ v256 ∧ NB k_ (.slice Ao22 x6_2.length co22) ∧ NB k_ u7 ∧ NB k_ u8) ho1 (fun k_ hk_ => by first | exact ⟨hk_.2.1, hk_.2.2, Or.elim hk_.1 (fun hs_ => Or.elim hs_ (fun hs_ => (hs_).elim) (fun hs_ => fun e_ => Nat.not_le.2 hs_ (Kd.R_base HO_6.out k_ e_.symm))) (fun hn_ => (Kd.fresh' (Kd.R_lt (uR HO_6.out)) k_ hn_)), Or.elim hk_.1 (fun hs_ => Or.elim hs_ (fun hs_ => (hs_).elim) (fun hs_ => fun e_ => Nat.not_le.2 hs_ (Kd.R_base HO_7.out k_ e_.symm))) (fun hn_ => (Kd.fresh' (Kd.R_lt (uR HO_7.out)) k_ hn_)), Or.elim hk_.1 (fun hs_ => Or.elim hs_ (fun hs_ => (hs_).elim) (fun hs_ => fun e_ => Nat.not_le.2 hs_ (Kd.R_base HO_8.out k_ e_.symm))) (fun hn_ => (Kd.fresh' (Kd.R_lt (uR HO_8.out)) k_ hn_))⟩ | grind)) (below_size (uB HB.out))); replace HO_6 := Aside0.mk (Kd.R_below (uR HO_6.out) hb); replace HO_7 := Aside0.mk (Kd.R_below (uR HO_7.out) hb); have HO254 := Aside0.mk (Kd.R_lower (Kd.R_new' (Kd.R_mono (ok' := fun k_ => True) ho2 (fun _ hk_ => trivial)) (Kd.R_lt (uR HO_8.out))) (below_size (uB HB.out))); replace HO_8 := Aside0.mk (Kd.R_elder' (uR HO_8.out) (Kd.R_base ho2) hb); have HO257 := Aside0.mk (Kd.R_lower (Kd.R_mono (ok' := fun k_ => True) ho3 (fun _ hk_ => trivial)) (below_size (uB HB.out))); replace HB := Aside0.mk (below_step (uB HB.out) hb); (try clear hb); (try clear hb2); (try clear hk); (try clear hi); (try clear ho0); (try clear ho1); (try clear ho2); (try clear ho3)) | ((with_reducible refine gate_dst (N := 10) rfl ?_); (try (refine gate_guard (by rfl) ?_; dsimp only)); refine box_event ?hg (N := 10) ?hd (cs := #[.int .i64 0, .slice none 0 0, .slice none 0 0]) (t := 24) ?hr ?_; (case hd => rfl); (case hg => rfl); (case hr => first | (go_simp; done) | (go_simp; rfl)); intro gb258 hg w24 hbox hb; replace HO_6 := Aside0.mk (Kd.R_below (uR HO_6.out) hb); replace HO_7 := Aside0.mk (Kd.R_below (uR HO_7.out) hb); replace HO_8 := Aside0.mk (Kd.R_below (uR HO_8.out) hb); replace HO248 := Aside0.mk (Kd.V_below (Kd.V_elderB (uV HO248.out) gb258 (Nat.le_of_eq hg.symm)) hb); replace HO251 := Aside0.mk (Kd.V_below (Kd.V_elderB (uV HO251.out) gb258 (Nat.le_of_eq hg.symm)) hb); replace HO254 := Aside0.mk (Kd.R_below (uR HO254.out) hb); replace HO257 := Aside0.mk (Kd.R_below (uR HO257.out) hb); have BK258 := Aside0.mk (hbox); have GW258 := Aside0.mk ((by rw [hg]; exact (below_size (uB HB.out)) : w.heap.size ≤ gb258)); have GE258 := Aside0.mk ((by rw [hg]; exact (below_size (uB HB.out)) : w.heap.size ≤ gb258)); replace HB := Aside0.mk (below_step (uB HB.out) hb); clear hb hbox hg; have hcz25_0 : w24.cell? ⟨gb258, 0, none⟩ = some (.int .i64 0) := (blk_cell BK258.out 0).trans rfl; have hcz25_1 : w24.cell? ⟨gb258, 1, none⟩ = some (.slice none 0 0) := (blk_cell BK258.out 1).trans rfl; have hcz25_2 : w24.cell? ⟨gb258, 2, none⟩ = some (.slice none 0 0) := (blk_cell BK258.out 2).trans rfl; have hfz25_0 := blk_frozen BK258.out 0; have hfz25_1 := blk_frozen BK258.out 1; have hfz25_2 := blk_frozen BK258.out 2; obtain ⟨Ao26, co26, eo26⟩ := Kd.V_slice HO248.out; subst eo26; obtain ⟨Ao27, co27, eo27⟩ := Kd.V_slice HO251.out; subst eo27) | ((with_reducible refine gate_store (t := 24) (p := 10) rfl ?_); refine store_event (t := 24) (p := 10) (v := ?vo_w28) (w1 := (((w24.setCell ⟨gb258, 0, none⟩ (.int .i64 t245)).setCell ⟨gb258, 1, none⟩ (.slice Ao26 t246.length co26)).setCell ⟨gb258, 2, none⟩ (.slice Ao27 t249.length co27))) ?hg ?ho ?hn ?hr ?_; (case ho => rfl); (case hg => rfl); (case hn => rfl); (case hr => first | (go_simp; done) | (go_simp; rfl)); intro w28 hw; have n0_ : Aside0 (Kd.R k26 26 w28 w.heap.size (fun k_ => NB k_ u7) (.slice Ao22 x6_2.length co22) x6_2) := ⟨(by rw [hw]; exact (by refine pR ?_; exact Kd.R_mono (Kd.R_far (p := ⟨gb258, 2, none⟩) (Kd.R_far (p := ⟨gb258, 1, none⟩) (Kd.R_far (p := ⟨gb258, 0, none⟩) (Kd.R_types HO_6.out BK258.out (by decide)) (fun _ hk => hk.2) (.int .i64 t245)) (fun _ hk => hk.2) (.slice Ao26 t246.length co26)) (fun _ hk => hk.2) (.slice Ao27 t249.length co27)) (fun _ hk => hk.1)))⟩; have n1_ : Aside0 (Kd.R k26 26 w28 w.heap.size (fun k_ => NB k_ (.slice Ao22 x6_2.length co22)) u7 x7_2) := ⟨(by rw [hw]; exact (by refine pR ?_; exact Kd.R_mono (Kd.R_far (p := ⟨gb258, 2, none⟩) (Kd.R_far (p := ⟨gb258, 1, none⟩) (Kd.R_far (p := ⟨gb258, 0, none⟩) (Kd.R_types HO_7.out BK258.out (by decide)) (fun _ hk => hk.2) (.int .i64 t245)) (fun _ hk => hk.2) (.slice Ao26 t246.length co26)) (fun _ hk => hk.2) (.slice Ao27 t249.length co27)) (fun _ hk => hk.1)))⟩; have n2_ : Aside0 (Kd.R (Kd.int .i64) 3 w28 w.heap.size (fun k_ => NB k_ v253) u8 x8_2) := ⟨(by rw [hw]; exact (by refine pR ?_; exact Kd.R_mono (Kd.R_far (p := ⟨gb258, 2, none⟩) (Kd.R_far (p := ⟨gb258, 1, none⟩) (Kd.R_far (p := ⟨gb258, 0, none⟩) (Kd.R_types HO_8.out BK258.out (by decide)) (fun _ hk => hk.2) (.int .i64 t245)) (fun _ hk => hk.2) (.slice Ao26 t246.length co26)) (fun _ hk => hk.2) (.slice Ao27 t249.length co27)) (fun _ hk => hk.1.2)))⟩; have n3_ : Aside0 (Kd.V (Kd.int .i64) 3 w28 w.heap.size (fun k_ => NB k_ (.slice Ao22 x6_2.length co22) ∧ NB k_ u7 ∧ NB k_ u8 ∧ NB k_ v253 ∧ NB k_ v256 ∧ k_ ≠ gb258) (.slice Ao26 t246.length co26) t246) := ⟨(by rw [hw]; exact (by refine pV ?_; exact Kd.V_mono (Kd.V_far (p := ⟨gb258, 2, none⟩) (Kd.V_far (p := ⟨gb258, 1, none⟩) (Kd.V_far (p := ⟨gb258, 0, none⟩) (Kd.V_mono HO248.out (fun k_ hk => (⟨hk, hk.2⟩ : _ ∧ k_ ≠ gb258))) (fun _ hk => hk.2) (.int .i64 t245)) (fun _ hk => hk.2) (.slice Ao26 t246.length co26)) (fun _ hk => hk.2) (.slice Ao27 t249.length co27)) (fun _ hk => by grind)))⟩; have n4_ : Aside0 (Kd.V (Kd.int .i64) 3 w28 w.heap.size (fun k_ => NB k_ (.slice Ao22 x6_2.length co22) ∧ NB k_ u7 ∧ NB k_ u8 ∧ NB k_ v253 ∧ NB k_ v256 ∧ k_ ≠ gb258) (.slice Ao27 t249.length co27) t249) := ⟨(by rw [hw]; exact (by refine pV ?_; exact Kd.V_mono (Kd.V_far (p := ⟨gb258, 2, none⟩) (Kd.V_far (p := ⟨gb258, 1, none⟩) (Kd.V_far (p := ⟨gb258, 0, none⟩) (Kd.V_mono HO251.out (fun k_ hk => (⟨hk, hk.2⟩ : _ ∧ k_ ≠ gb258))) (fun _ hk => hk.2) (.int .i64 t245)) (fun _ hk => hk.2) (.slice Ao26 t246.length co26)) (fun _ hk => hk.2) (.slice Ao27 t249.length co27)) (fun _ hk => by grind)))⟩; have n5_ : Aside0 (Kd.R (Kd.int .i64) 3 w28 w.heap.size (fun k_ => NB k_ u8) v253 t252) := ⟨(by rw [hw]; exact (by refine pR ?_; exact Kd.R_mono (Kd.R_far (p := ⟨gb258, 2, none⟩) (Kd.R_far (p := ⟨gb258, 1, none⟩) (Kd.R_far (p := ⟨gb258, 0, none⟩) (Kd.R_types HO254.out BK258.out (by decide)) (fun _ hk => hk.2) (.int .i64 t245)) (fun _ hk => hk.2) (.slice Ao26 t246.length co26)) (fun _ hk => hk.2) (.slice Ao27 t249.length co27)) (fun _ hk => hk.1.2)))⟩; have n6_ : Aside0 (Kd.R Kd.bool 4 w28 w.heap.size (fun _ => True) v256 t255) := ⟨(by rw [hw]; exact (by refine pR ?_; exact Kd.R_mono (Kd.R_far (p := ⟨gb258, 2, none⟩) (Kd.R_far (p := ⟨gb258, 1, none⟩) (Kd.R_far (p := ⟨gb258, 0, none⟩) (Kd.R_types HO257.out BK258.out (by decide)) (fun _ hk => hk.2) (.int .i64 t245)) (fun _ hk => hk.2) (.slice Ao26 t246.length co26)) (fun _ hk => hk.2) (.slice Ao27 t249.length co27)) (fun _ hk => trivial)))⟩; have n7_ : Aside0 (w28.heap[gb258]? = some (.cells #[.int .i64 t245, .slice Ao26 t246.length co26, .slice Ao27 t249.length co27] 24 (0, 0))) := ⟨(by rw [hw]; exact (by (with_reducible repeat (first | refine blk_drewN ?_ _ | refine blk_drew ?_ | refine blk_alloc ?_ _)); refine blk_put (cs := #[.int .i64 t245, .slice Ao26 t246.length co26, .slice none 0 0]) ?_ 2 _ rfl; (with_reducible repeat (first | refine blk_drewN ?_ _ | refine blk_drew ?_ | refine blk_alloc ?_ _)); refine blk_put (cs := #[.int .i64 t245, .slice none 0 0, .slice none 0 0]) ?_ 1 _ rfl; (with_reducible repeat (first | refine blk_drewN ?_ _ | refine blk_drew ?_ | refine blk_alloc ?_ _)); refine blk_put (cs := #[.int .i64 0, .slice none 0 0, .slice none 0 0]) ?_ 0 _ rfl; refine pb ?_; exact BK258.out))⟩; have n8_ : Aside0 (Below w.heap.size w w28) := ⟨(by rw [hw]; exact (uB HB.out))⟩; clear hw; clear HO_6; clear HO_7; clear HO_8; clear HO248; clear HO251; clear HO254; clear HO257; clear BK258; clear HB; have HO_6 := n0_; have HO_7 := n1_; have HO_8 := n2_; have HO248 := n3_; have HO251 := n4_; have HO254 := n5_; have HO257 := n6_; have BK258 := n7_; have HB := n8_; clear n0_ n1_ n2_ n3_ n4_ n5_ n6_ n7_ n8_; obtain ⟨Ao29, co29, eo29⟩ := Kd.R_slice HO_7.out; subst eo29) | ((with_reducible refine gate_callee (f := 13) rfl ?_); refine goesL_ (some 78) rfl rfl Try.func13 (by kernel_rfl) rfl #[.agg #[.int .i64 3, .slice none 0 0, .slice A0 l0.length c0], .slice Ao29 x7_2.length co29] rfl ls ?_; (refine (spec_All.calls k2 3 (fun k_ => False) _ _ ([] : List Int) (fun k_ => k_ < w.heap.size) _ _ l0 _ _ x7_2 t259 t260 t263 t266 t269 _ ?side1 ?side2 ?side3 ?side4 A20.out).mono ?_); (case side1 => exact Kd.V_nil _ _ _ _ _); (case side2 => exact Kd.V_mk HC0.out (Kd.F_below (Kd.C_F (Kd.heap_int .i64) HR0.out) (uB HB.out))); (case side3 => repeat (first | exact (Kd.R_reads' HO_7.out).2.2 | (with_reducible refine Kd.C_alloc ?_ _) | (with_reducible refine Kd.C_drewN ?_ _) | (with_reducible refine Kd.C_drew ?_))); (case side4 => exact (Kd.R_reads' HO_7.out).2.1); rintro e w30 ⟨v261, v264, v267, v270, rfl, ho0, ho1, ho2, ho3, hb⟩; refine ⟨_, rfl, ?_⟩; replace HO248 := Aside0.mk (Kd.V_mono (Kd.V_told (Kd.V_told (Kd.V_old (uV HO248.out) hb) (Kd.R_base ho2)) (Kd.R_base ho3)) (fun _ h_ => h_.1)); replace HO251 := Aside0.mk (Kd.V_mono (Kd.V_told (Kd.V_told (Kd.V_old (uV HO251.out) hb) (Kd.R_base ho2)) (Kd.R_base ho3)) (fun _ h_ => h_.1)); have HO262 := Aside0.mk (Kd.V_lower (Kd.V_mono (ok' := fun k_ => NB k_ v267 ∧ NB k_ v270 ∧ NB k_ (.slice Ao22 x6_2.length co22) ∧ NB k_ (.slice Ao29 x7_2.length co29) ∧ NB k_ u8 ∧ NB k_ v253 ∧ NB k_ v256 ∧ k_ ≠ gb258) ho0 (fun k_ hk_ => by first | exact ⟨hk_.2.1, hk_.2.2, Or.elim hk_.1 (fun hs_ => Or.elim hs_ (fun hs_ => (hs_).elim) (fun hs_ => fun e_ => Nat.not_le.2 hs_ (Kd.R_base HO_6.out k_ e_.symm))) (fun hn_ => (Kd.fresh' (Kd.R_lt (uR HO_6.out)) k_ hn_)), Or.elim hk_.1 (fun hs_ => Or.elim hs_ (fun hs_ => (hs_).elim) (fun hs_ => fun e_ => Nat.not_le.2 hs_ (Kd.R_base HO_7.out k_ e_.symm))) (fun hn_ => (Kd.fresh' (Kd.R_lt (uR HO_7.out)) k_ hn_)), Or.elim hk_.1 (fun hs_ => Or.elim hs_ (fun hs_ => (hs_).elim) (fun hs_ => fun e_ => Nat.not_le.2 hs_ (Kd.R_base HO_8.out k_ e_.symm))) (fun hn_ => (Kd.fresh' (Kd.R_lt (uR HO_8.out)) k_ hn_)), Or.elim hk_.1 (fun hs_ => Or.elim hs_ (fun hs_ => (hs_).elim) (fun hs_ => fun e_ => Nat.not_le.2 hs_ (Kd.R_base HO254.out k_ e_.symm))) (fun hn_ => (Kd.fresh' (Kd.R_lt (uR HO254.out)) k_ hn_)), Or.elim hk_.1 (fun hs_ => Or.elim hs_ (fun hs_ => (hs_).elim) (fun hs_ => fun e_ => Nat.not_le.2 hs_ (Kd.R_base HO257.out k_ e_.symm))) (fun hn_ => (Kd.fresh' (Kd.R_lt (uR HO257.out)) k_ hn_)), Or.elim hk_.1 (fun hs_ => Or.elim hs_ (fun hs_ => (hs_).elim) (fun hs_ => fun e_ => Nat.not_le.2 hs_ (by rw [e_]; exact GW258.out))) (fun hn_ => (Kd.freshB (g := gb258) (o := .cells #[.int .i64 t245, .slice Ao26 t246.length co26, .slice Ao27 t249.length co27] 24 (0, 0)) (ub BK258.out) k_ hn_))⟩ | grind)) (below_size (uB HB.out))); have HO265 := Aside0.mk (Kd.V_lower (Kd.V_mono (ok' := fun k_ => NB k_ v267 ∧ NB k_ v270 ∧ NB k_ (.slice Ao22 x6_2.length co22) ∧ NB k_ (.slice Ao29 x7_2.length co29) ∧ NB k_ u8 ∧ NB k_ v253 ∧ NB k_ v256 ∧ k_ ≠ gb258) ho1 (fun k_ hk_ => by first | exact ⟨hk_.2.1, hk_.2.2, Or.elim hk_.1 (fun hs_ => Or.elim hs_ (fun hs_ => (hs_).elim) (fun hs_ => fun e_ => Nat.not_le.2 hs_ (Kd.R_base HO_6.out k_ e_.symm))) (fun hn_ => (Kd.fresh' (Kd.R_lt (uR HO_6.out)) k_ hn_)), Or.elim hk_.1 (fun hs_ => Or.elim hs_ (fun hs_ => (hs_).elim) (fun hs_ => fun e_ => Nat.not_le.2 hs_ (Kd.R_base HO_7.out k_ e_.symm))) (fun hn_ => (Kd.fresh' (Kd.R_lt (uR HO_7.out)) k_ hn_)), Or.elim hk_.1 (fun hs_ => Or.elim hs_ (fun hs_ => (hs_).elim) (fun hs_ => fun e_ => Nat.not_le.2 hs_ (Kd.R_base HO_8.out k_ e_.symm))) (fun hn_ => (Kd.fresh' (Kd.R_lt (uR HO_8.out)) k_ hn_)), Or.elim hk_.1 (fun hs_ => Or.elim hs_ (fun hs_ => (hs_).elim) (fun hs_ => fun e_ => Nat.not_le.2 hs_ (Kd.R_base HO254.out k_ e_.symm))) (fun hn_ => (Kd.fresh' (Kd.R_lt (uR HO254.out)) k_ hn_)), Or.elim hk_.1 (fun hs_ => Or.elim hs_ (fun hs_ => (hs_).elim) (fun hs_ => fun e_ => Nat.not_le.2 hs_ (Kd.R_base HO257.out k_ e_.symm))) (fun hn_ => (Kd.fresh' (Kd.R_lt (uR HO257.out)) k_ hn_)), Or.elim hk_.1 (fun hs_ => Or.elim hs_ (fun hs_ => (hs_).elim) (fun hs_ => fun e_ => Nat.not_le.2 hs_ (by rw [e_]; exact GW258.out))) (fun hn_ => (Kd.freshB (g := gb258) (o := .cells #[.int .i64 t245, .slice Ao26 t246.length co26, .slice Ao27 t249.length co27] 24 (0, 0)) (ub BK258.out) k_ hn_))⟩ | grind)) (below_size (uB HB.out))); replace HO_6 := Aside0.mk (Kd.R_below (uR HO_6.out) hb); replace HO_7 := Aside0.mk (Kd.R_below (uR HO_7.out) hb); replace HO_8 := Aside0.mk (Kd.R_elder' (uR HO_8.out) (Kd.R_base ho2) hb); replace HO254 := Aside0.mk (Kd.R_elder' (uR HO254.out) (Kd.R_base ho2) hb); replace HO257 := Aside0.mk (Kd.R_elder' (uR HO257.out) (Kd.R_base ho3) hb); replace BK258 := Aside0.mk (blk_below (g := gb258) (o := .cells #[.int .i64 t245, .slice Ao26 t246.length co26, .slice Ao27 t249.length co27] 24 (0, 0)) (ub BK258.out) hb); replace HB := Aside0.mk (below_step (uB HB.out) hb); (try clear hb); (try clear hb2); (try clear hk); (try clear hi); (try clear ho0); (try clear ho1); (try clear ho2); (try clear ho3)) | ((with_reducible refine gate_dst (N := 13) rfl ?_); (try (refine gate_guard (by rfl) ?_; dsimp only)); refine box_event ?hg (N := 13) ?hd (cs := #[.int .i64 0, .slice none 0 0, .slice none 0 0]) (t := 24) ?hr ?_; (case hd => rfl); (case hg => rfl); (case hr => first | (go_simp; done) | (go_simp; rfl)); intro gb272 hg w31 hbox hb; replace HO_6 := Aside0.mk (Kd.R_below (uR HO_6.out) hb); replace HO_7 := Aside0.mk (Kd.R_below (uR HO_7.out) hb); replace HO_8 := Aside0.mk (Kd.R_below (uR HO_8.out) hb); replace HO248 := Aside0.mk (Kd.V_below (Kd.V_elderB (uV HO248.out) gb272 (Nat.le_of_eq hg.symm)) hb); replace HO251 := Aside0.mk (Kd.V_below (Kd.V_elderB (uV HO251.out) gb272 (Nat.le_of_eq hg.symm)) hb); replace HO254 := Aside0.mk (Kd.R_below (uR HO254.out) hb); replace HO257 := Aside0.mk (Kd.R_below (uR HO257.out) hb); replace HO262 := Aside0.mk (Kd.V_below (Kd.V_elderB (uV HO262.out) gb272 (Nat.le_of_eq hg.symm)) hb); replace HO265 := Aside0.mk (Kd.V_below (Kd.V_elderB (uV HO265.out) gb272 (Nat.le_of_eq hg.symm)) hb); have BK272 := Aside0.mk (hbox); have GE272 := Aside0.mk ((by rw [hg]; exact (below_size (uB HB.out)) : w.heap.size ≤ gb272)); replace HB := Aside0.mk (below_step (uB HB.out) hb); have NB258_272 := Aside0.mk ((by rw [hg]; exact Nat.ne_of_lt (blk_lt (g := gb258) (o := .cells #[.int .i64 t245, .slice Ao26 t246.length co26, .slice Ao27 t249.length co27] 24 (0, 0)) (ub BK258.out)) : gb258 ≠ gb272)); have NB272_258 := Aside0.mk ((by rw [hg]; exact Nat.ne_of_gt (blk_lt (g := gb258) (o := .cells #[.int .i64 t245, .slice Ao26 t246.length co26, .slice Ao27 t249.length co27] 24 (0, 0)) (ub BK258.out)) : gb272 ≠ gb258)); replace BK258 := Aside0.mk (blk_below (g := gb258) (o := .cells #[.int .i64 t245, .slice Ao26 t246.length co26, .slice Ao27 t249.length co27] 24 (0, 0)) (ub BK258.out) hb); clear hb hbox hg; have hnb32 := NB272_258.out; have hnc32 := NB258_272.out; have hcz33_0 : w31.cell? ⟨gb272, 0, none⟩ = some (.int .i64 0) := (blk_cell BK272.out 0).trans rfl; have hcz33_1 : w31.cell? ⟨gb272, 1, none⟩ = some (.slice none 0 0) := (blk_cell BK272.out 1).trans rfl; have hcz33_2 : w31.cell? ⟨gb272, 2, none⟩ = some (.slice none 0 0) := (blk_cell BK272.out 2).trans rfl; have hfz33_0 := blk_frozen BK272.out 0; have hfz33_1 := blk_frozen BK272.out 1; have hfz33_2 := blk_frozen BK272.out 2; obtain ⟨Ao34, co34, eo34⟩ := Kd.V_slice HO262.out; subst eo34; obtain ⟨Ao35, co35, eo35⟩ := Kd.V_slice HO265.out; subst eo35))
     (try simp only [Act.put, List.setIfInBounds_toArray, List.set_cons_zero, List.set_cons_succ])
     go_cut [16] (fun v16 wc => ∃ (kq : Nat) (x16_20 : Int), v16 = .int .i64 x16_20 ∧ Aside0 (underwoodlaw09_SpecLast.j2 kq l0 l1 t232 x8_2 x16_20 t245 t246 t249 t259 t260 t263 = some r) ∧ Aside0 (kq ≤ k2) ∧ Aside0 (Kd.R (Kd.int .i64) 3 wc w.heap.size (fun _ => True) u8 x8_2) ∧ Aside0 (Kd.V (Kd.int .i64) 3 wc w.heap.size (fun k_ => NB k_ u8 ∧ k_ ≠ gb258 ∧ k_ ≠ gb272) (.slice Ao26 t246.length co26) t246) ∧ Aside0 (Kd.V (Kd.int .i64) 3 wc w.heap.size (fun k_ => NB k_ u8 ∧ k_ ≠ gb258 ∧ k_ ≠ gb272) (.slice Ao27 t249.length co27) t249) ∧ Aside0 (Kd.V (Kd.int .i64) 3 wc w.heap.size (fun k_ => NB k_ u8 ∧ k_ ≠ gb258 ∧ k_ ≠ gb272) (.slice Ao34 t260.length co34) t260) ∧ Aside0 (Kd.V (Kd.int .i64) 3 wc w.heap.size (fun k_ => NB k_ u8 ∧ k_ ≠ gb258 ∧ k_ ≠ gb272) (.slice Ao35 t263.length co35) t263) ∧ Aside0 (wc.heap[gb258]? = some (.cells #[.int .i64 t245, (.slice Ao26 t246.length co26), (.slice Ao27 t249.length co27)] 24 (0, 0))) ∧ Aside0 (wc.heap[gb272]? = some (.cells #[.int .i64 t259, (.slice Ao34 t260.length co34), (.slice Ao35 t263.length co35)] 24 (0, 0))) ∧ Aside0 (Below w.heap.size w wc))
     case first =>
      have H := HC21.out
      clear HC21
      have H' := Aside0.mk H
      clear H
      go_wp2
      go_meet
      case rel => exact ⟨_, (wrap64 ((l0.length : Int) + (l1.length : Int))), (by first | rfl | (simp; done) | (simp [*]; done)), H', ⟨by have := HJ3.out; have := HK2.out; first | omega | exact Nat.le_refl _⟩, ⟨by refine pR ?_; exact Kd.R_mono (Kd.R_far (p := ⟨gb272, 2, none⟩) (Kd.R_far (p := ⟨gb272, 1, none⟩) (Kd.R_far (p := ⟨gb272, 0, none⟩) (Kd.R_types HO_8.out BK272.out (by decide)) (fun _ hk => hk.2) (.int .i64 t259)) (fun _ hk => hk.2) (.slice Ao34 t260.length co34)) (fun _ hk => hk.2) (.slice Ao35 t263.length co35)) (fun _ hk => trivial)⟩, ⟨by refine pV ?_; exact Kd.V_mono (Kd.V_far (p := ⟨gb272, 2, none⟩) (Kd.V_far (p := ⟨gb272, 1, none⟩) (Kd.V_far (p := ⟨gb272, 0, none⟩) (Kd.V_mono HO248.out (fun k_ hk => (⟨hk, hk.2⟩ : _ ∧ k_ ≠ gb272))) (fun _ hk => hk.2) (.int .i64 t259)) (fun _ hk => hk.2) (.slice Ao34 t260.length co34)) (fun _ hk => hk.2) (.slice Ao35 t263.length co35)) (fun _ hk => by grind)⟩, ⟨by refine pV ?_; exact Kd.V_mono (Kd.V_far (p := ⟨gb272, 2, none⟩) (Kd.V_far (p := ⟨gb272, 1, none⟩) (Kd.V_far (p := ⟨gb272, 0, none⟩) (Kd.V_mono HO251.out (fun k_ hk => (⟨hk, hk.2⟩ : _ ∧ k_ ≠ gb272))) (fun _ hk => hk.2) (.int .i64 t259)) (fun _ hk => hk.2) (.slice Ao34 t260.length co34)) (fun _ hk => hk.2) (.slice Ao35 t263.length co35)) (fun _ hk => by grind)⟩, ⟨by refine pV ?_; exact Kd.V_mono (Kd.V_far (p := ⟨gb272, 2, none⟩) (Kd.V_far (p := ⟨gb272, 1, none⟩) (Kd.V_far (p := ⟨gb272, 0, none⟩) (Kd.V_mono HO262.out (fun k_ hk => (⟨hk, hk.2⟩ : _ ∧ k_ ≠ gb272))) (fun _ hk => hk.2) (.int .i64 t259)) (fun _ hk => hk.2) (.slice Ao34 t260.length co34)) (fun _ hk => hk.2) (.slice Ao35 t263.length co35)) (fun _ hk => by grind)⟩, ⟨by refine pV ?_; exact Kd.V_mono (Kd.V_far (p := ⟨gb272, 2, none⟩) (Kd.V_far (p := ⟨gb272, 1, none⟩) (Kd.V_far (p := ⟨gb272, 0, none⟩) (Kd.V_mono HO265.out (fun k_ hk => (⟨hk, hk.2⟩ : _ ∧ k_ ≠ gb272))) (fun _ hk => hk.2) (.int .i64 t259)) (fun _ hk => hk.2) (.slice Ao34 t260.length co34)) (fun _ hk => hk.2) (.slice Ao35 t263.length co35)) (fun _ hk => by grind)⟩, ⟨by (with_reducible repeat (first | refine blk_drewN ?_ _ | refine blk_drew ?_ | refine blk_alloc ?_ _)); refine blk_far ?_ NB258_272.out _; (with_reducible repeat (first | refine blk_drewN ?_ _ | refine blk_drew ?_ | refine blk_alloc ?_ _)); refine blk_far ?_ NB258_272.out _; (with_reducible repeat (first | refine blk_drewN ?_ _ | refine blk_drew ?_ | refine blk_alloc ?_ _)); refine blk_far ?_ NB258_272.out _; refine pb ?_; exact BK258.out⟩, ⟨by (with_reducible repeat (first | refine blk_drewN ?_ _ | refine blk_drew ?_ | refine blk_alloc ?_ _)); refine blk_put (cs := #[.int .i64 t259, .slice Ao34 t260.length co34, .slice none 0 0]) ?_ 2 _ rfl; (with_reducible repeat (first | refine blk_drewN ?_ _ | refine blk_drew ?_ | refine blk_alloc ?_ _)); refine blk_put (cs := #[.int .i64 t259, .slice none 0 0, .slice none 0 0]) ?_ 1 _ rfl; (with_reducible repeat (first | refine blk_drewN ?_ _ | refine blk_drew ?_ | refine blk_alloc ?_ _)); refine blk_put (cs := #[.int .i64 0, .slice none 0 0, .slice none 0 0]) ?_ 0 _ rfl; refine pb ?_; exact BK272.out⟩, ⟨uB HB.out⟩⟩
     case rest =>
      clear HC21
      try clear c1
      try clear p2
      try clear q2
      try clear hx2
      try clear c3
      try clear c4
      try clear c6
      try clear c6b0
      try clear c6b1
      try clear p6
      try clear c7
      try clear c8
      try clear c8b0
      try clear c9
      try clear c9b0
      try clear c10
      try clear c11
      try clear c13
      try clear c13b0
      try clear c14
      try clear c14b0
      try clear c15
      try clear p23
      try clear q23
      try clear hx23
      try clear p24
      try clear q24
      try clear hx24
      try clear c32
      try clear hcz25_0
      try clear hcz25_1
      try clear hcz25_2
      try clear hcz33_0
      try clear hcz33_1
      try clear hcz33_2
      try clear hfz25_0
      try clear hfz25_1
      try clear hfz25_2
      try clear hfz33_0
      try clear hfz33_1
      try clear hfz33_2
      try clear hx233_0
      try clear hx237_0
      try clear hx241_0
      try clear p2
      try clear p233
      try clear p237
      try clear p241
      try clear q233
      try clear q237
      try clear q241
      obtain ⟨kq, x16_20, rfl, HA, HJ20, HO_8, HO_259001, HO_259002, HO_273001, HO_273002, BK258, BK272, HB⟩ := hcut
      cases kq with
      | zero => exact absurd HA.out (by simp [underwoodlaw09_SpecLast.j2])
      | succ kj20 =>
       have H := HA.out
       clear HA
       simp only [underwoodlaw09_SpecLast.j2] at H
       replace H := Option.bind_eq_some_iff.mp H
       obtain ⟨t273, A360, H⟩ := H
       replace H : ((spec_All.f kj20 t245 t246 t249 t273).bind fun bt276 => ((underwoodlaw09_takes.f kj20 7 (wrap64 (x16_20 + 1))).bind fun t290 => ((spec_All.f kj20 t259 t260 t263 t290).bind fun bt293 => (if (bt276.2.2.2.1.length : Int) = (wrap64 (x16_20 + 1)) then (if (bt293.2.2.2.1.length : Int) = (wrap64 (x16_20 + 1)) then (if (bt276.2.2.2.2.length : Int) = (wrap64 (x16_20 + 1)) then (if (bt293.2.2.2.2.length : Int) = (wrap64 (x16_20 + 1)) then (if (wrap64 ((bt276.2.2.1.length : Int) + (bt293.2.2.1.length : Int))) > 0 then (underwoodlaw09_SpecLast.j3 kj20 l0 l1 t232 x8_2 x16_20 bt276.2.2.2.1 bt293.2.2.2.1 true) else (if 0 ≤ x16_20 then (if x16_20 < (bt276.2.2.2.2.length : Int) then (if rdOf false bt276.2.2.2.2 x16_20 = true then (underwoodlaw09_SpecLast.j3 kj20 l0 l1 t232 x8_2 x16_20 bt276.2.2.2.1 bt293.2.2.2.1 true) else (if x16_20 < (bt293.2.2.2.2.length : Int) then (underwoodlaw09_SpecLast.j3 kj20 l0 l1 t232 x8_2 x16_20 bt276.2.2.2.1 bt293.2.2.2.1 (rdOf false bt293.2.2.2.2 x16_20)) else (none))) else (none)) else (none))) else (underwoodlaw09_SpecLast.j3 kj20 l0 l1 t232 x8_2 x16_20 bt276.2.2.2.1 bt293.2.2.2.1 true)) else (underwoodlaw09_SpecLast.j3 kj20 l0 l1 t232 x8_2 x16_20 bt276.2.2.2.1 bt293.2.2.2.1 true)) else (underwoodlaw09_SpecLast.j3 kj20 l0 l1 t232 x8_2 x16_20 bt276.2.2.2.1 bt293.2.2.2.1 true)) else (underwoodlaw09_SpecLast.j3 kj20 l0 l1 t232 x8_2 x16_20 bt276.2.2.2.1 bt293.2.2.2.1 true))))) = some r := H
       have A36 := Aside0.mk A360
       clear A360
       replace H := Option.bind_eq_some_iff.mp H
       obtain ⟨⟨t276, t277, t280, t283, t286⟩, A370, H⟩ := H
       replace H : ((underwoodlaw09_takes.f kj20 7 (wrap64 (x16_20 + 1))).bind fun t290 => ((spec_All.f kj20 t259 t260 t263 t290).bind fun bt293 => (if (t283.length : Int) = (wrap64 (x16_20 + 1)) then (if (bt293.2.2.2.1.length : Int) = (wrap64 (x16_20 + 1)) then (if (t286.length : Int) = (wrap64 (x16_20 + 1)) then (if (bt293.2.2.2.2.length : Int) = (wrap64 (x16_20 + 1)) then (if (wrap64 ((t280.length : Int) + (bt293.2.2.1.length : Int))) > 0 then (underwoodlaw09_SpecLast.j3 kj20 l0 l1 t232 x8_2 x16_20 t283 bt293.2.2.2.1 true) else (if 0 ≤ x16_20 then (if x16_20 < (t286.length : Int) then (if rdOf false t286 x16_20 = true then (underwoodlaw09_SpecLast.j3 kj20 l0 l1 t232 x8_2 x16_20 t283 bt293.2.2.2.1 true) else (if x16_20 < (bt293.2.2.2.2.length : Int) then (underwoodlaw09_SpecLast.j3 kj20 l0 l1 t232 x8_2 x16_20 t283 bt293.2.2.2.1 (rdOf false bt293.2.2.2.2 x16_20)) else (none))) else (none)) else (none))) else (underwoodlaw09_SpecLast.j3 kj20 l0 l1 t232 x8_2 x16_20 t283 bt293.2.2.2.1 true)) else (underwoodlaw09_SpecLast.j3 kj20 l0 l1 t232 x8_2 x16_20 t283 bt293.2.2.2.1 true)) else (underwoodlaw09_SpecLast.j3 kj20 l0 l1 t232 x8_2 x16_20 t283 bt293.2.2.2.1 true)) else (underwoodlaw09_SpecLast.j3 kj20 l0 l1 t232 x8_2 x16_20 t283 bt293.2.2.2.1 true)))) = some r := H
       have A37 := Aside0.mk A370
       clear A370
       replace H := Option.bind_eq_some_iff.mp H
       obtain ⟨t290, A380, H⟩ := H
       replace H : ((spec_All.f kj20 t259 t260 t263 t290).bind fun bt293 => (if (t283.length : Int) = (wrap64 (x16_20 + 1)) then (if (bt293.2.2.2.1.length : Int) = (wrap64 (x16_20 + 1)) then (if (t286.length : Int) = (wrap64 (x16_20 + 1)) then (if (bt293.2.2.2.2.length : Int) = (wrap64 (x16_20 + 1)) then (if (wrap64 ((t280.length : Int) + (bt293.2.2.1.length : Int))) > 0 then (underwoodlaw09_SpecLast.j3 kj20 l0 l1 t232 x8_2 x16_20 t283 bt293.2.2.2.1 true) else (if 0 ≤ x16_20 then (if x16_20 < (t286.length : Int) then (if rdOf false t286 x16_20 = true then (underwoodlaw09_SpecLast.j3 kj20 l0 l1 t232 x8_2 x16_20 t283 bt293.2.2.2.1 true) else (if x16_20 < (bt293.2.2.2.2.length : Int) then (underwoodlaw09_SpecLast.j3 kj20 l0 l1 t232 x8_2 x16_20 t283 bt293.2.2.2.1 (rdOf false bt293.2.2.2.2 x16_20)) else (none))) else (none)) else (none))) else (underwoodlaw09_SpecLast.j3 kj20 l0 l1 t232 x8_2 x16_20 t283 bt293.2.2.2.1 true)) else (underwoodlaw09_SpecLast.j3 kj20 l0 l1 t232 x8_2 x16_20 t283 bt293.2.2.2.1 true)) else (underwoodlaw09_SpecLast.j3 kj20 l0 l1 t232 x8_2 x16_20 t283 bt293.2.2.2.1 true)) else (underwoodlaw09_SpecLast.j3 kj20 l0 l1 t232 x8_2 x16_20 t283 bt293.2.2.2.1 true))) = some r := H
       have A38 := Aside0.mk A380
       clear A380
       replace H := Option.bind_eq_some_iff.mp H
       obtain ⟨⟨t293, t294, t297, t300, t303⟩, A390, H⟩ := H
       replace H : (if (t283.length : Int) = (wrap64 (x16_20 + 1)) then (if (t300.length : Int) = (wrap64 (x16_20 + 1)) then (if (t286.length : Int) = (wrap64 (x16_20 + 1)) then (if (t303.length : Int) = (wrap64 (x16_20 + 1)) then (if (wrap64 ((t280.length : Int) + (t297.length : Int))) > 0 then (underwoodlaw09_SpecLast.j3 kj20 l0 l1 t232 x8_2 x16_20 t283 t300 true) else (if 0 ≤ x16_20 then (if x16_20 < (t286.length : Int) then (if rdOf false t286 x16_20 = true then (underwoodlaw09_SpecLast.j3 kj20 l0 l1 t232 x8_2 x16_20 t283 t300 true) else (if x16_20 < (t303.length : Int) then (underwoodlaw09_SpecLast.j3 kj20 l0 l1 t232 x8_2 x16_20 t283 t300 (rdOf false t303 x16_20)) else (none))) else (none)) else (none))) else (underwoodlaw09_SpecLast.j3 kj20 l0 l1 t232 x8_2 x16_20 t283 t300 true)) else (underwoodlaw09_SpecLast.j3 kj20 l0 l1 t232 x8_2 x16_20 t283 t300 true)) else (underwoodlaw09_SpecLast.j3 kj20 l0 l1 t232 x8_2 x16_20 t283 t300 true)) else (underwoodlaw09_SpecLast.j3 kj20 l0 l1 t232 x8_2 x16_20 t283 t300 true)) = some r := H
       have A39 := Aside0.mk A390
       clear A390
       have HC40 := Aside0.mk H
       clear H
       try go_wp2
       replace HO_8 := Aside0.mk (Kd.R_drew HO_8.out)
       replace HO_259001 := Aside0.mk (Kd.V_drew HO_259001.out)
       replace HO_259002 := Aside0.mk (Kd.V_drew HO_259002.out)
       replace HO_273001 := Aside0.mk (Kd.V_drew HO_273001.out)
       replace HO_273002 := Aside0.mk (Kd.V_drew HO_273002.out)
       replace BK258 := Aside0.mk (blk_drew BK258.out)
       replace BK272 := Aside0.mk (blk_drew BK272.out)
       replace HB := Aside0.mk (below_drew1 HB.out)
       refine start_ (n := 13) (S := fun w' => w'.cell? ⟨gb258, 0, none⟩ = some (.int .i64 t245) ∧ w'.cell? ⟨gb258, 1, none⟩ = some (.slice Ao26 t246.length co26) ∧ w'.cell? ⟨gb258, 2, none⟩ = some (.slice Ao27 t249.length co27)) (ds := []) (bA 13 0) (by kernel_rfl) rfl (by kernel_rfl) ⟨(blk_cell BK258.out 0).trans rfl, (blk_cell BK258.out 1).trans rfl, (blk_cell BK258.out 2).trans rfl⟩ (fun hHeld => ?_); refine with_tabW underwoodlaw09_SpecLast.tab16 underwoodlaw09_SpecLast.bits16 (fun HT_ HW_ => ?_)
       generalize wc.drew = w41 at HO_8 HO_259001 HO_259002 HO_273001 HO_273002 BK258 BK272 HB hHeld ⊢
       refine pu 1 89 13 2 HT_.out (h := ?_)
       refine pu 2 90 13 6 HT_.out (h := ?_)
       refine tk 0 88 13 7 HT_.out HW_.out hHeld (hy := by rintro w' ⟨s0, s1, s2⟩; go_simp; with_reducible rfl) (h := ?_)
       refine join_ (σ := Value × Value × Value × Value × Value × Nat) 3 (bA 13 1023) (fun s_ => [(91, s_.1), (92, .tuple #[.agg #[.int .i64 t276, s_.2.1, s_.2.2.1], s_.2.2.2.1, s_.2.2.2.2.1]), (17, .pointer (some ⟨s_.2.2.2.2.2, 0, none⟩)), (87, .tuple #[.agg #[.int .i64 t276, s_.2.1, s_.2.2.1], s_.2.2.2.1, s_.2.2.2.2.1]), (93, .agg #[.int .i64 t276, s_.2.1, s_.2.2.1]), (94, s_.2.2.2.1), (95, s_.2.2.2.2.1)]) (fun s_ w' => (w'.cell? ⟨gb258, 0, none⟩ = some (.int .i64 t245) ∧ w'.cell? ⟨gb258, 1, none⟩ = some (.slice Ao26 t246.length co26) ∧ w'.cell? ⟨gb258, 2, none⟩ = some (.slice Ao27 t249.length co27)) ∧ (Kd.R k26 26 w' w.heap.size (fun _ => True) s_.1 t273) ∧ (Kd.V (Kd.int .i64) 3 w' w.heap.size (fun k_ => NB k_ s_.1 ∧ NB k_ s_.2.2.2.1 ∧ NB k_ s_.2.2.2.2.1 ∧ NB k_ u8 ∧ k_ ≠ gb258 ∧ k_ ≠ gb272 ∧ k_ ≠ s_.2.2.2.2.2) s_.2.1 t277) ∧ (Kd.V (Kd.int .i64) 3 w' w.heap.size (fun k_ => NB k_ s_.1 ∧ NB k_ s_.2.2.2.1 ∧ NB k_ s_.2.2.2.2.1 ∧ NB k_ u8 ∧ k_ ≠ gb258 ∧ k_ ≠ gb272 ∧ k_ ≠ s_.2.2.2.2.2) s_.2.2.1 t280) ∧ (Kd.R (Kd.int .i64) 3 w' w.heap.size (fun k_ => NB k_ u8) s_.2.2.2.1 t283) ∧ (Kd.R Kd.bool 4 w' w.heap.size (fun _ => True) s_.2.2.2.2.1 t286) ∧ (Kd.V (Kd.int .i64) 3 w' w.heap.size (fun k_ => NB k_ s_.1 ∧ NB k_ s_.2.2.2.1 ∧ NB k_ s_.2.2.2.2.1 ∧ NB k_ u8 ∧ k_ ≠ gb258 ∧ k_ ≠ gb272 ∧ k_ ≠ s_.2.2.2.2.2) (.slice Ao26 t246.length co26) t246) ∧ (Kd.V (Kd.int .i64) 3 w' w.heap.size (fun k_ => NB k_ s_.1 ∧ NB k_ s_.2.2.2.1 ∧ NB k_ s_.2.2.2.2.1 ∧ NB k_ u8 ∧ k_ ≠ gb258 ∧ k_ ≠ gb272 ∧ k_ ≠ s_.2.2.2.2.2) (.slice Ao27 t249.length co27) t249) ∧ (Kd.V (Kd.int .i64) 3 w' w.heap.size (fun k_ => NB k_ s_.1 ∧ NB k_ s_.2.2.2.1 ∧ NB k_ s_.2.2.2.2.1 ∧ NB k_ u8 ∧ k_ ≠ gb258 ∧ k_ ≠ gb272 ∧ k_ ≠ s_.2.2.2.2.2) (.slice Ao34 t260.length co34) t260) ∧ (Kd.V (Kd.int .i64) 3 w' w.heap.size (fun k_ => NB k_ s_.1 ∧ NB k_ s_.2.2.2.1 ∧ NB k_ s_.2.2.2.2.1 ∧ NB k_ u8 ∧ k_ ≠ gb258 ∧ k_ ≠ gb272 ∧ k_ ≠ s_.2.2.2.2.2) (.slice Ao35 t263.length co35) t263) ∧ (Kd.R (Kd.int .i64) 3 w' w.heap.size (fun k_ => NB k_ s_.2.2.2.1) u8 x8_2) ∧ (w'.heap[gb258]? = some (.cells #[.int .i64 t245, .slice Ao26 t246.length co26, .slice Ao27 t249.length co27] 24 (0, 0))) ∧ (w'.heap[gb272]? = some (.cells #[.int .i64 t259, .slice Ao34 t260.length co34, .slice Ao35 t263.length co35] 24 (0, 0))) ∧ (w'.heap[s_.2.2.2.2.2]? = some (.cells #[.int .i64 0, .slice none 0 0, .slice none 0 0] 24 (0, 0))) ∧ (w.heap.size ≤ s_.2.2.2.2.2) ∧ (w.heap.size ≤ s_.2.2.2.2.2) ∧ (gb258 ≠ s_.2.2.2.2.2) ∧ (s_.2.2.2.2.2 ≠ gb258) ∧ (gb272 ≠ s_.2.2.2.2.2) ∧ (s_.2.2.2.2.2 ≠ gb272) ∧ (Below w.heap.size w w')) ?_ ?_
       rotate_left
       ·intro hCont
        refine two_ (i := 3) (j := 9) (Ni := some 91) (Nj := some 17) (bA 13 15) (bA 13 519) rfl rfl rfl rfl (two_of HT_.out (by kernel_rfl)) (by decide) (by decide) (fun K hK => ?_) (fun K hK => ?_)
        ·skip
         refine goes_ Try.func14 (by kernel_rfl) rfl #[.int .i64 5, .int .i64 (wrap64 (x16_20 + 1))] (by rfl) rfl rfl ls ?_
         with_reducible refine (underwoodlaw09_takes.calls kj20 5 (wrap64 (x16_20 + 1)) t273 _ A36.out).mono ?_
         rintro e w42 ⟨v274, rfl, ho0, hb⟩
         refine ⟨_, rfl, ?_⟩
         replace HO_8 := Aside0.mk (Kd.R_below (uR HO_8.out) hb)
         replace HO_259001 := Aside0.mk (Kd.V_elder' (uV HO_259001.out) (Kd.R_base ho0) hb)
         replace HO_259002 := Aside0.mk (Kd.V_elder' (uV HO_259002.out) (Kd.R_base ho0) hb)
         replace HO_273001 := Aside0.mk (Kd.V_elder' (uV HO_273001.out) (Kd.R_base ho0) hb)
         replace HO_273002 := Aside0.mk (Kd.V_elder' (uV HO_273002.out) (Kd.R_base ho0) hb)
         have HO275 := Aside0.mk (Kd.R_lower ho0 (below_size (uB HB.out)))
         replace BK258 := Aside0.mk (blk_below (g := gb258) (o := .cells #[.int .i64 t245, .slice Ao26 t246.length co26, .slice Ao27 t249.length co27] 24 (0, 0)) (ub BK258.out) hb)
         replace BK272 := Aside0.mk (blk_below (g := gb272) (o := .cells #[.int .i64 t259, .slice Ao34 t260.length co34, .slice Ao35 t263.length co35] 24 (0, 0)) (ub BK272.out) hb)
         replace HB := Aside0.mk (below_step (uB HB.out) hb)
         (try clear hb)
         (try clear hb2)
         (try clear hk)
         (try clear hi)
         (try clear ho0)
         obtain ⟨Ao43, co43, eo43⟩ := Kd.R_slice HO275.out
         (first | subst eo43 | (injection eo43 with f1_ f2_ f3_; have f4_ := f1_.symm; have f5_ := f3_.symm; clear f1_ f2_ f3_; subst f4_; subst f5_))
         refine hK.out _ _ ⟨(blk_cell BK258.out 0).trans rfl, (blk_cell BK258.out 1).trans rfl, (blk_cell BK258.out 2).trans rfl⟩ (fun hHeld => ?_)
         clear hK K
         refine norm_ (a' := ?_) ?_ ?_
         rotate_left
         ·show Act.put _ (some 91) _ = _
          simp only [Act.put, List.setIfInBounds_toArray, List.set_cons_zero, List.set_cons_succ, i64_w, i32_w]
          rfl
         refine two_ (i := 4) (j := 9) (Ni := some 92) (Nj := some 17) (bA 13 31) (bA 13 527) rfl rfl rfl rfl (two_of HT_.out (by kernel_rfl)) (by decide) (by decide) (fun K hK => ?_) (fun K hK => ?_)
         ·skip
          refine goes_ Try.func13 (by kernel_rfl) rfl #[.agg #[.int .i64 t245, .slice Ao26 t246.length co26, .slice Ao27 t249.length co27], .slice Ao43 t273.length co43] (by rfl) rfl rfl ls ?_
          with_reducible refine (spec_All.calls kj20 t245 (fun k_ => ((NB k_ u8 ∧ (k_ ≠ gb258 ∧ k_ ≠ gb272)) ∧ NB k_ (.slice Ao43 t273.length co43))) _ _ t246 (fun k_ => ((NB k_ u8 ∧ (k_ ≠ gb258 ∧ k_ ≠ gb272)) ∧ NB k_ (.slice Ao43 t273.length co43))) _ _ t249 _ _ t273 t276 t277 t280 t283 t286 _ ?side1 ?side2 ?side3 ?side4 A37.out).mono ?_
          (case side1 => exact HO_259001.out)
          (case side2 => exact HO_259002.out)
          (case side3 => repeat (first | exact (Kd.R_reads' HO275.out).2.2 | (with_reducible refine Kd.C_alloc ?_ _) | (with_reducible refine Kd.C_drewN ?_ _) | (with_reducible refine Kd.C_drew ?_)))
          (case side4 => exact (Kd.R_reads' HO275.out).2.1)
          rintro e w44 ⟨v278, v281, v284, v287, rfl, ho0, ho1, ho2, ho3, hb⟩
          refine ⟨_, rfl, ?_⟩
          replace HO_259001 := Aside0.mk (Kd.V_mono (Kd.V_told (Kd.V_told (Kd.V_old (uV HO_259001.out) hb) (Kd.R_base ho2)) (Kd.R_base ho3)) (fun _ h_ => h_.1))
          replace HO_259002 := Aside0.mk (Kd.V_mono (Kd.V_told (Kd.V_told (Kd.V_old (uV HO_259002.out) hb) (Kd.R_base ho2)) (Kd.R_base ho3)) (fun _ h_ => h_.1))
          replace HO_273001 := Aside0.mk (Kd.V_mono (Kd.V_told (Kd.V_told (Kd.V_old (uV HO_273001.out) hb) (Kd.R_base ho2)) (Kd.R_base ho3)) (fun _ h_ => h_.1))
          replace HO_273002 := Aside0.mk (Kd.V_mono (Kd.V_told (Kd.V_told (Kd.V_old (uV HO_273002.out) hb) (Kd.R_base ho2)) (Kd.R_base ho3)) (fun _ h_ => h_.1))
          have HO279 := Aside0.mk (Kd.V_lower (Kd.V_mono (ok' := fun k_ => NB k_ v284 ∧ NB k_ v287 ∧ NB k_ u8 ∧ NB k_ (.slice Ao43 t273.length co43) ∧ k_ ≠ gb258 ∧ k_ ≠ gb272) ho0 (fun k_ hk_ => by first | exact ⟨hk_.2.1, hk_.2.2, Or.elim hk_.1 (fun hs_ => Or.elim hs_ (fun hs_ => hs_.1.1) (fun hs_ => hs_.1.1)) (fun hn_ => (Kd.fresh' (Kd.R_lt (uR HO_8.out)) k_ hn_)), Or.elim hk_.1 (fun hs_ => Or.elim hs_ (fun hs_ => hs_.2) (fun hs_ => hs_.2)) (fun hn_ => (Kd.fresh' (Kd.R_lt (uR HO275.out)) k_ hn_)), Or.elim hk_.1 (fun hs_ => Or.elim hs_ (fun hs_ => hs_.1.2.1) (fun hs_ => hs_.1.2.1)) (fun hn_ => (Kd.freshB (g := gb258) (o := .cells #[.int .i64 t245, .slice Ao26 t246.length co26, .slice Ao27 t249.length co27] 24 (0, 0)) (ub BK258.out) k_ hn_)), Or.elim hk_.1 (fun hs_ => Or.elim hs_ (fun hs_ => hs_.1.2.2) (fun hs_ => hs_.1.2.2)) (fun hn_ => (Kd.freshB (g := gb272) (o := .cells #[.int .i64 t259, .slice Ao34 t260.length co34, .slice Ao35 t263.length co35] 24 (0, 0)) (ub BK272.out) k_ hn_))⟩ | grind)) (below_size (uB HB.out)))
          have HO282 := Aside0.mk (Kd.V_lower (Kd.V_mono (ok' := fun k_ => NB k_ v284 ∧ NB k_ v287 ∧ NB k_ u8 ∧ NB k_ (.slice Ao43 t273.length co43) ∧ k_ ≠ gb258 ∧ k_ ≠ gb272) ho1 (fun k_ hk_ => by first | exact ⟨hk_.2.1, hk_.2.2, Or.elim hk_.1 (fun hs_ => Or.elim hs_ (fun hs_ => hs_.1.1) (fun hs_ => hs_.1.1)) (fun hn_ => (Kd.fresh' (Kd.R_lt (uR HO_8.out)) k_ hn_)), Or.elim hk_.1 (fun hs_ => Or.elim hs_ (fun hs_ => hs_.2) (fun hs_ => hs_.2)) (fun hn_ => (Kd.fresh' (Kd.R_lt (uR HO275.out)) k_ hn_)), Or.elim hk_.1 (fun hs_ => Or.elim hs_ (fun hs_ => hs_.1.2.1) (fun hs_ => hs_.1.2.1)) (fun hn_ => (Kd.freshB (g := gb258) (o := .cells #[.int .i64 t245, .slice Ao26 t246.length co26, .slice Ao27 t249.length co27] 24 (0, 0)) (ub BK258.out) k_ hn_)), Or.elim hk_.1 (fun hs_ => Or.elim hs_ (fun hs_ => hs_.1.2.2) (fun hs_ => hs_.1.2.2)) (fun hn_ => (Kd.freshB (g := gb272) (o := .cells #[.int .i64 t259, .slice Ao34 t260.length co34, .slice Ao35 t263.length co35] 24 (0, 0)) (ub BK272.out) k_ hn_))⟩ | grind)) (below_size (uB HB.out)))
          replace HO275 := Aside0.mk (Kd.R_below (uR HO275.out) hb)
          have HO285 := Aside0.mk (Kd.R_lower (Kd.R_new' (Kd.R_mono (ok' := fun k_ => True) ho2 (fun _ hk_ => trivial)) (Kd.R_lt (uR HO_8.out))) (below_size (uB HB.out)))
          replace HO_8 := Aside0.mk (Kd.R_elder' (uR HO_8.out) (Kd.R_base ho2) hb)
          have HO288 := Aside0.mk (Kd.R_lower (Kd.R_mono (ok' := fun k_ => True) ho3 (fun _ hk_ => trivial)) (below_size (uB HB.out)))
          replace BK258 := Aside0.mk (blk_below (g := gb258) (o := .cells #[.int .i64 t245, .slice Ao26 t246.length co26, .slice Ao27 t249.length co27] 24 (0, 0)) (ub BK258.out) hb)
          replace BK272 := Aside0.mk (blk_below (g := gb272) (o := .cells #[.int .i64 t259, .slice Ao34 t260.length co34, .slice Ao35 t263.length co35] 24 (0, 0)) (ub BK272.out) hb)
          replace HB := Aside0.mk (below_step (uB HB.out) hb)
          (try clear hb)
          (try clear hb2)
          (try clear hk)
          (try clear hi)
          (try clear ho0)
          (try clear ho1)
          (try clear ho2)
          (try clear ho3)
          refine hK.out _ _ ⟨(blk_cell BK258.out 0).trans rfl, (blk_cell BK258.out 1).trans rfl, (blk_cell BK258.out 2).trans rfl⟩ (fun hHeld => ?_)
          clear hK K
          refine norm_ (a' := ?_) ?_ ?_
          rotate_left
          ·show Act.put _ (some 92) _ = _
           simp only [Act.put, List.setIfInBounds_toArray, List.set_cons_zero, List.set_cons_succ, i64_w, i32_w]
           rfl
          refine pu 5 87 13 63 HT_.out (h := ?_)
          refine pu 6 93 13 127 HT_.out (h := ?_)
          refine pu 7 94 13 255 HT_.out (h := ?_)
          refine pu 8 95 13 511 HT_.out (h := ?_)
          refine one_ (i := 9) (N := some 17) (bA 13 1023) rfl rfl (one_of HT_.out (by kernel_rfl)) (by decide) (fun K hK => ?_)
          refine box_step ?hg (N := 17) ?hd (cs := #[.int .i64 0, .slice none 0 0, .slice none 0 0]) (t := 24) ?hr ?_; (case hd => rfl); (case hg => rfl); (case hr => first | (go_simp; done) | (go_simp; rfl))
          intro gb289 hg w45 hbox hb
          replace HO_8 := Aside0.mk (Kd.R_below (uR HO_8.out) hb)
          replace HO_259001 := Aside0.mk (Kd.V_below (Kd.V_elderB (uV HO_259001.out) gb289 (Nat.le_of_eq hg.symm)) hb)
          replace HO_259002 := Aside0.mk (Kd.V_below (Kd.V_elderB (uV HO_259002.out) gb289 (Nat.le_of_eq hg.symm)) hb)
          replace HO_273001 := Aside0.mk (Kd.V_below (Kd.V_elderB (uV HO_273001.out) gb289 (Nat.le_of_eq hg.symm)) hb)
          replace HO_273002 := Aside0.mk (Kd.V_below (Kd.V_elderB (uV HO_273002.out) gb289 (Nat.le_of_eq hg.symm)) hb)
          replace HO275 := Aside0.mk (Kd.R_below (uR HO275.out) hb)
          replace HO279 := Aside0.mk (Kd.V_below (Kd.V_elderB (uV HO279.out) gb289 (Nat.le_of_eq hg.symm)) hb)
          replace HO282 := Aside0.mk (Kd.V_below (Kd.V_elderB (uV HO282.out) gb289 (Nat.le_of_eq hg.symm)) hb)
          replace HO285 := Aside0.mk (Kd.R_below (uR HO285.out) hb)
          replace HO288 := Aside0.mk (Kd.R_below (uR HO288.out) hb)
          have BK289 := Aside0.mk (hbox)
          have GW289 := Aside0.mk ((by rw [hg]; exact (below_size (uB HB.out)) : w.heap.size ≤ gb289))
          have GE289 := Aside0.mk ((by rw [hg]; exact (below_size (uB HB.out)) : w.heap.size ≤ gb289))
          replace HB := Aside0.mk (below_step (uB HB.out) hb)
          have NB258_289 := Aside0.mk ((by rw [hg]; exact Nat.ne_of_lt (blk_lt (g := gb258) (o := .cells #[.int .i64 t245, .slice Ao26 t246.length co26, .slice Ao27 t249.length co27] 24 (0, 0)) (ub BK258.out)) : gb258 ≠ gb289))
          have NB289_258 := Aside0.mk ((by rw [hg]; exact Nat.ne_of_gt (blk_lt (g := gb258) (o := .cells #[.int .i64 t245, .slice Ao26 t246.length co26, .slice Ao27 t249.length co27] 24 (0, 0)) (ub BK258.out)) : gb289 ≠ gb258))
          replace BK258 := Aside0.mk (blk_below (g := gb258) (o := .cells #[.int .i64 t245, .slice Ao26 t246.length co26, .slice Ao27 t249.length co27] 24 (0, 0)) (ub BK258.out) hb)
          have NB272_289 := Aside0.mk ((by rw [hg]; exact Nat.ne_of_lt (blk_lt (g := gb272) (o := .cells #[.int .i64 t259, .slice Ao34 t260.length co34, .slice Ao35 t263.length co35] 24 (0, 0)) (ub BK272.out)) : gb272 ≠ gb289))
          have NB289_272 := Aside0.mk ((by rw [hg]; exact Nat.ne_of_gt (blk_lt (g := gb272) (o := .cells #[.int .i64 t259, .slice Ao34 t260.length co34, .slice Ao35 t263.length co35] 24 (0, 0)) (ub BK272.out)) : gb289 ≠ gb272))
          replace BK272 := Aside0.mk (blk_below (g := gb272) (o := .cells #[.int .i64 t259, .slice Ao34 t260.length co34, .slice Ao35 t263.length co35] 24 (0, 0)) (ub BK272.out) hb)
          clear hb hbox hg
          refine hK.out _ _ ⟨(blk_cell BK258.out 0).trans rfl, (blk_cell BK258.out 1).trans rfl, (blk_cell BK258.out 2).trans rfl⟩ (fun hHeld => ?_)
          clear hK K
          refine norm_ (a' := ?_) ?_ ?_
          rotate_left
          ·show Act.put _ (some 17) _ = _
           simp only [Act.put, List.setIfInBounds_toArray, List.set_cons_zero, List.set_cons_succ, i64_w, i32_w]
           rfl
          exact norm_ (by simp only [putAll, Act.put, List.setIfInBounds_toArray, List.set_cons_zero, List.set_cons_succ]) (hCont (.slice Ao43 t273.length co43, v278, v281, v284, v287, gb289) _ ⟨hHeld, (uR HO275.out), (by refine pV ?_; exact Kd.V_mono HO279.out (fun _ hk => by grind)), (by refine pV ?_; exact Kd.V_mono HO282.out (fun _ hk => by grind)), (by refine pR ?_; exact Kd.R_mono HO285.out (fun _ hk => hk.2)), (uR HO288.out), (by refine pV ?_; exact Kd.V_mono HO_259001.out (fun _ hk => by grind)), (by refine pV ?_; exact Kd.V_mono HO_259002.out (fun _ hk => by grind)), (by refine pV ?_; exact Kd.V_mono HO_273001.out (fun _ hk => by grind)), (by refine pV ?_; exact Kd.V_mono HO_273002.out (fun _ hk => by grind)), (by refine pR ?_; exact Kd.R_mono HO_8.out (fun _ hk => hk.2)), (ub BK258.out), (ub BK272.out), (ub BK289.out), GW289.out, GE289.out, NB258_289.out, NB289_258.out, NB272_289.out, NB289_272.out, (uB HB.out)⟩)
         ·skip
          refine box_step ?hg (N := 17) ?hd (cs := #[.int .i64 0, .slice none 0 0, .slice none 0 0]) (t := 24) ?hr ?_; (case hd => rfl); (case hg => rfl); (case hr => first | (go_simp; done) | (go_simp; rfl))
          intro gb289 hg w43 hbox hb
          replace HO_8 := Aside0.mk (Kd.R_below (uR HO_8.out) hb)
          replace HO_259001 := Aside0.mk (Kd.V_below (Kd.V_elderB (uV HO_259001.out) gb289 (Nat.le_of_eq hg.symm)) hb)
          replace HO_259002 := Aside0.mk (Kd.V_below (Kd.V_elderB (uV HO_259002.out) gb289 (Nat.le_of_eq hg.symm)) hb)
          replace HO_273001 := Aside0.mk (Kd.V_below (Kd.V_elderB (uV HO_273001.out) gb289 (Nat.le_of_eq hg.symm)) hb)
          replace HO_273002 := Aside0.mk (Kd.V_below (Kd.V_elderB (uV HO_273002.out) gb289 (Nat.le_of_eq hg.symm)) hb)
          replace HO275 := Aside0.mk (Kd.R_below (uR HO275.out) hb)
          have BK289 := Aside0.mk (hbox)
          have GW289 := Aside0.mk ((by rw [hg]; exact (below_size (uB HB.out)) : w.heap.size ≤ gb289))
          have GE289 := Aside0.mk ((by rw [hg]; exact (below_size (uB HB.out)) : w.heap.size ≤ gb289))
          replace HB := Aside0.mk (below_step (uB HB.out) hb)
          have NB258_289 := Aside0.mk ((by rw [hg]; exact Nat.ne_of_lt (blk_lt (g := gb258) (o := .cells #[.int .i64 t245, .slice Ao26 t246.length co26, .slice Ao27 t249.length co27] 24 (0, 0)) (ub BK258.out)) : gb258 ≠ gb289))
          have NB289_258 := Aside0.mk ((by rw [hg]; exact Nat.ne_of_gt (blk_lt (g := gb258) (o := .cells #[.int .i64 t245, .slice Ao26 t246.length co26, .slice Ao27 t249.length co27] 24 (0, 0)) (ub BK258.out)) : gb289 ≠ gb258))
          replace BK258 := Aside0.mk (blk_below (g := gb258) (o := .cells #[.int .i64 t245, .slice Ao26 t246.length co26, .slice Ao27 t249.length co27] 24 (0, 0)) (ub BK258.out) hb)
          have NB272_289 := Aside0.mk ((by rw [hg]; exact Nat.ne_of_lt (blk_lt (g := gb272) (o := .cells #[.int .i64 t259, .slice Ao34 t260.length co34, .slice Ao35 t263.length co35] 24 (0, 0)) (ub BK272.out)) : gb272 ≠ gb289))
          have NB289_272 := Aside0.mk ((by rw [hg]; exact Nat.ne_of_gt (blk_lt (g := gb272) (o := .cells #[.int .i64 t259, .slice Ao34 t260.length co34, .slice Ao35 t263.length co35] 24 (0, 0)) (ub BK272.out)) : gb289 ≠ gb272))
          replace BK272 := Aside0.mk (blk_below (g := gb272) (o := .cells #[.int .i64 t259, .slice Ao34 t260.length co34, .slice Ao35 t263.length co35] 24 (0, 0)) (ub BK272.out) hb)
          clear hb hbox hg
          obtain ⟨Ao44, co44, eo44⟩ := Kd.R_slice HO275.out
          (first | subst eo44 | (injection eo44 with f1_ f2_ f3_; have f4_ := f1_.symm; have f5_ := f3_.symm; clear f1_ f2_ f3_; subst f4_; subst f5_))
          refine hK.out _ _ ⟨(blk_cell BK258.out 0).trans rfl, (blk_cell BK258.out 1).trans rfl, (blk_cell BK258.out 2).trans rfl⟩ (fun hHeld => ?_)
          clear hK K
          refine norm_ (a' := ?_) ?_ ?_
          rotate_left
          ·show Act.put _ (some 17) _ = _
           simp only [Act.put, List.setIfInBounds_toArray, List.set_cons_zero, List.set_cons_succ, i64_w, i32_w]
           rfl
          refine one_ (i := 4) (N := some 92) (bA 13 543) rfl rfl (one_of HT_.out (by kernel_rfl)) (by decide) (fun K hK => ?_)
          refine goes_ Try.func13 (by kernel_rfl) rfl #[.agg #[.int .i64 t245, .slice Ao26 t246.length co26, .slice Ao27 t249.length co27], .slice Ao44 t273.length co44] (by rfl) rfl rfl ls ?_
          with_reducible refine (spec_All.calls kj20 t245 (fun k_ => (((NB k_ u8 ∧ (k_ ≠ gb258 ∧ k_ ≠ gb272)) ∧ NB k_ (.slice Ao44 t273.length co44)) ∧ k_ ≠ gb289)) _ _ t246 (fun k_ => (((NB k_ u8 ∧ (k_ ≠ gb258 ∧ k_ ≠ gb272)) ∧ NB k_ (.slice Ao44 t273.length co44)) ∧ k_ ≠ gb289)) _ _ t249 _ _ t273 t276 t277 t280 t283 t286 _ ?side1 ?side2 ?side3 ?side4 A37.out).mono ?_
          (case side1 => exact HO_259001.out)
          (case side2 => exact HO_259002.out)
          (case side3 => repeat (first | exact (Kd.R_reads' HO275.out).2.2 | (with_reducible refine Kd.C_alloc ?_ _) | (with_reducible refine Kd.C_drewN ?_ _) | (with_reducible refine Kd.C_drew ?_)))
          (case side4 => exact (Kd.R_reads' HO275.out).2.1)
          rintro e w45 ⟨v278, v281, v284, v287, rfl, ho0, ho1, ho2, ho3, hb⟩
          refine ⟨_, rfl, ?_⟩
          replace HO_259001 := Aside0.mk (Kd.V_mono (Kd.V_told (Kd.V_told (Kd.V_old (uV HO_259001.out) hb) (Kd.R_base ho2)) (Kd.R_base ho3)) (fun _ h_ => h_.1))
          replace HO_259002 := Aside0.mk (Kd.V_mono (Kd.V_told (Kd.V_told (Kd.V_old (uV HO_259002.out) hb) (Kd.R_base ho2)) (Kd.R_base ho3)) (fun _ h_ => h_.1))
          replace HO_273001 := Aside0.mk (Kd.V_mono (Kd.V_told (Kd.V_told (Kd.V_old (uV HO_273001.out) hb) (Kd.R_base ho2)) (Kd.R_base ho3)) (fun _ h_ => h_.1))
          replace HO_273002 := Aside0.mk (Kd.V_mono (Kd.V_told (Kd.V_told (Kd.V_old (uV HO_273002.out) hb) (Kd.R_base ho2)) (Kd.R_base ho3)) (fun _ h_ => h_.1))
          have HO279 := Aside0.mk (Kd.V_lower (Kd.V_mono (ok' := fun k_ => NB k_ v284 ∧ NB k_ v287 ∧ NB k_ u8 ∧ NB k_ (.slice Ao44 t273.length co44) ∧ k_ ≠ gb258 ∧ k_ ≠ gb272 ∧ k_ ≠ gb289) ho0 (fun k_ hk_ => by first | exact ⟨hk_.2.1, hk_.2.2, Or.elim hk_.1 (fun hs_ => Or.elim hs_ (fun hs_ => hs_.1.1.1) (fun hs_ => hs_.1.1.1)) (fun hn_ => (Kd.fresh' (Kd.R_lt (uR HO_8.out)) k_ hn_)), Or.elim hk_.1 (fun hs_ => Or.elim hs_ (fun hs_ => hs_.1.2) (fun hs_ => hs_.1.2)) (fun hn_ => (Kd.fresh' (Kd.R_lt (uR HO275.out)) k_ hn_)), Or.elim hk_.1 (fun hs_ => Or.elim hs_ (fun hs_ => hs_.1.1.2.1) (fun hs_ => hs_.1.1.2.1)) (fun hn_ => (Kd.freshB (g := gb258) (o := .cells #[.int .i64 t245, .slice Ao26 t246.length co26, .slice Ao27 t249.length co27] 24 (0, 0)) (ub BK258.out) k_ hn_)), Or.elim hk_.1 (fun hs_ => Or.elim hs_ (fun hs_ => hs_.1.1.2.2) (fun hs_ => hs_.1.1.2.2)) (fun hn_ => (Kd.freshB (g := gb272) (o := .cells #[.int .i64 t259, .slice Ao34 t260.length co34, .slice Ao35 t263.length co35] 24 (0, 0)) (ub BK272.out) k_ hn_)), Or.elim hk_.1 (fun hs_ => Or.elim hs_ (fun hs_ => hs_.2) (fun hs_ => hs_.2)) (fun hn_ => (Kd.freshB (g := gb289) (o := .cells #[.int .i64 0, .slice none 0 0, .slice none 0 0] 24 (0, 0)) (ub BK289.out) k_ hn_))⟩ | grind)) (below_size (uB HB.out)))
          have HO282 := Aside0.mk (Kd.V_lower (Kd.V_mono (ok' := fun k_ => NB k_ v284 ∧ NB k_ v287 ∧ NB k_ u8 ∧ NB k_ (.slice Ao44 t273.length co44) ∧ k_ ≠ gb258 ∧ k_ ≠ gb272 ∧ k_ ≠ gb289) ho1 (fun k_ hk_ => by first | exact ⟨hk_.2.1, hk_.2.2, Or.elim hk_.1 (fun hs_ => Or.elim hs_ (fun hs_ => hs_.1.1.1) (fun hs_ => hs_.1.1.1)) (fun hn_ => (Kd.fresh' (Kd.R_lt (uR HO_8.out)) k_ hn_)), Or.elim hk_.1 (fun hs_ => Or.elim hs_ (fun hs_ => hs_.1.2) (fun hs_ => hs_.1.2)) (fun hn_ => (Kd.fresh' (Kd.R_lt (uR HO275.out)) k_ hn_)), Or.elim hk_.1 (fun hs_ => Or.elim hs_ (fun hs_ => hs_.1.1.2.1) (fun hs_ => hs_.1.1.2.1)) (fun hn_ => (Kd.freshB (g := gb258) (o := .cells #[.int .i64 t245, .slice Ao26 t246.length co26, .slice Ao27 t249.length co27] 24 (0, 0)) (ub BK258.out) k_ hn_)), Or.elim hk_.1 (fun hs_ => Or.elim hs_ (fun hs_ => hs_.1.1.2.2) (fun hs_ => hs_.1.1.2.2)) (fun hn_ => (Kd.freshB (g := gb272) (o := .cells #[.int .i64 t259, .slice Ao34 t260.length co34, .slice Ao35 t263.length co35] 24 (0, 0)) (ub BK272.out) k_ hn_)), Or.elim hk_.1 (fun hs_ => Or.elim hs_ (fun hs_ => hs_.2) (fun hs_ => hs_.2)) (fun hn_ => (Kd.freshB (g := gb289) (o := .cells #[.int .i64 0, .slice none 0 0, .slice none 0 0] 24 (0, 0)) (ub BK289.out) k_ hn_))⟩ | grind)) (below_size (uB HB.out)))
          replace HO275 := Aside0.mk (Kd.R_below (uR HO275.out) hb)
          have HO285 := Aside0.mk (Kd.R_lower (Kd.R_new' (Kd.R_mono (ok' := fun k_ => True) ho2 (fun _ hk_ => trivial)) (Kd.R_lt (uR HO_8.out))) (below_size (uB HB.out)))
          replace HO_8 := Aside0.mk (Kd.R_elder' (uR HO_8.out) (Kd.R_base ho2) hb)
          have HO288 := Aside0.mk (Kd.R_lower (Kd.R_mono (ok' := fun k_ => True) ho3 (fun _ hk_ => trivial)) (below_size (uB HB.out)))
          replace BK258 := Aside0.mk (blk_below (g := gb258) (o := .cells #[.int .i64 t245, .slice Ao26 t246.length co26, .slice Ao27 t249.length co27] 24 (0, 0)) (ub BK258.out) hb)
          replace BK272 := Aside0.mk (blk_below (g := gb272) (o := .cells #[.int .i64 t259, .slice Ao34 t260.length co34, .slice Ao35 t263.length co35] 24 (0, 0)) (ub BK272.out) hb)
          replace BK289 := Aside0.mk (blk_below (g := gb289) (o := .cells #[.int .i64 0, .slice none 0 0, .slice none 0 0] 24 (0, 0)) (ub BK289.out) hb)
          replace HB := Aside0.mk (below_step (uB HB.out) hb)
          (try clear hb)
          (try clear hb2)
          (try clear hk)
          (try clear hi)
          (try clear ho0)
          (try clear ho1)
          (try clear ho2)
          (try clear ho3)
          refine hK.out _ _ ⟨(blk_cell BK258.out 0).trans rfl, (blk_cell BK258.out 1).trans rfl, (blk_cell BK258.out 2).trans rfl⟩ (fun hHeld => ?_)
          clear hK K
          refine norm_ (a' := ?_) ?_ ?_
          rotate_left
          ·show Act.put _ (some 92) _ = _
           simp only [Act.put, List.setIfInBounds_toArray, List.set_cons_zero, List.set_cons_succ, i64_w, i32_w]
           rfl
          refine pu 5 87 13 575 HT_.out (h := ?_)
          refine pu 6 93 13 639 HT_.out (h := ?_)
          refine pu 7 94 13 767 HT_.out (h := ?_)
          refine pu 8 95 13 1023 HT_.out (h := ?_)
          exact norm_ (by simp only [putAll, Act.put, List.setIfInBounds_toArray, List.set_cons_zero, List.set_cons_succ]) (hCont (.slice Ao44 t273.length co44, v278, v281, v284, v287, gb289) _ ⟨hHeld, (uR HO275.out), (by refine pV ?_; exact Kd.V_mono HO279.out (fun _ hk => by grind)), (by refine pV ?_; exact Kd.V_mono HO282.out (fun _ hk => by grind)), (by refine pR ?_; exact Kd.R_mono HO285.out (fun _ hk => hk.2)), (uR HO288.out), (by refine pV ?_; exact Kd.V_mono HO_259001.out (fun _ hk => by grind)), (by refine pV ?_; exact Kd.V_mono HO_259002.out (fun _ hk => by grind)), (by refine pV ?_; exact Kd.V_mono HO_273001.out (fun _ hk => by grind)), (by refine pV ?_; exact Kd.V_mono HO_273002.out (fun _ hk => by grind)), (by refine pR ?_; exact Kd.R_mono HO_8.out (fun _ hk => hk.2)), (ub BK258.out), (ub BK272.out), (ub BK289.out), GW289.out, GE289.out, NB258_289.out, NB289_258.out, NB272_289.out, NB289_272.out, (uB HB.out)⟩)
        ·skip
         refine box_step ?hg (N := 17) ?hd (cs := #[.int .i64 0, .slice none 0 0, .slice none 0 0]) (t := 24) ?hr ?_; (case hd => rfl); (case hg => rfl); (case hr => first | (go_simp; done) | (go_simp; rfl))
         intro gb289 hg w42 hbox hb
         replace HO_8 := Aside0.mk (Kd.R_below (uR HO_8.out) hb)
         replace HO_259001 := Aside0.mk (Kd.V_below (Kd.V_elderB (uV HO_259001.out) gb289 (Nat.le_of_eq hg.symm)) hb)
         replace HO_259002 := Aside0.mk (Kd.V_below (Kd.V_elderB (uV HO_259002.out) gb289 (Nat.le_of_eq hg.symm)) hb)
         replace HO_273001 := Aside0.mk (Kd.V_below (Kd.V_elderB (uV HO_273001.out) gb289 (Nat.le_of_eq hg.symm)) hb)
         replace HO_273002 := Aside0.mk (Kd.V_below (Kd.V_elderB (uV HO_273002.out) gb289 (Nat.le_of_eq hg.symm)) hb)
         have BK289 := Aside0.mk (hbox)
         have GW289 := Aside0.mk ((by rw [hg]; exact (below_size (uB HB.out)) : w.heap.size ≤ gb289))
         have GE289 := Aside0.mk ((by rw [hg]; exact (below_size (uB HB.out)) : w.heap.size ≤ gb289))
         replace HB := Aside0.mk (below_step (uB HB.out) hb)
         have NB258_289 := Aside0.mk ((by rw [hg]; exact Nat.ne_of_lt (blk_lt (g := gb258) (o := .cells #[.int .i64 t245, .slice Ao26 t246.length co26, .slice Ao27 t249.length co27] 24 (0, 0)) (ub BK258.out)) : gb258 ≠ gb289))
         have NB289_258 := Aside0.mk ((by rw [hg]; exact Nat.ne_of_gt (blk_lt (g := gb258) (o := .cells #[.int .i64 t245, .slice Ao26 t246.length co26, .slice Ao27 t249.length co27] 24 (0, 0)) (ub BK258.out)) : gb289 ≠ gb258))
         replace BK258 := Aside0.mk (blk_below (g := gb258) (o := .cells #[.int .i64 t245, .slice Ao26 t246.length co26, .slice Ao27 t249.length co27] 24 (0, 0)) (ub BK258.out) hb)
         have NB272_289 := Aside0.mk ((by rw [hg]; exact Nat.ne_of_lt (blk_lt (g := gb272) (o := .cells #[.int .i64 t259, .slice Ao34 t260.length co34, .slice Ao35 t263.length co35] 24 (0, 0)) (ub BK272.out)) : gb272 ≠ gb289))
         have NB289_272 := Aside0.mk ((by rw [hg]; exact Nat.ne_of_gt (blk_lt (g := gb272) (o := .cells #[.int .i64 t259, .slice Ao34 t260.length co34, .slice Ao35 t263.length co35] 24 (0, 0)) (ub BK272.out)) : gb289 ≠ gb272))
         replace BK272 := Aside0.mk (blk_below (g := gb272) (o := .cells #[.int .i64 t259, .slice Ao34 t260.length co34, .slice Ao35 t263.length co35] 24 (0, 0)) (ub BK272.out) hb)
         clear hb hbox hg
         refine hK.out _ _ ⟨(blk_cell BK258.out 0).trans rfl, (blk_cell BK258.out 1).trans rfl, (blk_cell BK258.out 2).trans rfl⟩ (fun hHeld => ?_)
         clear hK K
         refine norm_ (a' := ?_) ?_ ?_
         rotate_left
         ·show Act.put _ (some 17) _ = _
          simp only [Act.put, List.setIfInBounds_toArray, List.set_cons_zero, List.set_cons_succ, i64_w, i32_w]
          rfl
         refine one_ (i := 3) (N := some 91) (bA 13 527) rfl rfl (one_of HT_.out (by kernel_rfl)) (by decide) (fun K hK => ?_)
         refine goes_ Try.func14 (by kernel_rfl) rfl #[.int .i64 5, .int .i64 (wrap64 (x16_20 + 1))] (by rfl) rfl rfl ls ?_
         with_reducible refine (underwoodlaw09_takes.calls kj20 5 (wrap64 (x16_20 + 1)) t273 _ A36.out).mono ?_
         rintro e w43 ⟨v274, rfl, ho0, hb⟩
         refine ⟨_, rfl, ?_⟩
         replace HO_8 := Aside0.mk (Kd.R_below (uR HO_8.out) hb)
         replace HO_259001 := Aside0.mk (Kd.V_elder' (uV HO_259001.out) (Kd.R_base ho0) hb)
         replace HO_259002 := Aside0.mk (Kd.V_elder' (uV HO_259002.out) (Kd.R_base ho0) hb)
         replace HO_273001 := Aside0.mk (Kd.V_elder' (uV HO_273001.out) (Kd.R_base ho0) hb)
         replace HO_273002 := Aside0.mk (Kd.V_elder' (uV HO_273002.out) (Kd.R_base ho0) hb)
         have HO275 := Aside0.mk (Kd.R_lower ho0 (below_size (uB HB.out)))
         replace BK258 := Aside0.mk (blk_below (g := gb258) (o := .cells #[.int .i64 t245, .slice Ao26 t246.length co26, .slice Ao27 t249.length co27] 24 (0, 0)) (ub BK258.out) hb)
         replace BK272 := Aside0.mk (blk_below (g := gb272) (o := .cells #[.int .i64 t259, .slice Ao34 t260.length co34, .slice Ao35 t263.length co35] 24 (0, 0)) (ub BK272.out) hb)
         replace BK289 := Aside0.mk (blk_below (g := gb289) (o := .cells #[.int .i64 0, .slice none 0 0, .slice none 0 0] 24 (0, 0)) (ub BK289.out) hb)
         replace HB := Aside0.mk (below_step (uB HB.out) hb)
         (try clear hb)
         (try clear hb2)
         (try clear hk)
         (try clear hi)
         (try clear ho0)
         obtain ⟨Ao44, co44, eo44⟩ := Kd.R_slice HO275.out
         (first | subst eo44 | (injection eo44 with f1_ f2_ f3_; have f4_ := f1_.symm; have f5_ := f3_.symm; clear f1_ f2_ f3_; subst f4_; subst f5_))
         refine hK.out _ _ ⟨(blk_cell BK258.out 0).trans rfl, (blk_cell BK258.out 1).trans rfl, (blk_cell BK258.out 2).trans rfl⟩ (fun hHeld => ?_)
         clear hK K
         refine norm_ (a' := ?_) ?_ ?_
         rotate_left
         ·show Act.put _ (some 91) _ = _
          simp only [Act.put, List.setIfInBounds_toArray, List.set_cons_zero, List.set_cons_succ, i64_w, i32_w]
          rfl
         refine one_ (i := 4) (N := some 92) (bA 13 543) rfl rfl (one_of HT_.out (by kernel_rfl)) (by decide) (fun K hK => ?_)
         refine goes_ Try.func13 (by kernel_rfl) rfl #[.agg #[.int .i64 t245, .slice Ao26 t246.length co26, .slice Ao27 t249.length co27], .slice Ao44 t273.length co44] (by rfl) rfl rfl ls ?_
         with_reducible refine (spec_All.calls kj20 t245 (fun k_ => (((NB k_ u8 ∧ (k_ ≠ gb258 ∧ k_ ≠ gb272)) ∧ k_ ≠ gb289) ∧ NB k_ (.slice Ao44 t273.length co44))) _ _ t246 (fun k_ => (((NB k_ u8 ∧ (k_ ≠ gb258 ∧ k_ ≠ gb272)) ∧ k_ ≠ gb289) ∧ NB k_ (.slice Ao44 t273.length co44))) _ _ t249 _ _ t273 t276 t277 t280 t283 t286 _ ?side1 ?side2 ?side3 ?side4 A37.out).mono ?_
         (case side1 => exact HO_259001.out)
         (case side2 => exact HO_259002.out)
         (case side3 => repeat (first | exact (Kd.R_reads' HO275.out).2.2 | (with_reducible refine Kd.C_alloc ?_ _) | (with_reducible refine Kd.C_drewN ?_ _) | (with_reducible refine Kd.C_drew ?_)))
         (case side4 => exact (Kd.R_reads' HO275.out).2.1)
         rintro e w45 ⟨v278, v281, v284, v287, rfl, ho0, ho1, ho2, ho3, hb⟩
         refine ⟨_, rfl, ?_⟩
         replace HO_259001 := Aside0.mk (Kd.V_mono (Kd.V_told (Kd.V_told (Kd.V_old (uV HO_259001.out) hb) (Kd.R_base ho2)) (Kd.R_base ho3)) (fun _ h_ => h_.1))
         replace HO_259002 := Aside0.mk (Kd.V_mono (Kd.V_told (Kd.V_told (Kd.V_old (uV HO_259002.out) hb) (Kd.R_base ho2)) (Kd.R_base ho3)) (fun _ h_ => h_.1))
         replace HO_273001 := Aside0.mk (Kd.V_mono (Kd.V_told (Kd.V_told (Kd.V_old (uV HO_273001.out) hb) (Kd.R_base ho2)) (Kd.R_base ho3)) (fun _ h_ => h_.1))
         replace HO_273002 := Aside0.mk (Kd.V_mono (Kd.V_told (Kd.V_told (Kd.V_old (uV HO_273002.out) hb) (Kd.R_base ho2)) (Kd.R_base ho3)) (fun _ h_ => h_.1))
         have HO279 := Aside0.mk (Kd.V_lower (Kd.V_mono (ok' := fun k_ => NB k_ v284 ∧ NB k_ v287 ∧ NB k_ u8 ∧ NB k_ (.slice Ao44 t273.length co44) ∧ k_ ≠ gb258 ∧ k_ ≠ gb272 ∧ k_ ≠ gb289) ho0 (fun k_ hk_ => by first | exact ⟨hk_.2.1, hk_.2.2, Or.elim hk_.1 (fun hs_ => Or.elim hs_ (fun hs_ => hs_.1.1.1) (fun hs_ => hs_.1.1.1)) (fun hn_ => (Kd.fresh' (Kd.R_lt (uR HO_8.out)) k_ hn_)), Or.elim hk_.1 (fun hs_ => Or.elim hs_ (fun hs_ => hs_.2) (fun hs_ => hs_.2)) (fun hn_ => (Kd.fresh' (Kd.R_lt (uR HO275.out)) k_ hn_)), Or.elim hk_.1 (fun hs_ => Or.elim hs_ (fun hs_ => hs_.1.1.2.1) (fun hs_ => hs_.1.1.2.1)) (fun hn_ => (Kd.freshB (g := gb258) (o := .cells #[.int .i64 t245, .slice Ao26 t246.length co26, .slice Ao27 t249.length co27] 24 (0, 0)) (ub BK258.out) k_ hn_)), Or.elim hk_.1 (fun hs_ => Or.elim hs_ (fun hs_ => hs_.1.1.2.2) (fun hs_ => hs_.1.1.2.2)) (fun hn_ => (Kd.freshB (g := gb272) (o := .cells #[.int .i64 t259, .slice Ao34 t260.length co34, .slice Ao35 t263.length co35] 24 (0, 0)) (ub BK272.out) k_ hn_)), Or.elim hk_.1 (fun hs_ => Or.elim hs_ (fun hs_ => hs_.1.2) (fun hs_ => hs_.1.2)) (fun hn_ => (Kd.freshB (g := gb289) (o := .cells #[.int .i64 0, .slice none 0 0, .slice none 0 0] 24 (0, 0)) (ub BK289.out) k_ hn_))⟩ | grind)) (below_size (uB HB.out)))
         have HO282 := Aside0.mk (Kd.V_lower (Kd.V_mono (ok' := fun k_ => NB k_ v284 ∧ NB k_ v287 ∧ NB k_ u8 ∧ NB k_ (.slice Ao44 t273.length co44) ∧ k_ ≠ gb258 ∧ k_ ≠ gb272 ∧ k_ ≠ gb289) ho1 (fun k_ hk_ => by first | exact ⟨hk_.2.1, hk_.2.2, Or.elim hk_.1 (fun hs_ => Or.elim hs_ (fun hs_ => hs_.1.1.1) (fun hs_ => hs_.1.1.1)) (fun hn_ => (Kd.fresh' (Kd.R_lt (uR HO_8.out)) k_ hn_)), Or.elim hk_.1 (fun hs_ => Or.elim hs_ (fun hs_ => hs_.2) (fun hs_ => hs_.2)) (fun hn_ => (Kd.fresh' (Kd.R_lt (uR HO275.out)) k_ hn_)), Or.elim hk_.1 (fun hs_ => Or.elim hs_ (fun hs_ => hs_.1.1.2.1) (fun hs_ => hs_.1.1.2.1)) (fun hn_ => (Kd.freshB (g := gb258) (o := .cells #[.int .i64 t245, .slice Ao26 t246.length co26, .slice Ao27 t249.length co27] 24 (0, 0)) (ub BK258.out) k_ hn_)), Or.elim hk_.1 (fun hs_ => Or.elim hs_ (fun hs_ => hs_.1.1.2.2) (fun hs_ => hs_.1.1.2.2)) (fun hn_ => (Kd.freshB (g := gb272) (o := .cells #[.int .i64 t259, .slice Ao34 t260.length co34, .slice Ao35 t263.length co35] 24 (0, 0)) (ub BK272.out) k_ hn_)), Or.elim hk_.1 (fun hs_ => Or.elim hs_ (fun hs_ => hs_.1.2) (fun hs_ => hs_.1.2)) (fun hn_ => (Kd.freshB (g := gb289) (o := .cells #[.int .i64 0, .slice none 0 0, .slice none 0 0] 24 (0, 0)) (ub BK289.out) k_ hn_))⟩ | grind)) (below_size (uB HB.out)))
         replace HO275 := Aside0.mk (Kd.R_below (uR HO275.out) hb)
         have HO285 := Aside0.mk (Kd.R_lower (Kd.R_new' (Kd.R_mono (ok' := fun k_ => True) ho2 (fun _ hk_ => trivial)) (Kd.R_lt (uR HO_8.out))) (below_size (uB HB.out)))
         replace HO_8 := Aside0.mk (Kd.R_elder' (uR HO_8.out) (Kd.R_base ho2) hb)
         have HO288 := Aside0.mk (Kd.R_lower (Kd.R_mono (ok' := fun k_ => True) ho3 (fun _ hk_ => trivial)) (below_size (uB HB.out)))
         replace BK258 := Aside0.mk (blk_below (g := gb258) (o := .cells #[.int .i64 t245, .slice Ao26 t246.length co26, .slice Ao27 t249.length co27] 24 (0, 0)) (ub BK258.out) hb)
         replace BK272 := Aside0.mk (blk_below (g := gb272) (o := .cells #[.int .i64 t259, .slice Ao34 t260.length co34, .slice Ao35 t263.length co35] 24 (0, 0)) (ub BK272.out) hb)
         replace BK289 := Aside0.mk (blk_below (g := gb289) (o := .cells #[.int .i64 0, .slice none 0 0, .slice none 0 0] 24 (0, 0)) (ub BK289.out) hb)
         replace HB := Aside0.mk (below_step (uB HB.out) hb)
         (try clear hb)
         (try clear hb2)
         (try clear hk)
         (try clear hi)
         (try clear ho0)
         (try clear ho1)
         (try clear ho2)
         (try clear ho3)
         refine hK.out _ _ ⟨(blk_cell BK258.out 0).trans rfl, (blk_cell BK258.out 1).trans rfl, (blk_cell BK258.out 2).trans rfl⟩ (fun hHeld => ?_)
         clear hK K
         refine norm_ (a' := ?_) ?_ ?_
         rotate_left
         ·show Act.put _ (some 92) _ = _
          simp only [Act.put, List.setIfInBounds_toArray, List.set_cons_zero, List.set_cons_succ, i64_w, i32_w]
          rfl
         refine pu 5 87 13 575 HT_.out (h := ?_)
         refine pu 6 93 13 639 HT_.out (h := ?_)
         refine pu 7 94 13 767 HT_.out (h := ?_)
         refine pu 8 95 13 1023 HT_.out (h := ?_)
         exact norm_ (by simp only [putAll, Act.put, List.setIfInBounds_toArray, List.set_cons_zero, List.set_cons_succ]) (hCont (.slice Ao44 t273.length co44, v278, v281, v284, v287, gb289) _ ⟨hHeld, (uR HO275.out), (by refine pV ?_; exact Kd.V_mono HO279.out (fun _ hk => by grind)), (by refine pV ?_; exact Kd.V_mono HO282.out (fun _ hk => by grind)), (by refine pR ?_; exact Kd.R_mono HO285.out (fun _ hk => hk.2)), (uR HO288.out), (by refine pV ?_; exact Kd.V_mono HO_259001.out (fun _ hk => by grind)), (by refine pV ?_; exact Kd.V_mono HO_259002.out (fun _ hk => by grind)), (by refine pV ?_; exact Kd.V_mono HO_273001.out (fun _ hk => by grind)), (by refine pV ?_; exact Kd.V_mono HO_273002.out (fun _ hk => by grind)), (by refine pR ?_; exact Kd.R_mono HO_8.out (fun _ hk => hk.2)), (ub BK258.out), (ub BK272.out), (ub BK289.out), GW289.out, GE289.out, NB258_289.out, NB289_258.out, NB272_289.out, NB289_272.out, (uB HB.out)⟩)
       rintro ⟨v274, v278, v281, v284, v287, gb289⟩ w46 ⟨hS_, h0_, h1_, h2_, h3_, h4_, h5_, h6_, h7_, h8_, h9_, h10_, h11_, h12_, h13_, h14_, h15_, h16_, h17_, h18_, h19_⟩
       have n0_ : Aside0 (Kd.R k26 26 w46 w.heap.size (fun _ => True) v274 t273) := ⟨h0_⟩
       have n1_ : Aside0 (Kd.V (Kd.int .i64) 3 w46 w.heap.size (fun k_ => NB k_ v274 ∧ NB k_ v284 ∧ NB k_ v287 ∧ NB k_ u8 ∧ k_ ≠ gb258 ∧ k_ ≠ gb272 ∧ k_ ≠ gb289) v278 t277) := ⟨h1_⟩
       have n2_ : Aside0 (Kd.V (Kd.int .i64) 3 w46 w.heap.size (fun k_ => NB k_ v274 ∧ NB k_ v284 ∧ NB k_ v287 ∧ NB k_ u8 ∧ k_ ≠ gb258 ∧ k_ ≠ gb272 ∧ k_ ≠ gb289) v281 t280) := ⟨h2_⟩
       have n3_ : Aside0 (Kd.R (Kd.int .i64) 3 w46 w.heap.size (fun k_ => NB k_ u8) v284 t283) := ⟨h3_⟩
       have n4_ : Aside0 (Kd.R Kd.bool 4 w46 w.heap.size (fun _ => True) v287 t286) := ⟨h4_⟩
       have n5_ : Aside0 (Kd.V (Kd.int .i64) 3 w46 w.heap.size (fun k_ => NB k_ v274 ∧ NB k_ v284 ∧ NB k_ v287 ∧ NB k_ u8 ∧ k_ ≠ gb258 ∧ k_ ≠ gb272 ∧ k_ ≠ gb289) (.slice Ao26 t246.length co26) t246) := ⟨h5_⟩
       have n6_ : Aside0 (Kd.V (Kd.int .i64) 3 w46 w.heap.size (fun k_ => NB k_ v274 ∧ NB k_ v284 ∧ NB k_ v287 ∧ NB k_ u8 ∧ k_ ≠ gb258 ∧ k_ ≠ gb272 ∧ k_ ≠ gb289) (.slice Ao27 t249.length co27) t249) := ⟨h6_⟩
       have n7_ : Aside0 (Kd.V (Kd.int .i64) 3 w46 w.heap.size (fun k_ => NB k_ v274 ∧ NB k_ v284 ∧ NB k_ v287 ∧ NB k_ u8 ∧ k_ ≠ gb258 ∧ k_ ≠ gb272 ∧ k_ ≠ gb289) (.slice Ao34 t260.length co34) t260) := ⟨h7_⟩
       have n8_ : Aside0 (Kd.V (Kd.int .i64) 3 w46 w.heap.size (fun k_ => NB k_ v274 ∧ NB k_ v284 ∧ NB k_ v287 ∧ NB k_ u8 ∧ k_ ≠ gb258 ∧ k_ ≠ gb272 ∧ k_ ≠ gb289) (.slice Ao35 t263.length co35) t263) := ⟨h8_⟩
       have n9_ : Aside0 (Kd.R (Kd.int .i64) 3 w46 w.heap.size (fun k_ => NB k_ v284) u8 x8_2) := ⟨h9_⟩
       have n10_ : Aside0 (w46.heap[gb258]? = some (.cells #[.int .i64 t245, .slice Ao26 t246.length co26, .slice Ao27 t249.length co27] 24 (0, 0))) := ⟨h10_⟩
       have n11_ : Aside0 (w46.heap[gb272]? = some (.cells #[.int .i64 t259, .slice Ao34 t260.length co34, .slice Ao35 t263.length co35] 24 (0, 0))) := ⟨h11_⟩
       have n12_ : Aside0 (w46.heap[gb289]? = some (.cells #[.int .i64 0, .slice none 0 0, .slice none 0 0] 24 (0, 0))) := ⟨h12_⟩
       have n13_ : Aside0 (w.heap.size ≤ gb289) := ⟨h13_⟩
       have n14_ : Aside0 (w.heap.size ≤ gb289) := ⟨h14_⟩
       have n15_ : Aside0 (gb258 ≠ gb289) := ⟨h15_⟩
       have n16_ : Aside0 (gb289 ≠ gb258) := ⟨h16_⟩
       have n17_ : Aside0 (gb272 ≠ gb289) := ⟨h17_⟩
       have n18_ : Aside0 (gb289 ≠ gb272) := ⟨h18_⟩
       have n19_ : Aside0 (Below w.heap.size w w46) := ⟨h19_⟩
       clear HO_8 HO_259001 HO_259002 HO_273001 HO_273002 BK258 BK272 HB h0_ h1_ h2_ h3_ h4_ h5_ h6_ h7_ h8_ h9_ h10_ h11_ h12_ h13_ h14_ h15_ h16_ h17_ h18_ h19_
       have HO275 := n0_
       have HO279 := n1_
       have HO282 := n2_
       have HO285 := n3_
       have HO288 := n4_
       have HO_259001 := n5_
       have HO_259002 := n6_
       have HO_273001 := n7_
       have HO_273002 := n8_
       have HO_8 := n9_
       have BK258 := n10_
       have BK272 := n11_
       have BK289 := n12_
       have GW289 := n13_
       have GE289 := n14_
       have NB258_289 := n15_
       have NB289_258 := n16_
       have NB272_289 := n17_
       have NB289_272 := n18_
       have HB := n19_
       clear n0_ n1_ n2_ n3_ n4_ n5_ n6_ n7_ n8_ n9_ n10_ n11_ n12_ n13_ n14_ n15_ n16_ n17_ n18_ n19_
       have hHeld : w46.cell? ⟨gb258, 0, none⟩ = some (.int .i64 t245) ∧ w46.cell? ⟨gb258, 1, none⟩ = some (.slice Ao26 t246.length co26) ∧ w46.cell? ⟨gb258, 2, none⟩ = some (.slice Ao27 t249.length co27) := hS_
       obtain ⟨Ao48, co48, eo48⟩ := Kd.V_slice HO279.out
       (first | subst eo48 | (injection eo48 with f1_ f2_ f3_; have f4_ := f1_.symm; have f5_ := f3_.symm; clear f1_ f2_ f3_; subst f4_; subst f5_))
       obtain ⟨Ao50, co50, eo50⟩ := Kd.V_slice HO282.out
       (first | subst eo50 | (injection eo50 with f1_ f2_ f3_; have f4_ := f1_.symm; have f5_ := f3_.symm; clear f1_ f2_ f3_; subst f4_; subst f5_))
       refine norm_ (a' := ?_) ?_ ?_
       rotate_left
       ·simp only [putAll, Act.put, List.setIfInBounds_toArray, List.set_cons_zero, List.set_cons_succ]
        rfl
       refine one_ (i := 10) (N := none) (bA 13 2047) rfl rfl (one_of HT_.out (by kernel_rfl)) (by decide) (fun K hK => ?_)
       have hs47 : w46.cell? ⟨gb289, 0, none⟩ = some (.int .i64 0) := (blk_cell BK289.out 0).trans rfl
       have hfs47 := blk_frozen BK289.out 0
       have hns47_0 := NB258_289.out
       have hns47_1 := NB272_289.out
       have hms47_0 := NB289_258.out
       have hms47_1 := NB289_272.out
       have hs49 : w46.cell? ⟨gb289, 1, none⟩ = some (.slice none 0 0) := (blk_cell BK289.out 1).trans rfl
       have hfs49 := blk_frozen BK289.out 1
       have hns49_0 := NB258_289.out
       have hns49_1 := NB272_289.out
       have hms49_0 := NB289_258.out
       have hms49_1 := NB289_272.out
       have hs51 : w46.cell? ⟨gb289, 2, none⟩ = some (.slice none 0 0) := (blk_cell BK289.out 2).trans rfl
       have hfs51 := blk_frozen BK289.out 2
       have hns51_0 := NB258_289.out
       have hns51_1 := NB272_289.out
       have hms51_0 := NB289_258.out
       have hms51_1 := NB289_272.out
       refine skip_ (w1 := ?_) (by rfl) rfl ?_ ?_
       rotate_left
       ·go_simp
        rfl
       refine hK.out _ _ ⟨((cell_far (p := ⟨gb289, _, none⟩) NB258_289.out _).trans (((cell_far (p := ⟨gb289, _, none⟩) NB258_289.out _).trans (((cell_far (p := ⟨gb289, _, none⟩) NB258_289.out _).trans (hHeld.1)))))), ((cell_far (p := ⟨gb289, _, none⟩) NB258_289.out _).trans (((cell_far (p := ⟨gb289, _, none⟩) NB258_289.out _).trans (((cell_far (p := ⟨gb289, _, none⟩) NB258_289.out _).trans (hHeld.2.1)))))), ((cell_far (p := ⟨gb289, _, none⟩) NB258_289.out _).trans (((cell_far (p := ⟨gb289, _, none⟩) NB258_289.out _).trans (((cell_far (p := ⟨gb289, _, none⟩) NB258_289.out _).trans (hHeld.2.2))))))⟩ (fun hHeld => ?_)
       clear hK K
       refine pu 11 18 13 4095 HT_.out (h := ?_)
       refine pu 12 19 13 8191 HT_.out (h := ?_)
       refine done_ (done_of HT_.out (by kernel_rfl)) ?_
       try go_wp2
       have n0_ : Aside0 (Kd.R (Kd.int .i64) 3 (((w46.setCell ⟨gb289, 0, none⟩ (.int .i64 t276)).setCell ⟨gb289, 1, none⟩ (.slice Ao48 t277.length co48)).setCell ⟨gb289, 2, none⟩ (.slice Ao50 t280.length co50)) w.heap.size (fun k_ => NB k_ v284) u8 x8_2) := ⟨by refine pR ?_; exact Kd.R_mono (Kd.R_far (p := ⟨gb289, 2, none⟩) (Kd.R_far (p := ⟨gb289, 1, none⟩) (Kd.R_far (p := ⟨gb289, 0, none⟩) (Kd.R_types HO_8.out BK289.out (by decide)) (fun _ hk => hk.2) (.int .i64 t276)) (fun _ hk => hk.2) (.slice Ao48 t277.length co48)) (fun _ hk => hk.2) (.slice Ao50 t280.length co50)) (fun _ hk => hk.1)⟩
       have n1_ : Aside0 (Kd.V (Kd.int .i64) 3 (((w46.setCell ⟨gb289, 0, none⟩ (.int .i64 t276)).setCell ⟨gb289, 1, none⟩ (.slice Ao48 t277.length co48)).setCell ⟨gb289, 2, none⟩ (.slice Ao50 t280.length co50)) w.heap.size (fun k_ => NB k_ u8 ∧ NB k_ v274 ∧ NB k_ v284 ∧ NB k_ v287 ∧ k_ ≠ gb258 ∧ k_ ≠ gb272 ∧ k_ ≠ gb289) (.slice Ao26 t246.length co26) t246) := ⟨by refine pV ?_; exact Kd.V_mono (Kd.V_far (p := ⟨gb289, 2, none⟩) (Kd.V_far (p := ⟨gb289, 1, none⟩) (Kd.V_far (p := ⟨gb289, 0, none⟩) (Kd.V_mono HO_259001.out (fun k_ hk => (⟨hk, hk.2.2.2.2.2.2⟩ : _ ∧ k_ ≠ gb289))) (fun _ hk => hk.2) (.int .i64 t276)) (fun _ hk => hk.2) (.slice Ao48 t277.length co48)) (fun _ hk => hk.2) (.slice Ao50 t280.length co50)) (fun _ hk => by grind)⟩
       have n2_ : Aside0 (Kd.V (Kd.int .i64) 3 (((w46.setCell ⟨gb289, 0, none⟩ (.int .i64 t276)).setCell ⟨gb289, 1, none⟩ (.slice Ao48 t277.length co48)).setCell ⟨gb289, 2, none⟩ (.slice Ao50 t280.length co50)) w.heap.size (fun k_ => NB k_ u8 ∧ NB k_ v274 ∧ NB k_ v284 ∧ NB k_ v287 ∧ k_ ≠ gb258 ∧ k_ ≠ gb272 ∧ k_ ≠ gb289) (.slice Ao27 t249.length co27) t249) := ⟨by refine pV ?_; exact Kd.V_mono (Kd.V_far (p := ⟨gb289, 2, none⟩) (Kd.V_far (p := ⟨gb289, 1, none⟩) (Kd.V_far (p := ⟨gb289, 0, none⟩) (Kd.V_mono HO_259002.out (fun k_ hk => (⟨hk, hk.2.2.2.2.2.2⟩ : _ ∧ k_ ≠ gb289))) (fun _ hk => hk.2) (.int .i64 t276)) (fun _ hk => hk.2) (.slice Ao48 t277.length co48)) (fun _ hk => hk.2) (.slice Ao50 t280.length co50)) (fun _ hk => by grind)⟩
       have n3_ : Aside0 (Kd.V (Kd.int .i64) 3 (((w46.setCell ⟨gb289, 0, none⟩ (.int .i64 t276)).setCell ⟨gb289, 1, none⟩ (.slice Ao48 t277.length co48)).setCell ⟨gb289, 2, none⟩ (.slice Ao50 t280.length co50)) w.heap.size (fun k_ => NB k_ u8 ∧ NB k_ v274 ∧ NB k_ v284 ∧ NB k_ v287 ∧ k_ ≠ gb258 ∧ k_ ≠ gb272 ∧ k_ ≠ gb289) (.slice Ao34 t260.length co34) t260) := ⟨by refine pV ?_; exact Kd.V_mono (Kd.V_far (p := ⟨gb289, 2, none⟩) (Kd.V_far (p := ⟨gb289, 1, none⟩) (Kd.V_far (p := ⟨gb289, 0, none⟩) (Kd.V_mono HO_273001.out (fun k_ hk => (⟨hk, hk.2.2.2.2.2.2⟩ : _ ∧ k_ ≠ gb289))) (fun _ hk => hk.2) (.int .i64 t276)) (fun _ hk => hk.2) (.slice Ao48 t277.length co48)) (fun _ hk => hk.2) (.slice Ao50 t280.length co50)) (fun _ hk => by grind)⟩
       have n4_ : Aside0 (Kd.V (Kd.int .i64) 3 (((w46.setCell ⟨gb289, 0, none⟩ (.int .i64 t276)).setCell ⟨gb289, 1, none⟩ (.slice Ao48 t277.length co48)).setCell ⟨gb289, 2, none⟩ (.slice Ao50 t280.length co50)) w.heap.size (fun k_ => NB k_ u8 ∧ NB k_ v274 ∧ NB k_ v284 ∧ NB k_ v287 ∧ k_ ≠ gb258 ∧ k_ ≠ gb272 ∧ k_ ≠ gb289) (.slice Ao35 t263.length co35) t263) := ⟨by refine pV ?_; exact Kd.V_mono (Kd.V_far (p := ⟨gb289, 2, none⟩) (Kd.V_far (p := ⟨gb289, 1, none⟩) (Kd.V_far (p := ⟨gb289, 0, none⟩) (Kd.V_mono HO_273002.out (fun k_ hk => (⟨hk, hk.2.2.2.2.2.2⟩ : _ ∧ k_ ≠ gb289))) (fun _ hk => hk.2) (.int .i64 t276)) (fun _ hk => hk.2) (.slice Ao48 t277.length co48)) (fun _ hk => hk.2) (.slice Ao50 t280.length co50)) (fun _ hk => by grind)⟩
       have n5_ : Aside0 (Kd.R k26 26 (((w46.setCell ⟨gb289, 0, none⟩ (.int .i64 t276)).setCell ⟨gb289, 1, none⟩ (.slice Ao48 t277.length co48)).setCell ⟨gb289, 2, none⟩ (.slice Ao50 t280.length co50)) w.heap.size (fun _ => True) v274 t273) := ⟨by refine pR ?_; exact Kd.R_mono (Kd.R_far (p := ⟨gb289, 2, none⟩) (Kd.R_far (p := ⟨gb289, 1, none⟩) (Kd.R_far (p := ⟨gb289, 0, none⟩) (Kd.R_types HO275.out BK289.out (by decide)) (fun _ hk => hk.2) (.int .i64 t276)) (fun _ hk => hk.2) (.slice Ao48 t277.length co48)) (fun _ hk => hk.2) (.slice Ao50 t280.length co50)) (fun _ hk => trivial)⟩
       have n6_ : Aside0 (Kd.V (Kd.int .i64) 3 (((w46.setCell ⟨gb289, 0, none⟩ (.int .i64 t276)).setCell ⟨gb289, 1, none⟩ (.slice Ao48 t277.length co48)).setCell ⟨gb289, 2, none⟩ (.slice Ao50 t280.length co50)) w.heap.size (fun k_ => NB k_ u8 ∧ NB k_ v274 ∧ NB k_ v284 ∧ NB k_ v287 ∧ k_ ≠ gb258 ∧ k_ ≠ gb272 ∧ k_ ≠ gb289) (.slice Ao48 t277.length co48) t277) := ⟨by refine pV ?_; exact Kd.V_mono (Kd.V_far (p := ⟨gb289, 2, none⟩) (Kd.V_far (p := ⟨gb289, 1, none⟩) (Kd.V_far (p := ⟨gb289, 0, none⟩) (Kd.V_mono HO279.out (fun k_ hk => (⟨hk, hk.2.2.2.2.2.2⟩ : _ ∧ k_ ≠ gb289))) (fun _ hk => hk.2) (.int .i64 t276)) (fun _ hk => hk.2) (.slice Ao48 t277.length co48)) (fun _ hk => hk.2) (.slice Ao50 t280.length co50)) (fun _ hk => by grind)⟩
       have n7_ : Aside0 (Kd.V (Kd.int .i64) 3 (((w46.setCell ⟨gb289, 0, none⟩ (.int .i64 t276)).setCell ⟨gb289, 1, none⟩ (.slice Ao48 t277.length co48)).setCell ⟨gb289, 2, none⟩ (.slice Ao50 t280.length co50)) w.heap.size (fun k_ => NB k_ u8 ∧ NB k_ v274 ∧ NB k_ v284 ∧ NB k_ v287 ∧ k_ ≠ gb258 ∧ k_ ≠ gb272 ∧ k_ ≠ gb289) (.slice Ao50 t280.length co50) t280) := ⟨by refine pV ?_; exact Kd.V_mono (Kd.V_far (p := ⟨gb289, 2, none⟩) (Kd.V_far (p := ⟨gb289, 1, none⟩) (Kd.V_far (p := ⟨gb289, 0, none⟩) (Kd.V_mono HO282.out (fun k_ hk => (⟨hk, hk.2.2.2.2.2.2⟩ : _ ∧ k_ ≠ gb289))) (fun _ hk => hk.2) (.int .i64 t276)) (fun _ hk => hk.2) (.slice Ao48 t277.length co48)) (fun _ hk => hk.2) (.slice Ao50 t280.length co50)) (fun _ hk => by grind)⟩
       have n8_ : Aside0 (Kd.R (Kd.int .i64) 3 (((w46.setCell ⟨gb289, 0, none⟩ (.int .i64 t276)).setCell ⟨gb289, 1, none⟩ (.slice Ao48 t277.length co48)).setCell ⟨gb289, 2, none⟩ (.slice Ao50 t280.length co50)) w.heap.size (fun k_ => NB k_ u8) v284 t283) := ⟨by refine pR ?_; exact Kd.R_mono (Kd.R_far (p := ⟨gb289, 2, none⟩) (Kd.R_far (p := ⟨gb289, 1, none⟩) (Kd.R_far (p := ⟨gb289, 0, none⟩) (Kd.R_types HO285.out BK289.out (by decide)) (fun _ hk => hk.2) (.int .i64 t276)) (fun _ hk => hk.2) (.slice Ao48 t277.length co48)) (fun _ hk => hk.2) (.slice Ao50 t280.length co50)) (fun _ hk => hk.1)⟩
       have n9_ : Aside0 (Kd.R Kd.bool 4 (((w46.setCell ⟨gb289, 0, none⟩ (.int .i64 t276)).setCell ⟨gb289, 1, none⟩ (.slice Ao48 t277.length co48)).setCell ⟨gb289, 2, none⟩ (.slice Ao50 t280.length co50)) w.heap.size (fun _ => True) v287 t286) := ⟨by refine pR ?_; exact Kd.R_mono (Kd.R_far (p := ⟨gb289, 2, none⟩) (Kd.R_far (p := ⟨gb289, 1, none⟩) (Kd.R_far (p := ⟨gb289, 0, none⟩) (Kd.R_types HO288.out BK289.out (by decide)) (fun _ hk => hk.2) (.int .i64 t276)) (fun _ hk => hk.2) (.slice Ao48 t277.length co48)) (fun _ hk => hk.2) (.slice Ao50 t280.length co50)) (fun _ hk => trivial)⟩
       have n10_ : Aside0 ((((w46.setCell ⟨gb289, 0, none⟩ (.int .i64 t276)).setCell ⟨gb289, 1, none⟩ (.slice Ao48 t277.length co48)).setCell ⟨gb289, 2, none⟩ (.slice Ao50 t280.length co50)).heap[gb258]? = some (.cells #[.int .i64 t245, .slice Ao26 t246.length co26, .slice Ao27 t249.length co27] 24 (0, 0))) := ⟨by (with_reducible repeat (first | refine blk_drewN ?_ _ | refine blk_drew ?_ | refine blk_alloc ?_ _)); refine blk_far ?_ NB258_289.out _; (with_reducible repeat (first | refine blk_drewN ?_ _ | refine blk_drew ?_ | refine blk_alloc ?_ _)); refine blk_far ?_ NB258_289.out _; (with_reducible repeat (first | refine blk_drewN ?_ _ | refine blk_drew ?_ | refine blk_alloc ?_ _)); refine blk_far ?_ NB258_289.out _; refine pb ?_; exact BK258.out⟩
       have n11_ : Aside0 ((((w46.setCell ⟨gb289, 0, none⟩ (.int .i64 t276)).setCell ⟨gb289, 1, none⟩ (.slice Ao48 t277.length co48)).setCell ⟨gb289, 2, none⟩ (.slice Ao50 t280.length co50)).heap[gb272]? = some (.cells #[.int .i64 t259, .slice Ao34 t260.length co34, .slice Ao35 t263.length co35] 24 (0, 0))) := ⟨by (with_reducible repeat (first | refine blk_drewN ?_ _ | refine blk_drew ?_ | refine blk_alloc ?_ _)); refine blk_far ?_ NB272_289.out _; (with_reducible repeat (first | refine blk_drewN ?_ _ | refine blk_drew ?_ | refine blk_alloc ?_ _)); refine blk_far ?_ NB272_289.out _; (with_reducible repeat (first | refine blk_drewN ?_ _ | refine blk_drew ?_ | refine blk_alloc ?_ _)); refine blk_far ?_ NB272_289.out _; refine pb ?_; exact BK272.out⟩
       have n12_ : Aside0 ((((w46.setCell ⟨gb289, 0, none⟩ (.int .i64 t276)).setCell ⟨gb289, 1, none⟩ (.slice Ao48 t277.length co48)).setCell ⟨gb289, 2, none⟩ (.slice Ao50 t280.length co50)).heap[gb289]? = some (.cells #[.int .i64 t276, .slice Ao48 t277.length co48, .slice Ao50 t280.length co50] 24 (0, 0))) := ⟨by (with_reducible repeat (first | refine blk_drewN ?_ _ | refine blk_drew ?_ | refine blk_alloc ?_ _)); refine blk_put (cs := #[.int .i64 t276, .slice Ao48 t277.length co48, .slice none 0 0]) ?_ 2 _ rfl; (with_reducible repeat (first | refine blk_drewN ?_ _ | refine blk_drew ?_ | refine blk_alloc ?_ _)); refine blk_put (cs := #[.int .i64 t276, .slice none 0 0, .slice none 0 0]) ?_ 1 _ rfl; (with_reducible repeat (first | refine blk_drewN ?_ _ | refine blk_drew ?_ | refine blk_alloc ?_ _)); refine blk_put (cs := #[.int .i64 0, .slice none 0 0, .slice none 0 0]) ?_ 0 _ rfl; refine pb ?_; exact BK289.out⟩
       have n13_ : Aside0 (Below w.heap.size w (((w46.setCell ⟨gb289, 0, none⟩ (.int .i64 t276)).setCell ⟨gb289, 1, none⟩ (.slice Ao48 t277.length co48)).setCell ⟨gb289, 2, none⟩ (.slice Ao50 t280.length co50))) := ⟨uB HB.out⟩
       (try clear HO_8)
       (try clear HO_259001)
       (try clear HO_259002)
       (try clear HO_273001)
       (try clear HO_273002)
       (try clear HO275)
       (try clear HO279)
       (try clear HO282)
       (try clear HO285)
       (try clear HO288)
       (try clear BK258)
       (try clear BK272)
       (try clear BK289)
       (try clear HB)
       generalize (((w46.setCell ⟨gb289, 0, none⟩ (.int .i64 t276)).setCell ⟨gb289, 1, none⟩ (.slice Ao48 t277.length co48)).setCell ⟨gb289, 2, none⟩ (.slice Ao50 t280.length co50)) = w52 at n0_ n1_ n2_ n3_ n4_ n5_ n6_ n7_ n8_ n9_ n10_ n11_ n12_ n13_ ⊢
       have HO_8 := n0_
       have HO_259001 := n1_
       have HO_259002 := n2_
       have HO_273001 := n3_
       have HO_273002 := n4_
       have HO275 := n5_
       have HO279 := n6_
       have HO282 := n7_
       have HO285 := n8_
       have HO288 := n9_
       have BK258 := n10_
       have BK272 := n11_
       have BK289 := n12_
       have HB := n13_
       clear n0_ n1_ n2_ n3_ n4_ n5_ n6_ n7_ n8_ n9_ n10_ n11_ n12_ n13_
       replace HO_8 := Aside0.mk (Kd.R_drew HO_8.out)
       replace HO_259001 := Aside0.mk (Kd.V_drew HO_259001.out)
       replace HO_259002 := Aside0.mk (Kd.V_drew HO_259002.out)
       replace HO_273001 := Aside0.mk (Kd.V_drew HO_273001.out)
       replace HO_273002 := Aside0.mk (Kd.V_drew HO_273002.out)
       replace HO275 := Aside0.mk (Kd.R_drew HO275.out)
       replace HO279 := Aside0.mk (Kd.V_drew HO279.out)
       replace HO282 := Aside0.mk (Kd.V_drew HO282.out)
       replace HO285 := Aside0.mk (Kd.R_drew HO285.out)
       replace HO288 := Aside0.mk (Kd.R_drew HO288.out)
       replace BK258 := Aside0.mk (blk_drew BK258.out)
       replace BK272 := Aside0.mk (blk_drew BK272.out)
       replace BK289 := Aside0.mk (blk_drew BK289.out)
       replace HB := Aside0.mk (below_drew1 HB.out)
       refine start_ (n := 13) (S := fun w' => w'.cell? ⟨gb272, 0, none⟩ = some (.int .i64 t259) ∧ w'.cell? ⟨gb272, 1, none⟩ = some (.slice Ao34 t260.length co34) ∧ w'.cell? ⟨gb272, 2, none⟩ = some (.slice Ao35 t263.length co35)) (ds := []) (bA 13 0) (by kernel_rfl) rfl (by kernel_rfl) ⟨(blk_cell BK272.out 0).trans rfl, (blk_cell BK272.out 1).trans rfl, (blk_cell BK272.out 2).trans rfl⟩ (fun hHeld => ?_); refine with_tabW underwoodlaw09_SpecLast.tab17 underwoodlaw09_SpecLast.bits17 (fun HT_ HW_ => ?_)
       generalize w52.drew = w53 at HO_8 HO_259001 HO_259002 HO_273001 HO_273002 HO275 HO279 HO282 HO285 HO288 BK258 BK272 BK289 HB hHeld ⊢
       refine pu 1 98 13 2 HT_.out (h := ?_)
       refine pu 2 99 13 6 HT_.out (h := ?_)
       refine tk 0 97 13 7 HT_.out HW_.out hHeld (hy := by rintro w' ⟨s0, s1, s2⟩; go_simp; with_reducible rfl) (h := ?_)
       refine join_ (σ := Value × Value × Value × Value × Value × Nat) 3 (bA 13 1023) (fun s_ => [(100, s_.1), (101, .tuple #[.agg #[.int .i64 t293, s_.2.1, s_.2.2.1], s_.2.2.2.1, s_.2.2.2.2.1]), (20, .pointer (some ⟨s_.2.2.2.2.2, 0, none⟩)), (96, .tuple #[.agg #[.int .i64 t293, s_.2.1, s_.2.2.1], s_.2.2.2.1, s_.2.2.2.2.1]), (102, .agg #[.int .i64 t293, s_.2.1, s_.2.2.1]), (103, s_.2.2.2.1), (104, s_.2.2.2.2.1)]) (fun s_ w' => (w'.cell? ⟨gb272, 0, none⟩ = some (.int .i64 t259) ∧ w'.cell? ⟨gb272, 1, none⟩ = some (.slice Ao34 t260.length co34) ∧ w'.cell? ⟨gb272, 2, none⟩ = some (.slice Ao35 t263.length co35)) ∧ (Kd.R k26 26 w' w.heap.size (fun k_ => NB k_ s_.1) v274 t273) ∧ (Kd.V (Kd.int .i64) 3 w' w.heap.size (fun k_ => NB k_ v274 ∧ NB k_ v284 ∧ NB k_ v287 ∧ NB k_ s_.1 ∧ NB k_ s_.2.2.2.1 ∧ NB k_ s_.2.2.2.2.1 ∧ NB k_ u8 ∧ k_ ≠ gb258 ∧ k_ ≠ gb272 ∧ k_ ≠ gb289 ∧ k_ ≠ s_.2.2.2.2.2) (.slice Ao48 t277.length co48) t277) ∧ (Kd.V (Kd.int .i64) 3 w' w.heap.size (fun k_ => NB k_ v274 ∧ NB k_ v284 ∧ NB k_ v287 ∧ NB k_ s_.1 ∧ NB k_ s_.2.2.2.1 ∧ NB k_ s_.2.2.2.2.1 ∧ NB k_ u8 ∧ k_ ≠ gb258 ∧ k_ ≠ gb272 ∧ k_ ≠ gb289 ∧ k_ ≠ s_.2.2.2.2.2) (.slice Ao50 t280.length co50) t280) ∧ (Kd.R (Kd.int .i64) 3 w' w.heap.size (fun k_ => NB k_ s_.2.2.2.1 ∧ NB k_ u8) v284 t283) ∧ (Kd.R Kd.bool 4 w' w.heap.size (fun k_ => NB k_ s_.2.2.2.2.1) v287 t286) ∧ (Kd.R k26 26 w' w.heap.size (fun k_ => NB k_ v274) s_.1 t290) ∧ (Kd.V (Kd.int .i64) 3 w' w.heap.size (fun k_ => NB k_ v274 ∧ NB k_ v284 ∧ NB k_ v287 ∧ NB k_ s_.1 ∧ NB k_ s_.2.2.2.1 ∧ NB k_ s_.2.2.2.2.1 ∧ NB k_ u8 ∧ k_ ≠ gb258 ∧ k_ ≠ gb272 ∧ k_ ≠ gb289 ∧ k_ ≠ s_.2.2.2.2.2) s_.2.1 t294) ∧ (Kd.V (Kd.int .i64) 3 w' w.heap.size (fun k_ => NB k_ v274 ∧ NB k_ v284 ∧ NB k_ v287 ∧ NB k_ s_.1 ∧ NB k_ s_.2.2.2.1 ∧ NB k_ s_.2.2.2.2.1 ∧ NB k_ u8 ∧ k_ ≠ gb258 ∧ k_ ≠ gb272 ∧ k_ ≠ gb289 ∧ k_ ≠ s_.2.2.2.2.2) s_.2.2.1 t297) ∧ (Kd.R (Kd.int .i64) 3 w' w.heap.size (fun k_ => NB k_ v284 ∧ NB k_ u8) s_.2.2.2.1 t300) ∧ (Kd.R Kd.bool 4 w' w.heap.size (fun k_ => NB k_ v287) s_.2.2.2.2.1 t303) ∧ (Kd.V (Kd.int .i64) 3 w' w.heap.size (fun k_ => NB k_ v274 ∧ NB k_ v284 ∧ NB k_ v287 ∧ NB k_ s_.1 ∧ NB k_ s_.2.2.2.1 ∧ NB k_ s_.2.2.2.2.1 ∧ NB k_ u8 ∧ k_ ≠ gb258 ∧ k_ ≠ gb272 ∧ k_ ≠ gb289 ∧ k_ ≠ s_.2.2.2.2.2) (.slice Ao26 t246.length co26) t246) ∧ (Kd.V (Kd.int .i64) 3 w' w.heap.size (fun k_ => NB k_ v274 ∧ NB k_ v284 ∧ NB k_ v287 ∧ NB k_ s_.1 ∧ NB k_ s_.2.2.2.1 ∧ NB k_ s_.2.2.2.2.1 ∧ NB k_ u8 ∧ k_ ≠ gb258 ∧ k_ ≠ gb272 ∧ k_ ≠ gb289 ∧ k_ ≠ s_.2.2.2.2.2) (.slice Ao27 t249.length co27) t249) ∧ (Kd.V (Kd.int .i64) 3 w' w.heap.size (fun k_ => NB k_ v274 ∧ NB k_ v284 ∧ NB k_ v287 ∧ NB k_ s_.1 ∧ NB k_ s_.2.2.2.1 ∧ NB k_ s_.2.2.2.2.1 ∧ NB k_ u8 ∧ k_ ≠ gb258 ∧ k_ ≠ gb272 ∧ k_ ≠ gb289 ∧ k_ ≠ s_.2.2.2.2.2) (.slice Ao34 t260.length co34) t260) ∧ (Kd.V (Kd.int .i64) 3 w' w.heap.size (fun k_ => NB k_ v274 ∧ NB k_ v284 ∧ NB k_ v287 ∧ NB k_ s_.1 ∧ NB k_ s_.2.2.2.1 ∧ NB k_ s_.2.2.2.2.1 ∧ NB k_ u8 ∧ k_ ≠ gb258 ∧ k_ ≠ gb272 ∧ k_ ≠ gb289 ∧ k_ ≠ s_.2.2.2.2.2) (.slice Ao35 t263.length co35) t263) ∧ (Kd.R (Kd.int .i64) 3 w' w.heap.size (fun k_ => NB k_ v284 ∧ NB k_ s_.2.2.2.1) u8 x8_2) ∧ (w'.heap[gb258]? = some (.cells #[.int .i64 t245, .slice Ao26 t246.length co26, .slice Ao27 t249.length co27] 24 (0, 0))) ∧ (w'.heap[gb272]? = some (.cells #[.int .i64 t259, .slice Ao34 t260.length co34, .slice Ao35 t263.length co35] 24 (0, 0))) ∧ (w'.heap[gb289]? = some (.cells #[.int .i64 t276, .slice Ao48 t277.length co48, .slice Ao50 t280.length co50] 24 (0, 0))) ∧ (w'.heap[s_.2.2.2.2.2]? = some (.cells #[.int .i64 0, .slice none 0 0, .slice none 0 0] 24 (0, 0))) ∧ (w.heap.size ≤ s_.2.2.2.2.2) ∧ (w.heap.size ≤ s_.2.2.2.2.2) ∧ (gb258 ≠ s_.2.2.2.2.2) ∧ (s_.2.2.2.2.2 ≠ gb258) ∧ (gb272 ≠ s_.2.2.2.2.2) ∧ (s_.2.2.2.2.2 ≠ gb272) ∧ (gb289 ≠ s_.2.2.2.2.2) ∧ (s_.2.2.2.2.2 ≠ gb289) ∧ (Below w.heap.size w w')) ?_ ?_
       rotate_left
       ·intro hCont
        refine two_ (i := 3) (j := 9) (Ni := some 100) (Nj := some 20) (bA 13 15) (bA 13 519) rfl rfl rfl rfl (two_of HT_.out (by kernel_rfl)) (by decide) (by decide) (fun K hK => ?_) (fun K hK => ?_)
        ·skip
         refine goes_ Try.func14 (by kernel_rfl) rfl #[.int .i64 7, .int .i64 (wrap64 (x16_20 + 1))] (by rfl) rfl rfl ls ?_
         with_reducible refine (underwoodlaw09_takes.calls kj20 7 (wrap64 (x16_20 + 1)) t290 _ A38.out).mono ?_
         rintro e w54 ⟨v291, rfl, ho0, hb⟩
         refine ⟨_, rfl, ?_⟩
         replace HO_8 := Aside0.mk (Kd.R_below (uR HO_8.out) hb)
         replace HO_259001 := Aside0.mk (Kd.V_elder' (uV HO_259001.out) (Kd.R_base ho0) hb)
         replace HO_259002 := Aside0.mk (Kd.V_elder' (uV HO_259002.out) (Kd.R_base ho0) hb)
         replace HO_273001 := Aside0.mk (Kd.V_elder' (uV HO_273001.out) (Kd.R_base ho0) hb)
         replace HO_273002 := Aside0.mk (Kd.V_elder' (uV HO_273002.out) (Kd.R_base ho0) hb)
         replace HO279 := Aside0.mk (Kd.V_elder' (uV HO279.out) (Kd.R_base ho0) hb)
         replace HO282 := Aside0.mk (Kd.V_elder' (uV HO282.out) (Kd.R_base ho0) hb)
         replace HO285 := Aside0.mk (Kd.R_below (uR HO285.out) hb)
         replace HO288 := Aside0.mk (Kd.R_below (uR HO288.out) hb)
         have HO292 := Aside0.mk (Kd.R_lower (Kd.R_new' ho0 (Kd.R_lt (uR HO275.out))) (below_size (uB HB.out)))
         replace HO275 := Aside0.mk (Kd.R_elder' (uR HO275.out) (Kd.R_base ho0) hb)
         replace BK258 := Aside0.mk (blk_below (g := gb258) (o := .cells #[.int .i64 t245, .slice Ao26 t246.length co26, .slice Ao27 t249.length co27] 24 (0, 0)) (ub BK258.out) hb)
         replace BK272 := Aside0.mk (blk_below (g := gb272) (o := .cells #[.int .i64 t259, .slice Ao34 t260.length co34, .slice Ao35 t263.length co35] 24 (0, 0)) (ub BK272.out) hb)
         replace BK289 := Aside0.mk (blk_below (g := gb289) (o := .cells #[.int .i64 t276, .slice Ao48 t277.length co48, .slice Ao50 t280.length co50] 24 (0, 0)) (ub BK289.out) hb)
         replace HB := Aside0.mk (below_step (uB HB.out) hb)
         (try clear hb)
         (try clear hb2)
         (try clear hk)
         (try clear hi)
         (try clear ho0)
         obtain ⟨Ao55, co55, eo55⟩ := Kd.R_slice HO292.out
         (first | subst eo55 | (injection eo55 with f1_ f2_ f3_; have f4_ := f1_.symm; have f5_ := f3_.symm; clear f1_ f2_ f3_; subst f4_; subst f5_))
         refine hK.out _ _ ⟨(blk_cell BK272.out 0).trans rfl, (blk_cell BK272.out 1).trans rfl, (blk_cell BK272.out 2).trans rfl⟩ (fun hHeld => ?_)
         clear hK K
         refine norm_ (a' := ?_) ?_ ?_
         rotate_left
         ·show Act.put _ (some 100) _ = _
          simp only [Act.put, List.setIfInBounds_toArray, List.set_cons_zero, List.set_cons_succ, i64_w, i32_w]
          rfl
         refine two_ (i := 4) (j := 9) (Ni := some 101) (Nj := some 20) (bA 13 31) (bA 13 527) rfl rfl rfl rfl (two_of HT_.out (by kernel_rfl)) (by decide) (by decide) (fun K hK => ?_) (fun K hK => ?_)
         ·skip
          refine goes_ Try.func13 (by kernel_rfl) rfl #[.agg #[.int .i64 t259, .slice Ao34 t260.length co34, .slice Ao35 t263.length co35], .slice Ao55 t290.length co55] (by rfl) rfl rfl ls ?_
          with_reducible refine (spec_All.calls kj20 t259 (fun k_ => ((NB k_ u8 ∧ (NB k_ v274 ∧ (NB k_ v284 ∧ (NB k_ v287 ∧ (k_ ≠ gb258 ∧ (k_ ≠ gb272 ∧ k_ ≠ gb289)))))) ∧ NB k_ (.slice Ao55 t290.length co55))) _ _ t260 (fun k_ => ((NB k_ u8 ∧ (NB k_ v274 ∧ (NB k_ v284 ∧ (NB k_ v287 ∧ (k_ ≠ gb258 ∧ (k_ ≠ gb272 ∧ k_ ≠ gb289)))))) ∧ NB k_ (.slice Ao55 t290.length co55))) _ _ t263 _ _ t290 t293 t294 t297 t300 t303 _ ?side1 ?side2 ?side3 ?side4 A39.out).mono ?_
          (case side1 => exact HO_273001.out)
          (case side2 => exact HO_273002.out)
          (case side3 => repeat (first | exact (Kd.R_reads' HO292.out).2.2 | (with_reducible refine Kd.C_alloc ?_ _) | (with_reducible refine Kd.C_drewN ?_ _) | (with_reducible refine Kd.C_drew ?_)))
          (case side4 => exact (Kd.R_reads' HO292.out).2.1)
          rintro e w56 ⟨v295, v298, v301, v304, rfl, ho0, ho1, ho2, ho3, hb⟩
          refine ⟨_, rfl, ?_⟩
          replace HO_259001 := Aside0.mk (Kd.V_mono (Kd.V_told (Kd.V_told (Kd.V_old (uV HO_259001.out) hb) (Kd.R_base ho2)) (Kd.R_base ho3)) (fun _ h_ => h_.1))
          replace HO_259002 := Aside0.mk (Kd.V_mono (Kd.V_told (Kd.V_told (Kd.V_old (uV HO_259002.out) hb) (Kd.R_base ho2)) (Kd.R_base ho3)) (fun _ h_ => h_.1))
          replace HO_273001 := Aside0.mk (Kd.V_mono (Kd.V_told (Kd.V_told (Kd.V_old (uV HO_273001.out) hb) (Kd.R_base ho2)) (Kd.R_base ho3)) (fun _ h_ => h_.1))
          replace HO_273002 := Aside0.mk (Kd.V_mono (Kd.V_told (Kd.V_told (Kd.V_old (uV HO_273002.out) hb) (Kd.R_base ho2)) (Kd.R_base ho3)) (fun _ h_ => h_.1))
          replace HO279 := Aside0.mk (Kd.V_mono (Kd.V_told (Kd.V_told (Kd.V_old (uV HO279.out) hb) (Kd.R_base ho2)) (Kd.R_base ho3)) (fun _ h_ => h_.1))
          replace HO282 := Aside0.mk (Kd.V_mono (Kd.V_told (Kd.V_told (Kd.V_old (uV HO282.out) hb) (Kd.R_base ho2)) (Kd.R_base ho3)) (fun _ h_ => h_.1))
          have HO296 := Aside0.mk (Kd.V_lower (Kd.V_mono (ok' := fun k_ => NB k_ v301 ∧ NB k_ v304 ∧ NB k_ u8 ∧ NB k_ v274 ∧ NB k_ v284 ∧ NB k_ v287 ∧ NB k_ (.slice Ao55 t290.length co55) ∧ k_ ≠ gb258 ∧ k_ ≠ gb272 ∧ k_ ≠ gb289) ho0 (fun k_ hk_ => by first | exact ⟨hk_.2.1, hk_.2.2, Or.elim hk_.1 (fun hs_ => Or.elim hs_ (fun hs_ => hs_.1.1) (fun hs_ => hs_.1.1)) (fun hn_ => (Kd.fresh' (Kd.R_lt (uR HO_8.out)) k_ hn_)), Or.elim hk_.1 (fun hs_ => Or.elim hs_ (fun hs_ => hs_.1.2.1) (fun hs_ => hs_.1.2.1)) (fun hn_ => (Kd.fresh' (Kd.R_lt (uR HO275.out)) k_ hn_)), Or.elim hk_.1 (fun hs_ => Or.elim hs_ (fun hs_ => hs_.1.2.2.1) (fun hs_ => hs_.1.2.2.1)) (fun hn_ => (Kd.fresh' (Kd.R_lt (uR HO285.out)) k_ hn_)), Or.elim hk_.1 (fun hs_ => Or.elim hs_ (fun hs_ => hs_.1.2.2.2.1) (fun hs_ => hs_.1.2.2.2.1)) (fun hn_ => (Kd.fresh' (Kd.R_lt (uR HO288.out)) k_ hn_)), Or.elim hk_.1 (fun hs_ => Or.elim hs_ (fun hs_ => hs_.2) (fun hs_ => hs_.2)) (fun hn_ => (Kd.fresh' (Kd.R_lt (uR HO292.out)) k_ hn_)), Or.elim hk_.1 (fun hs_ => Or.elim hs_ (fun hs_ => hs_.1.2.2.2.2.1) (fun hs_ => hs_.1.2.2.2.2.1)) (fun hn_ => (Kd.freshB (g := gb258) (o := .cells #[.int .i64 t245, .slice Ao26 t246.length co26, .slice Ao27 t249.length co27] 24 (0, 0)) (ub BK258.out) k_ hn_)), Or.elim hk_.1 (fun hs_ => Or.elim hs_ (fun hs_ => hs_.1.2.2.2.2.2.1) (fun hs_ => hs_.1.2.2.2.2.2.1)) (fun hn_ => (Kd.freshB (g := gb272) (o := .cells #[.int .i64 t259, .slice Ao34 t260.length co34, .slice Ao35 t263.length co35] 24 (0, 0)) (ub BK272.out) k_ hn_)), Or.elim hk_.1 (fun hs_ => Or.elim hs_ (fun hs_ => hs_.1.2.2.2.2.2.2) (fun hs_ => hs_.1.2.2.2.2.2.2)) (fun hn_ => (Kd.freshB (g := gb289) (o := .cells #[.int .i64 t276, .slice Ao48 t277.length co48, .slice Ao50 t280.length co50] 24 (0, 0)) (ub BK289.out) k_ hn_))⟩ | grind)) (below_size (uB HB.out)))
          have HO299 := Aside0.mk (Kd.V_lower (Kd.V_mono (ok' := fun k_ => NB k_ v301 ∧ NB k_ v304 ∧ NB k_ u8 ∧ NB k_ v274 ∧ NB k_ v284 ∧ NB k_ v287 ∧ NB k_ (.slice Ao55 t290.length co55) ∧ k_ ≠ gb258 ∧ k_ ≠ gb272 ∧ k_ ≠ gb289) ho1 (fun k_ hk_ => by first | exact ⟨hk_.2.1, hk_.2.2, Or.elim hk_.1 (fun hs_ => Or.elim hs_ (fun hs_ => hs_.1.1) (fun hs_ => hs_.1.1)) (fun hn_ => (Kd.fresh' (Kd.R_lt (uR HO_8.out)) k_ hn_)), Or.elim hk_.1 (fun hs_ => Or.elim hs_ (fun hs_ => hs_.1.2.1) (fun hs_ => hs_.1.2.1)) (fun hn_ => (Kd.fresh' (Kd.R_lt (uR HO275.out)) k_ hn_)), Or.elim hk_.1 (fun hs_ => Or.elim hs_ (fun hs_ => hs_.1.2.2.1) (fun hs_ => hs_.1.2.2.1)) (fun hn_ => (Kd.fresh' (Kd.R_lt (uR HO285.out)) k_ hn_)), Or.elim hk_.1 (fun hs_ => Or.elim hs_ (fun hs_ => hs_.1.2.2.2.1) (fun hs_ => hs_.1.2.2.2.1)) (fun hn_ => (Kd.fresh' (Kd.R_lt (uR HO288.out)) k_ hn_)), Or.elim hk_.1 (fun hs_ => Or.elim hs_ (fun hs_ => hs_.2) (fun hs_ => hs_.2)) (fun hn_ => (Kd.fresh' (Kd.R_lt (uR HO292.out)) k_ hn_)), Or.elim hk_.1 (fun hs_ => Or.elim hs_ (fun hs_ => hs_.1.2.2.2.2.1) (fun hs_ => hs_.1.2.2.2.2.1)) (fun hn_ => (Kd.freshB (g := gb258) (o := .cells #[.int .i64 t245, .slice Ao26 t246.length co26, .slice Ao27 t249.length co27] 24 (0, 0)) (ub BK258.out) k_ hn_)), Or.elim hk_.1 (fun hs_ => Or.elim hs_ (fun hs_ => hs_.1.2.2.2.2.2.1) (fun hs_ => hs_.1.2.2.2.2.2.1)) (fun hn_ => (Kd.freshB (g := gb272) (o := .cells #[.int .i64 t259, .slice Ao34 t260.length co34, .slice Ao35 t263.length co35] 24 (0, 0)) (ub BK272.out) k_ hn_)), Or.elim hk_.1 (fun hs_ => Or.elim hs_ (fun hs_ => hs_.1.2.2.2.2.2.2) (fun hs_ => hs_.1.2.2.2.2.2.2)) (fun hn_ => (Kd.freshB (g := gb289) (o := .cells #[.int .i64 t276, .slice Ao48 t277.length co48, .slice Ao50 t280.length co50] 24 (0, 0)) (ub BK289.out) k_ hn_))⟩ | grind)) (below_size (uB HB.out)))
          replace HO275 := Aside0.mk (Kd.R_below (uR HO275.out) hb)
          replace HO292 := Aside0.mk (Kd.R_below (uR HO292.out) hb)
          have HO302 := Aside0.mk (Kd.R_lower (Kd.R_new' (Kd.R_new' (Kd.R_mono (ok' := fun k_ => True) ho2 (fun _ hk_ => trivial)) (Kd.R_lt (uR HO_8.out))) (Kd.R_lt (uR HO285.out))) (below_size (uB HB.out)))
          replace HO_8 := Aside0.mk (Kd.R_elder' (uR HO_8.out) (Kd.R_base ho2) hb)
          replace HO285 := Aside0.mk (Kd.R_elder' (uR HO285.out) (Kd.R_base ho2) hb)
          have HO305 := Aside0.mk (Kd.R_lower (Kd.R_new' (Kd.R_mono (ok' := fun k_ => True) ho3 (fun _ hk_ => trivial)) (Kd.R_lt (uR HO288.out))) (below_size (uB HB.out)))
          replace HO288 := Aside0.mk (Kd.R_elder' (uR HO288.out) (Kd.R_base ho3) hb)
          replace BK258 := Aside0.mk (blk_below (g := gb258) (o := .cells #[.int .i64 t245, .slice Ao26 t246.length co26, .slice Ao27 t249.length co27] 24 (0, 0)) (ub BK258.out) hb)
          replace BK272 := Aside0.mk (blk_below (g := gb272) (o := .cells #[.int .i64 t259, .slice Ao34 t260.length co34, .slice Ao35 t263.length co35] 24 (0, 0)) (ub BK272.out) hb)
          replace BK289 := Aside0.mk (blk_below (g := gb289) (o := .cells #[.int .i64 t276, .slice Ao48 t277.length co48, .slice Ao50 t280.length co50] 24 (0, 0)) (ub BK289.out) hb)
          replace HB := Aside0.mk (below_step (uB HB.out) hb)
          (try clear hb)
          (try clear hb2)
          (try clear hk)
          (try clear hi)
          (try clear ho0)
          (try clear ho1)
          (try clear ho2)
          (try clear ho3)
          refine hK.out _ _ ⟨(blk_cell BK272.out 0).trans rfl, (blk_cell BK272.out 1).trans rfl, (blk_cell BK272.out 2).trans rfl⟩ (fun hHeld => ?_)
          clear hK K
          refine norm_ (a' := ?_) ?_ ?_
          rotate_left
          ·show Act.put _ (some 101) _ = _
           simp only [Act.put, List.setIfInBounds_toArray, List.set_cons_zero, List.set_cons_succ, i64_w, i32_w]
           rfl
          refine pu 5 96 13 63 HT_.out (h := ?_)
          refine pu 6 102 13 127 HT_.out (h := ?_)
          refine pu 7 103 13 255 HT_.out (h := ?_)
          refine pu 8 104 13 511 HT_.out (h := ?_)
          refine one_ (i := 9) (N := some 20) (bA 13 1023) rfl rfl (one_of HT_.out (by kernel_rfl)) (by decide) (fun K hK => ?_)
          refine box_step ?hg (N := 20) ?hd (cs := #[.int .i64 0, .slice none 0 0, .slice none 0 0]) (t := 24) ?hr ?_; (case hd => rfl); (case hg => rfl); (case hr => first | (go_simp; done) | (go_simp; rfl))
          intro gb306 hg w57 hbox hb
          replace HO_8 := Aside0.mk (Kd.R_below (uR HO_8.out) hb)
          replace HO_259001 := Aside0.mk (Kd.V_below (Kd.V_elderB (uV HO_259001.out) gb306 (Nat.le_of_eq hg.symm)) hb)
          replace HO_259002 := Aside0.mk (Kd.V_below (Kd.V_elderB (uV HO_259002.out) gb306 (Nat.le_of_eq hg.symm)) hb)
          replace HO_273001 := Aside0.mk (Kd.V_below (Kd.V_elderB (uV HO_273001.out) gb306 (Nat.le_of_eq hg.symm)) hb)
          replace HO_273002 := Aside0.mk (Kd.V_below (Kd.V_elderB (uV HO_273002.out) gb306 (Nat.le_of_eq hg.symm)) hb)
          replace HO275 := Aside0.mk (Kd.R_below (uR HO275.out) hb)
          replace HO279 := Aside0.mk (Kd.V_below (Kd.V_elderB (uV HO279.out) gb306 (Nat.le_of_eq hg.symm)) hb)
          replace HO282 := Aside0.mk (Kd.V_below (Kd.V_elderB (uV HO282.out) gb306 (Nat.le_of_eq hg.symm)) hb)
          replace HO285 := Aside0.mk (Kd.R_below (uR HO285.out) hb)
          replace HO288 := Aside0.mk (Kd.R_below (uR HO288.out) hb)
          replace HO292 := Aside0.mk (Kd.R_below (uR HO292.out) hb)
          replace HO296 := Aside0.mk (Kd.V_below (Kd.V_elderB (uV HO296.out) gb306 (Nat.le_of_eq hg.symm)) hb)
          replace HO299 := Aside0.mk (Kd.V_below (Kd.V_elderB (uV HO299.out) gb306 (Nat.le_of_eq hg.symm)) hb)
          replace HO302 := Aside0.mk (Kd.R_below (uR HO302.out) hb)
          replace HO305 := Aside0.mk (Kd.R_below (uR HO305.out) hb)
          have BK306 := Aside0.mk (hbox)
          have GW306 := Aside0.mk ((by rw [hg]; exact (below_size (uB HB.out)) : w.heap.size ≤ gb306))
          have GE306 := Aside0.mk ((by rw [hg]; exact (below_size (uB HB.out)) : w.heap.size ≤ gb306))
          replace HB := Aside0.mk (below_step (uB HB.out) hb)
          have NB258_306 := Aside0.mk ((by rw [hg]; exact Nat.ne_of_lt (blk_lt (g := gb258) (o := .cells #[.int .i64 t245, .slice Ao26 t246.length co26, .slice Ao27 t249.length co27] 24 (0, 0)) (ub BK258.out)) : gb258 ≠ gb306))
          have NB306_258 := Aside0.mk ((by rw [hg]; exact Nat.ne_of_gt (blk_lt (g := gb258) (o := .cells #[.int .i64 t245, .slice Ao26 t246.length co26, .slice Ao27 t249.length co27] 24 (0, 0)) (ub BK258.out)) : gb306 ≠ gb258))
          replace BK258 := Aside0.mk (blk_below (g := gb258) (o := .cells #[.int .i64 t245, .slice Ao26 t246.length co26, .slice Ao27 t249.length co27] 24 (0, 0)) (ub BK258.out) hb)
          have NB272_306 := Aside0.mk ((by rw [hg]; exact Nat.ne_of_lt (blk_lt (g := gb272) (o := .cells #[.int .i64 t259, .slice Ao34 t260.length co34, .slice Ao35 t263.length co35] 24 (0, 0)) (ub BK272.out)) : gb272 ≠ gb306))
          have NB306_272 := Aside0.mk ((by rw [hg]; exact Nat.ne_of_gt (blk_lt (g := gb272) (o := .cells #[.int .i64 t259, .slice Ao34 t260.length co34, .slice Ao35 t263.length co35] 24 (0, 0)) (ub BK272.out)) : gb306 ≠ gb272))
          replace BK272 := Aside0.mk (blk_below (g := gb272) (o := .cells #[.int .i64 t259, .slice Ao34 t260.length co34, .slice Ao35 t263.length co35] 24 (0, 0)) (ub BK272.out) hb)
          have NB289_306 := Aside0.mk ((by rw [hg]; exact Nat.ne_of_lt (blk_lt (g := gb289) (o := .cells #[.int .i64 t276, .slice Ao48 t277.length co48, .slice Ao50 t280.length co50] 24 (0, 0)) (ub BK289.out)) : gb289 ≠ gb306))
          have NB306_289 := Aside0.mk ((by rw [hg]; exact Nat.ne_of_gt (blk_lt (g := gb289) (o := .cells #[.int .i64 t276, .slice Ao48 t277.length co48, .slice Ao50 t280.length co50] 24 (0, 0)) (ub BK289.out)) : gb306 ≠ gb289))
          replace BK289 := Aside0.mk (blk_below (g := gb289) (o := .cells #[.int .i64 t276, .slice Ao48 t277.length co48, .slice Ao50 t280.length co50] 24 (0, 0)) (ub BK289.out) hb)
          clear hb hbox hg
          refine hK.out _ _ ⟨(blk_cell BK272.out 0).trans rfl, (blk_cell BK272.out 1).trans rfl, (blk_cell BK272.out 2).trans rfl⟩ (fun hHeld => ?_)
          clear hK K
          refine norm_ (a' := ?_) ?_ ?_
          rotate_left
          ·show Act.put _ (some 20) _ = _
           simp only [Act.put, List.setIfInBounds_toArray, List.set_cons_zero, List.set_cons_succ, i64_w, i32_w]
           rfl
          exact norm_ (by simp only [putAll, Act.put, List.setIfInBounds_toArray, List.set_cons_zero, List.set_cons_succ]) (hCont (.slice Ao55 t290.length co55, v295, v298, v301, v304, gb306) _ ⟨hHeld, (by refine pR ?_; exact Kd.R_mono HO275.out (fun _ hk => hk.2)), (by refine pV ?_; exact Kd.V_mono HO279.out (fun _ hk => by grind)), (by refine pV ?_; exact Kd.V_mono HO282.out (fun _ hk => by grind)), (by refine pR ?_; exact Kd.R_mono HO285.out (fun _ hk => ⟨hk.2, hk.1⟩)), (by refine pR ?_; exact Kd.R_mono HO288.out (fun _ hk => hk.2)), (by refine pR ?_; exact Kd.R_mono HO292.out (fun _ hk => hk.2)), (by refine pV ?_; exact Kd.V_mono HO296.out (fun _ hk => by grind)), (by refine pV ?_; exact Kd.V_mono HO299.out (fun _ hk => by grind)), (by refine pR ?_; exact Kd.R_mono HO302.out (fun _ hk => ⟨hk.2, hk.1.2⟩)), (by refine pR ?_; exact Kd.R_mono HO305.out (fun _ hk => hk.2)), (by refine pV ?_; exact Kd.V_mono HO_259001.out (fun _ hk => by grind)), (by refine pV ?_; exact Kd.V_mono HO_259002.out (fun _ hk => by grind)), (by refine pV ?_; exact Kd.V_mono HO_273001.out (fun _ hk => by grind)), (by refine pV ?_; exact Kd.V_mono HO_273002.out (fun _ hk => by grind)), (uR HO_8.out), (ub BK258.out), (ub BK272.out), (ub BK289.out), (ub BK306.out), GW306.out, GE306.out, NB258_306.out, NB306_258.out, NB272_306.out, NB306_272.out, NB289_306.out, NB306_289.out, (uB HB.out)⟩)
         ·skip
          refine box_step ?hg (N := 20) ?hd (cs := #[.int .i64 0, .slice none 0 0, .slice none 0 0]) (t := 24) ?hr ?_; (case hd => rfl); (case hg => rfl); (case hr => first | (go_simp; done) | (go_simp; rfl))
          intro gb306 hg w55 hbox hb
          replace HO_8 := Aside0.mk (Kd.R_below (uR HO_8.out) hb)
          replace HO_259001 := Aside0.mk (Kd.V_below (Kd.V_elderB (uV HO_259001.out) gb306 (Nat.le_of_eq hg.symm)) hb)
          replace HO_259002 := Aside0.mk (Kd.V_below (Kd.V_elderB (uV HO_259002.out) gb306 (Nat.le_of_eq hg.symm)) hb)
          replace HO_273001 := Aside0.mk (Kd.V_below (Kd.V_elderB (uV HO_273001.out) gb306 (Nat.le_of_eq hg.symm)) hb)
          replace HO_273002 := Aside0.mk (Kd.V_below (Kd.V_elderB (uV HO_273002.out) gb306 (Nat.le_of_eq hg.symm)) hb)
          replace HO275 := Aside0.mk (Kd.R_below (uR HO275.out) hb)
          replace HO279 := Aside0.mk (Kd.V_below (Kd.V_elderB (uV HO279.out) gb306 (Nat.le_of_eq hg.symm)) hb)
          replace HO282 := Aside0.mk (Kd.V_below (Kd.V_elderB (uV HO282.out) gb306 (Nat.le_of_eq hg.symm)) hb)
          replace HO285 := Aside0.mk (Kd.R_below (uR HO285.out) hb)
          replace HO288 := Aside0.mk (Kd.R_below (uR HO288.out) hb)
          replace HO292 := Aside0.mk (Kd.R_below (uR HO292.out) hb)
          have BK306 := Aside0.mk (hbox)
          have GW306 := Aside0.mk ((by rw [hg]; exact (below_size (uB HB.out)) : w.heap.size ≤ gb306))
          have GE306 := Aside0.mk ((by rw [hg]; exact (below_size (uB HB.out)) : w.heap.size ≤ gb306))
          replace HB := Aside0.mk (below_step (uB HB.out) hb)
          have NB258_306 := Aside0.mk ((by rw [hg]; exact Nat.ne_of_lt (blk_lt (g := gb258) (o := .cells #[.int .i64 t245, .slice Ao26 t246.length co26, .slice Ao27 t249.length co27] 24 (0, 0)) (ub BK258.out)) : gb258 ≠ gb306))
          have NB306_258 := Aside0.mk ((by rw [hg]; exact Nat.ne_of_gt (blk_lt (g := gb258) (o := .cells #[.int .i64 t245, .slice Ao26 t246.length co26, .slice Ao27 t249.length co27] 24 (0, 0)) (ub BK258.out)) : gb306 ≠ gb258))
          replace BK258 := Aside0.mk (blk_below (g := gb258) (o := .cells #[.int .i64 t245, .slice Ao26 t246.length co26, .slice Ao27 t249.length co27] 24 (0, 0)) (ub BK258.out) hb)
          have NB272_306 := Aside0.mk ((by rw [hg]; exact Nat.ne_of_lt (blk_lt (g := gb272) (o := .cells #[.int .i64 t259, .slice Ao34 t260.length co34, .slice Ao35 t263.length co35] 24 (0, 0)) (ub BK272.out)) : gb272 ≠ gb306))
          have NB306_272 := Aside0.mk ((by rw [hg]; exact Nat.ne_of_gt (blk_lt (g := gb272) (o := .cells #[.int .i64 t259, .slice Ao34 t260.length co34, .slice Ao35 t263.length co35] 24 (0, 0)) (ub BK272.out)) : gb306 ≠ gb272))
          replace BK272 := Aside0.mk (blk_below (g := gb272) (o := .cells #[.int .i64 t259, .slice Ao34 t260.length co34, .slice Ao35 t263.length co35] 24 (0, 0)) (ub BK272.out) hb)
          have NB289_306 := Aside0.mk ((by rw [hg]; exact Nat.ne_of_lt (blk_lt (g := gb289) (o := .cells #[.int .i64 t276, .slice Ao48 t277.length co48, .slice Ao50 t280.length co50] 24 (0, 0)) (ub BK289.out)) : gb289 ≠ gb306))
          have NB306_289 := Aside0.mk ((by rw [hg]; exact Nat.ne_of_gt (blk_lt (g := gb289) (o := .cells #[.int .i64 t276, .slice Ao48 t277.length co48, .slice Ao50 t280.length co50] 24 (0, 0)) (ub BK289.out)) : gb306 ≠ gb289))
          replace BK289 := Aside0.mk (blk_below (g := gb289) (o := .cells #[.int .i64 t276, .slice Ao48 t277.length co48, .slice Ao50 t280.length co50] 24 (0, 0)) (ub BK289.out) hb)
          clear hb hbox hg
          obtain ⟨Ao56, co56, eo56⟩ := Kd.R_slice HO292.out
          (first | subst eo56 | (injection eo56 with f1_ f2_ f3_; have f4_ := f1_.symm; have f5_ := f3_.symm; clear f1_ f2_ f3_; subst f4_; subst f5_))
          refine hK.out _ _ ⟨(blk_cell BK272.out 0).trans rfl, (blk_cell BK272.out 1).trans rfl, (blk_cell BK272.out 2).trans rfl⟩ (fun hHeld => ?_)
          clear hK K
          refine norm_ (a' := ?_) ?_ ?_
          rotate_left
          ·show Act.put _ (some 20) _ = _
           simp only [Act.put, List.setIfInBounds_toArray, List.set_cons_zero, List.set_cons_succ, i64_w, i32_w]
           rfl
          refine one_ (i := 4) (N := some 101) (bA 13 543) rfl rfl (one_of HT_.out (by kernel_rfl)) (by decide) (fun K hK => ?_)
          refine goes_ Try.func13 (by kernel_rfl) rfl #[.agg #[.int .i64 t259, .slice Ao34 t260.length co34, .slice Ao35 t263.length co35], .slice Ao56 t290.length co56] (by rfl) rfl rfl ls ?_
          with_reducible refine (spec_All.calls kj20 t259 (fun k_ => (((NB k_ u8 ∧ (NB k_ v274 ∧ (NB k_ v284 ∧ (NB k_ v287 ∧ (k_ ≠ gb258 ∧ (k_ ≠ gb272 ∧ k_ ≠ gb289)))))) ∧ NB k_ (.slice Ao56 t290.length co56)) ∧ k_ ≠ gb306)) _ _ t260 (fun k_ => (((NB k_ u8 ∧ (NB k_ v274 ∧ (NB k_ v284 ∧ (NB k_ v287 ∧ (k_ ≠ gb258 ∧ (k_ ≠ gb272 ∧ k_ ≠ gb289)))))) ∧ NB k_ (.slice Ao56 t290.length co56)) ∧ k_ ≠ gb306)) _ _ t263 _ _ t290 t293 t294 t297 t300 t303 _ ?side1 ?side2 ?side3 ?side4 A39.out).mono ?_
          (case side1 => exact HO_273001.out)
          (case side2 => exact HO_273002.out)
          (case side3 => repeat (first | exact (Kd.R_reads' HO292.out).2.2 | (with_reducible refine Kd.C_alloc ?_ _) | (with_reducible refine Kd.C_drewN ?_ _) | (with_reducible refine Kd.C_drew ?_)))
          (case side4 => exact (Kd.R_reads' HO292.out).2.1)
          rintro e w57 ⟨v295, v298, v301, v304, rfl, ho0, ho1, ho2, ho3, hb⟩
          refine ⟨_, rfl, ?_⟩
          replace HO_259001 := Aside0.mk (Kd.V_mono (Kd.V_told (Kd.V_told (Kd.V_old (uV HO_259001.out) hb) (Kd.R_base ho2)) (Kd.R_base ho3)) (fun _ h_ => h_.1))
          replace HO_259002 := Aside0.mk (Kd.V_mono (Kd.V_told (Kd.V_told (Kd.V_old (uV HO_259002.out) hb) (Kd.R_base ho2)) (Kd.R_base ho3)) (fun _ h_ => h_.1))
          replace HO_273001 := Aside0.mk (Kd.V_mono (Kd.V_told (Kd.V_told (Kd.V_old (uV HO_273001.out) hb) (Kd.R_base ho2)) (Kd.R_base ho3)) (fun _ h_ => h_.1))
          replace HO_273002 := Aside0.mk (Kd.V_mono (Kd.V_told (Kd.V_told (Kd.V_old (uV HO_273002.out) hb) (Kd.R_base ho2)) (Kd.R_base ho3)) (fun _ h_ => h_.1))
          replace HO279 := Aside0.mk (Kd.V_mono (Kd.V_told (Kd.V_told (Kd.V_old (uV HO279.out) hb) (Kd.R_base ho2)) (Kd.R_base ho3)) (fun _ h_ => h_.1))
          replace HO282 := Aside0.mk (Kd.V_mono (Kd.V_told (Kd.V_told (Kd.V_old (uV HO282.out) hb) (Kd.R_base ho2)) (Kd.R_base ho3)) (fun _ h_ => h_.1))
          have HO296 := Aside0.mk (Kd.V_lower (Kd.V_mono (ok' := fun k_ => NB k_ v301 ∧ NB k_ v304 ∧ NB k_ u8 ∧ NB k_ v274 ∧ NB k_ v284 ∧ NB k_ v287 ∧ NB k_ (.slice Ao56 t290.length co56) ∧ k_ ≠ gb258 ∧ k_ ≠ gb272 ∧ k_ ≠ gb289 ∧ k_ ≠ gb306) ho0 (fun k_ hk_ => by first | exact ⟨hk_.2.1, hk_.2.2, Or.elim hk_.1 (fun hs_ => Or.elim hs_ (fun hs_ => hs_.1.1.1) (fun hs_ => hs_.1.1.1)) (fun hn_ => (Kd.fresh' (Kd.R_lt (uR HO_8.out)) k_ hn_)), Or.elim hk_.1 (fun hs_ => Or.elim hs_ (fun hs_ => hs_.1.1.2.1) (fun hs_ => hs_.1.1.2.1)) (fun hn_ => (Kd.fresh' (Kd.R_lt (uR HO275.out)) k_ hn_)), Or.elim hk_.1 (fun hs_ => Or.elim hs_ (fun hs_ => hs_.1.1.2.2.1) (fun hs_ => hs_.1.1.2.2.1)) (fun hn_ => (Kd.fresh' (Kd.R_lt (uR HO285.out)) k_ hn_)), Or.elim hk_.1 (fun hs_ => Or.elim hs_ (fun hs_ => hs_.1.1.2.2.2.1) (fun hs_ => hs_.1.1.2.2.2.1)) (fun hn_ => (Kd.fresh' (Kd.R_lt (uR HO288.out)) k_ hn_)), Or.elim hk_.1 (fun hs_ => Or.elim hs_ (fun hs_ => hs_.1.2) (fun hs_ => hs_.1.2)) (fun hn_ => (Kd.fresh' (Kd.R_lt (uR HO292.out)) k_ hn_)), Or.elim hk_.1 (fun hs_ => Or.elim hs_ (fun hs_ => hs_.1.1.2.2.2.2.1) (fun hs_ => hs_.1.1.2.2.2.2.1)) (fun hn_ => (Kd.freshB (g := gb258) (o := .cells #[.int .i64 t245, .slice Ao26 t246.length co26, .slice Ao27 t249.length co27] 24 (0, 0)) (ub BK258.out) k_ hn_)), Or.elim hk_.1 (fun hs_ => Or.elim hs_ (fun hs_ => hs_.1.1.2.2.2.2.2.1) (fun hs_ => hs_.1.1.2.2.2.2.2.1)) (fun hn_ => (Kd.freshB (g := gb272) (o := .cells #[.int .i64 t259, .slice Ao34 t260.length co34, .slice Ao35 t263.length co35] 24 (0, 0)) (ub BK272.out) k_ hn_)), Or.elim hk_.1 (fun hs_ => Or.elim hs_ (fun hs_ => hs_.1.1.2.2.2.2.2.2) (fun hs_ => hs_.1.1.2.2.2.2.2.2)) (fun hn_ => (Kd.freshB (g := gb289) (o := .cells #[.int .i64 t276, .slice Ao48 t277.length co48, .slice Ao50 t280.length co50] 24 (0, 0)) (ub BK289.out) k_ hn_)), Or.elim hk_.1 (fun hs_ => Or.elim hs_ (fun hs_ => hs_.2) (fun hs_ => hs_.2)) (fun hn_ => (Kd.freshB (g := gb306) (o := .cells #[.int .i64 0, .slice none 0 0, .slice none 0 0] 24 (0, 0)) (ub BK306.out) k_ hn_))⟩ | grind)) (below_size (uB HB.out)))
          have HO299 := Aside0.mk (Kd.V_lower (Kd.V_mono (ok' := fun k_ => NB k_ v301 ∧ NB k_ v304 ∧ NB k_ u8 ∧ NB k_ v274 ∧ NB k_ v284 ∧ NB k_ v287 ∧ NB k_ (.slice Ao56 t290.length co56) ∧ k_ ≠ gb258 ∧ k_ ≠ gb272 ∧ k_ ≠ gb289 ∧ k_ ≠ gb306) ho1 (fun k_ hk_ => by first | exact ⟨hk_.2.1, hk_.2.2, Or.elim hk_.1 (fun hs_ => Or.elim hs_ (fun hs_ => hs_.1.1.1) (fun hs_ => hs_.1.1.1)) (fun hn_ => (Kd.fresh' (Kd.R_lt (uR HO_8.out)) k_ hn_)), Or.elim hk_.1 (fun hs_ => Or.elim hs_ (fun hs_ => hs_.1.1.2.1) (fun hs_ => hs_.1.1.2.1)) (fun hn_ => (Kd.fresh' (Kd.R_lt (uR HO275.out)) k_ hn_)), Or.elim hk_.1 (fun hs_ => Or.elim hs_ (fun hs_ => hs_.1.1.2.2.1) (fun hs_ => hs_.1.1.2.2.1)) (fun hn_ => (Kd.fresh' (Kd.R_lt (uR HO285.out)) k_ hn_)), Or.elim hk_.1 (fun hs_ => Or.elim hs_ (fun hs_ => hs_.1.1.2.2.2.1) (fun hs_ => hs_.1.1.2.2.2.1)) (fun hn_ => (Kd.fresh' (Kd.R_lt (uR HO288.out)) k_ hn_)), Or.elim hk_.1 (fun hs_ => Or.elim hs_ (fun hs_ => hs_.1.2) (fun hs_ => hs_.1.2)) (fun hn_ => (Kd.fresh' (Kd.R_lt (uR HO292.out)) k_ hn_)), Or.elim hk_.1 (fun hs_ => Or.elim hs_ (fun hs_ => hs_.1.1.2.2.2.2.1) (fun hs_ => hs_.1.1.2.2.2.2.1)) (fun hn_ => (Kd.freshB (g := gb258) (o := .cells #[.int .i64 t245, .slice Ao26 t246.length co26, .slice Ao27 t249.length co27] 24 (0, 0)) (ub BK258.out) k_ hn_)), Or.elim hk_.1 (fun hs_ => Or.elim hs_ (fun hs_ => hs_.1.1.2.2.2.2.2.1) (fun hs_ => hs_.1.1.2.2.2.2.2.1)) (fun hn_ => (Kd.freshB (g := gb272) (o := .cells #[.int .i64 t259, .slice Ao34 t260.length co34, .slice Ao35 t263.length co35] 24 (0, 0)) (ub BK272.out) k_ hn_)), Or.elim hk_.1 (fun hs_ => Or.elim hs_ (fun hs_ => hs_.1.1.2.2.2.2.2.2) (fun hs_ => hs_.1.1.2.2.2.2.2.2)) (fun hn_ => (Kd.freshB (g := gb289) (o := .cells #[.int .i64 t276, .slice Ao48 t277.length co48, .slice Ao50 t280.length co50] 24 (0, 0)) (ub BK289.out) k_ hn_)), Or.elim hk_.1 (fun hs_ => Or.elim hs_ (fun hs_ => hs_.2) (fun hs_ => hs_.2)) (fun hn_ => (Kd.freshB (g := gb306) (o := .cells #[.int .i64 0, .slice none 0 0, .slice none 0 0] 24 (0, 0)) (ub BK306.out) k_ hn_))⟩ | grind)) (below_size (uB HB.out)))
          replace HO275 := Aside0.mk (Kd.R_below (uR HO275.out) hb)
          replace HO292 := Aside0.mk (Kd.R_below (uR HO292.out) hb)
          have HO302 := Aside0.mk (Kd.R_lower (Kd.R_new' (Kd.R_new' (Kd.R_mono (ok' := fun k_ => True) ho2 (fun _ hk_ => trivial)) (Kd.R_lt (uR HO_8.out))) (Kd.R_lt (uR HO285.out))) (below_size (uB HB.out)))
          replace HO_8 := Aside0.mk (Kd.R_elder' (uR HO_8.out) (Kd.R_base ho2) hb)
          replace HO285 := Aside0.mk (Kd.R_elder' (uR HO285.out) (Kd.R_base ho2) hb)
          have HO305 := Aside0.mk (Kd.R_lower (Kd.R_new' (Kd.R_mono (ok' := fun k_ => True) ho3 (fun _ hk_ => trivial)) (Kd.R_lt (uR HO288.out))) (below_size (uB HB.out)))
          replace HO288 := Aside0.mk (Kd.R_elder' (uR HO288.out) (Kd.R_base ho3) hb)
          replace BK258 := Aside0.mk (blk_below (g := gb258) (o := .cells #[.int .i64 t245, .slice Ao26 t246.length co26, .slice Ao27 t249.length co27] 24 (0, 0)) (ub BK258.out) hb)
          replace BK272 := Aside0.mk (blk_below (g := gb272) (o := .cells #[.int .i64 t259, .slice Ao34 t260.length co34, .slice Ao35 t263.length co35] 24 (0, 0)) (ub BK272.out) hb)
          replace BK289 := Aside0.mk (blk_below (g := gb289) (o := .cells #[.int .i64 t276, .slice Ao48 t277.length co48, .slice Ao50 t280.length co50] 24 (0, 0)) (ub BK289.out) hb)
          replace BK306 := Aside0.mk (blk_below (g := gb306) (o := .cells #[.int .i64 0, .slice none 0 0, .slice none 0 0] 24 (0, 0)) (ub BK306.out) hb)
          replace HB := Aside0.mk (below_step (uB HB.out) hb)
          (try clear hb)
          (try clear hb2)
          (try clear hk)
          (try clear hi)
          (try clear ho0)
          (try clear ho1)
          (try clear ho2)
          (try clear ho3)
          refine hK.out _ _ ⟨(blk_cell BK272.out 0).trans rfl, (blk_cell BK272.out 1).trans rfl, (blk_cell BK272.out 2).trans rfl⟩ (fun hHeld => ?_)
          clear hK K
          refine norm_ (a' := ?_) ?_ ?_
          rotate_left
          ·show Act.put _ (some 101) _ = _
           simp only [Act.put, List.setIfInBounds_toArray, List.set_cons_zero, List.set_cons_succ, i64_w, i32_w]
           rfl
          refine pu 5 96 13 575 HT_.out (h := ?_)
          refine pu 6 102 13 639 HT_.out (h := ?_)
          refine pu 7 103 13 767 HT_.out (h := ?_)
          refine pu 8 104 13 1023 HT_.out (h := ?_)
          exact norm_ (by simp only [putAll, Act.put, List.setIfInBounds_toArray, List.set_cons_zero, List.set_cons_succ]) (hCont (.slice Ao56 t290.length co56, v295, v298, v301, v304, gb306) _ ⟨hHeld, (by refine pR ?_; exact Kd.R_mono HO275.out (fun _ hk => hk.2)), (by refine pV ?_; exact Kd.V_mono HO279.out (fun _ hk => by grind)), (by refine pV ?_; exact Kd.V_mono HO282.out (fun _ hk => by grind)), (by refine pR ?_; exact Kd.R_mono HO285.out (fun _ hk => ⟨hk.2, hk.1⟩)), (by refine pR ?_; exact Kd.R_mono HO288.out (fun _ hk => hk.2)), (by refine pR ?_; exact Kd.R_mono HO292.out (fun _ hk => hk.2)), (by refine pV ?_; exact Kd.V_mono HO296.out (fun _ hk => by grind)), (by refine pV ?_; exact Kd.V_mono HO299.out (fun _ hk => by grind)), (by refine pR ?_; exact Kd.R_mono HO302.out (fun _ hk => ⟨hk.2, hk.1.2⟩)), (by refine pR ?_; exact Kd.R_mono HO305.out (fun _ hk => hk.2)), (by refine pV ?_; exact Kd.V_mono HO_259001.out (fun _ hk => by grind)), (by refine pV ?_; exact Kd.V_mono HO_259002.out (fun _ hk => by grind)), (by refine pV ?_; exact Kd.V_mono HO_273001.out (fun _ hk => by grind)), (by refine pV ?_; exact Kd.V_mono HO_273002.out (fun _ hk => by grind)), (uR HO_8.out), (ub BK258.out), (ub BK272.out), (ub BK289.out), (ub BK306.out), GW306.out, GE306.out, NB258_306.out, NB306_258.out, NB272_306.out, NB306_272.out, NB289_306.out, NB306_289.out, (uB HB.out)⟩)
        ·skip
         refine box_step ?hg (N := 20) ?hd (cs := #[.int .i64 0, .slice none 0 0, .slice none 0 0]) (t := 24) ?hr ?_; (case hd => rfl); (case hg => rfl); (case hr => first | (go_simp; done) | (go_simp; rfl))
         intro gb306 hg w54 hbox hb
         replace HO_8 := Aside0.mk (Kd.R_below (uR HO_8.out) hb)
         replace HO_259001 := Aside0.mk (Kd.V_below (Kd.V_elderB (uV HO_259001.out) gb306 (Nat.le_of_eq hg.symm)) hb)
         replace HO_259002 := Aside0.mk (Kd.V_below (Kd.V_elderB (uV HO_259002.out) gb306 (Nat.le_of_eq hg.symm)) hb)
         replace HO_273001 := Aside0.mk (Kd.V_below (Kd.V_elderB (uV HO_273001.out) gb306 (Nat.le_of_eq hg.symm)) hb)
         replace HO_273002 := Aside0.mk (Kd.V_below (Kd.V_elderB (uV HO_273002.out) gb306 (Nat.le_of_eq hg.symm)) hb)
         replace HO275 := Aside0.mk (Kd.R_below (uR HO275.out) hb)
         replace HO279 := Aside0.mk (Kd.V_below (Kd.V_elderB (uV HO279.out) gb306 (Nat.le_of_eq hg.symm)) hb)
         replace HO282 := Aside0.mk (Kd.V_below (Kd.V_elderB (uV HO282.out) gb306 (Nat.le_of_eq hg.symm)) hb)
         replace HO285 := Aside0.mk (Kd.R_below (uR HO285.out) hb)
         replace HO288 := Aside0.mk (Kd.R_below (uR HO288.out) hb)
         have BK306 := Aside0.mk (hbox)
         have GW306 := Aside0.mk ((by rw [hg]; exact (below_size (uB HB.out)) : w.heap.size ≤ gb306))
         have GE306 := Aside0.mk ((by rw [hg]; exact (below_size (uB HB.out)) : w.heap.size ≤ gb306))
         replace HB := Aside0.mk (below_step (uB HB.out) hb)
         have NB258_306 := Aside0.mk ((by rw [hg]; exact Nat.ne_of_lt (blk_lt (g := gb258) (o := .cells #[.int .i64 t245, .slice Ao26 t246.length co26, .slice Ao27 t249.length co27] 24 (0, 0)) (ub BK258.out)) : gb258 ≠ gb306))
         have NB306_258 := Aside0.mk ((by rw [hg]; exact Nat.ne_of_gt (blk_lt (g := gb258) (o := .cells #[.int .i64 t245, .slice Ao26 t246.length co26, .slice Ao27 t249.length co27] 24 (0, 0)) (ub BK258.out)) : gb306 ≠ gb258))
         replace BK258 := Aside0.mk (blk_below (g := gb258) (o := .cells #[.int .i64 t245, .slice Ao26 t246.length co26, .slice Ao27 t249.length co27] 24 (0, 0)) (ub BK258.out) hb)
         have NB272_306 := Aside0.mk ((by rw [hg]; exact Nat.ne_of_lt (blk_lt (g := gb272) (o := .cells #[.int .i64 t259, .slice Ao34 t260.length co34, .slice Ao35 t263.length co35] 24 (0, 0)) (ub BK272.out)) : gb272 ≠ gb306))
         have NB306_272 := Aside0.mk ((by rw [hg]; exact Nat.ne_of_gt (blk_lt (g := gb272) (o := .cells #[.int .i64 t259, .slice Ao34 t260.length co34, .slice Ao35 t263.length co35] 24 (0, 0)) (ub BK272.out)) : gb306 ≠ gb272))
         replace BK272 := Aside0.mk (blk_below (g := gb272) (o := .cells #[.int .i64 t259, .slice Ao34 t260.length co34, .slice Ao35 t263.length co35] 24 (0, 0)) (ub BK272.out) hb)
         have NB289_306 := Aside0.mk ((by rw [hg]; exact Nat.ne_of_lt (blk_lt (g := gb289) (o := .cells #[.int .i64 t276, .slice Ao48 t277.length co48, .slice Ao50 t280.length co50] 24 (0, 0)) (ub BK289.out)) : gb289 ≠ gb306))
         have NB306_289 := Aside0.mk ((by rw [hg]; exact Nat.ne_of_gt (blk_lt (g := gb289) (o := .cells #[.int .i64 t276, .slice Ao48 t277.length co48, .slice Ao50 t280.length co50] 24 (0, 0)) (ub BK289.out)) : gb306 ≠ gb289))
         replace BK289 := Aside0.mk (blk_below (g := gb289) (o := .cells #[.int .i64 t276, .slice Ao48 t277.length co48, .slice Ao50 t280.length co50] 24 (0, 0)) (ub BK289.out) hb)
         clear hb hbox hg
         refine hK.out _ _ ⟨(blk_cell BK272.out 0).trans rfl, (blk_cell BK272.out 1).trans rfl, (blk_cell BK272.out 2).trans rfl⟩ (fun hHeld => ?_)
         clear hK K
         refine norm_ (a' := ?_) ?_ ?_
         rotate_left
         ·show Act.put _ (some 20) _ = _
          simp only [Act.put, List.setIfInBounds_toArray, List.set_cons_zero, List.set_cons_succ, i64_w, i32_w]
          rfl
         refine one_ (i := 3) (N := some 100) (bA 13 527) rfl rfl (one_of HT_.out (by kernel_rfl)) (by decide) (fun K hK => ?_)
         refine goes_ Try.func14 (by kernel_rfl) rfl #[.int .i64 7, .int .i64 (wrap64 (x16_20 + 1))] (by rfl) rfl rfl ls ?_
         with_reducible refine (underwoodlaw09_takes.calls kj20 7 (wrap64 (x16_20 + 1)) t290 _ A38.out).mono ?_
         rintro e w55 ⟨v291, rfl, ho0, hb⟩
         refine ⟨_, rfl, ?_⟩
         replace HO_8 := Aside0.mk (Kd.R_below (uR HO_8.out) hb)
         replace HO_259001 := Aside0.mk (Kd.V_elder' (uV HO_259001.out) (Kd.R_base ho0) hb)
         replace HO_259002 := Aside0.mk (Kd.V_elder' (uV HO_259002.out) (Kd.R_base ho0) hb)
         replace HO_273001 := Aside0.mk (Kd.V_elder' (uV HO_273001.out) (Kd.R_base ho0) hb)
         replace HO_273002 := Aside0.mk (Kd.V_elder' (uV HO_273002.out) (Kd.R_base ho0) hb)
         replace HO279 := Aside0.mk (Kd.V_elder' (uV HO279.out) (Kd.R_base ho0) hb)
         replace HO282 := Aside0.mk (Kd.V_elder' (uV HO282.out) (Kd.R_base ho0) hb)
         replace HO285 := Aside0.mk (Kd.R_below (uR HO285.out) hb)
         replace HO288 := Aside0.mk (Kd.R_below (uR HO288.out) hb)
         have HO292 := Aside0.mk (Kd.R_lower (Kd.R_new' ho0 (Kd.R_lt (uR HO275.out))) (below_size (uB HB.out)))
         replace HO275 := Aside0.mk (Kd.R_elder' (uR HO275.out) (Kd.R_base ho0) hb)
         replace BK258 := Aside0.mk (blk_below (g := gb258) (o := .cells #[.int .i64 t245, .slice Ao26 t246.length co26, .slice Ao27 t249.length co27] 24 (0, 0)) (ub BK258.out) hb)
         replace BK272 := Aside0.mk (blk_below (g := gb272) (o := .cells #[.int .i64 t259, .slice Ao34 t260.length co34, .slice Ao35 t263.length co35] 24 (0, 0)) (ub BK272.out) hb)
         replace BK289 := Aside0.mk (blk_below (g := gb289) (o := .cells #[.int .i64 t276, .slice Ao48 t277.length co48, .slice Ao50 t280.length co50] 24 (0, 0)) (ub BK289.out) hb)
         replace BK306 := Aside0.mk (blk_below (g := gb306) (o := .cells #[.int .i64 0, .slice none 0 0, .slice none 0 0] 24 (0, 0)) (ub BK306.out) hb)
         replace HB := Aside0.mk (below_step (uB HB.out) hb)
         (try clear hb)
         (try clear hb2)
         (try clear hk)
         (try clear hi)
         (try clear ho0)
         obtain ⟨Ao56, co56, eo56⟩ := Kd.R_slice HO292.out
         (first | subst eo56 | (injection eo56 with f1_ f2_ f3_; have f4_ := f1_.symm; have f5_ := f3_.symm; clear f1_ f2_ f3_; subst f4_; subst f5_))
         refine hK.out _ _ ⟨(blk_cell BK272.out 0).trans rfl, (blk_cell BK272.out 1).trans rfl, (blk_cell BK272.out 2).trans rfl⟩ (fun hHeld => ?_)
         clear hK K
         refine norm_ (a' := ?_) ?_ ?_
         rotate_left
         ·show Act.put _ (some 100) _ = _
          simp only [Act.put, List.setIfInBounds_toArray, List.set_cons_zero, List.set_cons_succ, i64_w, i32_w]
          rfl
         refine one_ (i := 4) (N := some 101) (bA 13 543) rfl rfl (one_of HT_.out (by kernel_rfl)) (by decide) (fun K hK => ?_)
         refine goes_ Try.func13 (by kernel_rfl) rfl #[.agg #[.int .i64 t259, .slice Ao34 t260.length co34, .slice Ao35 t263.length co35], .slice Ao56 t290.length co56] (by rfl) rfl rfl ls ?_
         with_reducible refine (spec_All.calls kj20 t259 (fun k_ => (((NB k_ u8 ∧ (NB k_ v274 ∧ (NB k_ v284 ∧ (NB k_ v287 ∧ (k_ ≠ gb258 ∧ (k_ ≠ gb272 ∧ k_ ≠ gb289)))))) ∧ k_ ≠ gb306) ∧ NB k_ (.slice Ao56 t290.length co56))) _ _ t260 (fun k_ => (((NB k_ u8 ∧ (NB k_ v274 ∧ (NB k_ v284 ∧ (NB k_ v287 ∧ (k_ ≠ gb258 ∧ (k_ ≠ gb272 ∧ k_ ≠ gb289)))))) ∧ k_ ≠ gb306) ∧ NB k_ (.slice Ao56 t290.length co56))) _ _ t263 _ _ t290 t293 t294 t297 t300 t303 _ ?side1 ?side2 ?side3 ?side4 A39.out).mono ?_
         (case side1 => exact HO_273001.out)
         (case side2 => exact HO_273002.out)
         (case side3 => repeat (first | exact (Kd.R_reads' HO292.out).2.2 | (with_reducible refine Kd.C_alloc ?_ _) | (with_reducible refine Kd.C_drewN ?_ _) | (with_reducible refine Kd.C_drew ?_)))
         (case side4 => exact (Kd.R_reads' HO292.out).2.1)
         rintro e w57 ⟨v295, v298, v301, v304, rfl, ho0, ho1, ho2, ho3, hb⟩
         refine ⟨_, rfl, ?_⟩
         replace HO_259001 := Aside0.mk (Kd.V_mono (Kd.V_told (Kd.V_told (Kd.V_old (uV HO_259001.out) hb) (Kd.R_base ho2)) (Kd.R_base ho3)) (fun _ h_ => h_.1))
         replace HO_259002 := Aside0.mk (Kd.V_mono (Kd.V_told (Kd.V_told (Kd.V_old (uV HO_259002.out) hb) (Kd.R_base ho2)) (Kd.R_base ho3)) (fun _ h_ => h_.1))
         replace HO_273001 := Aside0.mk (Kd.V_mono (Kd.V_told (Kd.V_told (Kd.V_old (uV HO_273001.out) hb) (Kd.R_base ho2)) (Kd.R_base ho3)) (fun _ h_ => h_.1))
         replace HO_273002 := Aside0.mk (Kd.V_mono (Kd.V_told (Kd.V_told (Kd.V_old (uV HO_273002.out) hb) (Kd.R_base ho2)) (Kd.R_base ho3)) (fun _ h_ => h_.1))
         replace HO279 := Aside0.mk (Kd.V_mono (Kd.V_told (Kd.V_told (Kd.V_old (uV HO279.out) hb) (Kd.R_base ho2)) (Kd.R_base ho3)) (fun _ h_ => h_.1))
         replace HO282 := Aside0.mk (Kd.V_mono (Kd.V_told (Kd.V_told (Kd.V_old (uV HO282.out) hb) (Kd.R_base ho2)) (Kd.R_base ho3)) (fun _ h_ => h_.1))
         have HO296 := Aside0.mk (Kd.V_lower (Kd.V_mono (ok' := fun k_ => NB k_ v301 ∧ NB k_ v304 ∧ NB k_ u8 ∧ NB k_ v274 ∧ NB k_ v284 ∧ NB k_ v287 ∧ NB k_ (.slice Ao56 t290.length co56) ∧ k_ ≠ gb258 ∧ k_ ≠ gb272 ∧ k_ ≠ gb289 ∧ k_ ≠ gb306) ho0 (fun k_ hk_ => by first | exact ⟨hk_.2.1, hk_.2.2, Or.elim hk_.1 (fun hs_ => Or.elim hs_ (fun hs_ => hs_.1.1.1) (fun hs_ => hs_.1.1.1)) (fun hn_ => (Kd.fresh' (Kd.R_lt (uR HO_8.out)) k_ hn_)), Or.elim hk_.1 (fun hs_ => Or.elim hs_ (fun hs_ => hs_.1.1.2.1) (fun hs_ => hs_.1.1.2.1)) (fun hn_ => (Kd.fresh' (Kd.R_lt (uR HO275.out)) k_ hn_)), Or.elim hk_.1 (fun hs_ => Or.elim hs_ (fun hs_ => hs_.1.1.2.2.1) (fun hs_ => hs_.1.1.2.2.1)) (fun hn_ => (Kd.fresh' (Kd.R_lt (uR HO285.out)) k_ hn_)), Or.elim hk_.1 (fun hs_ => Or.elim hs_ (fun hs_ => hs_.1.1.2.2.2.1) (fun hs_ => hs_.1.1.2.2.2.1)) (fun hn_ => (Kd.fresh' (Kd.R_lt (uR HO288.out)) k_ hn_)), Or.elim hk_.1 (fun hs_ => Or.elim hs_ (fun hs_ => hs_.2) (fun hs_ => hs_.2)) (fun hn_ => (Kd.fresh' (Kd.R_lt (uR HO292.out)) k_ hn_)), Or.elim hk_.1 (fun hs_ => Or.elim hs_ (fun hs_ => hs_.1.1.2.2.2.2.1) (fun hs_ => hs_.1.1.2.2.2.2.1)) (fun hn_ => (Kd.freshB (g := gb258) (o := .cells #[.int .i64 t245, .slice Ao26 t246.length co26, .slice Ao27 t249.length co27] 24 (0, 0)) (ub BK258.out) k_ hn_)), Or.elim hk_.1 (fun hs_ => Or.elim hs_ (fun hs_ => hs_.1.1.2.2.2.2.2.1) (fun hs_ => hs_.1.1.2.2.2.2.2.1)) (fun hn_ => (Kd.freshB (g := gb272) (o := .cells #[.int .i64 t259, .slice Ao34 t260.length co34, .slice Ao35 t263.length co35] 24 (0, 0)) (ub BK272.out) k_ hn_)), Or.elim hk_.1 (fun hs_ => Or.elim hs_ (fun hs_ => hs_.1.1.2.2.2.2.2.2) (fun hs_ => hs_.1.1.2.2.2.2.2.2)) (fun hn_ => (Kd.freshB (g := gb289) (o := .cells #[.int .i64 t276, .slice Ao48 t277.length co48, .slice Ao50 t280.length co50] 24 (0, 0)) (ub BK289.out) k_ hn_)), Or.elim hk_.1 (fun hs_ => Or.elim hs_ (fun hs_ => hs_.1.2) (fun hs_ => hs_.1.2)) (fun hn_ => (Kd.freshB (g := gb306) (o := .cells #[.int .i64 0, .slice none 0 0, .slice none 0 0] 24 (0, 0)) (ub BK306.out) k_ hn_))⟩ | grind)) (below_size (uB HB.out)))
         have HO299 := Aside0.mk (Kd.V_lower (Kd.V_mono (ok' := fun k_ => NB k_ v301 ∧ NB k_ v304 ∧ NB k_ u8 ∧ NB k_ v274 ∧ NB k_ v284 ∧ NB k_ v287 ∧ NB k_ (.slice Ao56 t290.length co56) ∧ k_ ≠ gb258 ∧ k_ ≠ gb272 ∧ k_ ≠ gb289 ∧ k_ ≠ gb306) ho1 (fun k_ hk_ => by first | exact ⟨hk_.2.1, hk_.2.2, Or.elim hk_.1 (fun hs_ => Or.elim hs_ (fun hs_ => hs_.1.1.1) (fun hs_ => hs_.1.1.1)) (fun hn_ => (Kd.fresh' (Kd.R_lt (uR HO_8.out)) k_ hn_)), Or.elim hk_.1 (fun hs_ => Or.elim hs_ (fun hs_ => hs_.1.1.2.1) (fun hs_ => hs_.1.1.2.1)) (fun hn_ => (Kd.fresh' (Kd.R_lt (uR HO275.out)) k_ hn_)), Or.elim hk_.1 (fun hs_ => Or.elim hs_ (fun hs_ => hs_.1.1.2.2.1) (fun hs_ => hs_.1.1.2.2.1)) (fun hn_ => (Kd.fresh' (Kd.R_lt (uR HO285.out)) k_ hn_)), Or.elim hk_.1 (fun hs_ => Or.elim hs_ (fun hs_ => hs_.1.1.2.2.2.1) (fun hs_ => hs_.1.1.2.2.2.1)) (fun hn_ => (Kd.fresh' (Kd.R_lt (uR HO288.out)) k_ hn_)), Or.elim hk_.1 (fun hs_ => Or.elim hs_ (fun hs_ => hs_.2) (fun hs_ => hs_.2)) (fun hn_ => (Kd.fresh' (Kd.R_lt (uR HO292.out)) k_ hn_)), Or.elim hk_.1 (fun hs_ => Or.elim hs_ (fun hs_ => hs_.1.1.2.2.2.2.1) (fun hs_ => hs_.1.1.2.2.2.2.1)) (fun hn_ => (Kd.freshB (g := gb258) (o := .cells #[.int .i64 t245, .slice Ao26 t246.length co26, .slice Ao27 t249.length co27] 24 (0, 0)) (ub BK258.out) k_ hn_)), Or.elim hk_.1 (fun hs_ => Or.elim hs_ (fun hs_ => hs_.1.1.2.2.2.2.2.1) (fun hs_ => hs_.1.1.2.2.2.2.2.1)) (fun hn_ => (Kd.freshB (g := gb272) (o := .cells #[.int .i64 t259, .slice Ao34 t260.length co34, .slice Ao35 t263.length co35] 24 (0, 0)) (ub BK272.out) k_ hn_)), Or.elim hk_.1 (fun hs_ => Or.elim hs_ (fun hs_ => hs_.1.1.2.2.2.2.2.2) (fun hs_ => hs_.1.1.2.2.2.2.2.2)) (fun hn_ => (Kd.freshB (g := gb289) (o := .cells #[.int .i64 t276, .slice Ao48 t277.length co48, .slice Ao50 t280.length co50] 24 (0, 0)) (ub BK289.out) k_ hn_)), Or.elim hk_.1 (fun hs_ => Or.elim hs_ (fun hs_ => hs_.1.2) (fun hs_ => hs_.1.2)) (fun hn_ => (Kd.freshB (g := gb306) (o := .cells #[.int .i64 0, .slice none 0 0, .slice none 0 0] 24 (0, 0)) (ub BK306.out) k_ hn_))⟩ | grind)) (below_size (uB HB.out)))
         replace HO275 := Aside0.mk (Kd.R_below (uR HO275.out) hb)
         replace HO292 := Aside0.mk (Kd.R_below (uR HO292.out) hb)
         have HO302 := Aside0.mk (Kd.R_lower (Kd.R_new' (Kd.R_new' (Kd.R_mono (ok' := fun k_ => True) ho2 (fun _ hk_ => trivial)) (Kd.R_lt (uR HO_8.out))) (Kd.R_lt (uR HO285.out))) (below_size (uB HB.out)))
         replace HO_8 := Aside0.mk (Kd.R_elder' (uR HO_8.out) (Kd.R_base ho2) hb)
         replace HO285 := Aside0.mk (Kd.R_elder' (uR HO285.out) (Kd.R_base ho2) hb)
         have HO305 := Aside0.mk (Kd.R_lower (Kd.R_new' (Kd.R_mono (ok' := fun k_ => True) ho3 (fun _ hk_ => trivial)) (Kd.R_lt (uR HO288.out))) (below_size (uB HB.out)))
         replace HO288 := Aside0.mk (Kd.R_elder' (uR HO288.out) (Kd.R_base ho3) hb)
         replace BK258 := Aside0.mk (blk_below (g := gb258) (o := .cells #[.int .i64 t245, .slice Ao26 t246.length co26, .slice Ao27 t249.length co27] 24 (0, 0)) (ub BK258.out) hb)
         replace BK272 := Aside0.mk (blk_below (g := gb272) (o := .cells #[.int .i64 t259, .slice Ao34 t260.length co34, .slice Ao35 t263.length co35] 24 (0, 0)) (ub BK272.out) hb)
         replace BK289 := Aside0.mk (blk_below (g := gb289) (o := .cells #[.int .i64 t276, .slice Ao48 t277.length co48, .slice Ao50 t280.length co50] 24 (0, 0)) (ub BK289.out) hb)
         replace BK306 := Aside0.mk (blk_below (g := gb306) (o := .cells #[.int .i64 0, .slice none 0 0, .slice none 0 0] 24 (0, 0)) (ub BK306.out) hb)
         replace HB := Aside0.mk (below_step (uB HB.out) hb)
         (try clear hb)
         (try clear hb2)
         (try clear hk)
         (try clear hi)
         (try clear ho0)
         (try clear ho1)
         (try clear ho2)
         (try clear ho3)
         refine hK.out _ _ ⟨(blk_cell BK272.out 0).trans rfl, (blk_cell BK272.out 1).trans rfl, (blk_cell BK272.out 2).trans rfl⟩ (fun hHeld => ?_)
         clear hK K
         refine norm_ (a' := ?_) ?_ ?_
         rotate_left
         ·show Act.put _ (some 101) _ = _
          simp only [Act.put, List.setIfInBounds_toArray, List.set_cons_zero, List.set_cons_succ, i64_w, i32_w]
          rfl
         refine pu 5 96 13 575 HT_.out (h := ?_)
         refine pu 6 102 13 639 HT_.out (h := ?_)
         refine pu 7 103 13 767 HT_.out (h := ?_)
         refine pu 8 104 13 1023 HT_.out (h := ?_)
         exact norm_ (by simp only [putAll, Act.put, List.setIfInBounds_toArray, List.set_cons_zero, List.set_cons_succ]) (hCont (.slice Ao56 t290.length co56, v295, v298, v301, v304, gb306) _ ⟨hHeld, (by refine pR ?_; exact Kd.R_mono HO275.out (fun _ hk => hk.2)), (by refine pV ?_; exact Kd.V_mono HO279.out (fun _ hk => by grind)), (by refine pV ?_; exact Kd.V_mono HO282.out (fun _ hk => by grind)), (by refine pR ?_; exact Kd.R_mono HO285.out (fun _ hk => ⟨hk.2, hk.1⟩)), (by refine pR ?_; exact Kd.R_mono HO288.out (fun _ hk => hk.2)), (by refine pR ?_; exact Kd.R_mono HO292.out (fun _ hk => hk.2)), (by refine pV ?_; exact Kd.V_mono HO296.out (fun _ hk => by grind)), (by refine pV ?_; exact Kd.V_mono HO299.out (fun _ hk => by grind)), (by refine pR ?_; exact Kd.R_mono HO302.out (fun _ hk => ⟨hk.2, hk.1.2⟩)), (by refine pR ?_; exact Kd.R_mono HO305.out (fun _ hk => hk.2)), (by refine pV ?_; exact Kd.V_mono HO_259001.out (fun _ hk => by grind)), (by refine pV ?_; exact Kd.V_mono HO_259002.out (fun _ hk => by grind)), (by refine pV ?_; exact Kd.V_mono HO_273001.out (fun _ hk => by grind)), (by refine pV ?_; exact Kd.V_mono HO_273002.out (fun _ hk => by grind)), (uR HO_8.out), (ub BK258.out), (ub BK272.out), (ub BK289.out), (ub BK306.out), GW306.out, GE306.out, NB258_306.out, NB306_258.out, NB272_306.out, NB306_272.out, NB289_306.out, NB306_289.out, (uB HB.out)⟩)
       rintro ⟨v291, v295, v298, v301, v304, gb306⟩ w58 ⟨hS_, h0_, h1_, h2_, h3_, h4_, h5_, h6_, h7_, h8_, h9_, h10_, h11_, h12_, h13_, h14_, h15_, h16_, h17_, h18_, h19_, h20_, h21_, h22_, h23_, h24_, h25_, h26_, h27_⟩
       have n0_ : Aside0 (Kd.R k26 26 w58 w.heap.size (fun k_ => NB k_ v291) v274 t273) := ⟨h0_⟩
       have n1_ : Aside0 (Kd.V (Kd.int .i64) 3 w58 w.heap.size (fun k_ => NB k_ v274 ∧ NB k_ v284 ∧ NB k_ v287 ∧ NB k_ v291 ∧ NB k_ v301 ∧ NB k_ v304 ∧ NB k_ u8 ∧ k_ ≠ gb258 ∧ k_ ≠ gb272 ∧ k_ ≠ gb289 ∧ k_ ≠ gb306) (.slice Ao48 t277.length co48) t277) := ⟨h1_⟩
       have n2_ : Aside0 (Kd.V (Kd.int .i64) 3 w58 w.heap.size (fun k_ => NB k_ v274 ∧ NB k_ v284 ∧ NB k_ v287 ∧ NB k_ v291 ∧ NB k_ v301 ∧ NB k_ v304 ∧ NB k_ u8 ∧ k_ ≠ gb258 ∧ k_ ≠ gb272 ∧ k_ ≠ gb289 ∧ k_ ≠ gb306) (.slice Ao50 t280.length co50) t280) := ⟨h2_⟩
       have n3_ : Aside0 (Kd.R (Kd.int .i64) 3 w58 w.heap.size (fun k_ => NB k_ v301 ∧ NB k_ u8) v284 t283) := ⟨h3_⟩
       have n4_ : Aside0 (Kd.R Kd.bool 4 w58 w.heap.size (fun k_ => NB k_ v304) v287 t286) := ⟨h4_⟩
       have n5_ : Aside0 (Kd.R k26 26 w58 w.heap.size (fun k_ => NB k_ v274) v291 t290) := ⟨h5_⟩
       have n6_ : Aside0 (Kd.V (Kd.int .i64) 3 w58 w.heap.size (fun k_ => NB k_ v274 ∧ NB k_ v284 ∧ NB k_ v287 ∧ NB k_ v291 ∧ NB k_ v301 ∧ NB k_ v304 ∧ NB k_ u8 ∧ k_ ≠ gb258 ∧ k_ ≠ gb272 ∧ k_ ≠ gb289 ∧ k_ ≠ gb306) v295 t294) := ⟨h6_⟩
       have n7_ : Aside0 (Kd.V (Kd.int .i64) 3 w58 w.heap.size (fun k_ => NB k_ v274 ∧ NB k_ v284 ∧ NB k_ v287 ∧ NB k_ v291 ∧ NB k_ v301 ∧ NB k_ v304 ∧ NB k_ u8 ∧ k_ ≠ gb258 ∧ k_ ≠ gb272 ∧ k_ ≠ gb289 ∧ k_ ≠ gb306) v298 t297) := ⟨h7_⟩
       have n8_ : Aside0 (Kd.R (Kd.int .i64) 3 w58 w.heap.size (fun k_ => NB k_ v284 ∧ NB k_ u8) v301 t300) := ⟨h8_⟩
       have n9_ : Aside0 (Kd.R Kd.bool 4 w58 w.heap.size (fun k_ => NB k_ v287) v304 t303) := ⟨h9_⟩
       have n10_ : Aside0 (Kd.V (Kd.int .i64) 3 w58 w.heap.size (fun k_ => NB k_ v274 ∧ NB k_ v284 ∧ NB k_ v287 ∧ NB k_ v291 ∧ NB k_ v301 ∧ NB k_ v304 ∧ NB k_ u8 ∧ k_ ≠ gb258 ∧ k_ ≠ gb272 ∧ k_ ≠ gb289 ∧ k_ ≠ gb306) (.slice Ao26 t246.length co26) t246) := ⟨h10_⟩
       have n11_ : Aside0 (Kd.V (Kd.int .i64) 3 w58 w.heap.size (fun k_ => NB k_ v274 ∧ NB k_ v284 ∧ NB k_ v287 ∧ NB k_ v291 ∧ NB k_ v301 ∧ NB k_ v304 ∧ NB k_ u8 ∧ k_ ≠ gb258 ∧ k_ ≠ gb272 ∧ k_ ≠ gb289 ∧ k_ ≠ gb306) (.slice Ao27 t249.length co27) t249) := ⟨h11_⟩
       have n12_ : Aside0 (Kd.V (Kd.int .i64) 3 w58 w.heap.size (fun k_ => NB k_ v274 ∧ NB k_ v284 ∧ NB k_ v287 ∧ NB k_ v291 ∧ NB k_ v301 ∧ NB k_ v304 ∧ NB k_ u8 ∧ k_ ≠ gb258 ∧ k_ ≠ gb272 ∧ k_ ≠ gb289 ∧ k_ ≠ gb306) (.slice Ao34 t260.length co34) t260) := ⟨h12_⟩
       have n13_ : Aside0 (Kd.V (Kd.int .i64) 3 w58 w.heap.size (fun k_ => NB k_ v274 ∧ NB k_ v284 ∧ NB k_ v287 ∧ NB k_ v291 ∧ NB k_ v301 ∧ NB k_ v304 ∧ NB k_ u8 ∧ k_ ≠ gb258 ∧ k_ ≠ gb272 ∧ k_ ≠ gb289 ∧ k_ ≠ gb306) (.slice Ao35 t263.length co35) t263) := ⟨h13_⟩
       have n14_ : Aside0 (Kd.R (Kd.int .i64) 3 w58 w.heap.size (fun k_ => NB k_ v284 ∧ NB k_ v301) u8 x8_2) := ⟨h14_⟩
       have n15_ : Aside0 (w58.heap[gb258]? = some (.cells #[.int .i64 t245, .slice Ao26 t246.length co26, .slice Ao27 t249.length co27] 24 (0, 0))) := ⟨h15_⟩
       have n16_ : Aside0 (w58.heap[gb272]? = some (.cells #[.int .i64 t259, .slice Ao34 t260.length co34, .slice Ao35 t263.length co35] 24 (0, 0))) := ⟨h16_⟩
       have n17_ : Aside0 (w58.heap[gb289]? = some (.cells #[.int .i64 t276, .slice Ao48 t277.length co48, .slice Ao50 t280.length co50] 24 (0, 0))) := ⟨h17_⟩
       have n18_ : Aside0 (w58.heap[gb306]? = some (.cells #[.int .i64 0, .slice none 0 0, .slice none 0 0] 24 (0, 0))) := ⟨h18_⟩
       have n19_ : Aside0 (w.heap.size ≤ gb306) := ⟨h19_⟩
       have n20_ : Aside0 (w.heap.size ≤ gb306) := ⟨h20_⟩
       have n21_ : Aside0 (gb258 ≠ gb306) := ⟨h21_⟩
       have n22_ : Aside0 (gb306 ≠ gb258) := ⟨h22_⟩
       have n23_ : Aside0 (gb272 ≠ gb306) := ⟨h23_⟩
       have n24_ : Aside0 (gb306 ≠ gb272) := ⟨h24_⟩
       have n25_ : Aside0 (gb289 ≠ gb306) := ⟨h25_⟩
       have n26_ : Aside0 (gb306 ≠ gb289) := ⟨h26_⟩
       have n27_ : Aside0 (Below w.heap.size w w58) := ⟨h27_⟩
       clear HO_8 HO_259001 HO_259002 HO_273001 HO_273002 HO275 HO279 HO282 HO285 HO288 BK258 BK272 BK289 HB h0_ h1_ h2_ h3_ h4_ h5_ h6_ h7_ h8_ h9_ h10_ h11_ h12_ h13_ h14_ h15_ h16_ h17_ h18_ h19_ h20_ h21_ h22_ h23_ h24_ h25_ h26_ h27_
       have HO275 := n0_
       have HO279 := n1_
       have HO282 := n2_
       have HO285 := n3_
       have HO288 := n4_
       have HO292 := n5_
       have HO296 := n6_
       have HO299 := n7_
       have HO302 := n8_
       have HO305 := n9_
       have HO_259001 := n10_
       have HO_259002 := n11_
       have HO_273001 := n12_
       have HO_273002 := n13_
       have HO_8 := n14_
       have BK258 := n15_
       have BK272 := n16_
       have BK289 := n17_
       have BK306 := n18_
       have GW306 := n19_
       have GE306 := n20_
       have NB258_306 := n21_
       have NB306_258 := n22_
       have NB272_306 := n23_
       have NB306_272 := n24_
       have NB289_306 := n25_
       have NB306_289 := n26_
       have HB := n27_
       clear n0_ n1_ n2_ n3_ n4_ n5_ n6_ n7_ n8_ n9_ n10_ n11_ n12_ n13_ n14_ n15_ n16_ n17_ n18_ n19_ n20_ n21_ n22_ n23_ n24_ n25_ n26_ n27_
       have hHeld : w58.cell? ⟨gb272, 0, none⟩ = some (.int .i64 t259) ∧ w58.cell? ⟨gb272, 1, none⟩ = some (.slice Ao34 t260.length co34) ∧ w58.cell? ⟨gb272, 2, none⟩ = some (.slice Ao35 t263.length co35) := hS_
       obtain ⟨Ao60, co60, eo60⟩ := Kd.V_slice HO296.out
       (first | subst eo60 | (injection eo60 with f1_ f2_ f3_; have f4_ := f1_.symm; have f5_ := f3_.symm; clear f1_ f2_ f3_; subst f4_; subst f5_))
       obtain ⟨Ao62, co62, eo62⟩ := Kd.V_slice HO299.out
       (first | subst eo62 | (injection eo62 with f1_ f2_ f3_; have f4_ := f1_.symm; have f5_ := f3_.symm; clear f1_ f2_ f3_; subst f4_; subst f5_))
       refine norm_ (a' := ?_) ?_ ?_
       rotate_left
       ·simp only [putAll, Act.put, List.setIfInBounds_toArray, List.set_cons_zero, List.set_cons_succ]
        rfl
       refine one_ (i := 10) (N := none) (bA 13 2047) rfl rfl (one_of HT_.out (by kernel_rfl)) (by decide) (fun K hK => ?_)
       have hs59 : w58.cell? ⟨gb306, 0, none⟩ = some (.int .i64 0) := (blk_cell BK306.out 0).trans rfl
       have hfs59 := blk_frozen BK306.out 0
       have hns59_0 := NB258_306.out
       have hns59_1 := NB272_306.out
       have hns59_2 := NB289_306.out
       have hms59_0 := NB306_258.out
       have hms59_1 := NB306_272.out
       have hms59_2 := NB306_289.out
       have hs61 : w58.cell? ⟨gb306, 1, none⟩ = some (.slice none 0 0) := (blk_cell BK306.out 1).trans rfl
       have hfs61 := blk_frozen BK306.out 1
       have hns61_0 := NB258_306.out
       have hns61_1 := NB272_306.out
       have hns61_2 := NB289_306.out
       have hms61_0 := NB306_258.out
       have hms61_1 := NB306_272.out
       have hms61_2 := NB306_289.out
       have hs63 : w58.cell? ⟨gb306, 2, none⟩ = some (.slice none 0 0) := (blk_cell BK306.out 2).trans rfl
       have hfs63 := blk_frozen BK306.out 2
       have hns63_0 := NB258_306.out
       have hns63_1 := NB272_306.out
       have hns63_2 := NB289_306.out
       have hms63_0 := NB306_258.out
       have hms63_1 := NB306_272.out
       have hms63_2 := NB306_289.out
       refine skip_ (w1 := ?_) (by rfl) rfl ?_ ?_
       rotate_left
       ·go_simp
        rfl
       refine hK.out _ _ ⟨((cell_far (p := ⟨gb306, _, none⟩) NB272_306.out _).trans (((cell_far (p := ⟨gb306, _, none⟩) NB272_306.out _).trans (((cell_far (p := ⟨gb306, _, none⟩) NB272_306.out _).trans (hHeld.1)))))), ((cell_far (p := ⟨gb306, _, none⟩) NB272_306.out _).trans (((cell_far (p := ⟨gb306, _, none⟩) NB272_306.out _).trans (((cell_far (p := ⟨gb306, _, none⟩) NB272_306.out _).trans (hHeld.2.1)))))), ((cell_far (p := ⟨gb306, _, none⟩) NB272_306.out _).trans (((cell_far (p := ⟨gb306, _, none⟩) NB272_306.out _).trans (((cell_far (p := ⟨gb306, _, none⟩) NB272_306.out _).trans (hHeld.2.2))))))⟩ (fun hHeld => ?_)
       clear hK K
       refine pu 11 21 13 4095 HT_.out (h := ?_)
       refine pu 12 22 13 8191 HT_.out (h := ?_)
       refine done_ (done_of HT_.out (by kernel_rfl)) ?_
       go_upto_region 18 with (fail)
       go_cut [152] (fun v152 wc => ∃ (kq : Nat) (x152_39 : Bool), v152 = .bool x152_39 ∧ Aside0 (underwoodlaw09_SpecLast.j3 kq l0 l1 t232 x8_2 x16_20 t283 t300 x152_39 = some r) ∧ Aside0 (kq ≤ kj20) ∧ Aside0 (Kd.R (Kd.int .i64) 3 wc w.heap.size (fun k_ => NB k_ v284 ∧ NB k_ v301) u8 x8_2) ∧ Aside0 (Kd.R (Kd.int .i64) 3 wc w.heap.size (fun k_ => NB k_ u8 ∧ NB k_ v301) v284 t283) ∧ Aside0 (Kd.R (Kd.int .i64) 3 wc w.heap.size (fun k_ => NB k_ u8 ∧ NB k_ v284) v301 t300) ∧ Aside0 (Kd.V (Kd.int .i64) 3 wc w.heap.size (fun k_ => NB k_ u8 ∧ NB k_ v284 ∧ NB k_ v301 ∧ k_ ≠ gb258 ∧ k_ ≠ gb272 ∧ k_ ≠ gb289 ∧ k_ ≠ gb306) (.slice Ao26 t246.length co26) t246) ∧ Aside0 (Kd.V (Kd.int .i64) 3 wc w.heap.size (fun k_ => NB k_ u8 ∧ NB k_ v284 ∧ NB k_ v301 ∧ k_ ≠ gb258 ∧ k_ ≠ gb272 ∧ k_ ≠ gb289 ∧ k_ ≠ gb306) (.slice Ao27 t249.length co27) t249) ∧ Aside0 (Kd.V (Kd.int .i64) 3 wc w.heap.size (fun k_ => NB k_ u8 ∧ NB k_ v284 ∧ NB k_ v301 ∧ k_ ≠ gb258 ∧ k_ ≠ gb272 ∧ k_ ≠ gb289 ∧ k_ ≠ gb306) (.slice Ao34 t260.length co34) t260) ∧ Aside0 (Kd.V (Kd.int .i64) 3 wc w.heap.size (fun k_ => NB k_ u8 ∧ NB k_ v284 ∧ NB k_ v301 ∧ k_ ≠ gb258 ∧ k_ ≠ gb272 ∧ k_ ≠ gb289 ∧ k_ ≠ gb306) (.slice Ao35 t263.length co35) t263) ∧ Aside0 (Kd.V (Kd.int .i64) 3 wc w.heap.size (fun k_ => NB k_ u8 ∧ NB k_ v284 ∧ NB k_ v301 ∧ k_ ≠ gb258 ∧ k_ ≠ gb272 ∧ k_ ≠ gb289 ∧ k_ ≠ gb306) (.slice Ao48 t277.length co48) t277) ∧ Aside0 (Kd.V (Kd.int .i64) 3 wc w.heap.size (fun k_ => NB k_ u8 ∧ NB k_ v284 ∧ NB k_ v301 ∧ k_ ≠ gb258 ∧ k_ ≠ gb272 ∧ k_ ≠ gb289 ∧ k_ ≠ gb306) (.slice Ao50 t280.length co50) t280) ∧ Aside0 (Kd.V (Kd.int .i64) 3 wc w.heap.size (fun k_ => NB k_ u8 ∧ NB k_ v284 ∧ NB k_ v301 ∧ k_ ≠ gb258 ∧ k_ ≠ gb272 ∧ k_ ≠ gb289 ∧ k_ ≠ gb306) (.slice Ao60 t294.length co60) t294) ∧ Aside0 (Kd.V (Kd.int .i64) 3 wc w.heap.size (fun k_ => NB k_ u8 ∧ NB k_ v284 ∧ NB k_ v301 ∧ k_ ≠ gb258 ∧ k_ ≠ gb272 ∧ k_ ≠ gb289 ∧ k_ ≠ gb306) (.slice Ao62 t297.length co62) t297) ∧ Aside0 (wc.heap[gb258]? = some (.cells #[.int .i64 t245, (.slice Ao26 t246.length co26), (.slice Ao27 t249.length co27)] 24 (0, 0))) ∧ Aside0 (wc.heap[gb272]? = some (.cells #[.int .i64 t259, (.slice Ao34 t260.length co34), (.slice Ao35 t263.length co35)] 24 (0, 0))) ∧ Aside0 (wc.heap[gb289]? = some (.cells #[.int .i64 t276, (.slice Ao48 t277.length co48), (.slice Ao50 t280.length co50)] 24 (0, 0))) ∧ Aside0 (wc.heap[gb306]? = some (.cells #[.int .i64 t293, (.slice Ao60 t294.length co60), (.slice Ao62 t297.length co62)] 24 (0, 0))) ∧ Aside0 (Below w.heap.size w wc))
       case first =>
        have H := HC40.out
        clear HC40
        by_cases c64 : (t283.length : Int) = (wrap64 (x16_20 + 1))
        rotate_left
        ·rw [if_neg c64] at H
         have c64b0 : ((t283.length : Int) == (wrap64 (x16_20 + 1))) = false := beq_eq_false_iff_ne.mpr c64
         have c64b1 : ((t283.length : Int) != (wrap64 (x16_20 + 1))) = true := bne_iff_ne.mpr c64
         (first | rw [c64b0] | (simp only [i64_w, i32_w]; rw [c64b0]) | skip)
         have H' := Aside0.mk H
         clear H
         obtain ⟨Ao116, co116, eo116⟩ := Kd.R_slice HO285.out
         subst eo116
         go_wp2
         go_meet
         case rel => exact ⟨_, (true), (by first | rfl | (simp; done) | (simp [*]; done)), H', ⟨by have := HJ3.out; have := HK2.out; have := HJ20.out; first | omega | exact Nat.le_refl _⟩, ⟨by refine pR ?_; exact Kd.R_mono (Kd.R_far (p := ⟨gb306, 2, none⟩) (Kd.R_far (p := ⟨gb306, 1, none⟩) (Kd.R_far (p := ⟨gb306, 0, none⟩) (Kd.R_types HO_8.out BK306.out (by decide)) (fun _ hk => hk.2) (.int .i64 t293)) (fun _ hk => hk.2) (.slice Ao60 t294.length co60)) (fun _ hk => hk.2) (.slice Ao62 t297.length co62)) (fun _ hk => ⟨hk.1.1, hk.1.2⟩)⟩, ⟨by refine pR ?_; exact Kd.R_mono (Kd.R_far (p := ⟨gb306, 2, none⟩) (Kd.R_far (p := ⟨gb306, 1, none⟩) (Kd.R_far (p := ⟨gb306, 0, none⟩) (Kd.R_types HO285.out BK306.out (by decide)) (fun _ hk => hk.2) (.int .i64 t293)) (fun _ hk => hk.2) (.slice Ao60 t294.length co60)) (fun _ hk => hk.2) (.slice Ao62 t297.length co62)) (fun _ hk => ⟨hk.1.2, hk.1.1⟩)⟩, ⟨by refine pR ?_; exact Kd.R_mono (Kd.R_far (p := ⟨gb306, 2, none⟩) (Kd.R_far (p := ⟨gb306, 1, none⟩) (Kd.R_far (p := ⟨gb306, 0, none⟩) (Kd.R_types HO302.out BK306.out (by decide)) (fun _ hk => hk.2) (.int .i64 t293)) (fun _ hk => hk.2) (.slice Ao60 t294.length co60)) (fun _ hk => hk.2) (.slice Ao62 t297.length co62)) (fun _ hk => ⟨hk.1.2, hk.1.1⟩)⟩, ⟨by refine pV ?_; exact Kd.V_mono (Kd.V_far (p := ⟨gb306, 2, none⟩) (Kd.V_far (p := ⟨gb306, 1, none⟩) (Kd.V_far (p := ⟨gb306, 0, none⟩) (Kd.V_mono HO_259001.out (fun k_ hk => (⟨hk, hk.2.2.2.2.2.2.2.2.2.2⟩ : _ ∧ k_ ≠ gb306))) (fun _ hk => hk.2) (.int .i64 t293)) (fun _ hk => hk.2) (.slice Ao60 t294.length co60)) (fun _ hk => hk.2) (.slice Ao62 t297.length co62)) (fun _ hk => by grind)⟩, ⟨by refine pV ?_; exact Kd.V_mono (Kd.V_far (p := ⟨gb306, 2, none⟩) (Kd.V_far (p := ⟨gb306, 1, none⟩) (Kd.V_far (p := ⟨gb306, 0, none⟩) (Kd.V_mono HO_259002.out (fun k_ hk => (⟨hk, hk.2.2.2.2.2.2.2.2.2.2⟩ : _ ∧ k_ ≠ gb306))) (fun _ hk => hk.2) (.int .i64 t293)) (fun _ hk => hk.2) (.slice Ao60 t294.length co60)) (fun _ hk => hk.2) (.slice Ao62 t297.length co62)) (fun _ hk => by grind)⟩, ⟨by refine pV ?_; exact Kd.V_mono (Kd.V_far (p := ⟨gb306, 2, none⟩) (Kd.V_far (p := ⟨gb306, 1, none⟩) (Kd.V_far (p := ⟨gb306, 0, none⟩) (Kd.V_mono HO_273001.out (fun k_ hk => (⟨hk, hk.2.2.2.2.2.2.2.2.2.2⟩ : _ ∧ k_ ≠ gb306))) (fun _ hk => hk.2) (.int .i64 t293)) (fun _ hk => hk.2) (.slice Ao60 t294.length co60)) (fun _ hk => hk.2) (.slice Ao62 t297.length co62)) (fun _ hk => by grind)⟩, ⟨by refine pV ?_; exact Kd.V_mono (Kd.V_far (p := ⟨gb306, 2, none⟩) (Kd.V_far (p := ⟨gb306, 1, none⟩) (Kd.V_far (p := ⟨gb306, 0, none⟩) (Kd.V_mono HO_273002.out (fun k_ hk => (⟨hk, hk.2.2.2.2.2.2.2.2.2.2⟩ : _ ∧ k_ ≠ gb306))) (fun _ hk => hk.2) (.int .i64 t293)) (fun _ hk => hk.2) (.slice Ao60 t294.length co60)) (fun _ hk => hk.2) (.slice Ao62 t297.length co62)) (fun _ hk => by grind)⟩, ⟨by refine pV ?_; exact Kd.V_mono (Kd.V_far (p := ⟨gb306, 2, none⟩) (Kd.V_far (p := ⟨gb306, 1, none⟩) (Kd.V_far (p := ⟨gb306, 0, none⟩) (Kd.V_mono HO279.out (fun k_ hk => (⟨hk, hk.2.2.2.2.2.2.2.2.2.2⟩ : _ ∧ k_ ≠ gb306))) (fun _ hk => hk.2) (.int .i64 t293)) (fun _ hk => hk.2) (.slice Ao60 t294.length co60)) (fun _ hk => hk.2) (.slice Ao62 t297.length co62)) (fun _ hk => by grind)⟩, ⟨by refine pV ?_; exact Kd.V_mono (Kd.V_far (p := ⟨gb306, 2, none⟩) (Kd.V_far (p := ⟨gb306, 1, none⟩) (Kd.V_far (p := ⟨gb306, 0, none⟩) (Kd.V_mono HO282.out (fun k_ hk => (⟨hk, hk.2.2.2.2.2.2.2.2.2.2⟩ : _ ∧ k_ ≠ gb306))) (fun _ hk => hk.2) (.int .i64 t293)) (fun _ hk => hk.2) (.slice Ao60 t294.length co60)) (fun _ hk => hk.2) (.slice Ao62 t297.length co62)) (fun _ hk => by grind)⟩, ⟨by refine pV ?_; exact Kd.V_mono (Kd.V_far (p := ⟨gb306, 2, none⟩) (Kd.V_far (p := ⟨gb306, 1, none⟩) (Kd.V_far (p := ⟨gb306, 0, none⟩) (Kd.V_mono HO296.out (fun k_ hk => (⟨hk, hk.2.2.2.2.2.2.2.2.2.2⟩ : _ ∧ k_ ≠ gb306))) (fun _ hk => hk.2) (.int .i64 t293)) (fun _ hk => hk.2) (.slice Ao60 t294.length co60)) (fun _ hk => hk.2) (.slice Ao62 t297.length co62)) (fun _ hk => by grind)⟩, ⟨by refine pV ?_; exact Kd.V_mono (Kd.V_far (p := ⟨gb306, 2, none⟩) (Kd.V_far (p := ⟨gb306, 1, none⟩) (Kd.V_far (p := ⟨gb306, 0, none⟩) (Kd.V_mono HO299.out (fun k_ hk => (⟨hk, hk.2.2.2.2.2.2.2.2.2.2⟩ : _ ∧ k_ ≠ gb306))) (fun _ hk => hk.2) (.int .i64 t293)) (fun _ hk => hk.2) (.slice Ao60 t294.length co60)) (fun _ hk => hk.2) (.slice Ao62 t297.length co62)) (fun _ hk => by grind)⟩, ⟨by (with_reducible repeat (first | refine blk_drewN ?_ _ | refine blk_drew ?_ | refine blk_alloc ?_ _)); refine blk_far ?_ NB258_306.out _; (with_reducible repeat (first | refine blk_drewN ?_ _ | refine blk_drew ?_ | refine blk_alloc ?_ _)); refine blk_far ?_ NB258_306.out _; (with_reducible repeat (first | refine blk_drewN ?_ _ | refine blk_drew ?_ | refine blk_alloc ?_ _)); refine blk_far ?_ NB258_306.out _; refine pb ?_; exact BK258.out⟩, ⟨by (with_reducible repeat (first | refine blk_drewN ?_ _ | refine blk_drew ?_ | refine blk_alloc ?_ _)); refine blk_far ?_ NB272_306.out _; (with_reducible repeat (first | refine blk_drewN ?_ _ | refine blk_drew ?_ | refine blk_alloc ?_ _)); refine blk_far ?_ NB272_306.out _; (with_reducible repeat (first | refine blk_drewN ?_ _ | refine blk_drew ?_ | refine blk_alloc ?_ _)); refine blk_far ?_ NB272_306.out _; refine pb ?_; exact BK272.out⟩, ⟨by (with_reducible repeat (first | refine blk_drewN ?_ _ | refine blk_drew ?_ | refine blk_alloc ?_ _)); refine blk_far ?_ NB289_306.out _; (with_reducible repeat (first | refine blk_drewN ?_ _ | refine blk_drew ?_ | refine blk_alloc ?_ _)); refine blk_far ?_ NB289_306.out _; (with_reducible repeat (first | refine blk_drewN ?_ _ | refine blk_drew ?_ | refine blk_alloc ?_ _)); refine blk_far ?_ NB289_306.out _; refine pb ?_; exact BK289.out⟩, ⟨by (with_reducible repeat (first | refine blk_drewN ?_ _ | refine blk_drew ?_ | refine blk_alloc ?_ _)); refine blk_put (cs := #[.int .i64 t293, .slice Ao60 t294.length co60, .slice none 0 0]) ?_ 2 _ rfl; (with_reducible repeat (first | refine blk_drewN ?_ _ | refine blk_drew ?_ | refine blk_alloc ?_ _)); refine blk_put (cs := #[.int .i64 t293, .slice none 0 0, .slice none 0 0]) ?_ 1 _ rfl; (with_reducible repeat (first | refine blk_drewN ?_ _ | refine blk_drew ?_ | refine blk_alloc ?_ _)); refine blk_put (cs := #[.int .i64 0, .slice none 0 0, .slice none 0 0]) ?_ 0 _ rfl; refine pb ?_; exact BK306.out⟩, ⟨uB HB.out⟩⟩
        rw [if_pos c64] at H
        have c64b0 : ((t283.length : Int) == (wrap64 (x16_20 + 1))) = true := beq_iff_eq.mpr c64
        have c64b1 : ((t283.length : Int) != (wrap64 (x16_20 + 1))) = false := bne_eq_false_iff_eq.mpr c64
        clear c64
        (first | rw [c64b0] | (simp only [i64_w, i32_w]; rw [c64b0]) | skip)
        by_cases c65 : (t300.length : Int) = (wrap64 (x16_20 + 1))
        rotate_left
        ·rw [if_neg c65] at H
         have c65b0 : ((t300.length : Int) == (wrap64 (x16_20 + 1))) = false := beq_eq_false_iff_ne.mpr c65
         have c65b1 : ((t300.length : Int) != (wrap64 (x16_20 + 1))) = true := bne_iff_ne.mpr c65
         have H' := Aside0.mk H
         clear H
         obtain ⟨Ao114, co114, eo114⟩ := Kd.R_slice HO285.out
         subst eo114
         obtain ⟨Ao115, co115, eo115⟩ := Kd.R_slice HO302.out
         subst eo115
         go_wp2
         go_meet
         case rel => exact ⟨_, (true), (by first | rfl | (simp; done) | (simp [*]; done)), H', ⟨by have := HJ3.out; have := HK2.out; have := HJ20.out; first | omega | exact Nat.le_refl _⟩, ⟨by refine pR ?_; exact Kd.R_mono (Kd.R_far (p := ⟨gb306, 2, none⟩) (Kd.R_far (p := ⟨gb306, 1, none⟩) (Kd.R_far (p := ⟨gb306, 0, none⟩) (Kd.R_types HO_8.out BK306.out (by decide)) (fun _ hk => hk.2) (.int .i64 t293)) (fun _ hk => hk.2) (.slice Ao60 t294.length co60)) (fun _ hk => hk.2) (.slice Ao62 t297.length co62)) (fun _ hk => ⟨hk.1.1, hk.1.2⟩)⟩, ⟨by refine pR ?_; exact Kd.R_mono (Kd.R_far (p := ⟨gb306, 2, none⟩) (Kd.R_far (p := ⟨gb306, 1, none⟩) (Kd.R_far (p := ⟨gb306, 0, none⟩) (Kd.R_types HO285.out BK306.out (by decide)) (fun _ hk => hk.2) (.int .i64 t293)) (fun _ hk => hk.2) (.slice Ao60 t294.length co60)) (fun _ hk => hk.2) (.slice Ao62 t297.length co62)) (fun _ hk => ⟨hk.1.2, hk.1.1⟩)⟩, ⟨by refine pR ?_; exact Kd.R_mono (Kd.R_far (p := ⟨gb306, 2, none⟩) (Kd.R_far (p := ⟨gb306, 1, none⟩) (Kd.R_far (p := ⟨gb306, 0, none⟩) (Kd.R_types HO302.out BK306.out (by decide)) (fun _ hk => hk.2) (.int .i64 t293)) (fun _ hk => hk.2) (.slice Ao60 t294.length co60)) (fun _ hk => hk.2) (.slice Ao62 t297.length co62)) (fun _ hk => ⟨hk.1.2, hk.1.1⟩)⟩, ⟨by refine pV ?_; exact Kd.V_mono (Kd.V_far (p := ⟨gb306, 2, none⟩) (Kd.V_far (p := ⟨gb306, 1, none⟩) (Kd.V_far (p := ⟨gb306, 0, none⟩) (Kd.V_mono HO_259001.out (fun k_ hk => (⟨hk, hk.2.2.2.2.2.2.2.2.2.2⟩ : _ ∧ k_ ≠ gb306))) (fun _ hk => hk.2) (.int .i64 t293)) (fun _ hk => hk.2) (.slice Ao60 t294.length co60)) (fun _ hk => hk.2) (.slice Ao62 t297.length co62)) (fun _ hk => by grind)⟩, ⟨by refine pV ?_; exact Kd.V_mono (Kd.V_far (p := ⟨gb306, 2, none⟩) (Kd.V_far (p := ⟨gb306, 1, none⟩) (Kd.V_far (p := ⟨gb306, 0, none⟩) (Kd.V_mono HO_259002.out (fun k_ hk => (⟨hk, hk.2.2.2.2.2.2.2.2.2.2⟩ : _ ∧ k_ ≠ gb306))) (fun _ hk => hk.2) (.int .i64 t293)) (fun _ hk => hk.2) (.slice Ao60 t294.length co60)) (fun _ hk => hk.2) (.slice Ao62 t297.length co62)) (fun _ hk => by grind)⟩, ⟨by refine pV ?_; exact Kd.V_mono (Kd.V_far (p := ⟨gb306, 2, none⟩) (Kd.V_far (p := ⟨gb306, 1, none⟩) (Kd.V_far (p := ⟨gb306, 0, none⟩) (Kd.V_mono HO_273001.out (fun k_ hk => (⟨hk, hk.2.2.2.2.2.2.2.2.2.2⟩ : _ ∧ k_ ≠ gb306))) (fun _ hk => hk.2) (.int .i64 t293)) (fun _ hk => hk.2) (.slice Ao60 t294.length co60)) (fun _ hk => hk.2) (.slice Ao62 t297.length co62)) (fun _ hk => by grind)⟩, ⟨by refine pV ?_; exact Kd.V_mono (Kd.V_far (p := ⟨gb306, 2, none⟩) (Kd.V_far (p := ⟨gb306, 1, none⟩) (Kd.V_far (p := ⟨gb306, 0, none⟩) (Kd.V_mono HO_273002.out (fun k_ hk => (⟨hk, hk.2.2.2.2.2.2.2.2.2.2⟩ : _ ∧ k_ ≠ gb306))) (fun _ hk => hk.2) (.int .i64 t293)) (fun _ hk => hk.2) (.slice Ao60 t294.length co60)) (fun _ hk => hk.2) (.slice Ao62 t297.length co62)) (fun _ hk => by grind)⟩, ⟨by refine pV ?_; exact Kd.V_mono (Kd.V_far (p := ⟨gb306, 2, none⟩) (Kd.V_far (p := ⟨gb306, 1, none⟩) (Kd.V_far (p := ⟨gb306, 0, none⟩) (Kd.V_mono HO279.out (fun k_ hk => (⟨hk, hk.2.2.2.2.2.2.2.2.2.2⟩ : _ ∧ k_ ≠ gb306))) (fun _ hk => hk.2) (.int .i64 t293)) (fun _ hk => hk.2) (.slice Ao60 t294.length co60)) (fun _ hk => hk.2) (.slice Ao62 t297.length co62)) (fun _ hk => by grind)⟩, ⟨by refine pV ?_; exact Kd.V_mono (Kd.V_far (p := ⟨gb306, 2, none⟩) (Kd.V_far (p := ⟨gb306, 1, none⟩) (Kd.V_far (p := ⟨gb306, 0, none⟩) (Kd.V_mono HO282.out (fun k_ hk => (⟨hk, hk.2.2.2.2.2.2.2.2.2.2⟩ : _ ∧ k_ ≠ gb306))) (fun _ hk => hk.2) (.int .i64 t293)) (fun _ hk => hk.2) (.slice Ao60 t294.length co60)) (fun _ hk => hk.2) (.slice Ao62 t297.length co62)) (fun _ hk => by grind)⟩, ⟨by refine pV ?_; exact Kd.V_mono (Kd.V_far (p := ⟨gb306, 2, none⟩) (Kd.V_far (p := ⟨gb306, 1, none⟩) (Kd.V_far (p := ⟨gb306, 0, none⟩) (Kd.V_mono HO296.out (fun k_ hk => (⟨hk, hk.2.2.2.2.2.2.2.2.2.2⟩ : _ ∧ k_ ≠ gb306))) (fun _ hk => hk.2) (.int .i64 t293)) (fun _ hk => hk.2) (.slice Ao60 t294.length co60)) (fun _ hk => hk.2) (.slice Ao62 t297.length co62)) (fun _ hk => by grind)⟩, ⟨by refine pV ?_; exact Kd.V_mono (Kd.V_far (p := ⟨gb306, 2, none⟩) (Kd.V_far (p := ⟨gb306, 1, none⟩) (Kd.V_far (p := ⟨gb306, 0, none⟩) (Kd.V_mono HO299.out (fun k_ hk => (⟨hk, hk.2.2.2.2.2.2.2.2.2.2⟩ : _ ∧ k_ ≠ gb306))) (fun _ hk => hk.2) (.int .i64 t293)) (fun _ hk => hk.2) (.slice Ao60 t294.length co60)) (fun _ hk => hk.2) (.slice Ao62 t297.length co62)) (fun _ hk => by grind)⟩, ⟨by (with_reducible repeat (first | refine blk_drewN ?_ _ | refine blk_drew ?_ | refine blk_alloc ?_ _)); refine blk_far ?_ NB258_306.out _; (with_reducible repeat (first | refine blk_drewN ?_ _ | refine blk_drew ?_ | refine blk_alloc ?_ _)); refine blk_far ?_ NB258_306.out _; (with_reducible repeat (first | refine blk_drewN ?_ _ | refine blk_drew ?_ | refine blk_alloc ?_ _)); refine blk_far ?_ NB258_306.out _; refine pb ?_; exact BK258.out⟩, ⟨by (with_reducible repeat (first | refine blk_drewN ?_ _ | refine blk_drew ?_ | refine blk_alloc ?_ _)); refine blk_far ?_ NB272_306.out _; (with_reducible repeat (first | refine blk_drewN ?_ _ | refine blk_drew ?_ | refine blk_alloc ?_ _)); refine blk_far ?_ NB272_306.out _; (with_reducible repeat (first | refine blk_drewN ?_ _ | refine blk_drew ?_ | refine blk_alloc ?_ _)); refine blk_far ?_ NB272_306.out _; refine pb ?_; exact BK272.out⟩, ⟨by (with_reducible repeat (first | refine blk_drewN ?_ _ | refine blk_drew ?_ | refine blk_alloc ?_ _)); refine blk_far ?_ NB289_306.out _; (with_reducible repeat (first | refine blk_drewN ?_ _ | refine blk_drew ?_ | refine blk_alloc ?_ _)); refine blk_far ?_ NB289_306.out _; (with_reducible repeat (first | refine blk_drewN ?_ _ | refine blk_drew ?_ | refine blk_alloc ?_ _)); refine blk_far ?_ NB289_306.out _; refine pb ?_; exact BK289.out⟩, ⟨by (with_reducible repeat (first | refine blk_drewN ?_ _ | refine blk_drew ?_ | refine blk_alloc ?_ _)); refine blk_put (cs := #[.int .i64 t293, .slice Ao60 t294.length co60, .slice none 0 0]) ?_ 2 _ rfl; (with_reducible repeat (first | refine blk_drewN ?_ _ | refine blk_drew ?_ | refine blk_alloc ?_ _)); refine blk_put (cs := #[.int .i64 t293, .slice none 0 0, .slice none 0 0]) ?_ 1 _ rfl; (with_reducible repeat (first | refine blk_drewN ?_ _ | refine blk_drew ?_ | refine blk_alloc ?_ _)); refine blk_put (cs := #[.int .i64 0, .slice none 0 0, .slice none 0 0]) ?_ 0 _ rfl; refine pb ?_; exact BK306.out⟩, ⟨uB HB.out⟩⟩
        rw [if_pos c65] at H
        have c65b0 : ((t300.length : Int) == (wrap64 (x16_20 + 1))) = true := beq_iff_eq.mpr c65
        have c65b1 : ((t300.length : Int) != (wrap64 (x16_20 + 1))) = false := bne_eq_false_iff_eq.mpr c65
        clear c65
        by_cases c66 : (t286.length : Int) = (wrap64 (x16_20 + 1))
        rotate_left
        ·rw [if_neg c66] at H
         have c66b0 : ((t286.length : Int) == (wrap64 (x16_20 + 1))) = false := beq_eq_false_iff_ne.mpr c66
         have c66b1 : ((t286.length : Int) != (wrap64 (x16_20 + 1))) = true := bne_iff_ne.mpr c66
         have H' := Aside0.mk H
         clear H
         obtain ⟨Ao111, co111, eo111⟩ := Kd.R_slice HO285.out
         subst eo111
         obtain ⟨Ao112, co112, eo112⟩ := Kd.R_slice HO302.out
         subst eo112
         obtain ⟨Ao113, co113, eo113⟩ := Kd.R_slice HO288.out
         subst eo113
         go_wp2
         go_meet
         case rel => exact ⟨_, (true), (by first | rfl | (simp; done) | (simp [*]; done)), H', ⟨by have := HJ3.out; have := HK2.out; have := HJ20.out; first | omega | exact Nat.le_refl _⟩, ⟨by refine pR ?_; exact Kd.R_mono (Kd.R_far (p := ⟨gb306, 2, none⟩) (Kd.R_far (p := ⟨gb306, 1, none⟩) (Kd.R_far (p := ⟨gb306, 0, none⟩) (Kd.R_types HO_8.out BK306.out (by decide)) (fun _ hk => hk.2) (.int .i64 t293)) (fun _ hk => hk.2) (.slice Ao60 t294.length co60)) (fun _ hk => hk.2) (.slice Ao62 t297.length co62)) (fun _ hk => ⟨hk.1.1, hk.1.2⟩)⟩, ⟨by refine pR ?_; exact Kd.R_mono (Kd.R_far (p := ⟨gb306, 2, none⟩) (Kd.R_far (p := ⟨gb306, 1, none⟩) (Kd.R_far (p := ⟨gb306, 0, none⟩) (Kd.R_types HO285.out BK306.out (by decide)) (fun _ hk => hk.2) (.int .i64 t293)) (fun _ hk => hk.2) (.slice Ao60 t294.length co60)) (fun _ hk => hk.2) (.slice Ao62 t297.length co62)) (fun _ hk => ⟨hk.1.2, hk.1.1⟩)⟩, ⟨by refine pR ?_; exact Kd.R_mono (Kd.R_far (p := ⟨gb306, 2, none⟩) (Kd.R_far (p := ⟨gb306, 1, none⟩) (Kd.R_far (p := ⟨gb306, 0, none⟩) (Kd.R_types HO302.out BK306.out (by decide)) (fun _ hk => hk.2) (.int .i64 t293)) (fun _ hk => hk.2) (.slice Ao60 t294.length co60)) (fun _ hk => hk.2) (.slice Ao62 t297.length co62)) (fun _ hk => ⟨hk.1.2, hk.1.1⟩)⟩, ⟨by refine pV ?_; exact Kd.V_mono (Kd.V_far (p := ⟨gb306, 2, none⟩) (Kd.V_far (p := ⟨gb306, 1, none⟩) (Kd.V_far (p := ⟨gb306, 0, none⟩) (Kd.V_mono HO_259001.out (fun k_ hk => (⟨hk, hk.2.2.2.2.2.2.2.2.2.2⟩ : _ ∧ k_ ≠ gb306))) (fun _ hk => hk.2) (.int .i64 t293)) (fun _ hk => hk.2) (.slice Ao60 t294.length co60)) (fun _ hk => hk.2) (.slice Ao62 t297.length co62)) (fun _ hk => by grind)⟩, ⟨by refine pV ?_; exact Kd.V_mono (Kd.V_far (p := ⟨gb306, 2, none⟩) (Kd.V_far (p := ⟨gb306, 1, none⟩) (Kd.V_far (p := ⟨gb306, 0, none⟩) (Kd.V_mono HO_259002.out (fun k_ hk => (⟨hk, hk.2.2.2.2.2.2.2.2.2.2⟩ : _ ∧ k_ ≠ gb306))) (fun _ hk => hk.2) (.int .i64 t293)) (fun _ hk => hk.2) (.slice Ao60 t294.length co60)) (fun _ hk => hk.2) (.slice Ao62 t297.length co62)) (fun _ hk => by grind)⟩, ⟨by refine pV ?_; exact Kd.V_mono (Kd.V_far (p := ⟨gb306, 2, none⟩) (Kd.V_far (p := ⟨gb306, 1, none⟩) (Kd.V_far (p := ⟨gb306, 0, none⟩) (Kd.V_mono HO_273001.out (fun k_ hk => (⟨hk, hk.2.2.2.2.2.2.2.2.2.2⟩ : _ ∧ k_ ≠ gb306))) (fun _ hk => hk.2) (.int .i64 t293)) (fun _ hk => hk.2) (.slice Ao60 t294.length co60)) (fun _ hk => hk.2) (.slice Ao62 t297.length co62)) (fun _ hk => by grind)⟩, ⟨by refine pV ?_; exact Kd.V_mono (Kd.V_far (p := ⟨gb306, 2, none⟩) (Kd.V_far (p := ⟨gb306, 1, none⟩) (Kd.V_far (p := ⟨gb306, 0, none⟩) (Kd.V_mono HO_273002.out (fun k_ hk => (⟨hk, hk.2.2.2.2.2.2.2.2.2.2⟩ : _ ∧ k_ ≠ gb306))) (fun _ hk => hk.2) (.int .i64 t293)) (fun _ hk => hk.2) (.slice Ao60 t294.length co60)) (fun _ hk => hk.2) (.slice Ao62 t297.length co62)) (fun _ hk => by grind)⟩, ⟨by refine pV ?_; exact Kd.V_mono (Kd.V_far (p := ⟨gb306, 2, none⟩) (Kd.V_far (p := ⟨gb306, 1, none⟩) (Kd.V_far (p := ⟨gb306, 0, none⟩) (Kd.V_mono HO279.out (fun k_ hk => (⟨hk, hk.2.2.2.2.2.2.2.2.2.2⟩ : _ ∧ k_ ≠ gb306))) (fun _ hk => hk.2) (.int .i64 t293)) (fun _ hk => hk.2) (.slice Ao60 t294.length co60)) (fun _ hk => hk.2) (.slice Ao62 t297.length co62)) (fun _ hk => by grind)⟩, ⟨by refine pV ?_; exact Kd.V_mono (Kd.V_far (p := ⟨gb306, 2, none⟩) (Kd.V_far (p := ⟨gb306, 1, none⟩) (Kd.V_far (p := ⟨gb306, 0, none⟩) (Kd.V_mono HO282.out (fun k_ hk => (⟨hk, hk.2.2.2.2.2.2.2.2.2.2⟩ : _ ∧ k_ ≠ gb306))) (fun _ hk => hk.2) (.int .i64 t293)) (fun _ hk => hk.2) (.slice Ao60 t294.length co60)) (fun _ hk => hk.2) (.slice Ao62 t297.length co62)) (fun _ hk => by grind)⟩, ⟨by refine pV ?_; exact Kd.V_mono (Kd.V_far (p := ⟨gb306, 2, none⟩) (Kd.V_far (p := ⟨gb306, 1, none⟩) (Kd.V_far (p := ⟨gb306, 0, none⟩) (Kd.V_mono HO296.out (fun k_ hk => (⟨hk, hk.2.2.2.2.2.2.2.2.2.2⟩ : _ ∧ k_ ≠ gb306))) (fun _ hk => hk.2) (.int .i64 t293)) (fun _ hk => hk.2) (.slice Ao60 t294.length co60)) (fun _ hk => hk.2) (.slice Ao62 t297.length co62)) (fun _ hk => by grind)⟩, ⟨by refine pV ?_; exact Kd.V_mono (Kd.V_far (p := ⟨gb306, 2, none⟩) (Kd.V_far (p := ⟨gb306, 1, none⟩) (Kd.V_far (p := ⟨gb306, 0, none⟩) (Kd.V_mono HO299.out (fun k_ hk => (⟨hk, hk.2.2.2.2.2.2.2.2.2.2⟩ : _ ∧ k_ ≠ gb306))) (fun _ hk => hk.2) (.int .i64 t293)) (fun _ hk => hk.2) (.slice Ao60 t294.length co60)) (fun _ hk => hk.2) (.slice Ao62 t297.length co62)) (fun _ hk => by grind)⟩, ⟨by (with_reducible repeat (first | refine blk_drewN ?_ _ | refine blk_drew ?_ | refine blk_alloc ?_ _)); refine blk_far ?_ NB258_306.out _; (with_reducible repeat (first | refine blk_drewN ?_ _ | refine blk_drew ?_ | refine blk_alloc ?_ _)); refine blk_far ?_ NB258_306.out _; (with_reducible repeat (first | refine blk_drewN ?_ _ | refine blk_drew ?_ | refine blk_alloc ?_ _)); refine blk_far ?_ NB258_306.out _; refine pb ?_; exact BK258.out⟩, ⟨by (with_reducible repeat (first | refine blk_drewN ?_ _ | refine blk_drew ?_ | refine blk_alloc ?_ _)); refine blk_far ?_ NB272_306.out _; (with_reducible repeat (first | refine blk_drewN ?_ _ | refine blk_drew ?_ | refine blk_alloc ?_ _)); refine blk_far ?_ NB272_306.out _; (with_reducible repeat (first | refine blk_drewN ?_ _ | refine blk_drew ?_ | refine blk_alloc ?_ _)); refine blk_far ?_ NB272_306.out _; refine pb ?_; exact BK272.out⟩, ⟨by (with_reducible repeat (first | refine blk_drewN ?_ _ | refine blk_drew ?_ | refine blk_alloc ?_ _)); refine blk_far ?_ NB289_306.out _; (with_reducible repeat (first | refine blk_drewN ?_ _ | refine blk_drew ?_ | refine blk_alloc ?_ _)); refine blk_far ?_ NB289_306.out _; (with_reducible repeat (first | refine blk_drewN ?_ _ | refine blk_drew ?_ | refine blk_alloc ?_ _)); refine blk_far ?_ NB289_306.out _; refine pb ?_; exact BK289.out⟩, ⟨by (with_reducible repeat (first | refine blk_drewN ?_ _ | refine blk_drew ?_ | refine blk_alloc ?_ _)); refine blk_put (cs := #[.int .i64 t293, .slice Ao60 t294.length co60, .slice none 0 0]) ?_ 2 _ rfl; (with_reducible repeat (first | refine blk_drewN ?_ _ | refine blk_drew ?_ | refine blk_alloc ?_ _)); refine blk_put (cs := #[.int .i64 t293, .slice none 0 0, .slice none 0 0]) ?_ 1 _ rfl; (with_reducible repeat (first | refine blk_drewN ?_ _ | refine blk_drew ?_ | refine blk_alloc ?_ _)); refine blk_put (cs := #[.int .i64 0, .slice none 0 0, .slice none 0 0]) ?_ 0 _ rfl; refine pb ?_; exact BK306.out⟩, ⟨uB HB.out⟩⟩
        rw [if_pos c66] at H
        have c66b0 : ((t286.length : Int) == (wrap64 (x16_20 + 1))) = true := beq_iff_eq.mpr c66
        have c66b1 : ((t286.length : Int) != (wrap64 (x16_20 + 1))) = false := bne_eq_false_iff_eq.mpr c66
        clear c66
        by_cases c67 : (t303.length : Int) = (wrap64 (x16_20 + 1))
        rotate_left
        ·rw [if_neg c67] at H
         have c67b0 : ((t303.length : Int) == (wrap64 (x16_20 + 1))) = false := beq_eq_false_iff_ne.mpr c67
         have c67b1 : ((t303.length : Int) != (wrap64 (x16_20 + 1))) = true := bne_iff_ne.mpr c67
         have H' := Aside0.mk H
         clear H
         obtain ⟨Ao107, co107, eo107⟩ := Kd.R_slice HO285.out
         subst eo107
         obtain ⟨Ao108, co108, eo108⟩ := Kd.R_slice HO302.out
         subst eo108
         obtain ⟨Ao109, co109, eo109⟩ := Kd.R_slice HO288.out
         subst eo109
         obtain ⟨Ao110, co110, eo110⟩ := Kd.R_slice HO305.out
         subst eo110
         go_wp2
         go_meet
         case rel => exact ⟨_, (true), (by first | rfl | (simp; done) | (simp [*]; done)), H', ⟨by have := HJ3.out; have := HK2.out; have := HJ20.out; first | omega | exact Nat.le_refl _⟩, ⟨by refine pR ?_; exact Kd.R_mono (Kd.R_far (p := ⟨gb306, 2, none⟩) (Kd.R_far (p := ⟨gb306, 1, none⟩) (Kd.R_far (p := ⟨gb306, 0, none⟩) (Kd.R_types HO_8.out BK306.out (by decide)) (fun _ hk => hk.2) (.int .i64 t293)) (fun _ hk => hk.2) (.slice Ao60 t294.length co60)) (fun _ hk => hk.2) (.slice Ao62 t297.length co62)) (fun _ hk => ⟨hk.1.1, hk.1.2⟩)⟩, ⟨by refine pR ?_; exact Kd.R_mono (Kd.R_far (p := ⟨gb306, 2, none⟩) (Kd.R_far (p := ⟨gb306, 1, none⟩) (Kd.R_far (p := ⟨gb306, 0, none⟩) (Kd.R_types HO285.out BK306.out (by decide)) (fun _ hk => hk.2) (.int .i64 t293)) (fun _ hk => hk.2) (.slice Ao60 t294.length co60)) (fun _ hk => hk.2) (.slice Ao62 t297.length co62)) (fun _ hk => ⟨hk.1.2, hk.1.1⟩)⟩, ⟨by refine pR ?_; exact Kd.R_mono (Kd.R_far (p := ⟨gb306, 2, none⟩) (Kd.R_far (p := ⟨gb306, 1, none⟩) (Kd.R_far (p := ⟨gb306, 0, none⟩) (Kd.R_types HO302.out BK306.out (by decide)) (fun _ hk => hk.2) (.int .i64 t293)) (fun _ hk => hk.2) (.slice Ao60 t294.length co60)) (fun _ hk => hk.2) (.slice Ao62 t297.length co62)) (fun _ hk => ⟨hk.1.2, hk.1.1⟩)⟩, ⟨by refine pV ?_; exact Kd.V_mono (Kd.V_far (p := ⟨gb306, 2, none⟩) (Kd.V_far (p := ⟨gb306, 1, none⟩) (Kd.V_far (p := ⟨gb306, 0, none⟩) (Kd.V_mono HO_259001.out (fun k_ hk => (⟨hk, hk.2.2.2.2.2.2.2.2.2.2⟩ : _ ∧ k_ ≠ gb306))) (fun _ hk => hk.2) (.int .i64 t293)) (fun _ hk => hk.2) (.slice Ao60 t294.length co60)) (fun _ hk => hk.2) (.slice Ao62 t297.length co62)) (fun _ hk => by grind)⟩, ⟨by refine pV ?_; exact Kd.V_mono (Kd.V_far (p := ⟨gb306, 2, none⟩) (Kd.V_far (p := ⟨gb306, 1, none⟩) (Kd.V_far (p := ⟨gb306, 0, none⟩) (Kd.V_mono HO_259002.out (fun k_ hk => (⟨hk, hk.2.2.2.2.2.2.2.2.2.2⟩ : _ ∧ k_ ≠ gb306))) (fun _ hk => hk.2) (.int .i64 t293)) (fun _ hk => hk.2) (.slice Ao60 t294.length co60)) (fun _ hk => hk.2) (.slice Ao62 t297.length co62)) (fun _ hk => by grind)⟩, ⟨by refine pV ?_; exact Kd.V_mono (Kd.V_far (p := ⟨gb306, 2, none⟩) (Kd.V_far (p := ⟨gb306, 1, none⟩) (Kd.V_far (p := ⟨gb306, 0, none⟩) (Kd.V_mono HO_273001.out (fun k_ hk => (⟨hk, hk.2.2.2.2.2.2.2.2.2.2⟩ : _ ∧ k_ ≠ gb306))) (fun _ hk => hk.2) (.int .i64 t293)) (fun _ hk => hk.2) (.slice Ao60 t294.length co60)) (fun _ hk => hk.2) (.slice Ao62 t297.length co62)) (fun _ hk => by grind)⟩, ⟨by refine pV ?_; exact Kd.V_mono (Kd.V_far (p := ⟨gb306, 2, none⟩) (Kd.V_far (p := ⟨gb306, 1, none⟩) (Kd.V_far (p := ⟨gb306, 0, none⟩) (Kd.V_mono HO_273002.out (fun k_ hk => (⟨hk, hk.2.2.2.2.2.2.2.2.2.2⟩ : _ ∧ k_ ≠ gb306))) (fun _ hk => hk.2) (.int .i64 t293)) (fun _ hk => hk.2) (.slice Ao60 t294.length co60)) (fun _ hk => hk.2) (.slice Ao62 t297.length co62)) (fun _ hk => by grind)⟩, ⟨by refine pV ?_; exact Kd.V_mono (Kd.V_far (p := ⟨gb306, 2, none⟩) (Kd.V_far (p := ⟨gb306, 1, none⟩) (Kd.V_far (p := ⟨gb306, 0, none⟩) (Kd.V_mono HO279.out (fun k_ hk => (⟨hk, hk.2.2.2.2.2.2.2.2.2.2⟩ : _ ∧ k_ ≠ gb306))) (fun _ hk => hk.2) (.int .i64 t293)) (fun _ hk => hk.2) (.slice Ao60 t294.length co60)) (fun _ hk => hk.2) (.slice Ao62 t297.length co62)) (fun _ hk => by grind)⟩, ⟨by refine pV ?_; exact Kd.V_mono (Kd.V_far (p := ⟨gb306, 2, none⟩) (Kd.V_far (p := ⟨gb306, 1, none⟩) (Kd.V_far (p := ⟨gb306, 0, none⟩) (Kd.V_mono HO282.out (fun k_ hk => (⟨hk, hk.2.2.2.2.2.2.2.2.2.2⟩ : _ ∧ k_ ≠ gb306))) (fun _ hk => hk.2) (.int .i64 t293)) (fun _ hk => hk.2) (.slice Ao60 t294.length co60)) (fun _ hk => hk.2) (.slice Ao62 t297.length co62)) (fun _ hk => by grind)⟩, ⟨by refine pV ?_; exact Kd.V_mono (Kd.V_far (p := ⟨gb306, 2, none⟩) (Kd.V_far (p := ⟨gb306, 1, none⟩) (Kd.V_far (p := ⟨gb306, 0, none⟩) (Kd.V_mono HO296.out (fun k_ hk => (⟨hk, hk.2.2.2.2.2.2.2.2.2.2⟩ : _ ∧ k_ ≠ gb306))) (fun _ hk => hk.2) (.int .i64 t293)) (fun _ hk => hk.2) (.slice Ao60 t294.length co60)) (fun _ hk => hk.2) (.slice Ao62 t297.length co62)) (fun _ hk => by grind)⟩, ⟨by refine pV ?_; exact Kd.V_mono (Kd.V_far (p := ⟨gb306, 2, none⟩) (Kd.V_far (p := ⟨gb306, 1, none⟩) (Kd.V_far (p := ⟨gb306, 0, none⟩) (Kd.V_mono HO299.out (fun k_ hk => (⟨hk, hk.2.2.2.2.2.2.2.2.2.2⟩ : _ ∧ k_ ≠ gb306))) (fun _ hk => hk.2) (.int .i64 t293)) (fun _ hk => hk.2) (.slice Ao60 t294.length co60)) (fun _ hk => hk.2) (.slice Ao62 t297.length co62)) (fun _ hk => by grind)⟩, ⟨by (with_reducible repeat (first | refine blk_drewN ?_ _ | refine blk_drew ?_ | refine blk_alloc ?_ _)); refine blk_far ?_ NB258_306.out _; (with_reducible repeat (first | refine blk_drewN ?_ _ | refine blk_drew ?_ | refine blk_alloc ?_ _)); refine blk_far ?_ NB258_306.out _; (with_reducible repeat (first | refine blk_drewN ?_ _ | refine blk_drew ?_ | refine blk_alloc ?_ _)); refine blk_far ?_ NB258_306.out _; refine pb ?_; exact BK258.out⟩, ⟨by (with_reducible repeat (first | refine blk_drewN ?_ _ | refine blk_drew ?_ | refine blk_alloc ?_ _)); refine blk_far ?_ NB272_306.out _; (with_reducible repeat (first | refine blk_drewN ?_ _ | refine blk_drew ?_ | refine blk_alloc ?_ _)); refine blk_far ?_ NB272_306.out _; (with_reducible repeat (first | refine blk_drewN ?_ _ | refine blk_drew ?_ | refine blk_alloc ?_ _)); refine blk_far ?_ NB272_306.out _; refine pb ?_; exact BK272.out⟩, ⟨by (with_reducible repeat (first | refine blk_drewN ?_ _ | refine blk_drew ?_ | refine blk_alloc ?_ _)); refine blk_far ?_ NB289_306.out _; (with_reducible repeat (first | refine blk_drewN ?_ _ | refine blk_drew ?_ | refine blk_alloc ?_ _)); refine blk_far ?_ NB289_306.out _; (with_reducible repeat (first | refine blk_drewN ?_ _ | refine blk_drew ?_ | refine blk_alloc ?_ _)); refine blk_far ?_ NB289_306.out _; refine pb ?_; exact BK289.out⟩, ⟨by (with_reducible repeat (first | refine blk_drewN ?_ _ | refine blk_drew ?_ | refine blk_alloc ?_ _)); refine blk_put (cs := #[.int .i64 t293, .slice Ao60 t294.length co60, .slice none 0 0]) ?_ 2 _ rfl; (with_reducible repeat (first | refine blk_drewN ?_ _ | refine blk_drew ?_ | refine blk_alloc ?_ _)); refine blk_put (cs := #[.int .i64 t293, .slice none 0 0, .slice none 0 0]) ?_ 1 _ rfl; (with_reducible repeat (first | refine blk_drewN ?_ _ | refine blk_drew ?_ | refine blk_alloc ?_ _)); refine blk_put (cs := #[.int .i64 0, .slice none 0 0, .slice none 0 0]) ?_ 0 _ rfl; refine pb ?_; exact BK306.out⟩, ⟨uB HB.out⟩⟩
        rw [if_pos c67] at H
        have c67b0 : ((t303.length : Int) == (wrap64 (x16_20 + 1))) = true := beq_iff_eq.mpr c67
        have c67b1 : ((t303.length : Int) != (wrap64 (x16_20 + 1))) = false := bne_eq_false_iff_eq.mpr c67
        clear c67
        by_cases c68 : (wrap64 ((t280.length : Int) + (t297.length : Int))) > 0
        ·rw [if_pos c68] at H
         have c68b0 : decide (0 < (wrap64 ((t280.length : Int) + (t297.length : Int)))) = true := decide_eq_true c68
         clear c68
         have H' := Aside0.mk H
         clear H
         obtain ⟨Ao69, co69, eo69⟩ := Kd.R_slice HO285.out
         subst eo69
         obtain ⟨Ao70, co70, eo70⟩ := Kd.R_slice HO302.out
         subst eo70
         obtain ⟨Ao71, co71, eo71⟩ := Kd.R_slice HO288.out
         subst eo71
         obtain ⟨Ao72, co72, eo72⟩ := Kd.R_slice HO305.out
         subst eo72
         have hnb73 := NB289_258.out
         have hnc73 := NB258_289.out
         have hnb74 := NB289_272.out
         have hnc74 := NB272_289.out
         have hnb75 := NB289_306.out
         have hnc75 := NB306_289.out
         have hcz76_0 : w58.cell? ⟨gb289, 0, none⟩ = some (.int .i64 t276) := (blk_cell BK289.out 0).trans rfl
         have hcz76_1 : w58.cell? ⟨gb289, 1, none⟩ = some (.slice Ao48 t277.length co48) := (blk_cell BK289.out 1).trans rfl
         have hcz76_2 : w58.cell? ⟨gb289, 2, none⟩ = some (.slice Ao50 t280.length co50) := (blk_cell BK289.out 2).trans rfl
         have hfz76_0 := blk_frozen BK289.out 0
         have hfz76_1 := blk_frozen BK289.out 1
         have hfz76_2 := blk_frozen BK289.out 2
         have hnb77 := NB306_258.out
         have hnc77 := NB258_306.out
         have hnb78 := NB306_272.out
         have hnc78 := NB272_306.out
         have hcz79_0 : w58.cell? ⟨gb306, 0, none⟩ = some (.int .i64 0) := (blk_cell BK306.out 0).trans rfl
         have hcz79_1 : w58.cell? ⟨gb306, 1, none⟩ = some (.slice none 0 0) := (blk_cell BK306.out 1).trans rfl
         have hcz79_2 : w58.cell? ⟨gb306, 2, none⟩ = some (.slice none 0 0) := (blk_cell BK306.out 2).trans rfl
         have hfz79_0 := blk_frozen BK306.out 0
         have hfz79_1 := blk_frozen BK306.out 1
         have hfz79_2 := blk_frozen BK306.out 2
         go_wp2
         go_meet
         case rel => exact ⟨_, (true), (by first | rfl | (simp; done) | (simp [*]; done)), H', ⟨by have := HJ3.out; have := HK2.out; have := HJ20.out; first | omega | exact Nat.le_refl _⟩, ⟨by refine pR ?_; exact Kd.R_mono (Kd.R_far (p := ⟨gb306, 2, none⟩) (Kd.R_far (p := ⟨gb306, 1, none⟩) (Kd.R_far (p := ⟨gb306, 0, none⟩) (Kd.R_types HO_8.out BK306.out (by decide)) (fun _ hk => hk.2) (.int .i64 t293)) (fun _ hk => hk.2) (.slice Ao60 t294.length co60)) (fun _ hk => hk.2) (.slice Ao62 t297.length co62)) (fun _ hk => ⟨hk.1.1, hk.1.2⟩)⟩, ⟨by refine pR ?_; exact Kd.R_mono (Kd.R_far (p := ⟨gb306, 2, none⟩) (Kd.R_far (p := ⟨gb306, 1, none⟩) (Kd.R_far (p := ⟨gb306, 0, none⟩) (Kd.R_types HO285.out BK306.out (by decide)) (fun _ hk => hk.2) (.int .i64 t293)) (fun _ hk => hk.2) (.slice Ao60 t294.length co60)) (fun _ hk => hk.2) (.slice Ao62 t297.length co62)) (fun _ hk => ⟨hk.1.2, hk.1.1⟩)⟩, ⟨by refine pR ?_; exact Kd.R_mono (Kd.R_far (p := ⟨gb306, 2, none⟩) (Kd.R_far (p := ⟨gb306, 1, none⟩) (Kd.R_far (p := ⟨gb306, 0, none⟩) (Kd.R_types HO302.out BK306.out (by decide)) (fun _ hk => hk.2) (.int .i64 t293)) (fun _ hk => hk.2) (.slice Ao60 t294.length co60)) (fun _ hk => hk.2) (.slice Ao62 t297.length co62)) (fun _ hk => ⟨hk.1.2, hk.1.1⟩)⟩, ⟨by refine pV ?_; exact Kd.V_mono (Kd.V_far (p := ⟨gb306, 2, none⟩) (Kd.V_far (p := ⟨gb306, 1, none⟩) (Kd.V_far (p := ⟨gb306, 0, none⟩) (Kd.V_mono HO_259001.out (fun k_ hk => (⟨hk, hk.2.2.2.2.2.2.2.2.2.2⟩ : _ ∧ k_ ≠ gb306))) (fun _ hk => hk.2) (.int .i64 t293)) (fun _ hk => hk.2) (.slice Ao60 t294.length co60)) (fun _ hk => hk.2) (.slice Ao62 t297.length co62)) (fun _ hk => by grind)⟩, ⟨by refine pV ?_; exact Kd.V_mono (Kd.V_far (p := ⟨gb306, 2, none⟩) (Kd.V_far (p := ⟨gb306, 1, none⟩) (Kd.V_far (p := ⟨gb306, 0, none⟩) (Kd.V_mono HO_259002.out (fun k_ hk => (⟨hk, hk.2.2.2.2.2.2.2.2.2.2⟩ : _ ∧ k_ ≠ gb306))) (fun _ hk => hk.2) (.int .i64 t293)) (fun _ hk => hk.2) (.slice Ao60 t294.length co60)) (fun _ hk => hk.2) (.slice Ao62 t297.length co62)) (fun _ hk => by grind)⟩, ⟨by refine pV ?_; exact Kd.V_mono (Kd.V_far (p := ⟨gb306, 2, none⟩) (Kd.V_far (p := ⟨gb306, 1, none⟩) (Kd.V_far (p := ⟨gb306, 0, none⟩) (Kd.V_mono HO_273001.out (fun k_ hk => (⟨hk, hk.2.2.2.2.2.2.2.2.2.2⟩ : _ ∧ k_ ≠ gb306))) (fun _ hk => hk.2) (.int .i64 t293)) (fun _ hk => hk.2) (.slice Ao60 t294.length co60)) (fun _ hk => hk.2) (.slice Ao62 t297.length co62)) (fun _ hk => by grind)⟩, ⟨by refine pV ?_; exact Kd.V_mono (Kd.V_far (p := ⟨gb306, 2, none⟩) (Kd.V_far (p := ⟨gb306, 1, none⟩) (Kd.V_far (p := ⟨gb306, 0, none⟩) (Kd.V_mono HO_273002.out (fun k_ hk => (⟨hk, hk.2.2.2.2.2.2.2.2.2.2⟩ : _ ∧ k_ ≠ gb306))) (fun _ hk => hk.2) (.int .i64 t293)) (fun _ hk => hk.2) (.slice Ao60 t294.length co60)) (fun _ hk => hk.2) (.slice Ao62 t297.length co62)) (fun _ hk => by grind)⟩, ⟨by refine pV ?_; exact Kd.V_mono (Kd.V_far (p := ⟨gb306, 2, none⟩) (Kd.V_far (p := ⟨gb306, 1, none⟩) (Kd.V_far (p := ⟨gb306, 0, none⟩) (Kd.V_mono HO279.out (fun k_ hk => (⟨hk, hk.2.2.2.2.2.2.2.2.2.2⟩ : _ ∧ k_ ≠ gb306))) (fun _ hk => hk.2) (.int .i64 t293)) (fun _ hk => hk.2) (.slice Ao60 t294.length co60)) (fun _ hk => hk.2) (.slice Ao62 t297.length co62)) (fun _ hk => by grind)⟩, ⟨by refine pV ?_; exact Kd.V_mono (Kd.V_far (p := ⟨gb306, 2, none⟩) (Kd.V_far (p := ⟨gb306, 1, none⟩) (Kd.V_far (p := ⟨gb306, 0, none⟩) (Kd.V_mono HO282.out (fun k_ hk => (⟨hk, hk.2.2.2.2.2.2.2.2.2.2⟩ : _ ∧ k_ ≠ gb306))) (fun _ hk => hk.2) (.int .i64 t293)) (fun _ hk => hk.2) (.slice Ao60 t294.length co60)) (fun _ hk => hk.2) (.slice Ao62 t297.length co62)) (fun _ hk => by grind)⟩, ⟨by refine pV ?_; exact Kd.V_mono (Kd.V_far (p := ⟨gb306, 2, none⟩) (Kd.V_far (p := ⟨gb306, 1, none⟩) (Kd.V_far (p := ⟨gb306, 0, none⟩) (Kd.V_mono HO296.out (fun k_ hk => (⟨hk, hk.2.2.2.2.2.2.2.2.2.2⟩ : _ ∧ k_ ≠ gb306))) (fun _ hk => hk.2) (.int .i64 t293)) (fun _ hk => hk.2) (.slice Ao60 t294.length co60)) (fun _ hk => hk.2) (.slice Ao62 t297.length co62)) (fun _ hk => by grind)⟩, ⟨by refine pV ?_; exact Kd.V_mono (Kd.V_far (p := ⟨gb306, 2, none⟩) (Kd.V_far (p := ⟨gb306, 1, none⟩) (Kd.V_far (p := ⟨gb306, 0, none⟩) (Kd.V_mono HO299.out (fun k_ hk => (⟨hk, hk.2.2.2.2.2.2.2.2.2.2⟩ : _ ∧ k_ ≠ gb306))) (fun _ hk => hk.2) (.int .i64 t293)) (fun _ hk => hk.2) (.slice Ao60 t294.length co60)) (fun _ hk => hk.2) (.slice Ao62 t297.length co62)) (fun _ hk => by grind)⟩, ⟨by (with_reducible repeat (first | refine blk_drewN ?_ _ | refine blk_drew ?_ | refine blk_alloc ?_ _)); refine blk_far ?_ NB258_306.out _; (with_reducible repeat (first | refine blk_drewN ?_ _ | refine blk_drew ?_ | refine blk_alloc ?_ _)); refine blk_far ?_ NB258_306.out _; (with_reducible repeat (first | refine blk_drewN ?_ _ | refine blk_drew ?_ | refine blk_alloc ?_ _)); refine blk_far ?_ NB258_306.out _; refine pb ?_; exact BK258.out⟩, ⟨by (with_reducible repeat (first | refine blk_drewN ?_ _ | refine blk_drew ?_ | refine blk_alloc ?_ _)); refine blk_far ?_ NB272_306.out _; (with_reducible repeat (first | refine blk_drewN ?_ _ | refine blk_drew ?_ | refine blk_alloc ?_ _)); refine blk_far ?_ NB272_306.out _; (with_reducible repeat (first | refine blk_drewN ?_ _ | refine blk_drew ?_ | refine blk_alloc ?_ _)); refine blk_far ?_ NB272_306.out _; refine pb ?_; exact BK272.out⟩, ⟨by (with_reducible repeat (first | refine blk_drewN ?_ _ | refine blk_drew ?_ | refine blk_alloc ?_ _)); refine blk_far ?_ NB289_306.out _; (with_reducible repeat (first | refine blk_drewN ?_ _ | refine blk_drew ?_ | refine blk_alloc ?_ _)); refine blk_far ?_ NB289_306.out _; (with_reducible repeat (first | refine blk_drewN ?_ _ | refine blk_drew ?_ | refine blk_alloc ?_ _)); refine blk_far ?_ NB289_306.out _; refine pb ?_; exact BK289.out⟩, ⟨by (with_reducible repeat (first | refine blk_drewN ?_ _ | refine blk_drew ?_ | refine blk_alloc ?_ _)); refine blk_put (cs := #[.int .i64 t293, .slice Ao60 t294.length co60, .slice none 0 0]) ?_ 2 _ rfl; (with_reducible repeat (first | refine blk_drewN ?_ _ | refine blk_drew ?_ | refine blk_alloc ?_ _)); refine blk_put (cs := #[.int .i64 t293, .slice none 0 0, .slice none 0 0]) ?_ 1 _ rfl; (with_reducible repeat (first | refine blk_drewN ?_ _ | refine blk_drew ?_ | refine blk_alloc ?_ _)); refine blk_put (cs := #[.int .i64 0, .slice none 0 0, .slice none 0 0]) ?_ 0 _ rfl; refine pb ?_; exact BK306.out⟩, ⟨uB HB.out⟩⟩
        rw [if_neg c68] at H
        have c68b0 : decide (0 < (wrap64 ((t280.length : Int) + (t297.length : Int)))) = false := decide_eq_false c68
        clear c68
        by_cases c80 : 0 ≤ x16_20
        rotate_left
        ·rw [if_neg c80] at H
         exact absurd H (by simp)
        rw [if_pos c80] at H
        have c80b0 : decide (0 ≤ x16_20) = true := decide_eq_true c80
        clear c80
        by_cases c81 : x16_20 < (t286.length : Int)
        rotate_left
        ·rw [if_neg c81] at H
         exact absurd H (by simp)
        rw [if_pos c81] at H
        have c81b0 : decide (x16_20 < (t286.length : Int)) = true := decide_eq_true c81
        clear c81
        obtain ⟨bq82, hbq82⟩ : ∃ b_ : Bool, b_ = (rdOf false t286 x16_20) := ⟨_, rfl⟩
        replace H : (if bq82 = true then (underwoodlaw09_SpecLast.j3 kj20 l0 l1 t232 x8_2 x16_20 t283 t300 true) else (if x16_20 < (t303.length : Int) then (underwoodlaw09_SpecLast.j3 kj20 l0 l1 t232 x8_2 x16_20 t283 t300 (rdOf false t303 x16_20)) else (none))) = some r := by rw [← hbq82] at H; exact H
        have Nbq82 := Aside0.mk hbq82
        clear hbq82
        by_cases c83 : bq82 = true
        ·subst c83
         have H1 : (underwoodlaw09_SpecLast.j3 kj20 l0 l1 t232 x8_2 x16_20 t283 t300 true) = some r := by rw [if_pos rfl] at H; exact H
         clear H
         have H := H1
         clear H1
         have H' := Aside0.mk H
         clear H
         obtain ⟨Ao84, co84, eo84⟩ := Kd.R_slice HO285.out
         subst eo84
         obtain ⟨Ao85, co85, eo85⟩ := Kd.R_slice HO302.out
         subst eo85
         obtain ⟨Ao86, co86, eo86⟩ := Kd.R_slice HO288.out
         subst eo86
         obtain ⟨Ao87, co87, eo87⟩ := Kd.R_slice HO305.out
         subst eo87
         have hnb88 := NB289_258.out
         have hnc88 := NB258_289.out
         have hnb89 := NB289_272.out
         have hnc89 := NB272_289.out
         have hnb90 := NB289_306.out
         have hnc90 := NB306_289.out
         have hcz91_0 : w58.cell? ⟨gb289, 0, none⟩ = some (.int .i64 t276) := (blk_cell BK289.out 0).trans rfl
         have hcz91_1 : w58.cell? ⟨gb289, 1, none⟩ = some (.slice Ao48 t277.length co48) := (blk_cell BK289.out 1).trans rfl
         have hcz91_2 : w58.cell? ⟨gb289, 2, none⟩ = some (.slice Ao50 t280.length co50) := (blk_cell BK289.out 2).trans rfl
         have hfz91_0 := blk_frozen BK289.out 0
         have hfz91_1 := blk_frozen BK289.out 1
         have hfz91_2 := blk_frozen BK289.out 2
         have hnb92 := NB306_258.out
         have hnc92 := NB258_306.out
         have hnb93 := NB306_272.out
         have hnc93 := NB272_306.out
         have hcz94_0 : w58.cell? ⟨gb306, 0, none⟩ = some (.int .i64 0) := (blk_cell BK306.out 0).trans rfl
         have hcz94_1 : w58.cell? ⟨gb306, 1, none⟩ = some (.slice none 0 0) := (blk_cell BK306.out 1).trans rfl
         have hcz94_2 : w58.cell? ⟨gb306, 2, none⟩ = some (.slice none 0 0) := (blk_cell BK306.out 2).trans rfl
         have hfz94_0 := blk_frozen BK306.out 0
         have hfz94_1 := blk_frozen BK306.out 1
         have hfz94_2 := blk_frozen BK306.out 2
         have p307 : 0 ≤ (x16_20 : Int) := of_decide_eq_true (by first | (with_reducible assumption) | assumption)
         have q307 : x16_20 < (t286.length : Int) := of_decide_eq_true (by first | (with_reducible assumption) | assumption)
         obtain ⟨ad307, e307, hx307_0⟩ := Kd.at_bool (Kd.R_reads' HO288.out).2.2 x16_20 p307 q307
         (try rw [← Nbq82.out] at hx307_0)
         cases e307
         have hn307_0 : ad307.block ≠ gb306 := Kd.own_blk (Kd.R_ne HO288.out BK306.out (by decide))
         have hn307_1 : ad307.block ≠ gb306 := Kd.own_blk (Kd.R_ne HO288.out BK306.out (by decide))
         have hn307_2 : ad307.block ≠ gb306 := Kd.own_blk (Kd.R_ne HO288.out BK306.out (by decide))
         replace hx307_0 := (cell_far (p := ⟨gb306, 0, none⟩) (by first | (rw [add_block]; exact hn307_0) | (show (Addr.add _ _).block ≠ _; rw [add_block]; exact hn307_0) | exact hn307_0) (.int .i64 t293)).trans hx307_0
         replace hx307_0 := (cell_far (p := ⟨gb306, 1, none⟩) (by first | (rw [add_block]; exact hn307_1) | (show (Addr.add _ _).block ≠ _; rw [add_block]; exact hn307_1) | exact hn307_1) (.slice Ao60 t294.length co60)).trans hx307_0
         replace hx307_0 := (cell_far (p := ⟨gb306, 2, none⟩) (by first | (rw [add_block]; exact hn307_2) | (show (Addr.add _ _).block ≠ _; rw [add_block]; exact hn307_2) | exact hn307_2) (.slice Ao62 t297.length co62)).trans hx307_0
         clear hn307_0 hn307_1 hn307_2
         replace p307 := eq_true p307
         replace q307 := eq_true q307
         go_wp2
         go_meet
         case rel => exact ⟨_, (true), (by first | rfl | (simp; done) | (simp [*]; done)), H', ⟨by have := HJ3.out; have := HK2.out; have := HJ20.out; first | omega | exact Nat.le_refl _⟩, ⟨by refine pR ?_; exact Kd.R_mono (Kd.R_far (p := ⟨gb306, 2, none⟩) (Kd.R_far (p := ⟨gb306, 1, none⟩) (Kd.R_far (p := ⟨gb306, 0, none⟩) (Kd.R_types HO_8.out BK306.out (by decide)) (fun _ hk => hk.2) (.int .i64 t293)) (fun _ hk => hk.2) (.slice Ao60 t294.length co60)) (fun _ hk => hk.2) (.slice Ao62 t297.length co62)) (fun _ hk => ⟨hk.1.1, hk.1.2⟩)⟩, ⟨by refine pR ?_; exact Kd.R_mono (Kd.R_far (p := ⟨gb306, 2, none⟩) (Kd.R_far (p := ⟨gb306, 1, none⟩) (Kd.R_far (p := ⟨gb306, 0, none⟩) (Kd.R_types HO285.out BK306.out (by decide)) (fun _ hk => hk.2) (.int .i64 t293)) (fun _ hk => hk.2) (.slice Ao60 t294.length co60)) (fun _ hk => hk.2) (.slice Ao62 t297.length co62)) (fun _ hk => ⟨hk.1.2, hk.1.1⟩)⟩, ⟨by refine pR ?_; exact Kd.R_mono (Kd.R_far (p := ⟨gb306, 2, none⟩) (Kd.R_far (p := ⟨gb306, 1, none⟩) (Kd.R_far (p := ⟨gb306, 0, none⟩) (Kd.R_types HO302.out BK306.out (by decide)) (fun _ hk => hk.2) (.int .i64 t293)) (fun _ hk => hk.2) (.slice Ao60 t294.length co60)) (fun _ hk => hk.2) (.slice Ao62 t297.length co62)) (fun _ hk => ⟨hk.1.2, hk.1.1⟩)⟩, ⟨by refine pV ?_; exact Kd.V_mono (Kd.V_far (p := ⟨gb306, 2, none⟩) (Kd.V_far (p := ⟨gb306, 1, none⟩) (Kd.V_far (p := ⟨gb306, 0, none⟩) (Kd.V_mono HO_259001.out (fun k_ hk => (⟨hk, hk.2.2.2.2.2.2.2.2.2.2⟩ : _ ∧ k_ ≠ gb306))) (fun _ hk => hk.2) (.int .i64 t293)) (fun _ hk => hk.2) (.slice Ao60 t294.length co60)) (fun _ hk => hk.2) (.slice Ao62 t297.length co62)) (fun _ hk => by grind)⟩, ⟨by refine pV ?_; exact Kd.V_mono (Kd.V_far (p := ⟨gb306, 2, none⟩) (Kd.V_far (p := ⟨gb306, 1, none⟩) (Kd.V_far (p := ⟨gb306, 0, none⟩) (Kd.V_mono HO_259002.out (fun k_ hk => (⟨hk, hk.2.2.2.2.2.2.2.2.2.2⟩ : _ ∧ k_ ≠ gb306))) (fun _ hk => hk.2) (.int .i64 t293)) (fun _ hk => hk.2) (.slice Ao60 t294.length co60)) (fun _ hk => hk.2) (.slice Ao62 t297.length co62)) (fun _ hk => by grind)⟩, ⟨by refine pV ?_; exact Kd.V_mono (Kd.V_far (p := ⟨gb306, 2, none⟩) (Kd.V_far (p := ⟨gb306, 1, none⟩) (Kd.V_far (p := ⟨gb306, 0, none⟩) (Kd.V_mono HO_273001.out (fun k_ hk => (⟨hk, hk.2.2.2.2.2.2.2.2.2.2⟩ : _ ∧ k_ ≠ gb306))) (fun _ hk => hk.2) (.int .i64 t293)) (fun _ hk => hk.2) (.slice Ao60 t294.length co60)) (fun _ hk => hk.2) (.slice Ao62 t297.length co62)) (fun _ hk => by grind)⟩, ⟨by refine pV ?_; exact Kd.V_mono (Kd.V_far (p := ⟨gb306, 2, none⟩) (Kd.V_far (p := ⟨gb306, 1, none⟩) (Kd.V_far (p := ⟨gb306, 0, none⟩) (Kd.V_mono HO_273002.out (fun k_ hk => (⟨hk, hk.2.2.2.2.2.2.2.2.2.2⟩ : _ ∧ k_ ≠ gb306))) (fun _ hk => hk.2) (.int .i64 t293)) (fun _ hk => hk.2) (.slice Ao60 t294.length co60)) (fun _ hk => hk.2) (.slice Ao62 t297.length co62)) (fun _ hk => by grind)⟩, ⟨by refine pV ?_; exact Kd.V_mono (Kd.V_far (p := ⟨gb306, 2, none⟩) (Kd.V_far (p := ⟨gb306, 1, none⟩) (Kd.V_far (p := ⟨gb306, 0, none⟩) (Kd.V_mono HO279.out (fun k_ hk => (⟨hk, hk.2.2.2.2.2.2.2.2.2.2⟩ : _ ∧ k_ ≠ gb306))) (fun _ hk => hk.2) (.int .i64 t293)) (fun _ hk => hk.2) (.slice Ao60 t294.length co60)) (fun _ hk => hk.2) (.slice Ao62 t297.length co62)) (fun _ hk => by grind)⟩, ⟨by refine pV ?_; exact Kd.V_mono (Kd.V_far (p := ⟨gb306, 2, none⟩) (Kd.V_far (p := ⟨gb306, 1, none⟩) (Kd.V_far (p := ⟨gb306, 0, none⟩) (Kd.V_mono HO282.out (fun k_ hk => (⟨hk, hk.2.2.2.2.2.2.2.2.2.2⟩ : _ ∧ k_ ≠ gb306))) (fun _ hk => hk.2) (.int .i64 t293)) (fun _ hk => hk.2) (.slice Ao60 t294.length co60)) (fun _ hk => hk.2) (.slice Ao62 t297.length co62)) (fun _ hk => by grind)⟩, ⟨by refine pV ?_; exact Kd.V_mono (Kd.V_far (p := ⟨gb306, 2, none⟩) (Kd.V_far (p := ⟨gb306, 1, none⟩) (Kd.V_far (p := ⟨gb306, 0, none⟩) (Kd.V_mono HO296.out (fun k_ hk => (⟨hk, hk.2.2.2.2.2.2.2.2.2.2⟩ : _ ∧ k_ ≠ gb306))) (fun _ hk => hk.2) (.int .i64 t293)) (fun _ hk => hk.2) (.slice Ao60 t294.length co60)) (fun _ hk => hk.2) (.slice Ao62 t297.length co62)) (fun _ hk => by grind)⟩, ⟨by refine pV ?_; exact Kd.V_mono (Kd.V_far (p := ⟨gb306, 2, none⟩) (Kd.V_far (p := ⟨gb306, 1, none⟩) (Kd.V_far (p := ⟨gb306, 0, none⟩) (Kd.V_mono HO299.out (fun k_ hk => (⟨hk, hk.2.2.2.2.2.2.2.2.2.2⟩ : _ ∧ k_ ≠ gb306))) (fun _ hk => hk.2) (.int .i64 t293)) (fun _ hk => hk.2) (.slice Ao60 t294.length co60)) (fun _ hk => hk.2) (.slice Ao62 t297.length co62)) (fun _ hk => by grind)⟩, ⟨by (with_reducible repeat (first | refine blk_drewN ?_ _ | refine blk_drew ?_ | refine blk_alloc ?_ _)); refine blk_far ?_ NB258_306.out _; (with_reducible repeat (first | refine blk_drewN ?_ _ | refine blk_drew ?_ | refine blk_alloc ?_ _)); refine blk_far ?_ NB258_306.out _; (with_reducible repeat (first | refine blk_drewN ?_ _ | refine blk_drew ?_ | refine blk_alloc ?_ _)); refine blk_far ?_ NB258_306.out _; refine pb ?_; exact BK258.out⟩, ⟨by (with_reducible repeat (first | refine blk_drewN ?_ _ | refine blk_drew ?_ | refine blk_alloc ?_ _)); refine blk_far ?_ NB272_306.out _; (with_reducible repeat (first | refine blk_drewN ?_ _ | refine blk_drew ?_ | refine blk_alloc ?_ _)); refine blk_far ?_ NB272_306.out _; (with_reducible repeat (first | refine blk_drewN ?_ _ | refine blk_drew ?_ | refine blk_alloc ?_ _)); refine blk_far ?_ NB272_306.out _; refine pb ?_; exact BK272.out⟩, ⟨by (with_reducible repeat (first | refine blk_drewN ?_ _ | refine blk_drew ?_ | refine blk_alloc ?_ _)); refine blk_far ?_ NB289_306.out _; (with_reducible repeat (first | refine blk_drewN ?_ _ | refine blk_drew ?_ | refine blk_alloc ?_ _)); refine blk_far ?_ NB289_306.out _; (with_reducible repeat (first | refine blk_drewN ?_ _ | refine blk_drew ?_ | refine blk_alloc ?_ _)); refine blk_far ?_ NB289_306.out _; refine pb ?_; exact BK289.out⟩, ⟨by (with_reducible repeat (first | refine blk_drewN ?_ _ | refine blk_drew ?_ | refine blk_alloc ?_ _)); refine blk_put (cs := #[.int .i64 t293, .slice Ao60 t294.length co60, .slice none 0 0]) ?_ 2 _ rfl; (with_reducible repeat (first | refine blk_drewN ?_ _ | refine blk_drew ?_ | refine blk_alloc ?_ _)); refine blk_put (cs := #[.int .i64 t293, .slice none 0 0, .slice none 0 0]) ?_ 1 _ rfl; (with_reducible repeat (first | refine blk_drewN ?_ _ | refine blk_drew ?_ | refine blk_alloc ?_ _)); refine blk_put (cs := #[.int .i64 0, .slice none 0 0, .slice none 0 0]) ?_ 0 _ rfl; refine pb ?_; exact BK306.out⟩, ⟨uB HB.out⟩⟩
        replace c83 := Bool.eq_false_iff.mpr c83
        subst c83
        have H1 : (if x16_20 < (t303.length : Int) then (underwoodlaw09_SpecLast.j3 kj20 l0 l1 t232 x8_2 x16_20 t283 t300 (rdOf false t303 x16_20)) else (none)) = some r := by rw [if_neg (show ¬ (false = true) by decide)] at H; exact H
        clear H
        have H := H1
        clear H1
        by_cases c95 : x16_20 < (t303.length : Int)
        rotate_left
        ·rw [if_neg c95] at H
         exact absurd H (by simp)
        rw [if_pos c95] at H
        have c95b0 : decide (x16_20 < (t303.length : Int)) = true := decide_eq_true c95
        clear c95
        have H' := Aside0.mk H
        clear H
        obtain ⟨Ao96, co96, eo96⟩ := Kd.R_slice HO285.out
        subst eo96
        obtain ⟨Ao97, co97, eo97⟩ := Kd.R_slice HO302.out
        subst eo97
        obtain ⟨Ao98, co98, eo98⟩ := Kd.R_slice HO288.out
        subst eo98
        obtain ⟨Ao99, co99, eo99⟩ := Kd.R_slice HO305.out
        subst eo99
        have hnb100 := NB289_258.out
        have hnc100 := NB258_289.out
        have hnb101 := NB289_272.out
        have hnc101 := NB272_289.out
        have hnb102 := NB289_306.out
        have hnc102 := NB306_289.out
        have hcz103_0 : w58.cell? ⟨gb289, 0, none⟩ = some (.int .i64 t276) := (blk_cell BK289.out 0).trans rfl
        have hcz103_1 : w58.cell? ⟨gb289, 1, none⟩ = some (.slice Ao48 t277.length co48) := (blk_cell BK289.out 1).trans rfl
        have hcz103_2 : w58.cell? ⟨gb289, 2, none⟩ = some (.slice Ao50 t280.length co50) := (blk_cell BK289.out 2).trans rfl
        have hfz103_0 := blk_frozen BK289.out 0
        have hfz103_1 := blk_frozen BK289.out 1
        have hfz103_2 := blk_frozen BK289.out 2
        have hnb104 := NB306_258.out
        have hnc104 := NB258_306.out
        have hnb105 := NB306_272.out
        have hnc105 := NB272_306.out
        have hcz106_0 : w58.cell? ⟨gb306, 0, none⟩ = some (.int .i64 0) := (blk_cell BK306.out 0).trans rfl
        have hcz106_1 : w58.cell? ⟨gb306, 1, none⟩ = some (.slice none 0 0) := (blk_cell BK306.out 1).trans rfl
        have hcz106_2 : w58.cell? ⟨gb306, 2, none⟩ = some (.slice none 0 0) := (blk_cell BK306.out 2).trans rfl
        have hfz106_0 := blk_frozen BK306.out 0
        have hfz106_1 := blk_frozen BK306.out 1
        have hfz106_2 := blk_frozen BK306.out 2
        have p307 : 0 ≤ (x16_20 : Int) := of_decide_eq_true (by first | (with_reducible assumption) | assumption)
        have q307 : x16_20 < (t286.length : Int) := of_decide_eq_true (by first | (with_reducible assumption) | assumption)
        obtain ⟨ad307, e307, hx307_0⟩ := Kd.at_bool (Kd.R_reads' HO288.out).2.2 x16_20 p307 q307
        (try rw [← Nbq82.out] at hx307_0)
        cases e307
        have hn307_0 : ad307.block ≠ gb306 := Kd.own_blk (Kd.R_ne HO288.out BK306.out (by decide))
        have hn307_1 : ad307.block ≠ gb306 := Kd.own_blk (Kd.R_ne HO288.out BK306.out (by decide))
        have hn307_2 : ad307.block ≠ gb306 := Kd.own_blk (Kd.R_ne HO288.out BK306.out (by decide))
        replace hx307_0 := (cell_far (p := ⟨gb306, 0, none⟩) (by first | (rw [add_block]; exact hn307_0) | (show (Addr.add _ _).block ≠ _; rw [add_block]; exact hn307_0) | exact hn307_0) (.int .i64 t293)).trans hx307_0
        replace hx307_0 := (cell_far (p := ⟨gb306, 1, none⟩) (by first | (rw [add_block]; exact hn307_1) | (show (Addr.add _ _).block ≠ _; rw [add_block]; exact hn307_1) | exact hn307_1) (.slice Ao60 t294.length co60)).trans hx307_0
        replace hx307_0 := (cell_far (p := ⟨gb306, 2, none⟩) (by first | (rw [add_block]; exact hn307_2) | (show (Addr.add _ _).block ≠ _; rw [add_block]; exact hn307_2) | exact hn307_2) (.slice Ao62 t297.length co62)).trans hx307_0
        clear hn307_0 hn307_1 hn307_2
        replace p307 := eq_true p307
        replace q307 := eq_true q307
        have p308 : 0 ≤ (x16_20 : Int) := of_decide_eq_true (by first | (with_reducible assumption) | assumption)
        have q308 : x16_20 < (t303.length : Int) := of_decide_eq_true (by first | (with_reducible assumption) | assumption)
        obtain ⟨ad308, e308, hx308_0⟩ := Kd.at_bool (Kd.R_reads' HO305.out).2.2 x16_20 p308 q308
        (try rw [← Nbq82.out] at hx308_0)
        cases e308
        have hn308_0 : ad308.block ≠ gb306 := Kd.own_blk (Kd.R_ne HO305.out BK306.out (by decide))
        have hn308_1 : ad308.block ≠ gb306 := Kd.own_blk (Kd.R_ne HO305.out BK306.out (by decide))
        have hn308_2 : ad308.block ≠ gb306 := Kd.own_blk (Kd.R_ne HO305.out BK306.out (by decide))
        replace hx308_0 := (cell_far (p := ⟨gb306, 0, none⟩) (by first | (rw [add_block]; exact hn308_0) | (show (Addr.add _ _).block ≠ _; rw [add_block]; exact hn308_0) | exact hn308_0) (.int .i64 t293)).trans hx308_0
        replace hx308_0 := (cell_far (p := ⟨gb306, 1, none⟩) (by first | (rw [add_block]; exact hn308_1) | (show (Addr.add _ _).block ≠ _; rw [add_block]; exact hn308_1) | exact hn308_1) (.slice Ao60 t294.length co60)).trans hx308_0
        replace hx308_0 := (cell_far (p := ⟨gb306, 2, none⟩) (by first | (rw [add_block]; exact hn308_2) | (show (Addr.add _ _).block ≠ _; rw [add_block]; exact hn308_2) | exact hn308_2) (.slice Ao62 t297.length co62)).trans hx308_0
        clear hn308_0 hn308_1 hn308_2
        replace p308 := eq_true p308
        replace q308 := eq_true q308
        go_wp2
        go_meet
        case rel => exact ⟨_, (rdOf false t303 x16_20), (by first | rfl | (simp; done) | (simp [*]; done)), H', ⟨by have := HJ3.out; have := HK2.out; have := HJ20.out; first | omega | exact Nat.le_refl _⟩, ⟨by refine pR ?_; exact Kd.R_mono (Kd.R_far (p := ⟨gb306, 2, none⟩) (Kd.R_far (p := ⟨gb306, 1, none⟩) (Kd.R_far (p := ⟨gb306, 0, none⟩) (Kd.R_types HO_8.out BK306.out (by decide)) (fun _ hk => hk.2) (.int .i64 t293)) (fun _ hk => hk.2) (.slice Ao60 t294.length co60)) (fun _ hk => hk.2) (.slice Ao62 t297.length co62)) (fun _ hk => ⟨hk.1.1, hk.1.2⟩)⟩, ⟨by refine pR ?_; exact Kd.R_mono (Kd.R_far (p := ⟨gb306, 2, none⟩) (Kd.R_far (p := ⟨gb306, 1, none⟩) (Kd.R_far (p := ⟨gb306, 0, none⟩) (Kd.R_types HO285.out BK306.out (by decide)) (fun _ hk => hk.2) (.int .i64 t293)) (fun _ hk => hk.2) (.slice Ao60 t294.length co60)) (fun _ hk => hk.2) (.slice Ao62 t297.length co62)) (fun _ hk => ⟨hk.1.2, hk.1.1⟩)⟩, ⟨by refine pR ?_; exact Kd.R_mono (Kd.R_far (p := ⟨gb306, 2, none⟩) (Kd.R_far (p := ⟨gb306, 1, none⟩) (Kd.R_far (p := ⟨gb306, 0, none⟩) (Kd.R_types HO302.out BK306.out (by decide)) (fun _ hk => hk.2) (.int .i64 t293)) (fun _ hk => hk.2) (.slice Ao60 t294.length co60)) (fun _ hk => hk.2) (.slice Ao62 t297.length co62)) (fun _ hk => ⟨hk.1.2, hk.1.1⟩)⟩, ⟨by refine pV ?_; exact Kd.V_mono (Kd.V_far (p := ⟨gb306, 2, none⟩) (Kd.V_far (p := ⟨gb306, 1, none⟩) (Kd.V_far (p := ⟨gb306, 0, none⟩) (Kd.V_mono HO_259001.out (fun k_ hk => (⟨hk, hk.2.2.2.2.2.2.2.2.2.2⟩ : _ ∧ k_ ≠ gb306))) (fun _ hk => hk.2) (.int .i64 t293)) (fun _ hk => hk.2) (.slice Ao60 t294.length co60)) (fun _ hk => hk.2) (.slice Ao62 t297.length co62)) (fun _ hk => by grind)⟩, ⟨by refine pV ?_; exact Kd.V_mono (Kd.V_far (p := ⟨gb306, 2, none⟩) (Kd.V_far (p := ⟨gb306, 1, none⟩) (Kd.V_far (p := ⟨gb306, 0, none⟩) (Kd.V_mono HO_259002.out (fun k_ hk => (⟨hk, hk.2.2.2.2.2.2.2.2.2.2⟩ : _ ∧ k_ ≠ gb306))) (fun _ hk => hk.2) (.int .i64 t293)) (fun _ hk => hk.2) (.slice Ao60 t294.length co60)) (fun _ hk => hk.2) (.slice Ao62 t297.length co62)) (fun _ hk => by grind)⟩, ⟨by refine pV ?_; exact Kd.V_mono (Kd.V_far (p := ⟨gb306, 2, none⟩) (Kd.V_far (p := ⟨gb306, 1, none⟩) (Kd.V_far (p := ⟨gb306, 0, none⟩) (Kd.V_mono HO_273001.out (fun k_ hk => (⟨hk, hk.2.2.2.2.2.2.2.2.2.2⟩ : _ ∧ k_ ≠ gb306))) (fun _ hk => hk.2) (.int .i64 t293)) (fun _ hk => hk.2) (.slice Ao60 t294.length co60)) (fun _ hk => hk.2) (.slice Ao62 t297.length co62)) (fun _ hk => by grind)⟩, ⟨by refine pV ?_; exact Kd.V_mono (Kd.V_far (p := ⟨gb306, 2, none⟩) (Kd.V_far (p := ⟨gb306, 1, none⟩) (Kd.V_far (p := ⟨gb306, 0, none⟩) (Kd.V_mono HO_273002.out (fun k_ hk => (⟨hk, hk.2.2.2.2.2.2.2.2.2.2⟩ : _ ∧ k_ ≠ gb306))) (fun _ hk => hk.2) (.int .i64 t293)) (fun _ hk => hk.2) (.slice Ao60 t294.length co60)) (fun _ hk => hk.2) (.slice Ao62 t297.length co62)) (fun _ hk => by grind)⟩, ⟨by refine pV ?_; exact Kd.V_mono (Kd.V_far (p := ⟨gb306, 2, none⟩) (Kd.V_far (p := ⟨gb306, 1, none⟩) (Kd.V_far (p := ⟨gb306, 0, none⟩) (Kd.V_mono HO279.out (fun k_ hk => (⟨hk, hk.2.2.2.2.2.2.2.2.2.2⟩ : _ ∧ k_ ≠ gb306))) (fun _ hk => hk.2) (.int .i64 t293)) (fun _ hk => hk.2) (.slice Ao60 t294.length co60)) (fun _ hk => hk.2) (.slice Ao62 t297.length co62)) (fun _ hk => by grind)⟩, ⟨by refine pV ?_; exact Kd.V_mono (Kd.V_far (p := ⟨gb306, 2, none⟩) (Kd.V_far (p := ⟨gb306, 1, none⟩) (Kd.V_far (p := ⟨gb306, 0, none⟩) (Kd.V_mono HO282.out (fun k_ hk => (⟨hk, hk.2.2.2.2.2.2.2.2.2.2⟩ : _ ∧ k_ ≠ gb306))) (fun _ hk => hk.2) (.int .i64 t293)) (fun _ hk => hk.2) (.slice Ao60 t294.length co60)) (fun _ hk => hk.2) (.slice Ao62 t297.length co62)) (fun _ hk => by grind)⟩, ⟨by refine pV ?_; exact Kd.V_mono (Kd.V_far (p := ⟨gb306, 2, none⟩) (Kd.V_far (p := ⟨gb306, 1, none⟩) (Kd.V_far (p := ⟨gb306, 0, none⟩) (Kd.V_mono HO296.out (fun k_ hk => (⟨hk, hk.2.2.2.2.2.2.2.2.2.2⟩ : _ ∧ k_ ≠ gb306))) (fun _ hk => hk.2) (.int .i64 t293)) (fun _ hk => hk.2) (.slice Ao60 t294.length co60)) (fun _ hk => hk.2) (.slice Ao62 t297.length co62)) (fun _ hk => by grind)⟩, ⟨by refine pV ?_; exact Kd.V_mono (Kd.V_far (p := ⟨gb306, 2, none⟩) (Kd.V_far (p := ⟨gb306, 1, none⟩) (Kd.V_far (p := ⟨gb306, 0, none⟩) (Kd.V_mono HO299.out (fun k_ hk => (⟨hk, hk.2.2.2.2.2.2.2.2.2.2⟩ : _ ∧ k_ ≠ gb306))) (fun _ hk => hk.2) (.int .i64 t293)) (fun _ hk => hk.2) (.slice Ao60 t294.length co60)) (fun _ hk => hk.2) (.slice Ao62 t297.length co62)) (fun _ hk => by grind)⟩, ⟨by (with_reducible repeat (first | refine blk_drewN ?_ _ | refine blk_drew ?_ | refine blk_alloc ?_ _)); refine blk_far ?_ NB258_306.out _; (with_reducible repeat (first | refine blk_drewN ?_ _ | refine blk_drew ?_ | refine blk_alloc ?_ _)); refine blk_far ?_ NB258_306.out _; (with_reducible repeat (first | refine blk_drewN ?_ _ | refine blk_drew ?_ | refine blk_alloc ?_ _)); refine blk_far ?_ NB258_306.out _; refine pb ?_; exact BK258.out⟩, ⟨by (with_reducible repeat (first | refine blk_drewN ?_ _ | refine blk_drew ?_ | refine blk_alloc ?_ _)); refine blk_far ?_ NB272_306.out _; (with_reducible repeat (first | refine blk_drewN ?_ _ | refine blk_drew ?_ | refine blk_alloc ?_ _)); refine blk_far ?_ NB272_306.out _; (with_reducible repeat (first | refine blk_drewN ?_ _ | refine blk_drew ?_ | refine blk_alloc ?_ _)); refine blk_far ?_ NB272_306.out _; refine pb ?_; exact BK272.out⟩, ⟨by (with_reducible repeat (first | refine blk_drewN ?_ _ | refine blk_drew ?_ | refine blk_alloc ?_ _)); refine blk_far ?_ NB289_306.out _; (with_reducible repeat (first | refine blk_drewN ?_ _ | refine blk_drew ?_ | refine blk_alloc ?_ _)); refine blk_far ?_ NB289_306.out _; (with_reducible repeat (first | refine blk_drewN ?_ _ | refine blk_drew ?_ | refine blk_alloc ?_ _)); refine blk_far ?_ NB289_306.out _; refine pb ?_; exact BK289.out⟩, ⟨by (with_reducible repeat (first | refine blk_drewN ?_ _ | refine blk_drew ?_ | refine blk_alloc ?_ _)); refine blk_put (cs := #[.int .i64 t293, .slice Ao60 t294.length co60, .slice none 0 0]) ?_ 2 _ rfl; (with_reducible repeat (first | refine blk_drewN ?_ _ | refine blk_drew ?_ | refine blk_alloc ?_ _)); refine blk_put (cs := #[.int .i64 t293, .slice none 0 0, .slice none 0 0]) ?_ 1 _ rfl; (with_reducible repeat (first | refine blk_drewN ?_ _ | refine blk_drew ?_ | refine blk_alloc ?_ _)); refine blk_put (cs := #[.int .i64 0, .slice none 0 0, .slice none 0 0]) ?_ 0 _ rfl; refine pb ?_; exact BK306.out⟩, ⟨uB HB.out⟩⟩
       case rest =>
        clear HC40
        try clear c1
        try clear p2
        try clear p3
        try clear q3
        try clear hx3
        try clear c6
        try clear p6
        try clear c7
        try clear c8
        try clear q8
        try clear c9
        try clear c10
        try clear c13
        try clear c14
        try clear p30
        try clear q30
        try clear hx30
        try clear c64
        try clear c64b0
        try clear c64b1
        try clear p64
        try clear c65
        try clear c65b0
        try clear c65b1
        try clear c66
        try clear c66b0
        try clear c66b1
        try clear c67
        try clear c67b0
        try clear c67b1
        try clear c68
        try clear c68b0
        try clear c73
        try clear c74
        try clear c75
        try clear c77
        try clear c78
        try clear c80
        try clear c80b0
        try clear c81
        try clear c81b0
        try clear q82
        try clear c83
        try clear c88
        try clear c89
        try clear c90
        try clear c92
        try clear c93
        try clear c95
        try clear c95b0
        try clear c100
        try clear c101
        try clear c102
        try clear c104
        try clear c105
        try clear hcz103_0
        try clear hcz103_1
        try clear hcz103_2
        try clear hcz106_0
        try clear hcz106_1
        try clear hcz106_2
        try clear hcz76_0
        try clear hcz76_1
        try clear hcz76_2
        try clear hcz79_0
        try clear hcz79_1
        try clear hcz79_2
        try clear hcz91_0
        try clear hcz91_1
        try clear hcz91_2
        try clear hcz94_0
        try clear hcz94_1
        try clear hcz94_2
        try clear hfz103_0
        try clear hfz103_1
        try clear hfz103_2
        try clear hfz106_0
        try clear hfz106_1
        try clear hfz106_2
        try clear hfz76_0
        try clear hfz76_1
        try clear hfz76_2
        try clear hfz79_0
        try clear hfz79_1
        try clear hfz79_2
        try clear hfz91_0
        try clear hfz91_1
        try clear hfz91_2
        try clear hfz94_0
        try clear hfz94_1
        try clear hfz94_2
        try clear hx307_0
        try clear hx308_0
        try clear p307
        try clear p308
        try clear q307
        try clear q308
        obtain ⟨kq, x152_39, rfl, HA, HJ39, HO_8, HO_18, HO_21, HO_259001, HO_259002, HO_273001, HO_273002, HO_290001, HO_290002, HO_307001, HO_307002, BK258, BK272, BK289, BK306, HB⟩ := hcut
        cases kq with
        | zero => exact absurd HA.out (by simp [underwoodlaw09_SpecLast.j3])
        | succ kj39 =>
         have H := HA.out
         clear HA
         simp only [underwoodlaw09_SpecLast.j3] at H
         by_cases c117 : x152_39 = true
         ·subst c117
          have H1 : (some false) = some r := by rw [if_pos rfl] at H; exact H
          clear H
          have H := H1
          clear H1
          exact absurd hr (by rw [← Option.some.inj H]; decide)
         replace c117 := Bool.eq_false_iff.mpr c117
         subst c117
         have H1 : (if t232 = true then (if 0 ≤ x16_20 then (if x16_20 ≤ (t283.length : Int) then ((some (([] : List Int) : List Int)).bind fun y313 => (if y313.length + x8_2.length < 17592186044416 then ((some (y313 ++ x8_2 : List Int)).bind fun y316 => (if y316.length + l0.length < 17592186044416 then ((underwoodref09_Ints.f kj39 (t283.take (x16_20 : Int).toNat) (y316 ++ l0)).bind fun t322 => (if t322 = true then (if x16_20 ≤ (t300.length : Int) then ((some (([] : List Int) : List Int)).bind fun y327 => (if y327.length + l0.length < 17592186044416 then ((some (y327 ++ l0 : List Int)).bind fun y330 => (if y330.length + l1.length < 17592186044416 then ((underwoodref09_Ints.f kj39 (t300.take (x16_20 : Int).toNat) (y330 ++ l1)).bind fun t336 => (some t336)) else (none))) else (none))) else (none)) else (some false))) else (none))) else (none))) else (none)) else (none)) else (some false)) = some r := by rw [if_neg (show ¬ (false = true) by decide)] at H; exact H
         clear H
         have H := H1
         clear H1
         by_cases c118 : t232 = true
         rotate_left
         ·replace c118 := Bool.eq_false_iff.mpr c118
          subst c118
          have H1 : (some false) = some r := by rw [if_neg (show ¬ (false = true) by decide)] at H; exact H
          clear H
          have H := H1
          clear H1
          exact absurd hr (by rw [← Option.some.inj H]; decide)
         subst c118
         have H1 : (if 0 ≤ x16_20 then (if x16_20 ≤ (t283.length : Int) then ((some (([] : List Int) : List Int)).bind fun y313 => (if y313.length + x8_2.length < 17592186044416 then ((some (y313 ++ x8_2 : List Int)).bind fun y316 => (if y316.length + l0.length < 17592186044416 then ((underwoodref09_Ints.f kj39 (t283.take (x16_20 : Int).toNat) (y316 ++ l0)).bind fun t322 => (if t322 = true then (if x16_20 ≤ (t300.length : Int) then ((some (([] : List Int) : List Int)).bind fun y327 => (if y327.length + l0.length < 17592186044416 then ((some (y327 ++ l0 : List Int)).bind fun y330 => (if y330.length + l1.length < 17592186044416 then ((underwoodref09_Ints.f kj39 (t300.take (x16_20 : Int).toNat) (y330 ++ l1)).bind fun t336 => (some t336)) else (none))) else (none))) else (none)) else (some false))) else (none))) else (none))) else (none)) else (none)) = some r := by rw [if_pos rfl] at H; exact H
         clear H
         have H := H1
         clear H1
         by_cases c119 : 0 ≤ x16_20
         rotate_left
         ·rw [if_neg c119] at H
          exact absurd H (by simp)
         rw [if_pos c119] at H
         have c119b0 := eq_true c119
         have c119b1 : decide (0 ≤ x16_20) = true := decide_eq_true c119
         clear c119
         by_cases c120 : x16_20 ≤ (t283.length : Int)
         rotate_left
         ·rw [if_neg c120] at H
          exact absurd H (by simp)
         rw [if_pos c120] at H
         have c120b0 := eq_true c120
         have c120b1 : decide (x16_20 ≤ (t283.length : Int)) = true := decide_eq_true c120
         clear c120
         obtain ⟨y309, hy309⟩ : ∃ y_ : List Int, y_ = (t283.take (x16_20 : Int).toNat) := ⟨_, rfl⟩
         replace H : ((some (([] : List Int) : List Int)).bind fun y313 => (if y313.length + x8_2.length < 17592186044416 then ((some (y313 ++ x8_2 : List Int)).bind fun y316 => (if y316.length + l0.length < 17592186044416 then ((underwoodref09_Ints.f kj39 y309 (y316 ++ l0)).bind fun t322 => (if t322 = true then (if x16_20 ≤ (t300.length : Int) then ((some (([] : List Int) : List Int)).bind fun y327 => (if y327.length + l0.length < 17592186044416 then ((some (y327 ++ l0 : List Int)).bind fun y330 => (if y330.length + l1.length < 17592186044416 then ((underwoodref09_Ints.f kj39 (t300.take (x16_20 : Int).toNat) (y330 ++ l1)).bind fun t336 => (some t336)) else (none))) else (none))) else (none)) else (some false))) else (none))) else (none))) = some r := by first | (rw [hy309]; with_reducible exact H) | (have H2_ := (Option.bind_some _ _).symm.trans H; rw [hy309]; with_reducible exact H2_) | (have H2_ := (Option.bind_some _ _).symm.trans H; with_reducible exact H2_) | with_reducible exact H | (rw [hy309]; exact H) | exact H
         have Ny309 := Aside0.mk hy309
         clear hy309
         obtain ⟨y313, hy313⟩ : ∃ y_ : List Int, y_ = (([] : List Int)) := ⟨_, rfl⟩
         replace H : (if y313.length + x8_2.length < 17592186044416 then ((some (y313 ++ x8_2 : List Int)).bind fun y316 => (if y316.length + l0.length < 17592186044416 then ((underwoodref09_Ints.f kj39 y309 (y316 ++ l0)).bind fun t322 => (if t322 = true then (if x16_20 ≤ (t300.length : Int) then ((some (([] : List Int) : List Int)).bind fun y327 => (if y327.length + l0.length < 17592186044416 then ((some (y327 ++ l0 : List Int)).bind fun y330 => (if y330.length + l1.length < 17592186044416 then ((underwoodref09_Ints.f kj39 (t300.take (x16_20 : Int).toNat) (y330 ++ l1)).bind fun t336 => (some t336)) else (none))) else (none))) else (none)) else (some false))) else (none))) else (none)) = some r := by first | (rw [hy313]; with_reducible exact H) | (have H2_ := (Option.bind_some _ _).symm.trans H; rw [hy313]; with_reducible exact H2_) | (have H2_ := (Option.bind_some _ _).symm.trans H; with_reducible exact H2_) | with_reducible exact H | (rw [hy313]; exact H) | exact H
         have Ny313 := Aside0.mk hy313
         clear hy313
         by_cases c121 : y313.length + x8_2.length < 17592186044416
         rotate_left
         ·rw [if_neg c121] at H
          exact absurd H (by simp)
         rw [if_pos c121] at H
         have LMc121 := Aside0.mk c121
         clear c121
         obtain ⟨y316, hy316⟩ : ∃ y_ : List Int, y_ = (y313 ++ x8_2) := ⟨_, rfl⟩
         replace H : (if y316.length + l0.length < 17592186044416 then ((underwoodref09_Ints.f kj39 y309 (y316 ++ l0)).bind fun t322 => (if t322 = true then (if x16_20 ≤ (t300.length : Int) then ((some (([] : List Int) : List Int)).bind fun y327 => (if y327.length + l0.length < 17592186044416 then ((some (y327 ++ l0 : List Int)).bind fun y330 => (if y330.length + l1.length < 17592186044416 then ((underwoodref09_Ints.f kj39 (t300.take (x16_20 : Int).toNat) (y330 ++ l1)).bind fun t336 => (some t336)) else (none))) else (none))) else (none)) else (some false))) else (none)) = some r := by first | (rw [hy316]; with_reducible exact H) | (have H2_ := (Option.bind_some _ _).symm.trans H; rw [hy316]; with_reducible exact H2_) | (have H2_ := (Option.bind_some _ _).symm.trans H; with_reducible exact H2_) | with_reducible exact H | (rw [hy316]; exact H) | exact H
         have Ny316 := Aside0.mk hy316
         clear hy316
         by_cases c122 : y316.length + l0.length < 17592186044416
         rotate_left
         ·rw [if_neg c122] at H
          exact absurd H (by simp)
         rw [if_pos c122] at H
         have LMc122 := Aside0.mk c122
         clear c122
         obtain ⟨y319, hy319⟩ : ∃ y_ : List Int, y_ = (y316 ++ l0) := ⟨_, rfl⟩
         replace H : ((underwoodref09_Ints.f kj39 y309 y319).bind fun t322 => (if t322 = true then (if x16_20 ≤ (t300.length : Int) then ((some (([] : List Int) : List Int)).bind fun y327 => (if y327.length + l0.length < 17592186044416 then ((some (y327 ++ l0 : List Int)).bind fun y330 => (if y330.length + l1.length < 17592186044416 then ((underwoodref09_Ints.f kj39 (t300.take (x16_20 : Int).toNat) (y330 ++ l1)).bind fun t336 => (some t336)) else (none))) else (none))) else (none)) else (some false))) = some r := by first | (rw [hy319]; with_reducible exact H) | (have H2_ := (Option.bind_some _ _).symm.trans H; rw [hy319]; with_reducible exact H2_) | (have H2_ := (Option.bind_some _ _).symm.trans H; with_reducible exact H2_) | with_reducible exact H | (rw [hy319]; exact H) | exact H
         have Ny319 := Aside0.mk hy319
         clear hy319
         replace H := Option.bind_eq_some_iff.mp H
         obtain ⟨t322, A1230, H⟩ := H
         replace H : (if t322 = true then (if x16_20 ≤ (t300.length : Int) then ((some (([] : List Int) : List Int)).bind fun y327 => (if y327.length + l0.length < 17592186044416 then ((some (y327 ++ l0 : List Int)).bind fun y330 => (if y330.length + l1.length < 17592186044416 then ((underwoodref09_Ints.f kj39 (t300.take (x16_20 : Int).toNat) (y330 ++ l1)).bind fun t336 => (some t336)) else (none))) else (none))) else (none)) else (some false)) = some r := H
         have A123 := Aside0.mk A1230
         clear A1230
         by_cases c124 : t322 = true
         rotate_left
         ·replace c124 := Bool.eq_false_iff.mpr c124
          subst c124
          have H1 : (some false) = some r := by rw [if_neg (show ¬ (false = true) by decide)] at H; exact H
          clear H
          have H := H1
          clear H1
          exact absurd hr (by rw [← Option.some.inj H]; decide)
         subst c124
         have H1 : (if x16_20 ≤ (t300.length : Int) then ((some (([] : List Int) : List Int)).bind fun y327 => (if y327.length + l0.length < 17592186044416 then ((some (y327 ++ l0 : List Int)).bind fun y330 => (if y330.length + l1.length < 17592186044416 then ((underwoodref09_Ints.f kj39 (t300.take (x16_20 : Int).toNat) (y330 ++ l1)).bind fun t336 => (some t336)) else (none))) else (none))) else (none)) = some r := by rw [if_pos rfl] at H; exact H
         clear H
         have H := H1
         clear H1
         have c125b0 := eq_true (of_decide_eq_true (by first | (with_reducible assumption) | assumption) : 0 ≤ x16_20)
         by_cases c126 : x16_20 ≤ (t300.length : Int)
         rotate_left
         ·rw [if_neg c126] at H
          exact absurd H (by simp)
         rw [if_pos c126] at H
         have c126b0 := eq_true c126
         have c126b1 : decide (x16_20 ≤ (t300.length : Int)) = true := decide_eq_true c126
         clear c126
         obtain ⟨y323, hy323⟩ : ∃ y_ : List Int, y_ = (t300.take (x16_20 : Int).toNat) := ⟨_, rfl⟩
         replace H : ((some (([] : List Int) : List Int)).bind fun y327 => (if y327.length + l0.length < 17592186044416 then ((some (y327 ++ l0 : List Int)).bind fun y330 => (if y330.length + l1.length < 17592186044416 then ((underwoodref09_Ints.f kj39 y323 (y330 ++ l1)).bind fun t336 => (some t336)) else (none))) else (none))) = some r := by first | (rw [hy323]; with_reducible exact H) | (have H2_ := (Option.bind_some _ _).symm.trans H; rw [hy323]; with_reducible exact H2_) | (have H2_ := (Option.bind_some _ _).symm.trans H; with_reducible exact H2_) | with_reducible exact H | (rw [hy323]; exact H) | exact H
         have Ny323 := Aside0.mk hy323
         clear hy323
         obtain ⟨y327, hy327⟩ : ∃ y_ : List Int, y_ = (([] : List Int)) := ⟨_, rfl⟩
         replace H : (if y327.length + l0.length < 17592186044416 then ((some (y327 ++ l0 : List Int)).bind fun y330 => (if y330.length + l1.length < 17592186044416 then ((underwoodref09_Ints.f kj39 y323 (y330 ++ l1)).bind fun t336 => (some t336)) else (none))) else (none)) = some r := by first | (rw [hy327]; with_reducible exact H) | (have H2_ := (Option.bind_some _ _).symm.trans H; rw [hy327]; with_reducible exact H2_) | (have H2_ := (Option.bind_some _ _).symm.trans H; with_reducible exact H2_) | with_reducible exact H | (rw [hy327]; exact H) | exact H
         have Ny327 := Aside0.mk hy327
         clear hy327
         by_cases c127 : y327.length + l0.length < 17592186044416
         rotate_left
         ·rw [if_neg c127] at H
          exact absurd H (by simp)
         rw [if_pos c127] at H
         have LMc127 := Aside0.mk c127
         clear c127
         obtain ⟨y330, hy330⟩ : ∃ y_ : List Int, y_ = (y327 ++ l0) := ⟨_, rfl⟩
         replace H : (if y330.length + l1.length < 17592186044416 then ((underwoodref09_Ints.f kj39 y323 (y330 ++ l1)).bind fun t336 => (some t336)) else (none)) = some r := by first | (rw [hy330]; with_reducible exact H) | (have H2_ := (Option.bind_some _ _).symm.trans H; rw [hy330]; with_reducible exact H2_) | (have H2_ := (Option.bind_some _ _).symm.trans H; with_reducible exact H2_) | with_reducible exact H | (rw [hy330]; exact H) | exact H
         have Ny330 := Aside0.mk hy330
         clear hy330
         by_cases c128 : y330.length + l1.length < 17592186044416
         rotate_left
         ·rw [if_neg c128] at H
          exact absurd H (by simp)
         rw [if_pos c128] at H
         have LMc128 := Aside0.mk c128
         clear c128
         obtain ⟨y333, hy333⟩ : ∃ y_ : List Int, y_ = (y330 ++ l1) := ⟨_, rfl⟩
         replace H : ((underwoodref09_Ints.f kj39 y323 y333).bind fun t336 => (some t336)) = some r := by first | (rw [hy333]; with_reducible exact H) | (have H2_ := (Option.bind_some _ _).symm.trans H; rw [hy333]; with_reducible exact H2_) | (have H2_ := (Option.bind_some _ _).symm.trans H; with_reducible exact H2_) | with_reducible exact H | (rw [hy333]; exact H) | exact H
         have Ny333 := Aside0.mk hy333
         clear hy333
         replace H := Option.bind_eq_some_iff.mp H
         obtain ⟨t336, A1290, H⟩ := H
         replace H : (some t336) = some r := H
         have A129 := Aside0.mk A1290
         clear A1290
         obtain rfl := Option.some.inj H
         try go_wp2
         replace HO_8 := Aside0.mk (Kd.R_drew HO_8.out)
         replace HO_18 := Aside0.mk (Kd.R_drew HO_18.out)
         replace HO_21 := Aside0.mk (Kd.R_drew HO_21.out)
         replace HB := Aside0.mk (below_drew1 HB.out)
         obtain ⟨Ao132, co132, eo132⟩ := Kd.R_slice HO_18.out
         (first | subst eo132 | (injection eo132 with f1_ f2_ f3_; have f4_ := f1_.symm; have f5_ := f3_.symm; clear f1_ f2_ f3_; subst f4_; subst f5_))
         have q131 : (x16_20 : Int) ≤ ((t283.length : Int) : Int) := of_decide_eq_true (by first | (with_reducible assumption) | assumption)
         obtain ⟨i0131, hi0131, _, hsz131, _⟩ := info_parts info3
         have hroom131 : t283.length ≤ co132 := (Kd.R_reads' HO_18.out).2.1
         have hC131 : Kd.C (Kd.int .i64) _ Ao132 t283.length t283 := (Kd.R_reads' HO_18.out).2.2
         have hcut131 := cut_to (P := Try.prog) 22 3 .i64 Try.underlying22 hi0131 Ao132 t283.length co132 x16_20 (of_decide_eq_true (by first | (with_reducible assumption) | assumption)) q131 hroom131
         have hr131 := Kd.C_take (m := (x16_20 : Int).toNat) hC131 (by omega)
         have hy131 : y309.length = (x16_20 : Int).toNat := (by rw [Ny309.out, List.length_take]; omega)
         rw [← Ny309.out] at hr131
         rw [← hy131] at hcut131
         have HR312 := Aside0.mk hr131
         have HC312 := Aside0.mk (show y309.length ≤ co132 from by omega)
         clear hr131 hC131 hroom131 hi0131 hsz131
         have KY131 := Aside0.mk hy131
         clear hy131
         have KL131 := Aside0.mk (show (x16_20 : Int).toNat ≤ t283.length from by omega)
         replace q131 := eq_true q131
         refine start_ (n := 24) (S := fun w' => True) (ds := []) (bA 24 0) (by kernel_rfl) rfl (by kernel_rfl) trivial (fun hHeld => ?_); refine with_tabW underwoodlaw09_SpecLast.tab20 underwoodlaw09_SpecLast.bits20 (fun HT_ HW_ => ?_)
         generalize wc.drew = w130 at HO_8 HO_18 HO_21 HB HR312 hHeld ⊢
         refine pu 0 153 24 1 HT_.out (h := ?_)
         refine pu 1 154 24 3 HT_.out (h := ?_)
         refine pu 2 155 24 7 HT_.out (h := ?_)
         refine pu 3 156 24 15 HT_.out (h := ?_)
         refine pu 4 157 24 31 HT_.out (h := ?_)
         refine pu 6 159 24 95 HT_.out (h := ?_)
         refine pu 8 161 24 351 HT_.out (h := ?_)
         refine one_ (i := 5) (N := some 158) (bA 24 383) rfl rfl (one_of HT_.out (by kernel_rfl)) (by decide) (fun K hK => ?_)
         refine Kd.R_lit_step (Kd.int .i64) _ 3 ?hg (N := 158) ?hd (xs := ([] : List Int)) (inner := []) (ok := fun _ => True) (okp := fun _ => True) ?hr ?hp (fun _ hk => hk) trivial (Below.refl _ _) (Nat.le_refl _) (by simp) ?_; (case hd => rfl); (case hg => rfl); (case hr => first | (go_simp; done) | (go_simp; rfl)); (case hp => exact (Reps.none _ _))
         intro v314 w133 ho134 hb hg_ hnew_
         clear hg_ hnew_
         (first | rw [← Ny313.out] at ho134 | (simp only [Int.reduceToNat] at ho134; rw [← Ny313.out] at ho134))
         have HO315 := Aside0.mk (Kd.R_lower (Kd.R_new' (Kd.R_new' (Kd.R_new' ho134 (Kd.R_lt (uR HO_8.out))) (Kd.R_lt (uR HO_18.out))) (Kd.R_lt (uR HO_21.out))) (below_size (uB HB.out)))
         replace HO_8 := Aside0.mk (Kd.R_elder' (uR HO_8.out) (Kd.R_base ho134) hb)
         replace HO_18 := Aside0.mk (Kd.R_elder' (uR HO_18.out) (Kd.R_base ho134) hb)
         replace HO_21 := Aside0.mk (Kd.R_elder' (uR HO_21.out) (Kd.R_base ho134) hb)
         replace HR312 := Aside0.mk (Kd.C_below (by repeat (first | (with_reducible exact HR312.out) | (with_reducible refine Kd.C_alloc ?_ _) | (with_reducible refine Kd.C_drewN ?_ _) | (with_reducible refine Kd.C_drew ?_) | exact HR312.out)) hb)
         replace HB := Aside0.mk (below_step (uB HB.out) hb)
         clear hb ho134
         obtain ⟨Ao136, co136, eo136⟩ := Kd.R_slice HO_8.out
         (first | subst eo136 | (injection eo136 with f1_ f2_ f3_; have f4_ := f1_.symm; have f5_ := f3_.symm; clear f1_ f2_ f3_; subst f4_; subst f5_))
         refine hK.out _ _ trivial (fun hHeld => ?_)
         clear hK K
         refine norm_ (a' := ?_) ?_ ?_
         rotate_left
         ·show Act.put _ (some 158) _ = _
          simp only [Act.put, List.setIfInBounds_toArray, List.set_cons_zero, List.set_cons_succ, i64_w, i32_w]
          rfl
         refine one_ (i := 7) (N := some 160) (bA 24 511) rfl rfl (one_of HT_.out (by kernel_rfl)) (by decide) (fun K hK => ?_)
         refine Kd.R_append_rows_step (Kd.int .i64) (w0 := w) w.heap.size (by rfl) (.tmp 158) (.tmp 159) 22 3 (.int .i64 0) 8 rfl Try.underlying22 info3 rfl (by decide) (by omega) v314 y313 x8_2 _ _ _ (fun k_ => NB k_ (.slice Ao136 x8_2.length co136) ∧ NB k_ (.slice Ao132 t283.length co132) ∧ NB k_ v301) (fun _ => False) rfl rfl ?aO ?aR (fun _ _ h => h) (fun _ h => h.elim) ?aF ?aB ?aS ?aL ?_
         (case aR => repeat (first | exact (Kd.R_reads' HO_8.out).2.2 | (with_reducible refine Kd.C_alloc ?_ _) | (with_reducible refine Kd.C_drewN ?_ _) | (with_reducible refine Kd.C_drew ?_)))
         (case aB => exact (uB HB.out))
         (case aF => exact (fun k_ hk => ⟨Kd.fresh' (Kd.R_lt (uR HO_8.out)) k_ hk, Kd.fresh' (Kd.R_lt (uR HO_18.out)) k_ hk, Kd.fresh' (Kd.R_lt (uR HO_21.out)) k_ hk⟩))
         (case aO => exact (by refine pR ?_; exact Kd.R_mono HO315.out (fun _ hk => ⟨hk.1.1.2, ⟨hk.1.2, hk.2⟩⟩)))
         (case aS => exact (below_size (uB HB.out)))
         (case aL => have := LMc121.out; omega)
         intro v317 w135 ho hb hg hat
         rw [← Ny316.out] at ho
         have n0_ := Aside0.mk (Kd.R_after (ok := (fun k_ => NB k_ (.slice Ao132 t283.length co132) ∧ NB k_ v301)) (uR HO_8.out) hg hat)
         have n1_ := Aside0.mk (Kd.R_after (ok := (fun k_ => NB k_ (.slice Ao136 x8_2.length co136) ∧ NB k_ v301)) (uR HO_18.out) hg hat)
         have n2_ := Aside0.mk (Kd.R_after (ok := (fun k_ => NB k_ (.slice Ao136 x8_2.length co136) ∧ NB k_ (.slice Ao132 t283.length co132))) (uR HO_21.out) hg hat)
         have n15_ := Aside0.mk (hb)
         have n16_ := Aside0.mk ((show Kd.C (Kd.int .i64) w135 Ao132 y309.length y309 from by rw [Ny309.out]; exact Kd.C_take (m := (x16_20 : Int).toNat) ((Kd.R_reads' (Kd.R_after (ok := (fun k_ => NB k_ (.slice Ao136 x8_2.length co136) ∧ NB k_ v301)) (uR HO_18.out) hg hat)).2.2) KL131.out))
         have n17_ := Aside0.mk (ho)
         clear HO_8 HO_18 HO_21 HB HR312 HO315
         have HO_8 := n0_
         have HO_18 := n1_
         have HO_21 := n2_
         have HB := n15_
         have HR312 := n16_
         have HO318 := n17_
         clear n0_ n1_ n2_ n15_ n16_ n17_ ho hb hg hat
         refine hK.out _ _ trivial (fun hHeld => ?_)
         clear hK K
         refine norm_ (a' := ?_) ?_ ?_
         rotate_left
         ·show Act.put _ (some 160) _ = _
          simp only [Act.put, List.setIfInBounds_toArray, List.set_cons_zero, List.set_cons_succ, i64_w, i32_w]
          rfl
         refine one_ (i := 9) (N := some 162) (bA 24 1023) rfl rfl (one_of HT_.out (by kernel_rfl)) (by decide) (fun K hK => ?_)
         refine Kd.R_append_rows_step (Kd.int .i64) (w0 := w) w.heap.size (by rfl) (.tmp 160) (.tmp 161) 22 3 (.int .i64 0) 8 rfl Try.underlying22 info3 rfl (by decide) (by omega) v317 y316 l0 _ _ _ (fun k_ => NB k_ (.slice Ao136 x8_2.length co136) ∧ NB k_ (.slice Ao132 t283.length co132) ∧ NB k_ v301) (fun _ => False) rfl rfl ?aO ?aR (fun _ _ h => h) (fun _ h => h.elim) ?aF ?aB ?aS ?aL ?_
         (case aR => repeat (first | exact (Kd.C_below HR0.out HB.out) | (with_reducible refine Kd.C_alloc ?_ _) | (with_reducible refine Kd.C_drewN ?_ _) | (with_reducible refine Kd.C_drew ?_)))
         (case aB => exact (uB HB.out))
         (case aF => exact (fun k_ hk => ⟨Kd.fresh' (Kd.R_lt (uR HO_8.out)) k_ hk, Kd.fresh' (Kd.R_lt (uR HO_18.out)) k_ hk, Kd.fresh' (Kd.R_lt (uR HO_21.out)) k_ hk⟩))
         (case aO => exact (uR HO318.out))
         (case aS => exact (below_size (uB HB.out)))
         (case aL => have := LMc122.out; omega)
         intro v320 w137 ho hb hg hat
         rw [← Ny319.out] at ho
         have n0_ := Aside0.mk (Kd.R_after (ok := (fun k_ => NB k_ (.slice Ao132 t283.length co132) ∧ NB k_ v301)) (uR HO_8.out) hg hat)
         have n1_ := Aside0.mk (Kd.R_after (ok := (fun k_ => NB k_ (.slice Ao136 x8_2.length co136) ∧ NB k_ v301)) (uR HO_18.out) hg hat)
         have n2_ := Aside0.mk (Kd.R_after (ok := (fun k_ => NB k_ (.slice Ao136 x8_2.length co136) ∧ NB k_ (.slice Ao132 t283.length co132))) (uR HO_21.out) hg hat)
         have n15_ := Aside0.mk (hb)
         have n16_ := Aside0.mk ((show Kd.C (Kd.int .i64) w137 Ao132 y309.length y309 from by rw [Ny309.out]; exact Kd.C_take (m := (x16_20 : Int).toNat) ((Kd.R_reads' (Kd.R_after (ok := (fun k_ => NB k_ (.slice Ao136 x8_2.length co136) ∧ NB k_ v301)) (uR HO_18.out) hg hat)).2.2) KL131.out))
         have n17_ := Aside0.mk (ho)
         clear HO_8 HO_18 HO_21 HB HR312 HO318
         have HO_8 := n0_
         have HO_18 := n1_
         have HO_21 := n2_
         have HB := n15_
         have HR312 := n16_
         have HO321 := n17_
         clear n0_ n1_ n2_ n15_ n16_ n17_ ho hb hg hat
         obtain ⟨Ao138, co138, eo138⟩ := Kd.R_slice HO321.out
         (first | subst eo138 | (injection eo138 with f1_ f2_ f3_; have f4_ := f1_.symm; have f5_ := f3_.symm; clear f1_ f2_ f3_; subst f4_; subst f5_))
         refine hK.out _ _ trivial (fun hHeld => ?_)
         clear hK K
         refine norm_ (a' := ?_) ?_ ?_
         rotate_left
         ·show Act.put _ (some 162) _ = _
          simp only [Act.put, List.setIfInBounds_toArray, List.set_cons_zero, List.set_cons_succ, i64_w, i32_w]
          rfl
         refine one_ (i := 10) (N := some 163) (bA 24 2047) rfl rfl (one_of HT_.out (by kernel_rfl)) (by decide) (fun K hK => ?_)
         refine goes_ Try.func15 (by kernel_rfl) rfl #[.slice Ao132 y309.length co132, .slice Ao138 y319.length co138] (by rfl) rfl rfl ls ?_
         with_reducible refine (underwoodref09_Ints.calls kj39 _ _ y309 _ _ y319 true _ ?side1 ?side2 ?side3 ?side4 A123.out).mono ?_
         (case side1 => repeat (first | exact (by repeat (first | (with_reducible exact HR312.out) | (with_reducible refine Kd.C_alloc ?_ _) | (with_reducible refine Kd.C_drewN ?_ _) | (with_reducible refine Kd.C_drew ?_) | exact HR312.out)) | (with_reducible refine Kd.C_alloc ?_ _) | (with_reducible refine Kd.C_drewN ?_ _) | (with_reducible refine Kd.C_drew ?_)))
         (case side2 => exact HC312.out)
         (case side3 => repeat (first | exact (Kd.R_reads' HO321.out).2.2 | (with_reducible refine Kd.C_alloc ?_ _) | (with_reducible refine Kd.C_drewN ?_ _) | (with_reducible refine Kd.C_drew ?_)))
         (case side4 => exact (Kd.R_reads' HO321.out).2.1)
         rintro e w' ⟨rfl, ⟨nd, rfl⟩⟩
         refine ⟨_, rfl, ?_⟩
         obtain ⟨Ao140, co140, eo140⟩ := Kd.R_slice HO_21.out
         (first | subst eo140 | (injection eo140 with f1_ f2_ f3_; have f4_ := f1_.symm; have f5_ := f3_.symm; clear f1_ f2_ f3_; subst f4_; subst f5_))
         have q139 : (x16_20 : Int) ≤ ((t300.length : Int) : Int) := of_decide_eq_true (by first | (with_reducible assumption) | assumption)
         obtain ⟨i0139, hi0139, _, hsz139, _⟩ := info_parts info3
         have hroom139 : t300.length ≤ co140 := (Kd.R_reads' HO_21.out).2.1
         have hC139 : Kd.C (Kd.int .i64) _ Ao140 t300.length t300 := (Kd.R_reads' HO_21.out).2.2
         have hcut139 := cut_to (P := Try.prog) 22 3 .i64 Try.underlying22 hi0139 Ao140 t300.length co140 x16_20 (of_decide_eq_true (by first | (with_reducible assumption) | assumption)) q139 hroom139
         have hr139 := Kd.C_take (m := (x16_20 : Int).toNat) hC139 (by omega)
         have hy139 : y323.length = (x16_20 : Int).toNat := (by rw [Ny323.out, List.length_take]; omega)
         rw [← Ny323.out] at hr139
         rw [← hy139] at hcut139
         have HR326 := Aside0.mk hr139
         have HC326 := Aside0.mk (show y323.length ≤ co140 from by omega)
         clear hr139 hC139 hroom139 hi0139 hsz139
         have KY139 := Aside0.mk hy139
         clear hy139
         have KL139 := Aside0.mk (show (x16_20 : Int).toNat ≤ t300.length from by omega)
         replace q139 := eq_true q139
         refine hK.out _ _ trivial (fun hHeld => ?_)
         clear hK K
         refine norm_ (a' := ?_) ?_ ?_
         rotate_left
         ·show Act.put _ (some 163) _ = _
          simp only [Act.put, List.setIfInBounds_toArray, List.set_cons_zero, List.set_cons_succ, i64_w, i32_w]
          rfl
         refine pu 11 164 24 4095 HT_.out (h := ?_)
         refine pu 12 165 24 8191 HT_.out (h := ?_)
         refine pu 13 166 24 16383 HT_.out (h := ?_)
         refine pu 14 167 24 32767 HT_.out (h := ?_)
         refine pu 15 168 24 65535 HT_.out (h := ?_)
         refine pu 17 170 24 196607 HT_.out (h := ?_)
         refine pu 19 172 24 720895 HT_.out (h := ?_)
         refine one_ (i := 16) (N := some 169) (bA 24 786431) rfl rfl (one_of HT_.out (by kernel_rfl)) (by decide) (fun K hK => ?_)
         refine Kd.R_lit_step (Kd.int .i64) _ 3 ?hg (N := 169) ?hd (xs := ([] : List Int)) (inner := []) (ok := fun _ => True) (okp := fun _ => True) ?hr ?hp (fun _ hk => hk) trivial (Below.refl _ _) (Nat.le_refl _) (by simp) ?_; (case hd => rfl); (case hg => rfl); (case hr => first | (go_simp; done) | (go_simp; rfl)); (case hp => exact (Reps.none _ _))
         intro v328 w141 ho142 hb hg_ hnew_
         clear hg_ hnew_
         (first | rw [← Ny327.out] at ho142 | (simp only [Int.reduceToNat] at ho142; rw [← Ny327.out] at ho142))
         have HO329 := Aside0.mk (Kd.R_lower (Kd.R_new' (Kd.R_new' (Kd.R_new' (Kd.R_new' ho142 (Kd.R_lt (uR HO_8.out))) (Kd.R_lt (uR HO_18.out))) (Kd.R_lt (uR HO_21.out))) (Kd.R_lt (uR HO321.out))) (below_size (uB HB.out)))
         replace HO_8 := Aside0.mk (Kd.R_elder' (uR HO_8.out) (Kd.R_base ho142) hb)
         replace HO_18 := Aside0.mk (Kd.R_elder' (uR HO_18.out) (Kd.R_base ho142) hb)
         replace HO_21 := Aside0.mk (Kd.R_elder' (uR HO_21.out) (Kd.R_base ho142) hb)
         replace HO321 := Aside0.mk (Kd.R_elder' (uR HO321.out) (Kd.R_base ho142) hb)
         replace HR326 := Aside0.mk (Kd.C_below (by repeat (first | (with_reducible exact HR326.out) | (with_reducible refine Kd.C_alloc ?_ _) | (with_reducible refine Kd.C_drewN ?_ _) | (with_reducible refine Kd.C_drew ?_) | exact HR326.out)) hb)
         replace HB := Aside0.mk (below_step (uB HB.out) hb)
         clear hb ho142
         refine hK.out _ _ trivial (fun hHeld => ?_)
         clear hK K
         refine norm_ (a' := ?_) ?_ ?_
         rotate_left
         ·show Act.put _ (some 169) _ = _
          simp only [Act.put, List.setIfInBounds_toArray, List.set_cons_zero, List.set_cons_succ, i64_w, i32_w]
          rfl
         refine one_ (i := 18) (N := some 171) (bA 24 1048575) rfl rfl (one_of HT_.out (by kernel_rfl)) (by decide) (fun K hK => ?_)
         refine Kd.R_append_rows_step (Kd.int .i64) (w0 := w) w.heap.size (by rfl) (.tmp 169) (.tmp 170) 22 3 (.int .i64 0) 8 rfl Try.underlying22 info3 rfl (by decide) (by omega) v328 y327 l0 _ _ _ (fun k_ => NB k_ (.slice Ao136 x8_2.length co136) ∧ NB k_ (.slice Ao132 t283.length co132) ∧ NB k_ (.slice Ao140 t300.length co140) ∧ NB k_ (.slice Ao138 y319.length co138)) (fun _ => False) rfl rfl ?aO ?aR (fun _ _ h => h) (fun _ h => h.elim) ?aF ?aB ?aS ?aL ?_
         (case aR => repeat (first | exact (Kd.C_below HR0.out HB.out) | (with_reducible refine Kd.C_alloc ?_ _) | (with_reducible refine Kd.C_drewN ?_ _) | (with_reducible refine Kd.C_drew ?_)))
         (case aB => exact (uB HB.out))
         (case aF => exact (fun k_ hk => ⟨Kd.fresh' (Kd.R_lt (uR HO_8.out)) k_ hk, Kd.fresh' (Kd.R_lt (uR HO_18.out)) k_ hk, Kd.fresh' (Kd.R_lt (uR HO_21.out)) k_ hk, Kd.fresh' (Kd.R_lt (uR HO321.out)) k_ hk⟩))
         (case aO => exact (by refine pR ?_; exact Kd.R_mono HO329.out (fun _ hk => ⟨hk.1.1.1.2, ⟨hk.1.1.2, ⟨hk.1.2, hk.2⟩⟩⟩)))
         (case aS => exact (below_size (uB HB.out)))
         (case aL => have := LMc127.out; omega)
         intro v331 w143 ho hb hg hat
         rw [← Ny330.out] at ho
         have n0_ := Aside0.mk (Kd.R_after (ok := (fun k_ => NB k_ (.slice Ao132 t283.length co132) ∧ NB k_ (.slice Ao140 t300.length co140) ∧ NB k_ (.slice Ao138 y319.length co138))) (by refine pR ?_; exact Kd.R_mono HO_8.out (fun _ hk => ⟨⟨hk.1.1.1, ⟨hk.1.1.2, hk.1.2⟩⟩, hk.2⟩)) hg hat)
         have n1_ := Aside0.mk (Kd.R_after (ok := (fun k_ => NB k_ (.slice Ao136 x8_2.length co136) ∧ NB k_ (.slice Ao140 t300.length co140) ∧ NB k_ (.slice Ao138 y319.length co138))) (by refine pR ?_; exact Kd.R_mono HO_18.out (fun _ hk => ⟨⟨hk.1.1.1, ⟨hk.1.1.2, hk.1.2⟩⟩, hk.2⟩)) hg hat)
         have n2_ := Aside0.mk (Kd.R_after (ok := (fun k_ => NB k_ (.slice Ao136 x8_2.length co136) ∧ NB k_ (.slice Ao132 t283.length co132) ∧ NB k_ (.slice Ao138 y319.length co138))) (by refine pR ?_; exact Kd.R_mono HO_21.out (fun _ hk => ⟨⟨hk.1.1.1, ⟨hk.1.1.2, hk.1.2⟩⟩, hk.2⟩)) hg hat)
         have n15_ := Aside0.mk (Kd.R_after (ok := (fun k_ => NB k_ (.slice Ao136 x8_2.length co136) ∧ NB k_ (.slice Ao132 t283.length co132) ∧ NB k_ (.slice Ao140 t300.length co140))) (uR HO321.out) hg hat)
         have n16_ := Aside0.mk (hb)
         have n18_ := Aside0.mk ((show Kd.C (Kd.int .i64) w143 Ao140 y323.length y323 from by rw [Ny323.out]; exact Kd.C_take (m := (x16_20 : Int).toNat) ((Kd.R_reads' (Kd.R_after (ok := (fun k_ => NB k_ (.slice Ao136 x8_2.length co136) ∧ NB k_ (.slice Ao132 t283.length co132) ∧ NB k_ (.slice Ao138 y319.length co138))) (by refine pR ?_; exact Kd.R_mono HO_21.out (fun _ hk => ⟨⟨hk.1.1.1, ⟨hk.1.1.2, hk.1.2⟩⟩, hk.2⟩)) hg hat)).2.2) KL139.out))
         have n19_ := Aside0.mk (ho)
         clear HO_8 HO_18 HO_21 HO321 HB HR326 HO329
         have HO_8 := n0_
         have HO_18 := n1_
         have HO_21 := n2_
         have HO321 := n15_
         have HB := n16_
         have HR326 := n18_
         have HO332 := n19_
         clear n0_ n1_ n2_ n15_ n16_ n18_ n19_ ho hb hg hat
         refine hK.out _ _ trivial (fun hHeld => ?_)
         clear hK K
         refine norm_ (a' := ?_) ?_ ?_
         rotate_left
         ·show Act.put _ (some 171) _ = _
          simp only [Act.put, List.setIfInBounds_toArray, List.set_cons_zero, List.set_cons_succ, i64_w, i32_w]
          rfl
         refine one_ (i := 20) (N := some 173) (bA 24 2097151) rfl rfl (one_of HT_.out (by kernel_rfl)) (by decide) (fun K hK => ?_)
         refine Kd.R_append_rows_step (Kd.int .i64) (w0 := w) w.heap.size (by rfl) (.tmp 171) (.tmp 172) 22 3 (.int .i64 0) 8 rfl Try.underlying22 info3 rfl (by decide) (by omega) v331 y330 l1 _ _ _ (fun k_ => NB k_ (.slice Ao136 x8_2.length co136) ∧ NB k_ (.slice Ao132 t283.length co132) ∧ NB k_ (.slice Ao140 t300.length co140) ∧ NB k_ (.slice Ao138 y319.length co138)) (fun _ => False) rfl rfl ?aO ?aR (fun _ _ h => h) (fun _ h => h.elim) ?aF ?aB ?aS ?aL ?_
         (case aR => repeat (first | exact (Kd.C_below HR1.out HB.out) | (with_reducible refine Kd.C_alloc ?_ _) | (with_reducible refine Kd.C_drewN ?_ _) | (with_reducible refine Kd.C_drew ?_)))
         (case aB => exact (uB HB.out))
         (case aF => exact (fun k_ hk => ⟨Kd.fresh' (Kd.R_lt (uR HO_8.out)) k_ hk, Kd.fresh' (Kd.R_lt (uR HO_18.out)) k_ hk, Kd.fresh' (Kd.R_lt (uR HO_21.out)) k_ hk, Kd.fresh' (Kd.R_lt (uR HO321.out)) k_ hk⟩))
         (case aO => exact (uR HO332.out))
         (case aS => exact (below_size (uB HB.out)))
         (case aL => have := LMc128.out; omega)
         intro v334 w144 ho hb hg hat
         rw [← Ny333.out] at ho
         have n16_ := Aside0.mk (hb)
         have n18_ := Aside0.mk ((show Kd.C (Kd.int .i64) w144 Ao140 y323.length y323 from by rw [Ny323.out]; exact Kd.C_take (m := (x16_20 : Int).toNat) ((Kd.R_reads' (Kd.R_after (ok := (fun k_ => NB k_ (.slice Ao136 x8_2.length co136) ∧ NB k_ (.slice Ao132 t283.length co132) ∧ NB k_ (.slice Ao138 y319.length co138))) (uR HO_21.out) hg hat)).2.2) KL139.out))
         have n19_ := Aside0.mk (ho)
         clear HB HR326 HO332
         have HB := n16_
         have HR326 := n18_
         have HO335 := n19_
         clear n16_ n18_ n19_ ho hb hg hat
         obtain ⟨Ao145, co145, eo145⟩ := Kd.R_slice HO335.out
         (first | subst eo145 | (injection eo145 with f1_ f2_ f3_; have f4_ := f1_.symm; have f5_ := f3_.symm; clear f1_ f2_ f3_; subst f4_; subst f5_))
         refine hK.out _ _ trivial (fun hHeld => ?_)
         clear hK K
         refine norm_ (a' := ?_) ?_ ?_
         rotate_left
         ·show Act.put _ (some 173) _ = _
          simp only [Act.put, List.setIfInBounds_toArray, List.set_cons_zero, List.set_cons_succ, i64_w, i32_w]
          rfl
         refine one_ (i := 21) (N := some 174) (bA 24 4194303) rfl rfl (one_of HT_.out (by kernel_rfl)) (by decide) (fun K hK => ?_)
         refine goes_ Try.func15 (by kernel_rfl) rfl #[.slice Ao140 y323.length co140, .slice Ao145 y333.length co145] (by rfl) rfl rfl ls ?_
         with_reducible refine (underwoodref09_Ints.calls kj39 _ _ y323 _ _ y333 t336 _ ?side1 ?side2 ?side3 ?side4 A129.out).mono ?_
         (case side1 => repeat (first | exact (by repeat (first | (with_reducible exact HR326.out) | (with_reducible refine Kd.C_alloc ?_ _) | (with_reducible refine Kd.C_drewN ?_ _) | (with_reducible refine Kd.C_drew ?_) | exact HR326.out)) | (with_reducible refine Kd.C_alloc ?_ _) | (with_reducible refine Kd.C_drewN ?_ _) | (with_reducible refine Kd.C_drew ?_)))
         (case side2 => exact HC326.out)
         (case side3 => repeat (first | exact (Kd.R_reads' HO335.out).2.2 | (with_reducible refine Kd.C_alloc ?_ _) | (with_reducible refine Kd.C_drewN ?_ _) | (with_reducible refine Kd.C_drew ?_)))
         (case side4 => exact (Kd.R_reads' HO335.out).2.1)
         rintro e w' ⟨rfl, ⟨nd, rfl⟩⟩
         refine ⟨_, rfl, ?_⟩
         refine hK.out _ _ trivial (fun hHeld => ?_)
         clear hK K
         refine norm_ (a' := ?_) ?_ ?_
         rotate_left
         ·show Act.put _ (some 174) _ = _
          simp only [Act.put, List.setIfInBounds_toArray, List.set_cons_zero, List.set_cons_succ, i64_w, i32_w]
          rfl
         refine pu 22 175 24 8388607 HT_.out (h := ?_)
         refine pu 23 4 24 16777215 HT_.out (h := ?_)
         refine done_ (done_of HT_.out (by kernel_rfl)) ?_
         try go_wp2
         go_ret
         exact ⟨by first | rfl | (simp [errW_none, errW_some] <;> rfl) | (simp [*, errW_none, errW_some] <;> rfl), uB HB.out⟩
/-- THE ONE PURE STATEMENT of underwoodlaw09_SpecLast: yours. -/
def underwoodlaw09_SpecLast.Pure : Prop := ∀ (l0 : List Int) (l1 : List Int), l0.length ≤ maxLen → l0.length * 8 ≤ 140737488351232 → (∀ x ∈ l0, (Lit.int .i64 x).wf = true) → l1.length ≤ maxLen → l1.length * 8 ≤ 140737488351232 → (∀ x ∈ l1, (Lit.int .i64 x).wf = true) → ∃ k, underwoodlaw09_SpecLast.f k l0 l1 = some true
theorem underwoodlaw09_SpecLast.walk (P : underwoodlaw09_SpecLast.Pure) (a0 : Option Addr) (len0 cap0 : Nat) (z0 : List Int) (a1 : Option Addr) (len1 cap1 : Nat) (z1 : List Int) (w : World) (w0 : (a0 = none ∧ len0 = 0 ∧ cap0 = 0 ∧ z0 = []) ∨ ∃ x, a0 = some x ∧ len0 ≤ cap0 ∧ cap0 ≤ maxLen ∧ z0.length = cap0 ∧ (∀ i, i < z0.length → w.cell? (x.add i) = some (.int .i64 (z0.getD i 0))) ∧ ∀ n ∈ z0, (Lit.int .i64 n).wf = true) (y0 : len0 * 8 ≤ 140737488351232) (w1 : (a1 = none ∧ len1 = 0 ∧ cap1 = 0 ∧ z1 = []) ∨ ∃ x, a1 = some x ∧ len1 ≤ cap1 ∧ cap1 ≤ maxLen ∧ z1.length = cap1 ∧ (∀ i, i < z1.length → w.cell? (x.add i) = some (.int .i64 (z1.getD i 0))) ∧ ∀ n ∈ z1, (Lit.int .i64 n).wf = true) (y1 : len1 * 8 ≤ 140737488351232) :
    Calls Try.prog 4 #[.slice a0 len0 cap0, .slice a1 len1 cap1] w fun e w' => e = .returned (.bool true) ∧ Below w.heap.size w w' := by
  obtain ⟨l0, rfl, hr0, hm0, hw0, hc0⟩ := ReadsInt.ofRowC w0
  obtain ⟨l1, rfl, hr1, hm1, hw1, hc1⟩ := ReadsInt.ofRowC w1
  obtain ⟨k, h⟩ := P l0 l1 hm0 y0 hw0 hm1 y1 hw1
  refine (underwoodlaw09_SpecLast.calls k _ _ l0 _ _ l1 true w (Kd.C_of_reads (d := (0 : Int)) (h1 := fun _ => rfl) hr0) hc0 (Kd.C_of_reads (d := (0 : Int)) (h1 := fun _ => rfl) hr1) hc1 h rfl).mono ?_
  rintro e w' ⟨rfl, hd⟩
  exact ⟨rfl, hd⟩
end Go.Proofs.Ytmfgalcepaaolaa.PR
