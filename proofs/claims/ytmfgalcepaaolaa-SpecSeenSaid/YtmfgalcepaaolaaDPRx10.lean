/- A part of the proof of SpecSeen: what functions do and tell, and words for that. -/
import Derived.Test.YtmfgalcepaaolaaDGR
import Derived.Test.YtmfgalcepaaolaaDPRx0
import Derived.Test.YtmfgalcepaaolaaDPRx6
import Derived.Test.YtmfgalcepaaolaaDPRx7
import Derived.Test.YtmfgalcepaaolaaDPRx8
import Derived.Test.YtmfgalcepaaolaaDPRx9
namespace Go.Proofs.Ytmfgalcepaaolaa.PR
open Go.Proofs.Ytmfgalcepaaolaa.GR Go.RowKit Go.Proofs.YtmfgalcepaaolaaW.PrintWords Go.Proofs.YtmfgalcepaaolaaW.PrintLast Go.Proofs.YtmfgalcepaaolaaW.PrintMore
set_option linter.unusedVariables false
set_option linter.unusedSimpArgs false
mutual
def underwoodlaw09_SpecSeen.l0 : Nat → Int → Int → Bool → Bool → Int → Int → Int → Int → Int → Int → Int → Int → Int → Option (Bool)
  | 0, _, _, _, _, _, _, _, _, _, _, _, _, _ => none
  | k + 1, x0, x1, x11, x14, x15, x239000, x239001, x239002, x239003, x240000, x240001, x240002, x240003 => if x15 < 2 then ((spec_New.f 1).bind fun bt241 => (if x15 = 1 then ((spec_Do.f k bt241.1 bt241.2.1 bt241.2.2 2 0 (wrap64 (x0)) (wrap64 (1 + (wrap64 (x1))))).bind fun bt249 => (underwoodlaw09_SpecSeen.j1 k x0 x1 x11 x14 x15 x239000 x239001 x239002 x239003 x240000 x240001 x240002 x240003 bt249.1 bt249.2.1 bt249.2.2.1)) else (underwoodlaw09_SpecSeen.j1 k x0 x1 x11 x14 x15 x239000 x239001 x239002 x239003 x240000 x240001 x240002 x240003 bt241.1 bt241.2.1 bt241.2.2))) else (if x11 = true then (some x14) else (some false))
def underwoodlaw09_SpecSeen.j1 : Nat → Int → Int → Bool → Bool → Int → Int → Int → Int → Int → Int → Int → Int → Int → Int → List Int → List Int → Option (Bool)
  | 0, _, _, _, _, _, _, _, _, _, _, _, _, _, _, _, _ => none
  | k + 1, x0, x1, x11, x14, x15, x239000, x239001, x239002, x239003, x240000, x240001, x240002, x240003, x249000, x249001, x249002 => (spec_All.f k x249000 x249001 x249002 (([(⟨x239000, x239001, x239002, x239003⟩ : S26), (⟨x240000, x240001, x240002, x240003⟩ : S26)] : List (S26)))).bind fun bt261 => ((spec_All.f k x249000 x249001 x249002 (([(⟨x240000, x240001, x240002, x240003⟩ : S26), (⟨x239000, x239001, x239002, x239003⟩ : S26)] : List (S26)))).bind fun bt278 => (if (bt261.2.2.2.1.length : Int) = 2 then (if (bt278.2.2.2.1.length : Int) = 2 then (if (bt261.2.2.2.2.length : Int) = 2 then (underwoodlaw09_SpecSeen.j2 k x0 x1 x11 x14 x15 bt261.2.2.2.1 bt261.2.2.2.2 bt278.2.2.2.1 bt278.2.2.2.2 ((bt278.2.2.2.2.length : Int) != 2) x239000 x239001 x239002 x239003 x240000 x240001 x240002 x240003 bt261.1 bt261.2.1 bt261.2.2.1 bt278.1 bt278.2.1 bt278.2.2.1) else (underwoodlaw09_SpecSeen.j2 k x0 x1 x11 x14 x15 bt261.2.2.2.1 bt261.2.2.2.2 bt278.2.2.2.1 bt278.2.2.2.2 true x239000 x239001 x239002 x239003 x240000 x240001 x240002 x240003 bt261.1 bt261.2.1 bt261.2.2.1 bt278.1 bt278.2.1 bt278.2.2.1)) else (underwoodlaw09_SpecSeen.j2 k x0 x1 x11 x14 x15 bt261.2.2.2.1 bt261.2.2.2.2 bt278.2.2.2.1 bt278.2.2.2.2 true x239000 x239001 x239002 x239003 x240000 x240001 x240002 x240003 bt261.1 bt261.2.1 bt261.2.2.1 bt278.1 bt278.2.1 bt278.2.2.1)) else (underwoodlaw09_SpecSeen.j2 k x0 x1 x11 x14 x15 bt261.2.2.2.1 bt261.2.2.2.2 bt278.2.2.2.1 bt278.2.2.2.2 true x239000 x239001 x239002 x239003 x240000 x240001 x240002 x240003 bt261.1 bt261.2.1 bt261.2.2.1 bt278.1 bt278.2.1 bt278.2.2.1)))
def underwoodlaw09_SpecSeen.j2 : Nat → Int → Int → Bool → Bool → Int → List Int → List Bool → List Int → List Bool → Bool → Int → Int → Int → Int → Int → Int → Int → Int → Int → List Int → List Int → Int → List Int → List Int → Option (Bool)
  | 0, _, _, _, _, _, _, _, _, _, _, _, _, _, _, _, _, _, _, _, _, _, _, _, _ => none
  | k + 1, x0, x1, x11, x14, x15, x18, x19, x21, x22, x110, x239000, x239001, x239002, x239003, x240000, x240001, x240002, x240003, x275000, x275001, x275002, x292000, x292001, x292002 => if x110 = true then (some false) else (if x14 = true then (underwoodlaw09_SpecSeen.l0 k x0 x1 x11 true (wrap64 (x15 + 1)) x239000 x239001 x239002 x239003 x240000 x240001 x240002 x240003) else ((underwoodref09_Same.f k x275000 x275001 x275002 x292000 x292001 x292002).bind fun t292 => (if t292 = true then (if 0 < (x18.length : Int) then (if 1 < (x21.length : Int) then (if (rd x18 0) = (rd x21 1) then (if 1 < (x18.length : Int) then (if 0 < (x21.length : Int) then (if (rd x18 1) = (rd x21 0) then (if 0 < (x19.length : Int) then (if 1 < (x22.length : Int) then (if ((rdOf false x19 0) != (rdOf false x22 1)) = true then (underwoodlaw09_SpecSeen.l0 k x0 x1 x11 true (wrap64 (x15 + 1)) x239000 x239001 x239002 x239003 x240000 x240001 x240002 x240003) else (if 1 < (x19.length : Int) then (if 0 < (x22.length : Int) then (underwoodlaw09_SpecSeen.l0 k x0 x1 x11 ((rdOf false x19 1) != (rdOf false x22 0)) (wrap64 (x15 + 1)) x239000 x239001 x239002 x239003 x240000 x240001 x240002 x240003) else (none)) else (none))) else (none)) else (none)) else (underwoodlaw09_SpecSeen.l0 k x0 x1 x11 true (wrap64 (x15 + 1)) x239000 x239001 x239002 x239003 x240000 x240001 x240002 x240003)) else (none)) else (none)) else (underwoodlaw09_SpecSeen.l0 k x0 x1 x11 true (wrap64 (x15 + 1)) x239000 x239001 x239002 x239003 x240000 x240001 x240002 x240003)) else (none)) else (none)) else (underwoodlaw09_SpecSeen.l0 k x0 x1 x11 true (wrap64 (x15 + 1)) x239000 x239001 x239002 x239003 x240000 x240001 x240002 x240003))))
end
def underwoodlaw09_SpecSeen.f (k : Nat) (a0 : Int) (a1 : Int) (a2 : Int) (a3 : Int) (a4 : Int) : Option (Bool) := (underwoodlaw09_awake.f).bind fun t237 => ((spec_Commute.f (wrap64 (1 + (wrap64 (Int.tmod a3 3)))) 0 (wrap64 (a0)) (wrap64 (a1)) (wrap64 (1 + (wrap64 (Int.tmod a4 3)))) 0 (wrap64 (a0)) (wrap64 (a2))).bind fun t240 => (if t240 = true then (if t237 = true then (if (wrap64 (1 + (wrap64 (Int.tmod a3 3)))) = 1 then (some ((wrap64 (1 + (wrap64 (Int.tmod a4 3)))) == 1)) else (some false)) else (some false)) else (underwoodlaw09_SpecSeen.l0 k a0 a1 t237 false 0 (wrap64 (1 + (wrap64 (Int.tmod a3 3)))) 0 (wrap64 (a0)) (wrap64 (a1)) (wrap64 (1 + (wrap64 (Int.tmod a4 3)))) 0 (wrap64 (a0)) (wrap64 (a2)))))
theorem underwoodlaw09_SpecSeen.mono_l : ∀ k, (∀ y0 y1 y2 y3 y4 y5 y6 y7 y8 y9 y10 y11 y12, LeO (underwoodlaw09_SpecSeen.l0 k y0 y1 y2 y3 y4 y5 y6 y7 y8 y9 y10 y11 y12) (underwoodlaw09_SpecSeen.l0 (k + 1) y0 y1 y2 y3 y4 y5 y6 y7 y8 y9 y10 y11 y12)) ∧ (∀ y0 y1 y2 y3 y4 y5 y6 y7 y8 y9 y10 y11 y12 y13 y14 y15, LeO (underwoodlaw09_SpecSeen.j1 k y0 y1 y2 y3 y4 y5 y6 y7 y8 y9 y10 y11 y12 y13 y14 y15) (underwoodlaw09_SpecSeen.j1 (k + 1) y0 y1 y2 y3 y4 y5 y6 y7 y8 y9 y10 y11 y12 y13 y14 y15)) ∧ (∀ y0 y1 y2 y3 y4 y5 y6 y7 y8 y9 y10 y11 y12 y13 y14 y15 y16 y17 y18 y19 y20 y21 y22 y23, LeO (underwoodlaw09_SpecSeen.j2 k y0 y1 y2 y3 y4 y5 y6 y7 y8 y9 y10 y11 y12 y13 y14 y15 y16 y17 y18 y19 y20 y21 y22 y23) (underwoodlaw09_SpecSeen.j2 (k + 1) y0 y1 y2 y3 y4 y5 y6 y7 y8 y9 y10 y11 y12 y13 y14 y15 y16 y17 y18 y19 y20 y21 y22 y23))
  | 0 => ⟨fun _ _ _ _ _ _ _ _ _ _ _ _ _ r h => by simp [underwoodlaw09_SpecSeen.l0] at h, fun _ _ _ _ _ _ _ _ _ _ _ _ _ _ _ _ r h => by simp [underwoodlaw09_SpecSeen.j1] at h, fun _ _ _ _ _ _ _ _ _ _ _ _ _ _ _ _ _ _ _ _ _ _ _ _ r h => by simp [underwoodlaw09_SpecSeen.j2] at h⟩
  | k + 1 => by
    obtain ⟨ih0, ih1, ih2⟩ := underwoodlaw09_SpecSeen.mono_l k
    refine ⟨?_, ?_, ?_⟩
    · intro y0 y1 y2 y3 y4 y5 y6 y7 y8 y9 y10 y11 y12
      unfold underwoodlaw09_SpecSeen.l0
      repeat' first
      | (with_reducible exact ih0 _ _ _ _ _ _ _ _ _ _ _ _ _)
      | (with_reducible exact ih1 _ _ _ _ _ _ _ _ _ _ _ _ _ _ _ _)
      | (with_reducible exact ih2 _ _ _ _ _ _ _ _ _ _ _ _ _ _ _ _ _ _ _ _ _ _ _ _)
      | (with_reducible exact spec_All.mono _ _ _ _ _)
      | (with_reducible exact spec_Do.mono _ _ _ _ _ _ _ _)
      | (with_reducible exact underwoodref09_Same.mono _ _ _ _ _ _ _)
      | (with_reducible exact LeO.refl _)
      | (with_reducible exact LeO.none _)
      | (with_reducible refine LeO.ite ?_ ?_)
      | (with_reducible refine LeO.bind ?_ (fun _ => ?_))
      | exact ih0 _ _ _ _ _ _ _ _ _ _ _ _ _
      | exact ih1 _ _ _ _ _ _ _ _ _ _ _ _ _ _ _ _
      | exact ih2 _ _ _ _ _ _ _ _ _ _ _ _ _ _ _ _ _ _ _ _ _ _ _ _
      | exact spec_All.mono _ _ _ _ _
      | exact spec_Do.mono _ _ _ _ _ _ _ _
      | exact underwoodref09_Same.mono _ _ _ _ _ _ _
      | exact LeO.none _
      | refine LeO.ite ?_ ?_
      | refine LeO.bind ?_ (fun _ => ?_)
    · intro y0 y1 y2 y3 y4 y5 y6 y7 y8 y9 y10 y11 y12 y13 y14 y15
      unfold underwoodlaw09_SpecSeen.j1
      repeat' first
      | (with_reducible exact ih0 _ _ _ _ _ _ _ _ _ _ _ _ _)
      | (with_reducible exact ih1 _ _ _ _ _ _ _ _ _ _ _ _ _ _ _ _)
      | (with_reducible exact ih2 _ _ _ _ _ _ _ _ _ _ _ _ _ _ _ _ _ _ _ _ _ _ _ _)
      | (with_reducible exact spec_All.mono _ _ _ _ _)
      | (with_reducible exact spec_Do.mono _ _ _ _ _ _ _ _)
      | (with_reducible exact underwoodref09_Same.mono _ _ _ _ _ _ _)
      | (with_reducible exact LeO.refl _)
      | (with_reducible exact LeO.none _)
      | (with_reducible refine LeO.ite ?_ ?_)
      | (with_reducible refine LeO.bind ?_ (fun _ => ?_))
      | exact ih0 _ _ _ _ _ _ _ _ _ _ _ _ _
      | exact ih1 _ _ _ _ _ _ _ _ _ _ _ _ _ _ _ _
      | exact ih2 _ _ _ _ _ _ _ _ _ _ _ _ _ _ _ _ _ _ _ _ _ _ _ _
      | exact spec_All.mono _ _ _ _ _
      | exact spec_Do.mono _ _ _ _ _ _ _ _
      | exact underwoodref09_Same.mono _ _ _ _ _ _ _
      | exact LeO.none _
      | refine LeO.ite ?_ ?_
      | refine LeO.bind ?_ (fun _ => ?_)
    · intro y0 y1 y2 y3 y4 y5 y6 y7 y8 y9 y10 y11 y12 y13 y14 y15 y16 y17 y18 y19 y20 y21 y22 y23
      unfold underwoodlaw09_SpecSeen.j2
      repeat' first
      | (with_reducible exact ih0 _ _ _ _ _ _ _ _ _ _ _ _ _)
      | (with_reducible exact ih1 _ _ _ _ _ _ _ _ _ _ _ _ _ _ _ _)
      | (with_reducible exact ih2 _ _ _ _ _ _ _ _ _ _ _ _ _ _ _ _ _ _ _ _ _ _ _ _)
      | (with_reducible exact spec_All.mono _ _ _ _ _)
      | (with_reducible exact spec_Do.mono _ _ _ _ _ _ _ _)
      | (with_reducible exact underwoodref09_Same.mono _ _ _ _ _ _ _)
      | (with_reducible exact LeO.refl _)
      | (with_reducible exact LeO.none _)
      | (with_reducible refine LeO.ite ?_ ?_)
      | (with_reducible refine LeO.bind ?_ (fun _ => ?_))
      | exact ih0 _ _ _ _ _ _ _ _ _ _ _ _ _
      | exact ih1 _ _ _ _ _ _ _ _ _ _ _ _ _ _ _ _
      | exact ih2 _ _ _ _ _ _ _ _ _ _ _ _ _ _ _ _ _ _ _ _ _ _ _ _
      | exact spec_All.mono _ _ _ _ _
      | exact spec_Do.mono _ _ _ _ _ _ _ _
      | exact underwoodref09_Same.mono _ _ _ _ _ _ _
      | exact LeO.none _
      | refine LeO.ite ?_ ?_
      | refine LeO.bind ?_ (fun _ => ?_)
theorem underwoodlaw09_SpecSeen.mono : ∀ a0 a1 a2 a3 a4 k, LeO (underwoodlaw09_SpecSeen.f k a0 a1 a2 a3 a4) (underwoodlaw09_SpecSeen.f (k + 1) a0 a1 a2 a3 a4) := by
  intro a0 a1 a2 a3 a4 k
  obtain ⟨ih0, ih1, ih2⟩ := underwoodlaw09_SpecSeen.mono_l k
  unfold underwoodlaw09_SpecSeen.f
  repeat' first
      | (with_reducible exact ih0 _ _ _ _ _ _ _ _ _ _ _ _ _)
      | (with_reducible exact ih1 _ _ _ _ _ _ _ _ _ _ _ _ _ _ _ _)
      | (with_reducible exact ih2 _ _ _ _ _ _ _ _ _ _ _ _ _ _ _ _ _ _ _ _ _ _ _ _)
      | (with_reducible exact spec_All.mono _ _ _ _ _)
      | (with_reducible exact spec_Do.mono _ _ _ _ _ _ _ _)
      | (with_reducible exact underwoodref09_Same.mono _ _ _ _ _ _ _)
      | (with_reducible exact LeO.refl _)
      | (with_reducible exact LeO.none _)
      | (with_reducible refine LeO.ite ?_ ?_)
      | (with_reducible refine LeO.bind ?_ (fun _ => ?_))
      | exact ih0 _ _ _ _ _ _ _ _ _ _ _ _ _
      | exact ih1 _ _ _ _ _ _ _ _ _ _ _ _ _ _ _ _
      | exact ih2 _ _ _ _ _ _ _ _ _ _ _ _ _ _ _ _ _ _ _ _ _ _ _ _
      | exact spec_All.mono _ _ _ _ _
      | exact spec_Do.mono _ _ _ _ _ _ _ _
      | exact underwoodref09_Same.mono _ _ _ _ _ _ _
      | exact LeO.none _
      | refine LeO.ite ?_ ?_
      | refine LeO.bind ?_ (fun _ => ?_)
def underwoodlaw09_SpecSeen.T17 : Bool × List (List Nat × List Nat) := (true, [([], []), ([0], [0]), ([1], [1]), ([1], [1]), ([2, 3, 1, 1], [1, 2, 3]), ([4, 1], [1, 4]), ([1, 5], [1, 5]), ([6, 4], [6]), ([7], [7]), ([8, 7], [7, 8]), ([9, 7], [7, 9]), ([7], [7]), ([11, 7], [7, 11]), ([12, 7], [7, 12]), ([10, 13, 7], [7, 10, 13]), ([7, 14], [7, 14]), ([15, 7], [15]), ([16], [16]), ([17, 16], [16, 17]), ([18, 16], [16, 18]), ([16], [16]), ([20, 16], [16, 20]), ([21, 16], [16, 21]), ([19, 22, 16], [16, 19, 22]), ([16, 23], [16, 23]), ([24, 16], [24]), ([25], [25]), ([26, 25], [25, 26]), ([27, 25], [25, 27]), ([25], [25]), ([29, 25], [25, 29]), ([30, 25], [25, 30]), ([28, 31, 25], [25, 28, 31]), ([25, 32], [25, 32]), ([33, 25], [33]), ([34], [34]), ([35, 34], [34, 35]), ([36, 34], [34, 36]), ([34], [34]), ([38, 34], [34, 38]), ([39, 34], [34, 39]), ([37, 40, 34], [34, 37, 40]), ([34, 41], [34, 41]), ([42, 34, 0, 1, 2, 3, 4, 5, 6, 7, 8, 9, 10, 11, 12, 13, 14, 15, 16, 17, 18, 19, 20, 21, 22, 23, 24, 25, 26, 27, 28, 29, 30, 31, 32, 33, 34, 35, 36, 37, 38, 39, 40, 41, 42], [0, 42])])
def underwoodlaw09_SpecSeen.B17 : List Nat := [0, 1, 3, 3, 15, 31, 63, 127, 255, 511, 1023, 255, 2303, 6399, 16383, 32767, 65535, 131071, 262143, 524287, 131071, 1179647, 3276799, 8388607, 16777215, 33554431, 67108863, 134217727, 268435455, 67108863, 603979775, 1677721599, 4294967295, 8589934591, 17179869183, 34359738367, 68719476735, 137438953471, 34359738367, 309237645311, 858993459199, 2199023255551, 4398046511103, 8796093022207]
theorem underwoodlaw09_SpecSeen.tab17 : rtab .any (opsOf Try.f7 17) = underwoodlaw09_SpecSeen.T17 := by kernel_rfl
theorem underwoodlaw09_SpecSeen.bits17 : waitsOk underwoodlaw09_SpecSeen.T17.2 underwoodlaw09_SpecSeen.B17 = true := by kernel_rfl
set_option maxHeartbeats 8000000 in
set_option maxRecDepth 100000 in
theorem underwoodlaw09_SpecSeen.calls (k : Nat) (a0 : Int) (a1 : Int) (a2 : Int) (a3 : Int) (a4 : Int) (r : Bool) (w : World) (h : underwoodlaw09_SpecSeen.f k a0 a1 a2 a3 a4 = some r) (hr : r = true) :
  Calls Try.prog 7 #[.int .u16 a0, .int .u32 a1, .int .u32 a2, .int .u8 a3, .int .u8 a4] w fun e w' => e = .returned (.bool r) ∧ Below w.heap.size w w' := by
 have hu26 := Try.underlying26
 have hu24 := Try.underlying24
 have HB := Aside0.mk (Below.refl w.heap.size w)
 have H : ((underwoodlaw09_awake.f).bind fun t237 => ((spec_Commute.f (wrap64 (1 + (wrap64 (Int.tmod a3 3)))) 0 (wrap64 (a0)) (wrap64 (a1)) (wrap64 (1 + (wrap64 (Int.tmod a4 3)))) 0 (wrap64 (a0)) (wrap64 (a2))).bind fun t240 => (if t240 = true then (if t237 = true then (if (wrap64 (1 + (wrap64 (Int.tmod a3 3)))) = 1 then (some ((wrap64 (1 + (wrap64 (Int.tmod a4 3)))) == 1)) else (some false)) else (some false)) else (underwoodlaw09_SpecSeen.l0 k a0 a1 t237 false 0 (wrap64 (1 + (wrap64 (Int.tmod a3 3)))) 0 (wrap64 (a0)) (wrap64 (a1)) (wrap64 (1 + (wrap64 (Int.tmod a4 3)))) 0 (wrap64 (a0)) (wrap64 (a2)))))) = some r := h
 clear h
 replace H := Option.bind_eq_some_iff.mp H
 obtain ⟨t237, A60, H⟩ := H
 replace H : ((spec_Commute.f (wrap64 (1 + (wrap64 (Int.tmod a3 3)))) 0 (wrap64 (a0)) (wrap64 (a1)) (wrap64 (1 + (wrap64 (Int.tmod a4 3)))) 0 (wrap64 (a0)) (wrap64 (a2))).bind fun t240 => (if t240 = true then (if t237 = true then (if (wrap64 (1 + (wrap64 (Int.tmod a3 3)))) = 1 then (some ((wrap64 (1 + (wrap64 (Int.tmod a4 3)))) == 1)) else (some false)) else (some false)) else (underwoodlaw09_SpecSeen.l0 k a0 a1 t237 false 0 (wrap64 (1 + (wrap64 (Int.tmod a3 3)))) 0 (wrap64 (a0)) (wrap64 (a1)) (wrap64 (1 + (wrap64 (Int.tmod a4 3)))) 0 (wrap64 (a0)) (wrap64 (a2))))) = some r := H
 have A6 := Aside0.mk A60
 clear A60
 replace H := Option.bind_eq_some_iff.mp H
 obtain ⟨t240, A70, H⟩ := H
 replace H : (if t240 = true then (if t237 = true then (if (wrap64 (1 + (wrap64 (Int.tmod a3 3)))) = 1 then (some ((wrap64 (1 + (wrap64 (Int.tmod a4 3)))) == 1)) else (some false)) else (some false)) else (underwoodlaw09_SpecSeen.l0 k a0 a1 t237 false 0 (wrap64 (1 + (wrap64 (Int.tmod a3 3)))) 0 (wrap64 (a0)) (wrap64 (a1)) (wrap64 (1 + (wrap64 (Int.tmod a4 3)))) 0 (wrap64 (a0)) (wrap64 (a2)))) = some r := H
 have A7 := Aside0.mk A70
 clear A70
 by_cases c8 : t240 = true
 ·subst c8
  have H1 : (if t237 = true then (if (wrap64 (1 + (wrap64 (Int.tmod a3 3)))) = 1 then (some ((wrap64 (1 + (wrap64 (Int.tmod a4 3)))) == 1)) else (some false)) else (some false)) = some r := by rw [if_pos rfl] at H; exact H
  clear H
  have H := H1
  clear H1
  by_cases c9 : t237 = true
  rotate_left
  ·replace c9 := Bool.eq_false_iff.mpr c9
   subst c9
   have H1 : (some false) = some r := by rw [if_neg (show ¬ (false = true) by decide)] at H; exact H
   clear H
   have H := H1
   clear H1
   exact absurd hr (by rw [← Option.some.inj H]; decide)
  subst c9
  have H1 : (if (wrap64 (1 + (wrap64 (Int.tmod a3 3)))) = 1 then (some ((wrap64 (1 + (wrap64 (Int.tmod a4 3)))) == 1)) else (some false)) = some r := by rw [if_pos rfl] at H; exact H
  clear H
  have H := H1
  clear H1
  by_cases c10 : (wrap64 (1 + (wrap64 (Int.tmod a3 3)))) = 1
  rotate_left
  ·rw [if_neg c10] at H
   have c10b0 : ((wrap64 (1 + (wrap64 (Int.tmod a3 3)))) == 1) = false := beq_eq_false_iff_ne.mpr c10
   have c10b1 : ((wrap64 (1 + (wrap64 (Int.tmod a3 3)))) != 1) = true := bne_iff_ne.mpr c10
   exact absurd hr (by rw [← Option.some.inj H]; decide)
  rw [if_pos c10] at H
  have c10b0 : ((wrap64 (1 + (wrap64 (Int.tmod a3 3)))) == 1) = true := beq_iff_eq.mpr c10
  have c10b1 : ((wrap64 (1 + (wrap64 (Int.tmod a3 3)))) != 1) = false := bne_eq_false_iff_eq.mpr c10
  clear c10
  obtain rfl := Option.some.inj H
  go_enter Try.func7, Try.ntmps7
  go_wp2_with (first | ((with_reducible refine gate_callee (f := 8) rfl ?_); refine goesL_ (some 23) rfl rfl Try.func8 (by kernel_rfl) rfl #[] rfl ls ?_; (with_reducible refine (underwoodlaw09_awake.calls  true _ A6.out).mono ?_); rintro e w11 ⟨rfl, hb⟩; refine ⟨_, rfl, ?_⟩; have n0_ := Aside0.mk (below_step (uB HB.out) hb); clear HB; have HB := n0_; clear n0_; (try clear hb); (try clear hb2); (try clear hk); (try clear hi)) | ((with_reducible refine gate_dst (N := 12) rfl ?_); (try (refine gate_guard (by rfl) ?_; dsimp only)); refine box_event ?hg (N := 12) ?hd (cs := #[.int .i64 0, .int .i64 0, .int .i64 0, .int .i64 0]) (t := 26) ?hr ?_; (case hd => rfl); (case hg => rfl); (case hr => first | (go_simp; done) | (go_simp; rfl)); intro gb238 hg w12 hbox hb; have n0_ := Aside0.mk (below_step (uB HB.out) hb); have n1_ := Aside0.mk (hbox); have n3_ := Aside0.mk ((by rw [hg]; exact (below_size (uB HB.out)) : w.heap.size ≤ gb238)); clear HB; have HB := n0_; have BK238 := n1_; have GE238 := n3_; clear n0_ n1_ n3_; clear hb hbox hg; have hcz13_0 : w12.cell? ⟨gb238, 0, none⟩ = some (.int .i64 0) := (blk_cell BK238.out 0).trans rfl; have hcz13_1 : w12.cell? ⟨gb238, 1, none⟩ = some (.int .i64 0) := (blk_cell BK238.out 1).trans rfl; have hcz13_2 : w12.cell? ⟨gb238, 2, none⟩ = some (.int .i64 0) := (blk_cell BK238.out 2).trans rfl; have hcz13_3 : w12.cell? ⟨gb238, 3, none⟩ = some (.int .i64 0) := (blk_cell BK238.out 3).trans rfl; have hfz13_0 := blk_frozen BK238.out 0; have hfz13_1 := blk_frozen BK238.out 1; have hfz13_2 := blk_frozen BK238.out 2; have hfz13_3 := blk_frozen BK238.out 3) | ((with_reducible refine gate_dst (N := 13) rfl ?_); (try (refine gate_guard (by rfl) ?_; dsimp only)); refine box_event ?hg (N := 13) ?hd (cs := #[.int .i64 0, .int .i64 0, .int .i64 0, .int .i64 0]) (t := 26) ?hr ?_; (case hd => rfl); (case hg => rfl); (case hr => first | (go_simp; done) | (go_simp; rfl)); intro gb239 hg w14 hbox hb; have n0_ := Aside0.mk (blk_below (g := gb238) (o := .cells #[.int .i64 (wrap64 (1 + (wrap64 (Int.tmod a3 3)))), .int .i64 0, .int .i64 (wrap64 (a0)), .int .i64 (wrap64 (a1))] 26 (0, 0)) (by (with_reducible repeat (first | refine blk_drewN ?_ _ | refine blk_drew ?_ | refine blk_alloc ?_ _)); refine blk_put (cs := #[.int .i64 (wrap64 (1 + (wrap64 (Int.tmod a3 3)))), .int .i64 0, .int .i64 (wrap64 (a0)), .int .i64 0]) ?_ 3 _ rfl; (with_reducible repeat (first | refine blk_drewN ?_ _ | refine blk_drew ?_ | refine blk_alloc ?_ _)); refine blk_put (cs := #[.int .i64 (wrap64 (1 + (wrap64 (Int.tmod a3 3)))), .int .i64 0, .int .i64 0, .int .i64 0]) ?_ 2 _ rfl; (with_reducible repeat (first | refine blk_drewN ?_ _ | refine blk_drew ?_ | refine blk_alloc ?_ _)); refine blk_put (cs := #[.int .i64 (wrap64 (1 + (wrap64 (Int.tmod a3 3)))), .int .i64 0, .int .i64 0, .int .i64 0]) ?_ 1 _ rfl; (with_reducible repeat (first | refine blk_drewN ?_ _ | refine blk_drew ?_ | refine blk_alloc ?_ _)); refine blk_put (cs := #[.int .i64 0, .int .i64 0, .int .i64 0, .int .i64 0]) ?_ 0 _ rfl; (with_reducible repeat (first | refine blk_drewN ?_ _ | refine blk_drew ?_ | refine blk_alloc ?_ _)); exact BK238.out) hb); have n1_ := Aside0.mk (below_step (uB HB.out) hb); have n2_ := Aside0.mk (hbox); have n4_ := Aside0.mk ((by rw [hg]; exact (below_size (uB HB.out)) : w.heap.size ≤ gb239)); have n5_ := Aside0.mk ((by rw [hg]; exact Nat.ne_of_lt (blk_lt (g := gb238) (o := .cells #[.int .i64 (wrap64 (1 + (wrap64 (Int.tmod a3 3)))), .int .i64 0, .int .i64 (wrap64 (a0)), .int .i64 (wrap64 (a1))] 26 (0, 0)) (by (with_reducible repeat (first | refine blk_drewN ?_ _ | refine blk_drew ?_ | refine blk_alloc ?_ _)); refine blk_put (cs := #[.int .i64 (wrap64 (1 + (wrap64 (Int.tmod a3 3)))), .int .i64 0, .int .i64 (wrap64 (a0)), .int .i64 0]) ?_ 3 _ rfl; (with_reducible repeat (first | refine blk_drewN ?_ _ | refine blk_drew ?_ | refine blk_alloc ?_ _)); refine blk_put (cs := #[.int .i64 (wrap64 (1 + (wrap64 (Int.tmod a3 3)))), .int .i64 0, .int .i64 0, .int .i64 0]) ?_ 2 _ rfl; (with_reducible repeat (first | refine blk_drewN ?_ _ | refine blk_drew ?_ | refine blk_alloc ?_ _)); refine blk_put (cs := #[.int .i64 (wrap64 (1 + (wrap64 (Int.tmod a3 3)))), .int .i64 0, .int .i64 0, .int .i64 0]) ?_ 1 _ rfl; (with_reducible repeat (first | refine blk_drewN ?_ _ | refine blk_drew ?_ | refine blk_alloc ?_ _)); refine blk_put (cs := #[.int .i64 0, .int .i64 0, .int .i64 0, .int .i64 0]) ?_ 0 _ rfl; (with_reducible repeat (first | refine blk_drewN ?_ _ | refine blk_drew ?_ | refine blk_alloc ?_ _)); exact BK238.out)) : gb238 ≠ gb239)); have n6_ := Aside0.mk ((by rw [hg]; exact Nat.ne_of_gt (blk_lt (g := gb238) (o := .cells #[.int .i64 (wrap64 (1 + (wrap64 (Int.tmod a3 3)))), .int .i64 0, .int .i64 (wrap64 (a0)), .int .i64 (wrap64 (a1))] 26 (0, 0)) (by (with_reducible repeat (first | refine blk_drewN ?_ _ | refine blk_drew ?_ | refine blk_alloc ?_ _)); refine blk_put (cs := #[.int .i64 (wrap64 (1 + (wrap64 (Int.tmod a3 3)))), .int .i64 0, .int .i64 (wrap64 (a0)), .int .i64 0]) ?_ 3 _ rfl; (with_reducible repeat (first | refine blk_drewN ?_ _ | refine blk_drew ?_ | refine blk_alloc ?_ _)); refine blk_put (cs := #[.int .i64 (wrap64 (1 + (wrap64 (Int.tmod a3 3)))), .int .i64 0, .int .i64 0, .int .i64 0]) ?_ 2 _ rfl; (with_reducible repeat (first | refine blk_drewN ?_ _ | refine blk_drew ?_ | refine blk_alloc ?_ _)); refine blk_put (cs := #[.int .i64 (wrap64 (1 + (wrap64 (Int.tmod a3 3)))), .int .i64 0, .int .i64 0, .int .i64 0]) ?_ 1 _ rfl; (with_reducible repeat (first | refine blk_drewN ?_ _ | refine blk_drew ?_ | refine blk_alloc ?_ _)); refine blk_put (cs := #[.int .i64 0, .int .i64 0, .int .i64 0, .int .i64 0]) ?_ 0 _ rfl; (with_reducible repeat (first | refine blk_drewN ?_ _ | refine blk_drew ?_ | refine blk_alloc ?_ _)); exact BK238.out)) : gb239 ≠ gb238)); clear BK238; clear HB; have BK238 := n0_; have HB := n1_; have BK239 := n2_; have GE239 := n4_; have NB238_239 := n5_; have NB239_238 := n6_; clear n0_ n1_ n2_ n4_ n5_ n6_; clear hb hbox hg; have hnb15 := NB239_238.out; have hnc15 := NB238_239.out; have hcz16_0 : w14.cell? ⟨gb239, 0, none⟩ = some (.int .i64 0) := (blk_cell BK239.out 0).trans rfl; have hcz16_1 : w14.cell? ⟨gb239, 1, none⟩ = some (.int .i64 0) := (blk_cell BK239.out 1).trans rfl; have hcz16_2 : w14.cell? ⟨gb239, 2, none⟩ = some (.int .i64 0) := (blk_cell BK239.out 2).trans rfl; have hcz16_3 : w14.cell? ⟨gb239, 3, none⟩ = some (.int .i64 0) := (blk_cell BK239.out 3).trans rfl; have hfz16_0 := blk_frozen BK239.out 0; have hfz16_1 := blk_frozen BK239.out 1; have hfz16_2 := blk_frozen BK239.out 2; have hfz16_3 := blk_frozen BK239.out 3; have hcz17_0 : w14.cell? ⟨gb238, 0, none⟩ = some (.int .i64 (wrap64 (1 + (wrap64 (Int.tmod a3 3))))) := (blk_cell BK238.out 0).trans rfl; have hcz17_1 : w14.cell? ⟨gb238, 1, none⟩ = some (.int .i64 0) := (blk_cell BK238.out 1).trans rfl; have hcz17_2 : w14.cell? ⟨gb238, 2, none⟩ = some (.int .i64 (wrap64 (a0))) := (blk_cell BK238.out 2).trans rfl; have hcz17_3 : w14.cell? ⟨gb238, 3, none⟩ = some (.int .i64 (wrap64 (a1))) := (blk_cell BK238.out 3).trans rfl; have hfz17_0 := blk_frozen BK238.out 0; have hfz17_1 := blk_frozen BK238.out 1; have hfz17_2 := blk_frozen BK238.out 2; have hfz17_3 := blk_frozen BK238.out 3) | ((with_reducible refine gate_callee (f := 17) rfl ?_); refine goesL_ (some 44) rfl rfl Try.func17 (by kernel_rfl) rfl #[.agg #[.int .i64 (wrap64 (1 + (wrap64 (Int.tmod a3 3)))), .int .i64 0, .int .i64 (wrap64 (a0)), .int .i64 (wrap64 (a1))], .agg #[.int .i64 (wrap64 (1 + (wrap64 (Int.tmod a4 3)))), .int .i64 0, .int .i64 (wrap64 (a0)), .int .i64 (wrap64 (a2))]] rfl ls ?_; (with_reducible refine (spec_Commute.calls (wrap64 (1 + (wrap64 (Int.tmod a3 3)))) 0 (wrap64 (a0)) (wrap64 (a1)) (wrap64 (1 + (wrap64 (Int.tmod a4 3)))) 0 (wrap64 (a0)) (wrap64 (a2)) true _ A7.out).mono ?_); rintro e w18 ⟨rfl, hb⟩; refine ⟨_, rfl, ?_⟩; have n0_ := Aside0.mk (blk_below (g := gb238) (o := .cells #[.int .i64 (wrap64 (1 + (wrap64 (Int.tmod a3 3)))), .int .i64 0, .int .i64 (wrap64 (a0)), .int .i64 (wrap64 (a1))] 26 (0, 0)) (by (with_reducible repeat (first | refine blk_drewN ?_ _ | refine blk_drew ?_ | refine blk_alloc ?_ _)); refine blk_far ?_ NB238_239.out _; (with_reducible repeat (first | refine blk_drewN ?_ _ | refine blk_drew ?_ | refine blk_alloc ?_ _)); refine blk_far ?_ NB238_239.out _; (with_reducible repeat (first | refine blk_drewN ?_ _ | refine blk_drew ?_ | refine blk_alloc ?_ _)); refine blk_far ?_ NB238_239.out _; (with_reducible repeat (first | refine blk_drewN ?_ _ | refine blk_drew ?_ | refine blk_alloc ?_ _)); refine blk_far ?_ NB238_239.out _; (with_reducible repeat (first | refine blk_drewN ?_ _ | refine blk_drew ?_ | refine blk_alloc ?_ _)); exact BK238.out) hb); have n1_ := Aside0.mk (blk_below (g := gb239) (o := .cells #[.int .i64 (wrap64 (1 + (wrap64 (Int.tmod a4 3)))), .int .i64 0, .int .i64 (wrap64 (a0)), .int .i64 (wrap64 (a2))] 26 (0, 0)) (by (with_reducible repeat (first | refine blk_drewN ?_ _ | refine blk_drew ?_ | refine blk_alloc ?_ _)); refine blk_put (cs := #[.int .i64 (wrap64 (1 + (wrap64 (Int.tmod a4 3)))), .int .i64 0, .int .i64 (wrap64 (a0)), .int .i64 0]) ?_ 3 _ rfl; (with_reducible repeat (first | refine blk_drewN ?_ _ | refine blk_drew ?_ | refine blk_alloc ?_ _)); refine blk_put (cs := #[.int .i64 (wrap64 (1 + (wrap64 (Int.tmod a4 3)))), .int .i64 0, .int .i64 0, .int .i64 0]) ?_ 2 _ rfl; (with_reducible repeat (first | refine blk_drewN ?_ _ | refine blk_drew ?_ | refine blk_alloc ?_ _)); refine blk_put (cs := #[.int .i64 (wrap64 (1 + (wrap64 (Int.tmod a4 3)))), .int .i64 0, .int .i64 0, .int .i64 0]) ?_ 1 _ rfl; (with_reducible repeat (first | refine blk_drewN ?_ _ | refine blk_drew ?_ | refine blk_alloc ?_ _)); refine blk_put (cs := #[.int .i64 0, .int .i64 0, .int .i64 0, .int .i64 0]) ?_ 0 _ rfl; (with_reducible repeat (first | refine blk_drewN ?_ _ | refine blk_drew ?_ | refine blk_alloc ?_ _)); exact BK239.out) hb); have n2_ := Aside0.mk (below_step (uB HB.out) hb); clear BK238; clear BK239; clear HB; have BK238 := n0_; have BK239 := n1_; have HB := n2_; clear n0_ n1_ n2_; (try clear hb); (try clear hb2); (try clear hk); (try clear hi); have hcz19_0 : w18.cell? ⟨gb238, 0, none⟩ = some (.int .i64 (wrap64 (1 + (wrap64 (Int.tmod a3 3))))) := (blk_cell BK238.out 0).trans rfl; have hcz19_1 : w18.cell? ⟨gb238, 1, none⟩ = some (.int .i64 0) := (blk_cell BK238.out 1).trans rfl; have hcz19_2 : w18.cell? ⟨gb238, 2, none⟩ = some (.int .i64 (wrap64 (a0))) := (blk_cell BK238.out 2).trans rfl; have hcz19_3 : w18.cell? ⟨gb238, 3, none⟩ = some (.int .i64 (wrap64 (a1))) := (blk_cell BK238.out 3).trans rfl; have hfz19_0 := blk_frozen BK238.out 0; have hfz19_1 := blk_frozen BK238.out 1; have hfz19_2 := blk_frozen BK238.out 2; have hfz19_3 := blk_frozen BK238.out 3; have hcz20_0 : w18.cell? ⟨gb239, 0, none⟩ = some (.int .i64 (wrap64 (1 + (wrap64 (Int.tmod a4 3))))) := (blk_cell BK239.out 0).trans rfl; have hcz20_1 : w18.cell? ⟨gb239, 1, none⟩ = some (.int .i64 0) := (blk_cell BK239.out 1).trans rfl; have hcz20_2 : w18.cell? ⟨gb239, 2, none⟩ = some (.int .i64 (wrap64 (a0))) := (blk_cell BK239.out 2).trans rfl; have hcz20_3 : w18.cell? ⟨gb239, 3, none⟩ = some (.int .i64 (wrap64 (a2))) := (blk_cell BK239.out 3).trans rfl; have hfz20_0 := blk_frozen BK239.out 0; have hfz20_1 := blk_frozen BK239.out 1; have hfz20_2 := blk_frozen BK239.out 2; have hfz20_3 := blk_frozen BK239.out 3))
  go_ret
  exact ⟨by first | rfl | (simp [errW_none, errW_some] <;> rfl) | (simp [*, errW_none, errW_some] <;> rfl), uB HB.out⟩
 replace c8 := Bool.eq_false_iff.mpr c8
 subst c8
 have H1 : (underwoodlaw09_SpecSeen.l0 k a0 a1 t237 false 0 (wrap64 (1 + (wrap64 (Int.tmod a3 3)))) 0 (wrap64 (a0)) (wrap64 (a1)) (wrap64 (1 + (wrap64 (Int.tmod a4 3)))) 0 (wrap64 (a0)) (wrap64 (a2))) = some r := by rw [if_neg (show ¬ (false = true) by decide)] at H; exact H
 clear H
 have H := H1
 clear H1
 have H' := Aside0.mk H
 clear H
 go_enter Try.func7, Try.ntmps7
 go_wp2_with (first | ((with_reducible refine gate_callee (f := 8) rfl ?_); refine goesL_ (some 23) rfl rfl Try.func8 (by kernel_rfl) rfl #[] rfl ls ?_; (with_reducible refine (underwoodlaw09_awake.calls  t237 _ A6.out).mono ?_); rintro e w21 ⟨rfl, hb⟩; refine ⟨_, rfl, ?_⟩; have n0_ := Aside0.mk (below_step (uB HB.out) hb); clear HB; have HB := n0_; clear n0_; (try clear hb); (try clear hb2); (try clear hk); (try clear hi)) | ((with_reducible refine gate_dst (N := 12) rfl ?_); (try (refine gate_guard (by rfl) ?_; dsimp only)); refine box_event ?hg (N := 12) ?hd (cs := #[.int .i64 0, .int .i64 0, .int .i64 0, .int .i64 0]) (t := 26) ?hr ?_; (case hd => rfl); (case hg => rfl); (case hr => first | (go_simp; done) | (go_simp; rfl)); intro gb238 hg w22 hbox hb; have n0_ := Aside0.mk (below_step (uB HB.out) hb); have n1_ := Aside0.mk (hbox); have n3_ := Aside0.mk ((by rw [hg]; exact (below_size (uB HB.out)) : w.heap.size ≤ gb238)); clear HB; have HB := n0_; have BK238 := n1_; have GE238 := n3_; clear n0_ n1_ n3_; clear hb hbox hg; have hcz23_0 : w22.cell? ⟨gb238, 0, none⟩ = some (.int .i64 0) := (blk_cell BK238.out 0).trans rfl; have hcz23_1 : w22.cell? ⟨gb238, 1, none⟩ = some (.int .i64 0) := (blk_cell BK238.out 1).trans rfl; have hcz23_2 : w22.cell? ⟨gb238, 2, none⟩ = some (.int .i64 0) := (blk_cell BK238.out 2).trans rfl; have hcz23_3 : w22.cell? ⟨gb238, 3, none⟩ = some (.int .i64 0) := (blk_cell BK238.out 3).trans rfl; have hfz23_0 := blk_frozen BK238.out 0; have hfz23_1 := blk_frozen BK238.out 1; have hfz23_2 := blk_frozen BK238.out 2; have hfz23_3 := blk_frozen BK238.out 3) | ((with_reducible refine gate_dst (N := 13) rfl ?_); (try (refine gate_guard (by rfl) ?_; dsimp only)); refine box_event ?hg (N := 13) ?hd (cs := #[.int .i64 0, .int .i64 0, .int .i64 0, .int .i64 0]) (t := 26) ?hr ?_; (case hd => rfl); (case hg => rfl); (case hr => first | (go_simp; done) | (go_simp; rfl)); intro gb239 hg w24 hbox hb; have n0_ := Aside0.mk (blk_below (g := gb238) (o := .cells #[.int .i64 (wrap64 (1 + (wrap64 (Int.tmod a3 3)))), .int .i64 0, .int .i64 (wrap64 (a0)), .int .i64 (wrap64 (a1))] 26 (0, 0)) (by (with_reducible repeat (first | refine blk_drewN ?_ _ | refine blk_drew ?_ | refine blk_alloc ?_ _)); refine blk_put (cs := #[.int .i64 (wrap64 (1 + (wrap64 (Int.tmod a3 3)))), .int .i64 0, .int .i64 (wrap64 (a0)), .int .i64 0]) ?_ 3 _ rfl; (with_reducible repeat (first | refine blk_drewN ?_ _ | refine blk_drew ?_ | refine blk_alloc ?_ _)); refine blk_put (cs := #[.int .i64 (wrap64 (1 + (wrap64 (Int.tmod a3 3)))), .int .i64 0, .int .i64 0, .int .i64 0]) ?_ 2 _ rfl; (with_reducible repeat (first | refine blk_drewN ?_ _ | refine blk_drew ?_ | refine blk_alloc ?_ _)); refine blk_put (cs := #[.int .i64 (wrap64 (1 + (wrap64 (Int.tmod a3 3)))), .int .i64 0, .int .i64 0, .int .i64 0]) ?_ 1 _ rfl; (with_reducible repeat (first | refine blk_drewN ?_ _ | refine blk_drew ?_ | refine blk_alloc ?_ _)); refine blk_put (cs := #[.int .i64 0, .int .i64 0, .int .i64 0, .int .i64 0]) ?_ 0 _ rfl; (with_reducible repeat (first | refine blk_drewN ?_ _ | refine blk_drew ?_ | refine blk_alloc ?_ _)); exact BK238.out) hb); have n1_ := Aside0.mk (below_step (uB HB.out) hb); have n2_ := Aside0.mk (hbox); have n4_ := Aside0.mk ((by rw [hg]; exact (below_size (uB HB.out)) : w.heap.size ≤ gb239)); have n5_ := Aside0.mk ((by rw [hg]; exact Nat.ne_of_lt (blk_lt (g := gb238) (o := .cells #[.int .i64 (wrap64 (1 + (wrap64 (Int.tmod a3 3)))), .int .i64 0, .int .i64 (wrap64 (a0)), .int .i64 (wrap64 (a1))] 26 (0, 0)) (by (with_reducible repeat (first | refine blk_drewN ?_ _ | refine blk_drew ?_ | refine blk_alloc ?_ _)); refine blk_put (cs := #[.int .i64 (wrap64 (1 + (wrap64 (Int.tmod a3 3)))), .int .i64 0, .int .i64 (wrap64 (a0)), .int .i64 0]) ?_ 3 _ rfl; (with_reducible repeat (first | refine blk_drewN ?_ _ | refine blk_drew ?_ | refine blk_alloc ?_ _)); refine blk_put (cs := #[.int .i64 (wrap64 (1 + (wrap64 (Int.tmod a3 3)))), .int .i64 0, .int .i64 0, .int .i64 0]) ?_ 2 _ rfl; (with_reducible repeat (first | refine blk_drewN ?_ _ | refine blk_drew ?_ | refine blk_alloc ?_ _)); refine blk_put (cs := #[.int .i64 (wrap64 (1 + (wrap64 (Int.tmod a3 3)))), .int .i64 0, .int .i64 0, .int .i64 0]) ?_ 1 _ rfl; (with_reducible repeat (first | refine blk_drewN ?_ _ | refine blk_drew ?_ | refine blk_alloc ?_ _)); refine blk_put (cs := #[.int .i64 0, .int .i64 0, .int .i64 0, .int .i64 0]) ?_ 0 _ rfl; (with_reducible repeat (first | refine blk_drewN ?_ _ | refine blk_drew ?_ | refine blk_alloc ?_ _)); exact BK238.out)) : gb238 ≠ gb239)); have n6_ := Aside0.mk ((by rw [hg]; exact Nat.ne_of_gt (blk_lt (g := gb238) (o := .cells #[.int .i64 (wrap64 (1 + (wrap64 (Int.tmod a3 3)))), .int .i64 0, .int .i64 (wrap64 (a0)), .int .i64 (wrap64 (a1))] 26 (0, 0)) (by (with_reducible repeat (first | refine blk_drewN ?_ _ | refine blk_drew ?_ | refine blk_alloc ?_ _)); refine blk_put (cs := #[.int .i64 (wrap64 (1 + (wrap64 (Int.tmod a3 3)))), .int .i64 0, .int .i64 (wrap64 (a0)), .int .i64 0]) ?_ 3 _ rfl; (with_reducible repeat (first | refine blk_drewN ?_ _ | refine blk_drew ?_ | refine blk_alloc ?_ _)); refine blk_put (cs := #[.int .i64 (wrap64 (1 + (wrap64 (Int.tmod a3 3)))), .int .i64 0, .int .i64 0, .int .i64 0]) ?_ 2 _ rfl; (with_reducible repeat (first | refine blk_drewN ?_ _ | refine blk_drew ?_ | refine blk_alloc ?_ _)); refine blk_put (cs := #[.int .i64 (wrap64 (1 + (wrap64 (Int.tmod a3 3)))), .int .i64 0, .int .i64 0, .int .i64 0]) ?_ 1 _ rfl; (with_reducible repeat (first | refine blk_drewN ?_ _ | refine blk_drew ?_ | refine blk_alloc ?_ _)); refine blk_put (cs := #[.int .i64 0, .int .i64 0, .int .i64 0, .int .i64 0]) ?_ 0 _ rfl; (with_reducible repeat (first | refine blk_drewN ?_ _ | refine blk_drew ?_ | refine blk_alloc ?_ _)); exact BK238.out)) : gb239 ≠ gb238)); clear BK238; clear HB; have BK238 := n0_; have HB := n1_; have BK239 := n2_; have GE239 := n4_; have NB238_239 := n5_; have NB239_238 := n6_; clear n0_ n1_ n2_ n4_ n5_ n6_; clear hb hbox hg; have hnb25 := NB239_238.out; have hnc25 := NB238_239.out; have hcz26_0 : w24.cell? ⟨gb239, 0, none⟩ = some (.int .i64 0) := (blk_cell BK239.out 0).trans rfl; have hcz26_1 : w24.cell? ⟨gb239, 1, none⟩ = some (.int .i64 0) := (blk_cell BK239.out 1).trans rfl; have hcz26_2 : w24.cell? ⟨gb239, 2, none⟩ = some (.int .i64 0) := (blk_cell BK239.out 2).trans rfl; have hcz26_3 : w24.cell? ⟨gb239, 3, none⟩ = some (.int .i64 0) := (blk_cell BK239.out 3).trans rfl; have hfz26_0 := blk_frozen BK239.out 0; have hfz26_1 := blk_frozen BK239.out 1; have hfz26_2 := blk_frozen BK239.out 2; have hfz26_3 := blk_frozen BK239.out 3; have hcz27_0 : w24.cell? ⟨gb238, 0, none⟩ = some (.int .i64 (wrap64 (1 + (wrap64 (Int.tmod a3 3))))) := (blk_cell BK238.out 0).trans rfl; have hcz27_1 : w24.cell? ⟨gb238, 1, none⟩ = some (.int .i64 0) := (blk_cell BK238.out 1).trans rfl; have hcz27_2 : w24.cell? ⟨gb238, 2, none⟩ = some (.int .i64 (wrap64 (a0))) := (blk_cell BK238.out 2).trans rfl; have hcz27_3 : w24.cell? ⟨gb238, 3, none⟩ = some (.int .i64 (wrap64 (a1))) := (blk_cell BK238.out 3).trans rfl; have hfz27_0 := blk_frozen BK238.out 0; have hfz27_1 := blk_frozen BK238.out 1; have hfz27_2 := blk_frozen BK238.out 2; have hfz27_3 := blk_frozen BK238.out 3) | ((with_reducible refine gate_callee (f := 17) rfl ?_); refine goesL_ (some 44) rfl rfl Try.func17 (by kernel_rfl) rfl #[.agg #[.int .i64 (wrap64 (1 + (wrap64 (Int.tmod a3 3)))), .int .i64 0, .int .i64 (wrap64 (a0)), .int .i64 (wrap64 (a1))], .agg #[.int .i64 (wrap64 (1 + (wrap64 (Int.tmod a4 3)))), .int .i64 0, .int .i64 (wrap64 (a0)), .int .i64 (wrap64 (a2))]] rfl ls ?_; (with_reducible refine (spec_Commute.calls (wrap64 (1 + (wrap64 (Int.tmod a3 3)))) 0 (wrap64 (a0)) (wrap64 (a1)) (wrap64 (1 + (wrap64 (Int.tmod a4 3)))) 0 (wrap64 (a0)) (wrap64 (a2)) false _ A7.out).mono ?_); rintro e w28 ⟨rfl, hb⟩; refine ⟨_, rfl, ?_⟩; have n0_ := Aside0.mk (blk_below (g := gb238) (o := .cells #[.int .i64 (wrap64 (1 + (wrap64 (Int.tmod a3 3)))), .int .i64 0, .int .i64 (wrap64 (a0)), .int .i64 (wrap64 (a1))] 26 (0, 0)) (by (with_reducible repeat (first | refine blk_drewN ?_ _ | refine blk_drew ?_ | refine blk_alloc ?_ _)); refine blk_far ?_ NB238_239.out _; (with_reducible repeat (first | refine blk_drewN ?_ _ | refine blk_drew ?_ | refine blk_alloc ?_ _)); refine blk_far ?_ NB238_239.out _; (with_reducible repeat (first | refine blk_drewN ?_ _ | refine blk_drew ?_ | refine blk_alloc ?_ _)); refine blk_far ?_ NB238_239.out _; (with_reducible repeat (first | refine blk_drewN ?_ _ | refine blk_drew ?_ | refine blk_alloc ?_ _)); refine blk_far ?_ NB238_239.out _; (with_reducible repeat (first | refine blk_drewN ?_ _ | refine blk_drew ?_ | refine blk_alloc ?_ _)); exact BK238.out) hb); have n1_ := Aside0.mk (blk_below (g := gb239) (o := .cells #[.int .i64 (wrap64 (1 + (wrap64 (Int.tmod a4 3)))), .int .i64 0, .int .i64 (wrap64 (a0)), .int .i64 (wrap64 (a2))] 26 (0, 0)) (by (with_reducible repeat (first | refine blk_drewN ?_ _ | refine blk_drew ?_ | refine blk_alloc ?_ _)); refine blk_put (cs := #[.int .i64 (wrap64 (1 + (wrap64 (Int.tmod a4 3)))), .int .i64 0, .int .i64 (wrap64 (a0)), .int .i64 0]) ?_ 3 _ rfl; (with_reducible repeat (first | refine blk_drewN ?_ _ | refine blk_drew ?_ | refine blk_alloc ?_ _)); refine blk_put (cs := #[.int .i64 (wrap64 (1 + (wrap64 (Int.tmod a4 3)))), .int .i64 0, .int .i64 0, .int .i64 0]) ?_ 2 _ rfl; (with_reducible repeat (first | refine blk_drewN ?_ _ | refine blk_drew ?_ | refine blk_alloc ?_ _)); refine blk_put (cs := #[.int .i64 (wrap64 (1 + (wrap64 (Int.tmod a4 3)))), .int .i64 0, .int .i64 0, .int .i64 0]) ?_ 1 _ rfl; (with_reducible repeat (first | refine blk_drewN ?_ _ | refine blk_drew ?_ | refine blk_alloc ?_ _)); refine blk_put (cs := #[.int .i64 0, .int .i64 0, .int .i64 0, .int .i64 0]) ?_ 0 _ rfl; (with_reducible repeat (first | refine blk_drewN ?_ _ | refine blk_drew ?_ | refine blk_alloc ?_ _)); exact BK239.out) hb); have n2_ := Aside0.mk (below_step (uB HB.out) hb); clear BK238; clear BK239; clear HB; have BK238 := n0_; have BK239 := n1_; have HB := n2_; clear n0_ n1_ n2_; (try clear hb); (try clear hb2); (try clear hk); (try clear hi)))
 go_loopg [14, 15] k (fun kq v14 v15 w' => ∃ (x14_1 : Bool) (x15_1 : Int), v14 = .bool x14_1 ∧ v15 = .int .i64 x15_1 ∧ Aside0 (underwoodlaw09_SpecSeen.l0 kq a0 a1 t237 x14_1 x15_1 (wrap64 (1 + (wrap64 (Int.tmod a3 3)))) 0 (wrap64 (a0)) (wrap64 (a1)) (wrap64 (1 + (wrap64 (Int.tmod a4 3)))) 0 (wrap64 (a0)) (wrap64 (a2)) = some r) ∧ Aside0 (kq ≤ k) ∧ Aside0 (w'.heap[gb238]? = some (.cells #[.int .i64 (wrap64 (1 + (wrap64 (Int.tmod a3 3)))), .int .i64 0, .int .i64 (wrap64 (a0)), .int .i64 (wrap64 (a1))] 26 (0, 0))) ∧ Aside0 (w'.heap[gb239]? = some (.cells #[.int .i64 (wrap64 (1 + (wrap64 (Int.tmod a4 3)))), .int .i64 0, .int .i64 (wrap64 (a0)), .int .i64 (wrap64 (a2))] 26 (0, 0))) ∧ Aside0 (Below w.heap.size w w'))
 case atStart => exact ⟨(false), (0), (by first | rfl | (simp; done) | (simp [*]; done)), (by first | rfl | (simp; done) | (simp [*]; done)), H', ⟨Nat.le_refl _⟩, ⟨by (with_reducible repeat (first | refine blk_drewN ?_ _ | refine blk_drew ?_ | refine blk_alloc ?_ _)); exact BK238.out⟩, ⟨by (with_reducible repeat (first | refine blk_drewN ?_ _ | refine blk_drew ?_ | refine blk_alloc ?_ _)); exact BK239.out⟩, ⟨uB HB.out⟩⟩
 case round =>
  clear H'
  try clear c1
  try clear c2
  try clear p2
  try clear p6
  try clear c7
  try clear c8
  try clear c9
  try clear c10
  try clear c10b0
  try clear c10b1
  try clear c15
  try clear c17
  try clear c25
  try clear hcz13_0
  try clear hcz13_1
  try clear hcz13_2
  try clear hcz13_3
  try clear hcz16_0
  try clear hcz16_1
  try clear hcz16_2
  try clear hcz16_3
  try clear hcz17_0
  try clear hcz17_1
  try clear hcz17_2
  try clear hcz17_3
  try clear hcz19_0
  try clear hcz19_1
  try clear hcz19_2
  try clear hcz19_3
  try clear hcz20_0
  try clear hcz20_1
  try clear hcz20_2
  try clear hcz20_3
  try clear hcz23_0
  try clear hcz23_1
  try clear hcz23_2
  try clear hcz23_3
  try clear hcz26_0
  try clear hcz26_1
  try clear hcz26_2
  try clear hcz26_3
  try clear hcz27_0
  try clear hcz27_1
  try clear hcz27_2
  try clear hcz27_3
  try clear hfz13_0
  try clear hfz13_1
  try clear hfz13_2
  try clear hfz13_3
  try clear hfz16_0
  try clear hfz16_1
  try clear hfz16_2
  try clear hfz16_3
  try clear hfz17_0
  try clear hfz17_1
  try clear hfz17_2
  try clear hfz17_3
  try clear hfz19_0
  try clear hfz19_1
  try clear hfz19_2
  try clear hfz19_3
  try clear hfz20_0
  try clear hfz20_1
  try clear hfz20_2
  try clear hfz20_3
  try clear hfz23_0
  try clear hfz23_1
  try clear hfz23_2
  try clear hfz23_3
  try clear hfz26_0
  try clear hfz26_1
  try clear hfz26_2
  try clear hfz26_3
  try clear hfz27_0
  try clear hfz27_1
  try clear hfz27_2
  try clear hfz27_3
  obtain ⟨x14_1, x15_1, rfl, rfl, HA, HK1, BK238, BK239, HB⟩ := hrel
  cases gk with
  | zero => exact absurd HA.out (by simp [underwoodlaw09_SpecSeen.l0])
  | succ k1 =>
   have H := HA.out
   clear HA
   simp only [underwoodlaw09_SpecSeen.l0] at H
   by_cases c29 : x15_1 < 2
   rotate_left
   ·rw [if_neg c29] at H
    have c29b0 : decide (x15_1 < 2) = false := decide_eq_false c29
    clear c29
    by_cases c139 : t237 = true
    rotate_left
    ·replace c139 := Bool.eq_false_iff.mpr c139
     subst c139
     have H1 : (some false) = some r := by rw [if_neg (show ¬ (false = true) by decide)] at H; exact H
     clear H
     have H := H1
     clear H1
     exact absurd hr (by rw [← Option.some.inj H]; decide)
    subst c139
    have H1 : (some x14_1) = some r := by rw [if_pos rfl] at H; exact H
    clear H
    have H := H1
    clear H1
    obtain rfl := Option.some.inj H
    go_wp2
    go_ret
    exact ⟨by first | rfl | (simp [errW_none, errW_some] <;> rfl) | (simp [*, errW_none, errW_some] <;> rfl), uB HB.out⟩
   rw [if_pos c29] at H
   have c29b0 : decide (x15_1 < 2) = true := decide_eq_true c29
   clear c29
   replace H := Option.bind_eq_some_iff.mp H
   obtain ⟨⟨t241, t242, t245⟩, A300, H⟩ := H
   replace H : (if x15_1 = 1 then ((spec_Do.f k1 t241 t242 t245 2 0 (wrap64 (a0)) (wrap64 (1 + (wrap64 (a1))))).bind fun bt249 => (underwoodlaw09_SpecSeen.j1 k1 a0 a1 t237 x14_1 x15_1 (wrap64 (1 + (wrap64 (Int.tmod a3 3)))) 0 (wrap64 (a0)) (wrap64 (a1)) (wrap64 (1 + (wrap64 (Int.tmod a4 3)))) 0 (wrap64 (a0)) (wrap64 (a2)) bt249.1 bt249.2.1 bt249.2.2.1)) else (underwoodlaw09_SpecSeen.j1 k1 a0 a1 t237 x14_1 x15_1 (wrap64 (1 + (wrap64 (Int.tmod a3 3)))) 0 (wrap64 (a0)) (wrap64 (a1)) (wrap64 (1 + (wrap64 (Int.tmod a4 3)))) 0 (wrap64 (a0)) (wrap64 (a2)) t241 t242 t245)) = some r := H
   have A30 := Aside0.mk A300
   clear A300
   have HC31 := Aside0.mk H
   clear H
   go_upto_if 62 with (first | ((with_reducible refine gate_callee (f := 16) rfl ?_); refine goesL_ (some 60) rfl rfl Try.func16 (by kernel_rfl) rfl #[.int .i64 1] rfl ls ?_; (with_reducible refine (spec_New.calls 1 t241 t242 t245 _ A30.out).mono ?_); rintro e w32 ⟨v243, v246, rfl, ho0, ho1, hb⟩; refine ⟨_, rfl, ?_⟩; have n0_ := Aside0.mk (Kd.R_lower ho0 (below_size (uB HB.out))); have n1_ := Aside0.mk (Kd.R_lower ho1 (below_size (uB HB.out))); have n2_ := Aside0.mk (blk_below (g := gb238) (o := .cells #[.int .i64 (wrap64 (1 + (wrap64 (Int.tmod a3 3)))), .int .i64 0, .int .i64 (wrap64 (a0)), .int .i64 (wrap64 (a1))] 26 (0, 0)) (ub BK238.out) hb); have n3_ := Aside0.mk (blk_below (g := gb239) (o := .cells #[.int .i64 (wrap64 (1 + (wrap64 (Int.tmod a4 3)))), .int .i64 0, .int .i64 (wrap64 (a0)), .int .i64 (wrap64 (a2))] 26 (0, 0)) (ub BK239.out) hb); have n4_ := Aside0.mk (below_step (uB HB.out) hb); clear BK238; clear BK239; clear HB; have HO244 := n0_; have HO247 := n1_; have BK238 := n2_; have BK239 := n3_; have HB := n4_; clear n0_ n1_ n2_ n3_ n4_; (try clear hb); (try clear hb2); (try clear hk); (try clear hi); (try clear ho0); (try clear ho1)) | ((with_reducible refine gate_dst (N := 16) rfl ?_); (try (refine gate_guard (by rfl) ?_; dsimp only)); refine box_event ?hg (N := 16) ?hd (cs := #[.int .i64 0, .slice none 0 0, .slice none 0 0]) (t := 24) ?hr ?_; (case hd => rfl); (case hg => rfl); (case hr => first | (go_simp; done) | (go_simp; rfl)); intro gb248 hg w33 hbox hb; have n0_ := Aside0.mk (Kd.R_below (uR HO244.out) hb); have n1_ := Aside0.mk (Kd.R_below (uR HO247.out) hb); have n2_ := Aside0.mk (blk_below (g := gb238) (o := .cells #[.int .i64 (wrap64 (1 + (wrap64 (Int.tmod a3 3)))), .int .i64 0, .int .i64 (wrap64 (a0)), .int .i64 (wrap64 (a1))] 26 (0, 0)) (ub BK238.out) hb); have n3_ := Aside0.mk (blk_below (g := gb239) (o := .cells #[.int .i64 (wrap64 (1 + (wrap64 (Int.tmod a4 3)))), .int .i64 0, .int .i64 (wrap64 (a0)), .int .i64 (wrap64 (a2))] 26 (0, 0)) (ub BK239.out) hb); have n4_ := Aside0.mk (below_step (uB HB.out) hb); have n5_ := Aside0.mk (hbox); have n7_ := Aside0.mk ((by rw [hg]; exact (below_size (uB HB.out)) : w.heap.size ≤ gb248)); have n8_ := Aside0.mk ((by rw [hg]; exact Nat.ne_of_lt (blk_lt (g := gb238) (o := .cells #[.int .i64 (wrap64 (1 + (wrap64 (Int.tmod a3 3)))), .int .i64 0, .int .i64 (wrap64 (a0)), .int .i64 (wrap64 (a1))] 26 (0, 0)) (ub BK238.out)) : gb238 ≠ gb248)); have n9_ := Aside0.mk ((by rw [hg]; exact Nat.ne_of_gt (blk_lt (g := gb238) (o := .cells #[.int .i64 (wrap64 (1 + (wrap64 (Int.tmod a3 3)))), .int .i64 0, .int .i64 (wrap64 (a0)), .int .i64 (wrap64 (a1))] 26 (0, 0)) (ub BK238.out)) : gb248 ≠ gb238)); have n10_ := Aside0.mk ((by rw [hg]; exact Nat.ne_of_lt (blk_lt (g := gb239) (o := .cells #[.int .i64 (wrap64 (1 + (wrap64 (Int.tmod a4 3)))), .int .i64 0, .int .i64 (wrap64 (a0)), .int .i64 (wrap64 (a2))] 26 (0, 0)) (ub BK239.out)) : gb239 ≠ gb248)); have n11_ := Aside0.mk ((by rw [hg]; exact Nat.ne_of_gt (blk_lt (g := gb239) (o := .cells #[.int .i64 (wrap64 (1 + (wrap64 (Int.tmod a4 3)))), .int .i64 0, .int .i64 (wrap64 (a0)), .int .i64 (wrap64 (a2))] 26 (0, 0)) (ub BK239.out)) : gb248 ≠ gb239)); clear HO244; clear HO247; clear BK238; clear BK239; clear HB; have HO244 := n0_; have HO247 := n1_; have BK238 := n2_; have BK239 := n3_; have HB := n4_; have BK248 := n5_; have GE248 := n7_; have NB238_248 := n8_; have NB248_238 := n9_; have NB239_248 := n10_; have NB248_239 := n11_; clear n0_ n1_ n2_ n3_ n4_ n5_ n7_ n8_ n9_ n10_ n11_; clear hb hbox hg; have hnb34 := NB248_238.out; have hnc34 := NB238_248.out; have hnb35 := NB248_239.out; have hnc35 := NB239_248.out; have hcz36_0 : w33.cell? ⟨gb248, 0, none⟩ = some (.int .i64 0) := (blk_cell BK248.out 0).trans rfl; have hcz36_1 : w33.cell? ⟨gb248, 1, none⟩ = some (.slice none 0 0) := (blk_cell BK248.out 1).trans rfl; have hcz36_2 : w33.cell? ⟨gb248, 2, none⟩ = some (.slice none 0 0) := (blk_cell BK248.out 2).trans rfl; have hfz36_0 := blk_frozen BK248.out 0; have hfz36_1 := blk_frozen BK248.out 1; have hfz36_2 := blk_frozen BK248.out 2; obtain ⟨Ao37, co37, eo37⟩ := Kd.R_slice HO244.out; subst eo37; obtain ⟨Ao38, co38, eo38⟩ := Kd.R_slice HO247.out; subst eo38) | ((with_reducible refine gate_store (t := 24) (p := 16) rfl ?_); refine store_event (t := 24) (p := 16) (v := ?vo_w39) (w1 := (((w33.setCell ⟨gb248, 0, none⟩ (.int .i64 t241)).setCell ⟨gb248, 1, none⟩ (.slice Ao37 t242.length co37)).setCell ⟨gb248, 2, none⟩ (.slice Ao38 t245.length co38))) ?hg ?ho ?hn ?hr ?_; (case ho => rfl); (case hg => rfl); (case hn => rfl); (case hr => first | (go_simp; done) | (go_simp; rfl)); intro w39 hw; have n0_ : Aside0 (Kd.R (Kd.int .i64) 3 w39 w.heap.size (fun k_ => some k_ ≠ (.slice Ao38 t245.length co38 : Value).ownBlock) (.slice Ao37 t242.length co37) t242) := ⟨(by rw [hw]; exact (by (with_reducible repeat (first | apply Kd.R_alloc | apply Kd.R_drewN | apply Kd.R_drew)); exact Kd.R_mono (Kd.R_far (p := ⟨gb248, 2, none⟩) (Kd.R_far (p := ⟨gb248, 1, none⟩) (Kd.R_far (p := ⟨gb248, 0, none⟩) (Kd.R_types HO244.out BK248.out (by decide)) (fun _ hk => hk.2) (.int .i64 t241)) (fun _ hk => hk.2) (.slice Ao37 t242.length co37)) (fun _ hk => hk.2) (.slice Ao38 t245.length co38)) (fun _ hk => hk.1)))⟩; have n1_ : Aside0 (Kd.R (Kd.int .i64) 3 w39 w.heap.size (fun k_ => some k_ ≠ (.slice Ao37 t242.length co37 : Value).ownBlock) (.slice Ao38 t245.length co38) t245) := ⟨(by rw [hw]; exact (by (with_reducible repeat (first | apply Kd.R_alloc | apply Kd.R_drewN | apply Kd.R_drew)); exact Kd.R_mono (Kd.R_far (p := ⟨gb248, 2, none⟩) (Kd.R_far (p := ⟨gb248, 1, none⟩) (Kd.R_far (p := ⟨gb248, 0, none⟩) (Kd.R_types HO247.out BK248.out (by decide)) (fun _ hk => hk.2) (.int .i64 t241)) (fun _ hk => hk.2) (.slice Ao37 t242.length co37)) (fun _ hk => hk.2) (.slice Ao38 t245.length co38)) (fun _ hk => hk.1)))⟩; have n2_ : Aside0 (w39.heap[gb238]? = some (.cells #[.int .i64 (wrap64 (1 + (wrap64 (Int.tmod a3 3)))), .int .i64 0, .int .i64 (wrap64 (a0)), .int .i64 (wrap64 (a1))] 26 (0, 0))) := ⟨(by rw [hw]; exact (by (with_reducible repeat (first | refine blk_drewN ?_ _ | refine blk_drew ?_ | refine blk_alloc ?_ _)); refine blk_far ?_ NB238_248.out _; (with_reducible repeat (first | refine blk_drewN ?_ _ | refine blk_drew ?_ | refine blk_alloc ?_ _)); refine blk_far ?_ NB238_248.out _; (with_reducible repeat (first | refine blk_drewN ?_ _ | refine blk_drew ?_ | refine blk_alloc ?_ _)); refine blk_far ?_ NB238_248.out _; (with_reducible repeat (first | refine blk_drewN ?_ _ | refine blk_drew ?_ | refine blk_alloc ?_ _)); exact BK238.out))⟩; have n3_ : Aside0 (w39.heap[gb239]? = some (.cells #[.int .i64 (wrap64 (1 + (wrap64 (Int.tmod a4 3)))), .int .i64 0, .int .i64 (wrap64 (a0)), .int .i64 (wrap64 (a2))] 26 (0, 0))) := ⟨(by rw [hw]; exact (by (with_reducible repeat (first | refine blk_drewN ?_ _ | refine blk_drew ?_ | refine blk_alloc ?_ _)); refine blk_far ?_ NB239_248.out _; (with_reducible repeat (first | refine blk_drewN ?_ _ | refine blk_drew ?_ | refine blk_alloc ?_ _)); refine blk_far ?_ NB239_248.out _; (with_reducible repeat (first | refine blk_drewN ?_ _ | refine blk_drew ?_ | refine blk_alloc ?_ _)); refine blk_far ?_ NB239_248.out _; (with_reducible repeat (first | refine blk_drewN ?_ _ | refine blk_drew ?_ | refine blk_alloc ?_ _)); exact BK239.out))⟩; have n4_ : Aside0 (w39.heap[gb248]? = some (.cells #[.int .i64 t241, .slice Ao37 t242.length co37, .slice Ao38 t245.length co38] 24 (0, 0))) := ⟨(by rw [hw]; exact (by (with_reducible repeat (first | refine blk_drewN ?_ _ | refine blk_drew ?_ | refine blk_alloc ?_ _)); refine blk_put (cs := #[.int .i64 t241, .slice Ao37 t242.length co37, .slice none 0 0]) ?_ 2 _ rfl; (with_reducible repeat (first | refine blk_drewN ?_ _ | refine blk_drew ?_ | refine blk_alloc ?_ _)); refine blk_put (cs := #[.int .i64 t241, .slice none 0 0, .slice none 0 0]) ?_ 1 _ rfl; (with_reducible repeat (first | refine blk_drewN ?_ _ | refine blk_drew ?_ | refine blk_alloc ?_ _)); refine blk_put (cs := #[.int .i64 0, .slice none 0 0, .slice none 0 0]) ?_ 0 _ rfl; (with_reducible repeat (first | refine blk_drewN ?_ _ | refine blk_drew ?_ | refine blk_alloc ?_ _)); exact BK248.out))⟩; have n5_ : Aside0 (Below w.heap.size w w39) := ⟨(by rw [hw]; exact (uB HB.out))⟩; clear hw; clear HO244; clear HO247; clear BK238; clear BK239; clear BK248; clear HB; have HO244 := n0_; have HO247 := n1_; have BK238 := n2_; have BK239 := n3_; have BK248 := n4_; have HB := n5_; clear n0_ n1_ n2_ n3_ n4_ n5_))
   (try simp only [Act.put, List.setIfInBounds_toArray, List.set_cons_zero, List.set_cons_succ])
   go_cut [] (fun wc => ∃ (kq : Nat) (x249000_30 : Int) (x249001_30 : List Int) (x249002_30 : List Int) (u249001 : Value) (u249002 : Value), Aside0 (underwoodlaw09_SpecSeen.j1 kq a0 a1 t237 x14_1 x15_1 (wrap64 (1 + (wrap64 (Int.tmod a3 3)))) 0 (wrap64 (a0)) (wrap64 (a1)) (wrap64 (1 + (wrap64 (Int.tmod a4 3)))) 0 (wrap64 (a0)) (wrap64 (a2)) x249000_30 x249001_30 x249002_30 = some r) ∧ Aside0 (kq ≤ k1) ∧ Aside0 (Kd.V (Kd.int .i64) 3 wc w.heap.size (fun k_ => k_ ≠ gb238 ∧ k_ ≠ gb239 ∧ k_ ≠ gb248) u249001 x249001_30) ∧ Aside0 (Kd.V (Kd.int .i64) 3 wc w.heap.size (fun k_ => k_ ≠ gb238 ∧ k_ ≠ gb239 ∧ k_ ≠ gb248) u249002 x249002_30) ∧ Aside0 (wc.heap[gb238]? = some (.cells #[.int .i64 (wrap64 (1 + (wrap64 (Int.tmod a3 3)))), .int .i64 0, .int .i64 (wrap64 (a0)), .int .i64 (wrap64 (a1))] 26 (0, 0))) ∧ Aside0 (wc.heap[gb239]? = some (.cells #[.int .i64 (wrap64 (1 + (wrap64 (Int.tmod a4 3)))), .int .i64 0, .int .i64 (wrap64 (a0)), .int .i64 (wrap64 (a2))] 26 (0, 0))) ∧ Aside0 (wc.heap[gb248]? = some (.cells #[.int .i64 x249000_30, u249001, u249002] 24 (0, 0))) ∧ Aside0 (Below w.heap.size w wc))
   case first =>
    have H := HC31.out
    clear HC31
    by_cases c40 : x15_1 = 1
    rotate_left
    ·rw [if_neg c40] at H
     have c40b0 : (x15_1 == 1) = false := beq_eq_false_iff_ne.mpr c40
     have c40b1 : (x15_1 != 1) = true := bne_iff_ne.mpr c40
     (first | rw [c40b0] | (simp only [i64_w, i32_w]; rw [c40b0]) | skip)
     have H' := Aside0.mk H
     clear H
     go_wp2
     go_meet
     case rel => exact ⟨_, (t241), (t242), (t245), (.slice Ao37 t242.length co37), (.slice Ao38 t245.length co38), H', ⟨by have := HK1.out; first | omega | exact Nat.le_refl _⟩, ⟨Kd.R_V (by (with_reducible repeat (first | apply Kd.R_alloc | apply Kd.R_drewN | apply Kd.R_drew)); exact Kd.R_mono (Kd.R_types (Kd.R_types (Kd.R_types HO244.out BK238.out (by decide)) BK239.out (by decide)) BK248.out (by decide)) (fun _ hk => ⟨hk.1.1.2, ⟨hk.1.2, hk.2⟩⟩))⟩, ⟨Kd.R_V (by (with_reducible repeat (first | apply Kd.R_alloc | apply Kd.R_drewN | apply Kd.R_drew)); exact Kd.R_mono (Kd.R_types (Kd.R_types (Kd.R_types HO247.out BK238.out (by decide)) BK239.out (by decide)) BK248.out (by decide)) (fun _ hk => ⟨hk.1.1.2, ⟨hk.1.2, hk.2⟩⟩))⟩, ⟨by (with_reducible repeat (first | refine blk_drewN ?_ _ | refine blk_drew ?_ | refine blk_alloc ?_ _)); exact BK238.out⟩, ⟨by (with_reducible repeat (first | refine blk_drewN ?_ _ | refine blk_drew ?_ | refine blk_alloc ?_ _)); exact BK239.out⟩, ⟨by (with_reducible repeat (first | refine blk_drewN ?_ _ | refine blk_drew ?_ | refine blk_alloc ?_ _)); exact BK248.out⟩, ⟨uB HB.out⟩⟩
    rw [if_pos c40] at H
    have c40b0 : (x15_1 == 1) = true := beq_iff_eq.mpr c40
    have c40b1 : (x15_1 != 1) = false := bne_eq_false_iff_eq.mpr c40
    clear c40
    (first | rw [c40b0] | (simp only [i64_w, i32_w]; rw [c40b0]) | skip)
    replace H := Option.bind_eq_some_iff.mp H
    obtain ⟨⟨t249, t250, t253, t256, t257⟩, A410, H⟩ := H
    replace H : (underwoodlaw09_SpecSeen.j1 k1 a0 a1 t237 x14_1 x15_1 (wrap64 (1 + (wrap64 (Int.tmod a3 3)))) 0 (wrap64 (a0)) (wrap64 (a1)) (wrap64 (1 + (wrap64 (Int.tmod a4 3)))) 0 (wrap64 (a0)) (wrap64 (a2)) t249 t250 t253) = some r := H
    have A41 := Aside0.mk A410
    clear A410
    have H' := Aside0.mk H
    clear H
    have hnb42 := NB248_238.out
    have hnc42 := NB238_248.out
    have hnb43 := NB248_239.out
    have hnc43 := NB239_248.out
    have hcz44_0 : w39.cell? ⟨gb248, 0, none⟩ = some (.int .i64 t241) := (blk_cell BK248.out 0).trans rfl
    have hcz44_1 : w39.cell? ⟨gb248, 1, none⟩ = some (.slice Ao37 t242.length co37) := (blk_cell BK248.out 1).trans rfl
    have hcz44_2 : w39.cell? ⟨gb248, 2, none⟩ = some (.slice Ao38 t245.length co38) := (blk_cell BK248.out 2).trans rfl
    have hfz44_0 := blk_frozen BK248.out 0
    have hfz44_1 := blk_frozen BK248.out 1
    have hfz44_2 := blk_frozen BK248.out 2
    go_wp2_with (first | ((with_reducible refine gate_callee (f := 11) rfl ?_); refine goesL_ (some 71) rfl rfl Try.func11 (by kernel_rfl) rfl #[.agg #[.int .i64 t241, .slice Ao37 t242.length co37, .slice Ao38 t245.length co38], .agg #[.int .i64 2, .int .i64 0, .int .i64 (wrap64 (a0)), .int .i64 (wrap64 (1 + (wrap64 (a1))))]] rfl ls ?_; (with_reducible refine (spec_Do.calls k1 t241 (fun k_ => some k_ = (.slice Ao37 t242.length co37 : Value).ownBlock) _ _ t242 (fun k_ => some k_ = (.slice Ao38 t245.length co38 : Value).ownBlock) _ _ t245 2 0 (wrap64 (a0)) (wrap64 (1 + (wrap64 (a1)))) t249 t250 t253 t256 t257 _ ?side1 ?side2 A41.out).mono ?_); (case side1 => exact Kd.R_V (Kd.R_tight rfl (Kd.R_types (Kd.R_types (Kd.R_types (HO244.out) BK238.out (by decide)) BK239.out (by decide)) BK248.out (by decide)))); (case side2 => exact Kd.R_V (Kd.R_tight rfl (Kd.R_types (Kd.R_types (Kd.R_types (HO247.out) BK238.out (by decide)) BK239.out (by decide)) BK248.out (by decide)))); rintro e w45 ⟨v251, v254, rfl, ho0, ho1, hb⟩; refine ⟨_, rfl, ?_⟩; have n0_ := Aside0.mk (Kd.R_below (uR HO244.out) hb); have n1_ := Aside0.mk (Kd.R_below (uR HO247.out) hb); have n2_ := Aside0.mk (Kd.V_lower (Kd.V_mono (ok' := fun k_ => k_ ≠ gb238 ∧ k_ ≠ gb239 ∧ k_ ≠ gb248) ho0 (fun k_ hk_ => by first | exact ⟨Or.elim hk_ (fun hs_ => Or.elim hs_ (fun hs_ => ((Kd.R_types (Kd.R_types (Kd.R_types (HO244.out) BK238.out (by decide)) BK239.out (by decide)) BK248.out (by decide)).1 k_ hs_.symm).1.1.2) (fun hs_ => ((Kd.R_types (Kd.R_types (Kd.R_types (HO247.out) BK238.out (by decide)) BK239.out (by decide)) BK248.out (by decide)).1 k_ hs_.symm).1.1.2)) (fun hn_ => (Kd.freshB (g := gb238) (o := .cells #[.int .i64 (wrap64 (1 + (wrap64 (Int.tmod a3 3)))), .int .i64 0, .int .i64 (wrap64 (a0)), .int .i64 (wrap64 (a1))] 26 (0, 0)) (ub BK238.out) k_ hn_)), Or.elim hk_ (fun hs_ => Or.elim hs_ (fun hs_ => ((Kd.R_types (Kd.R_types (Kd.R_types (HO244.out) BK238.out (by decide)) BK239.out (by decide)) BK248.out (by decide)).1 k_ hs_.symm).1.2) (fun hs_ => ((Kd.R_types (Kd.R_types (Kd.R_types (HO247.out) BK238.out (by decide)) BK239.out (by decide)) BK248.out (by decide)).1 k_ hs_.symm).1.2)) (fun hn_ => (Kd.freshB (g := gb239) (o := .cells #[.int .i64 (wrap64 (1 + (wrap64 (Int.tmod a4 3)))), .int .i64 0, .int .i64 (wrap64 (a0)), .int .i64 (wrap64 (a2))] 26 (0, 0)) (ub BK239.out) k_ hn_)), Or.elim hk_ (fun hs_ => Or.elim hs_ (fun hs_ => ((Kd.R_types (Kd.R_types (Kd.R_types (HO244.out) BK238.out (by decide)) BK239.out (by decide)) BK248.out (by decide)).1 k_ hs_.symm).2) (fun hs_ => ((Kd.R_types (Kd.R_types (Kd.R_types (HO247.out) BK238.out (by decide)) BK239.out (by decide)) BK248.out (by decide)).1 k_ hs_.symm).2)) (fun hn_ => (Kd.freshB (g := gb248) (o := .cells #[.int .i64 t241, .slice Ao37 t242.length co37, .slice Ao38 t245.length co38] 24 (0, 0)) (ub BK248.out) k_ hn_))⟩ | grind)) (below_size (uB HB.out))); have n3_ := Aside0.mk (Kd.V_lower (Kd.V_mono (ok' := fun k_ => k_ ≠ gb238 ∧ k_ ≠ gb239 ∧ k_ ≠ gb248) ho1 (fun k_ hk_ => by first | exact ⟨Or.elim hk_ (fun hs_ => Or.elim hs_ (fun hs_ => ((Kd.R_types (Kd.R_types (Kd.R_types (HO244.out) BK238.out (by decide)) BK239.out (by decide)) BK248.out (by decide)).1 k_ hs_.symm).1.1.2) (fun hs_ => ((Kd.R_types (Kd.R_types (Kd.R_types (HO247.out) BK238.out (by decide)) BK239.out (by decide)) BK248.out (by decide)).1 k_ hs_.symm).1.1.2)) (fun hn_ => (Kd.freshB (g := gb238) (o := .cells #[.int .i64 (wrap64 (1 + (wrap64 (Int.tmod a3 3)))), .int .i64 0, .int .i64 (wrap64 (a0)), .int .i64 (wrap64 (a1))] 26 (0, 0)) (ub BK238.out) k_ hn_)), Or.elim hk_ (fun hs_ => Or.elim hs_ (fun hs_ => ((Kd.R_types (Kd.R_types (Kd.R_types (HO244.out) BK238.out (by decide)) BK239.out (by decide)) BK248.out (by decide)).1 k_ hs_.symm).1.2) (fun hs_ => ((Kd.R_types (Kd.R_types (Kd.R_types (HO247.out) BK238.out (by decide)) BK239.out (by decide)) BK248.out (by decide)).1 k_ hs_.symm).1.2)) (fun hn_ => (Kd.freshB (g := gb239) (o := .cells #[.int .i64 (wrap64 (1 + (wrap64 (Int.tmod a4 3)))), .int .i64 0, .int .i64 (wrap64 (a0)), .int .i64 (wrap64 (a2))] 26 (0, 0)) (ub BK239.out) k_ hn_)), Or.elim hk_ (fun hs_ => Or.elim hs_ (fun hs_ => ((Kd.R_types (Kd.R_types (Kd.R_types (HO244.out) BK238.out (by decide)) BK239.out (by decide)) BK248.out (by decide)).1 k_ hs_.symm).2) (fun hs_ => ((Kd.R_types (Kd.R_types (Kd.R_types (HO247.out) BK238.out (by decide)) BK239.out (by decide)) BK248.out (by decide)).1 k_ hs_.symm).2)) (fun hn_ => (Kd.freshB (g := gb248) (o := .cells #[.int .i64 t241, .slice Ao37 t242.length co37, .slice Ao38 t245.length co38] 24 (0, 0)) (ub BK248.out) k_ hn_))⟩ | grind)) (below_size (uB HB.out))); have n4_ := Aside0.mk (blk_below (g := gb238) (o := .cells #[.int .i64 (wrap64 (1 + (wrap64 (Int.tmod a3 3)))), .int .i64 0, .int .i64 (wrap64 (a0)), .int .i64 (wrap64 (a1))] 26 (0, 0)) (ub BK238.out) hb); have n5_ := Aside0.mk (blk_below (g := gb239) (o := .cells #[.int .i64 (wrap64 (1 + (wrap64 (Int.tmod a4 3)))), .int .i64 0, .int .i64 (wrap64 (a0)), .int .i64 (wrap64 (a2))] 26 (0, 0)) (ub BK239.out) hb); have n6_ := Aside0.mk (blk_below (g := gb248) (o := .cells #[.int .i64 t241, .slice Ao37 t242.length co37, .slice Ao38 t245.length co38] 24 (0, 0)) (ub BK248.out) hb); have n7_ := Aside0.mk (below_step (uB HB.out) hb); clear HO244; clear HO247; clear BK238; clear BK239; clear BK248; clear HB; have HO244 := n0_; have HO247 := n1_; have HO252 := n2_; have HO255 := n3_; have BK238 := n4_; have BK239 := n5_; have BK248 := n6_; have HB := n7_; clear n0_ n1_ n2_ n3_ n4_ n5_ n6_ n7_; (try clear hb); (try clear hb2); (try clear hk); (try clear hi); (try clear ho0); (try clear ho1); have hcz46_0 : w45.cell? ⟨gb248, 0, none⟩ = some (.int .i64 t241) := (blk_cell BK248.out 0).trans rfl; have hcz46_1 : w45.cell? ⟨gb248, 1, none⟩ = some (.slice Ao37 t242.length co37) := (blk_cell BK248.out 1).trans rfl; have hcz46_2 : w45.cell? ⟨gb248, 2, none⟩ = some (.slice Ao38 t245.length co38) := (blk_cell BK248.out 2).trans rfl; have hfz46_0 := blk_frozen BK248.out 0; have hfz46_1 := blk_frozen BK248.out 1; have hfz46_2 := blk_frozen BK248.out 2; obtain ⟨Ao47, co47, eo47⟩ := Kd.V_slice HO252.out; subst eo47; obtain ⟨Ao48, co48, eo48⟩ := Kd.V_slice HO255.out; subst eo48) | ((with_reducible refine gate_store (t := 24) (p := 16) rfl ?_); refine store_event (t := 24) (p := 16) (v := ?vo_w49) (w1 := (((w45.setCell ⟨gb248, 0, none⟩ (.int .i64 t249)).setCell ⟨gb248, 1, none⟩ (.slice Ao47 t250.length co47)).setCell ⟨gb248, 2, none⟩ (.slice Ao48 t253.length co48))) ?hg ?ho ?hn ?hr ?_; (case ho => rfl); (case hg => rfl); (case hn => rfl); (case hr => first | (go_simp; done) | (go_simp; rfl)); intro w49 hw; have n0_ : Aside0 (Kd.R (Kd.int .i64) 3 w49 w.heap.size (fun k_ => some k_ ≠ (.slice Ao38 t245.length co38 : Value).ownBlock) (.slice Ao37 t242.length co37) t242) := ⟨(by rw [hw]; exact (by (with_reducible repeat (first | apply Kd.R_alloc | apply Kd.R_drewN | apply Kd.R_drew)); exact Kd.R_mono (Kd.R_far (p := ⟨gb248, 2, none⟩) (Kd.R_far (p := ⟨gb248, 1, none⟩) (Kd.R_far (p := ⟨gb248, 0, none⟩) (Kd.R_types HO244.out BK248.out (by decide)) (fun _ hk => hk.2) (.int .i64 t249)) (fun _ hk => hk.2) (.slice Ao47 t250.length co47)) (fun _ hk => hk.2) (.slice Ao48 t253.length co48)) (fun _ hk => hk.1)))⟩; have n1_ : Aside0 (Kd.R (Kd.int .i64) 3 w49 w.heap.size (fun k_ => some k_ ≠ (.slice Ao37 t242.length co37 : Value).ownBlock) (.slice Ao38 t245.length co38) t245) := ⟨(by rw [hw]; exact (by (with_reducible repeat (first | apply Kd.R_alloc | apply Kd.R_drewN | apply Kd.R_drew)); exact Kd.R_mono (Kd.R_far (p := ⟨gb248, 2, none⟩) (Kd.R_far (p := ⟨gb248, 1, none⟩) (Kd.R_far (p := ⟨gb248, 0, none⟩) (Kd.R_types HO247.out BK248.out (by decide)) (fun _ hk => hk.2) (.int .i64 t249)) (fun _ hk => hk.2) (.slice Ao47 t250.length co47)) (fun _ hk => hk.2) (.slice Ao48 t253.length co48)) (fun _ hk => hk.1)))⟩; have n2_ : Aside0 (Kd.V (Kd.int .i64) 3 w49 w.heap.size (fun k_ => k_ ≠ gb238 ∧ k_ ≠ gb239 ∧ k_ ≠ gb248) (.slice Ao47 t250.length co47) t250) := ⟨(by rw [hw]; exact (by (with_reducible repeat (first | apply Kd.V_alloc | apply Kd.V_drewN | apply Kd.V_drew)); exact Kd.V_mono (Kd.V_far (p := ⟨gb248, 2, none⟩) (Kd.V_far (p := ⟨gb248, 1, none⟩) (Kd.V_far (p := ⟨gb248, 0, none⟩) (Kd.V_mono HO252.out (fun k_ hk => (⟨hk, hk.2.2⟩ : _ ∧ k_ ≠ gb248))) (fun _ hk => hk.2) (.int .i64 t249)) (fun _ hk => hk.2) (.slice Ao47 t250.length co47)) (fun _ hk => hk.2) (.slice Ao48 t253.length co48)) (fun _ hk => ⟨hk.1.1, ⟨hk.1.2.1, hk.1.2.2⟩⟩)))⟩; have n3_ : Aside0 (Kd.V (Kd.int .i64) 3 w49 w.heap.size (fun k_ => k_ ≠ gb238 ∧ k_ ≠ gb239 ∧ k_ ≠ gb248) (.slice Ao48 t253.length co48) t253) := ⟨(by rw [hw]; exact (by (with_reducible repeat (first | apply Kd.V_alloc | apply Kd.V_drewN | apply Kd.V_drew)); exact Kd.V_mono (Kd.V_far (p := ⟨gb248, 2, none⟩) (Kd.V_far (p := ⟨gb248, 1, none⟩) (Kd.V_far (p := ⟨gb248, 0, none⟩) (Kd.V_mono HO255.out (fun k_ hk => (⟨hk, hk.2.2⟩ : _ ∧ k_ ≠ gb248))) (fun _ hk => hk.2) (.int .i64 t249)) (fun _ hk => hk.2) (.slice Ao47 t250.length co47)) (fun _ hk => hk.2) (.slice Ao48 t253.length co48)) (fun _ hk => ⟨hk.1.1, ⟨hk.1.2.1, hk.1.2.2⟩⟩)))⟩; have n4_ : Aside0 (w49.heap[gb238]? = some (.cells #[.int .i64 (wrap64 (1 + (wrap64 (Int.tmod a3 3)))), .int .i64 0, .int .i64 (wrap64 (a0)), .int .i64 (wrap64 (a1))] 26 (0, 0))) := ⟨(by rw [hw]; exact (by (with_reducible repeat (first | refine blk_drewN ?_ _ | refine blk_drew ?_ | refine blk_alloc ?_ _)); refine blk_far ?_ NB238_248.out _; (with_reducible repeat (first | refine blk_drewN ?_ _ | refine blk_drew ?_ | refine blk_alloc ?_ _)); refine blk_far ?_ NB238_248.out _; (with_reducible repeat (first | refine blk_drewN ?_ _ | refine blk_drew ?_ | refine blk_alloc ?_ _)); refine blk_far ?_ NB238_248.out _; (with_reducible repeat (first | refine blk_drewN ?_ _ | refine blk_drew ?_ | refine blk_alloc ?_ _)); exact BK238.out))⟩; have n5_ : Aside0 (w49.heap[gb239]? = some (.cells #[.int .i64 (wrap64 (1 + (wrap64 (Int.tmod a4 3)))), .int .i64 0, .int .i64 (wrap64 (a0)), .int .i64 (wrap64 (a2))] 26 (0, 0))) := ⟨(by rw [hw]; exact (by (with_reducible repeat (first | refine blk_drewN ?_ _ | refine blk_drew ?_ | refine blk_alloc ?_ _)); refine blk_far ?_ NB239_248.out _; (with_reducible repeat (first | refine blk_drewN ?_ _ | refine blk_drew ?_ | refine blk_alloc ?_ _)); refine blk_far ?_ NB239_248.out _; (with_reducible repeat (first | refine blk_drewN ?_ _ | refine blk_drew ?_ | refine blk_alloc ?_ _)); refine blk_far ?_ NB239_248.out _; (with_reducible repeat (first | refine blk_drewN ?_ _ | refine blk_drew ?_ | refine blk_alloc ?_ _)); exact BK239.out))⟩; have n6_ : Aside0 (w49.heap[gb248]? = some (.cells #[.int .i64 t249, .slice Ao47 t250.length co47, .slice Ao48 t253.length co48] 24 (0, 0))) := ⟨(by rw [hw]; exact (by (with_reducible repeat (first | refine blk_drewN ?_ _ | refine blk_drew ?_ | refine blk_alloc ?_ _)); refine blk_put (cs := #[.int .i64 t249, .slice Ao47 t250.length co47, .slice Ao38 t245.length co38]) ?_ 2 _ rfl; (with_reducible repeat (first | refine blk_drewN ?_ _ | refine blk_drew ?_ | refine blk_alloc ?_ _)); refine blk_put (cs := #[.int .i64 t249, .slice Ao37 t242.length co37, .slice Ao38 t245.length co38]) ?_ 1 _ rfl; (with_reducible repeat (first | refine blk_drewN ?_ _ | refine blk_drew ?_ | refine blk_alloc ?_ _)); refine blk_put (cs := #[.int .i64 t241, .slice Ao37 t242.length co37, .slice Ao38 t245.length co38]) ?_ 0 _ rfl; (with_reducible repeat (first | refine blk_drewN ?_ _ | refine blk_drew ?_ | refine blk_alloc ?_ _)); exact BK248.out))⟩; have n7_ : Aside0 (Below w.heap.size w w49) := ⟨(by rw [hw]; exact (uB HB.out))⟩; clear hw; clear HO244; clear HO247; clear HO252; clear HO255; clear BK238; clear BK239; clear BK248; clear HB; have HO244 := n0_; have HO247 := n1_; have HO252 := n2_; have HO255 := n3_; have BK238 := n4_; have BK239 := n5_; have BK248 := n6_; have HB := n7_; clear n0_ n1_ n2_ n3_ n4_ n5_ n6_ n7_))
    go_meet
    case rel => exact ⟨_, (t249), (t250), (t253), (.slice Ao47 t250.length co47), (.slice Ao48 t253.length co48), H', ⟨by have := HK1.out; first | omega | exact Nat.le_refl _⟩, ⟨by (with_reducible repeat (first | apply Kd.V_alloc | apply Kd.V_drewN | apply Kd.V_drew)); exact HO252.out⟩, ⟨by (with_reducible repeat (first | apply Kd.V_alloc | apply Kd.V_drewN | apply Kd.V_drew)); exact HO255.out⟩, ⟨by (with_reducible repeat (first | refine blk_drewN ?_ _ | refine blk_drew ?_ | refine blk_alloc ?_ _)); exact BK238.out⟩, ⟨by (with_reducible repeat (first | refine blk_drewN ?_ _ | refine blk_drew ?_ | refine blk_alloc ?_ _)); exact BK239.out⟩, ⟨by (with_reducible repeat (first | refine blk_drewN ?_ _ | refine blk_drew ?_ | refine blk_alloc ?_ _)); exact BK248.out⟩, ⟨uB HB.out⟩⟩
   case rest =>
    clear HC31
    try clear c1
    try clear c2
    try clear p2
    try clear c3
    try clear c4
    try clear p6
    try clear c7
    try clear c8
    try clear c9
    try clear c10
    try clear c10b0
    try clear c10b1
    try clear c11
    try clear c15
    try clear c16
    try clear c17
    try clear c25
    try clear c29
    try clear c29b0
    try clear c34
    try clear c35
    try clear c40
    try clear c40b0
    try clear c40b1
    try clear c42
    try clear c43
    try clear hcz13_0
    try clear hcz13_1
    try clear hcz13_2
    try clear hcz13_3
    try clear hcz16_0
    try clear hcz16_1
    try clear hcz16_2
    try clear hcz16_3
    try clear hcz17_0
    try clear hcz17_1
    try clear hcz17_2
    try clear hcz17_3
    try clear hcz19_0
    try clear hcz19_1
    try clear hcz19_2
    try clear hcz19_3
    try clear hcz20_0
    try clear hcz20_1
    try clear hcz20_2
    try clear hcz20_3
    try clear hcz23_0
    try clear hcz23_1
    try clear hcz23_2
    try clear hcz23_3
    try clear hcz26_0
    try clear hcz26_1
    try clear hcz26_2
    try clear hcz26_3
    try clear hcz27_0
    try clear hcz27_1
    try clear hcz27_2
    try clear hcz27_3
    try clear hcz36_0
    try clear hcz36_1
    try clear hcz36_2
    try clear hcz44_0
    try clear hcz44_1
    try clear hcz44_2
    try clear hcz46_0
    try clear hcz46_1
    try clear hcz46_2
    try clear hfz13_0
    try clear hfz13_1
    try clear hfz13_2
    try clear hfz13_3
    try clear hfz16_0
    try clear hfz16_1
    try clear hfz16_2
    try clear hfz16_3
    try clear hfz17_0
    try clear hfz17_1
    try clear hfz17_2
    try clear hfz17_3
    try clear hfz19_0
    try clear hfz19_1
    try clear hfz19_2
    try clear hfz19_3
    try clear hfz20_0
    try clear hfz20_1
    try clear hfz20_2
    try clear hfz20_3
    try clear hfz23_0
    try clear hfz23_1
    try clear hfz23_2
    try clear hfz23_3
    try clear hfz26_0
    try clear hfz26_1
    try clear hfz26_2
    try clear hfz26_3
    try clear hfz27_0
    try clear hfz27_1
    try clear hfz27_2
    try clear hfz27_3
    try clear hfz36_0
    try clear hfz36_1
    try clear hfz36_2
    try clear hfz44_0
    try clear hfz44_1
    try clear hfz44_2
    try clear hfz46_0
    try clear hfz46_1
    try clear hfz46_2
    try clear p2
    try clear p6
    obtain ⟨kq, x249000_30, x249001_30, x249002_30, u249001, u249002, HA, HJ30, HO_249001, HO_249002, BK238, BK239, BK248, HB⟩ := hcut
    cases kq with
    | zero => exact absurd HA.out (by simp [underwoodlaw09_SpecSeen.j1])
    | succ kj30 =>
     have H := HA.out
     clear HA
     simp only [underwoodlaw09_SpecSeen.j1] at H
     obtain ⟨y258, hy258⟩ : ∃ y_ : List (S26), y_ = (([(⟨(wrap64 (1 + (wrap64 (Int.tmod a3 3)))), 0, (wrap64 (a0)), (wrap64 (a1))⟩ : S26), (⟨(wrap64 (1 + (wrap64 (Int.tmod a4 3)))), 0, (wrap64 (a0)), (wrap64 (a2))⟩ : S26)] : List (S26))) := ⟨_, rfl⟩
     replace H : ((spec_All.f kj30 x249000_30 x249001_30 x249002_30 y258).bind fun bt261 => ((spec_All.f kj30 x249000_30 x249001_30 x249002_30 (([(⟨(wrap64 (1 + (wrap64 (Int.tmod a4 3)))), 0, (wrap64 (a0)), (wrap64 (a2))⟩ : S26), (⟨(wrap64 (1 + (wrap64 (Int.tmod a3 3)))), 0, (wrap64 (a0)), (wrap64 (a1))⟩ : S26)] : List (S26)))).bind fun bt278 => (if (bt261.2.2.2.1.length : Int) = 2 then (if (bt278.2.2.2.1.length : Int) = 2 then (if (bt261.2.2.2.2.length : Int) = 2 then (underwoodlaw09_SpecSeen.j2 kj30 a0 a1 t237 x14_1 x15_1 bt261.2.2.2.1 bt261.2.2.2.2 bt278.2.2.2.1 bt278.2.2.2.2 ((bt278.2.2.2.2.length : Int) != 2) (wrap64 (1 + (wrap64 (Int.tmod a3 3)))) 0 (wrap64 (a0)) (wrap64 (a1)) (wrap64 (1 + (wrap64 (Int.tmod a4 3)))) 0 (wrap64 (a0)) (wrap64 (a2)) bt261.1 bt261.2.1 bt261.2.2.1 bt278.1 bt278.2.1 bt278.2.2.1) else (underwoodlaw09_SpecSeen.j2 kj30 a0 a1 t237 x14_1 x15_1 bt261.2.2.2.1 bt261.2.2.2.2 bt278.2.2.2.1 bt278.2.2.2.2 true (wrap64 (1 + (wrap64 (Int.tmod a3 3)))) 0 (wrap64 (a0)) (wrap64 (a1)) (wrap64 (1 + (wrap64 (Int.tmod a4 3)))) 0 (wrap64 (a0)) (wrap64 (a2)) bt261.1 bt261.2.1 bt261.2.2.1 bt278.1 bt278.2.1 bt278.2.2.1)) else (underwoodlaw09_SpecSeen.j2 kj30 a0 a1 t237 x14_1 x15_1 bt261.2.2.2.1 bt261.2.2.2.2 bt278.2.2.2.1 bt278.2.2.2.2 true (wrap64 (1 + (wrap64 (Int.tmod a3 3)))) 0 (wrap64 (a0)) (wrap64 (a1)) (wrap64 (1 + (wrap64 (Int.tmod a4 3)))) 0 (wrap64 (a0)) (wrap64 (a2)) bt261.1 bt261.2.1 bt261.2.2.1 bt278.1 bt278.2.1 bt278.2.2.1)) else (underwoodlaw09_SpecSeen.j2 kj30 a0 a1 t237 x14_1 x15_1 bt261.2.2.2.1 bt261.2.2.2.2 bt278.2.2.2.1 bt278.2.2.2.2 true (wrap64 (1 + (wrap64 (Int.tmod a3 3)))) 0 (wrap64 (a0)) (wrap64 (a1)) (wrap64 (1 + (wrap64 (Int.tmod a4 3)))) 0 (wrap64 (a0)) (wrap64 (a2)) bt261.1 bt261.2.1 bt261.2.2.1 bt278.1 bt278.2.1 bt278.2.2.1)))) = some r := by first | (rw [hy258]; with_reducible exact H) | (have H2_ := (Option.bind_some _ _).symm.trans H; rw [hy258]; with_reducible exact H2_) | (have H2_ := (Option.bind_some _ _).symm.trans H; with_reducible exact H2_) | with_reducible exact H | (rw [hy258]; exact H) | exact H
     have Ny258 := Aside0.mk hy258
     clear hy258
     replace H := Option.bind_eq_some_iff.mp H
     obtain ⟨⟨t261, t262, t265, t268, t271⟩, A500, H⟩ := H
     replace H : ((spec_All.f kj30 x249000_30 x249001_30 x249002_30 (([(⟨(wrap64 (1 + (wrap64 (Int.tmod a4 3)))), 0, (wrap64 (a0)), (wrap64 (a2))⟩ : S26), (⟨(wrap64 (1 + (wrap64 (Int.tmod a3 3)))), 0, (wrap64 (a0)), (wrap64 (a1))⟩ : S26)] : List (S26)))).bind fun bt278 => (if (t268.length : Int) = 2 then (if (bt278.2.2.2.1.length : Int) = 2 then (if (t271.length : Int) = 2 then (underwoodlaw09_SpecSeen.j2 kj30 a0 a1 t237 x14_1 x15_1 t268 t271 bt278.2.2.2.1 bt278.2.2.2.2 ((bt278.2.2.2.2.length : Int) != 2) (wrap64 (1 + (wrap64 (Int.tmod a3 3)))) 0 (wrap64 (a0)) (wrap64 (a1)) (wrap64 (1 + (wrap64 (Int.tmod a4 3)))) 0 (wrap64 (a0)) (wrap64 (a2)) t261 t262 t265 bt278.1 bt278.2.1 bt278.2.2.1) else (underwoodlaw09_SpecSeen.j2 kj30 a0 a1 t237 x14_1 x15_1 t268 t271 bt278.2.2.2.1 bt278.2.2.2.2 true (wrap64 (1 + (wrap64 (Int.tmod a3 3)))) 0 (wrap64 (a0)) (wrap64 (a1)) (wrap64 (1 + (wrap64 (Int.tmod a4 3)))) 0 (wrap64 (a0)) (wrap64 (a2)) t261 t262 t265 bt278.1 bt278.2.1 bt278.2.2.1)) else (underwoodlaw09_SpecSeen.j2 kj30 a0 a1 t237 x14_1 x15_1 t268 t271 bt278.2.2.2.1 bt278.2.2.2.2 true (wrap64 (1 + (wrap64 (Int.tmod a3 3)))) 0 (wrap64 (a0)) (wrap64 (a1)) (wrap64 (1 + (wrap64 (Int.tmod a4 3)))) 0 (wrap64 (a0)) (wrap64 (a2)) t261 t262 t265 bt278.1 bt278.2.1 bt278.2.2.1)) else (underwoodlaw09_SpecSeen.j2 kj30 a0 a1 t237 x14_1 x15_1 t268 t271 bt278.2.2.2.1 bt278.2.2.2.2 true (wrap64 (1 + (wrap64 (Int.tmod a3 3)))) 0 (wrap64 (a0)) (wrap64 (a1)) (wrap64 (1 + (wrap64 (Int.tmod a4 3)))) 0 (wrap64 (a0)) (wrap64 (a2)) t261 t262 t265 bt278.1 bt278.2.1 bt278.2.2.1))) = some r := H
     have A50 := Aside0.mk A500
     clear A500
     obtain ⟨y275, hy275⟩ : ∃ y_ : List (S26), y_ = (([(⟨(wrap64 (1 + (wrap64 (Int.tmod a4 3)))), 0, (wrap64 (a0)), (wrap64 (a2))⟩ : S26), (⟨(wrap64 (1 + (wrap64 (Int.tmod a3 3)))), 0, (wrap64 (a0)), (wrap64 (a1))⟩ : S26)] : List (S26))) := ⟨_, rfl⟩
     replace H : ((spec_All.f kj30 x249000_30 x249001_30 x249002_30 y275).bind fun bt278 => (if (t268.length : Int) = 2 then (if (bt278.2.2.2.1.length : Int) = 2 then (if (t271.length : Int) = 2 then (underwoodlaw09_SpecSeen.j2 kj30 a0 a1 t237 x14_1 x15_1 t268 t271 bt278.2.2.2.1 bt278.2.2.2.2 ((bt278.2.2.2.2.length : Int) != 2) (wrap64 (1 + (wrap64 (Int.tmod a3 3)))) 0 (wrap64 (a0)) (wrap64 (a1)) (wrap64 (1 + (wrap64 (Int.tmod a4 3)))) 0 (wrap64 (a0)) (wrap64 (a2)) t261 t262 t265 bt278.1 bt278.2.1 bt278.2.2.1) else (underwoodlaw09_SpecSeen.j2 kj30 a0 a1 t237 x14_1 x15_1 t268 t271 bt278.2.2.2.1 bt278.2.2.2.2 true (wrap64 (1 + (wrap64 (Int.tmod a3 3)))) 0 (wrap64 (a0)) (wrap64 (a1)) (wrap64 (1 + (wrap64 (Int.tmod a4 3)))) 0 (wrap64 (a0)) (wrap64 (a2)) t261 t262 t265 bt278.1 bt278.2.1 bt278.2.2.1)) else (underwoodlaw09_SpecSeen.j2 kj30 a0 a1 t237 x14_1 x15_1 t268 t271 bt278.2.2.2.1 bt278.2.2.2.2 true (wrap64 (1 + (wrap64 (Int.tmod a3 3)))) 0 (wrap64 (a0)) (wrap64 (a1)) (wrap64 (1 + (wrap64 (Int.tmod a4 3)))) 0 (wrap64 (a0)) (wrap64 (a2)) t261 t262 t265 bt278.1 bt278.2.1 bt278.2.2.1)) else (underwoodlaw09_SpecSeen.j2 kj30 a0 a1 t237 x14_1 x15_1 t268 t271 bt278.2.2.2.1 bt278.2.2.2.2 true (wrap64 (1 + (wrap64 (Int.tmod a3 3)))) 0 (wrap64 (a0)) (wrap64 (a1)) (wrap64 (1 + (wrap64 (Int.tmod a4 3)))) 0 (wrap64 (a0)) (wrap64 (a2)) t261 t262 t265 bt278.1 bt278.2.1 bt278.2.2.1))) = some r := by first | (rw [hy275]; with_reducible exact H) | (have H2_ := (Option.bind_some _ _).symm.trans H; rw [hy275]; with_reducible exact H2_) | (have H2_ := (Option.bind_some _ _).symm.trans H; with_reducible exact H2_) | with_reducible exact H | (rw [hy275]; exact H) | exact H
     have Ny275 := Aside0.mk hy275
     clear hy275
     replace H := Option.bind_eq_some_iff.mp H
     obtain ⟨⟨t278, t279, t282, t285, t288⟩, A510, H⟩ := H
     replace H : (if (t268.length : Int) = 2 then (if (t285.length : Int) = 2 then (if (t271.length : Int) = 2 then (underwoodlaw09_SpecSeen.j2 kj30 a0 a1 t237 x14_1 x15_1 t268 t271 t285 t288 ((t288.length : Int) != 2) (wrap64 (1 + (wrap64 (Int.tmod a3 3)))) 0 (wrap64 (a0)) (wrap64 (a1)) (wrap64 (1 + (wrap64 (Int.tmod a4 3)))) 0 (wrap64 (a0)) (wrap64 (a2)) t261 t262 t265 t278 t279 t282) else (underwoodlaw09_SpecSeen.j2 kj30 a0 a1 t237 x14_1 x15_1 t268 t271 t285 t288 true (wrap64 (1 + (wrap64 (Int.tmod a3 3)))) 0 (wrap64 (a0)) (wrap64 (a1)) (wrap64 (1 + (wrap64 (Int.tmod a4 3)))) 0 (wrap64 (a0)) (wrap64 (a2)) t261 t262 t265 t278 t279 t282)) else (underwoodlaw09_SpecSeen.j2 kj30 a0 a1 t237 x14_1 x15_1 t268 t271 t285 t288 true (wrap64 (1 + (wrap64 (Int.tmod a3 3)))) 0 (wrap64 (a0)) (wrap64 (a1)) (wrap64 (1 + (wrap64 (Int.tmod a4 3)))) 0 (wrap64 (a0)) (wrap64 (a2)) t261 t262 t265 t278 t279 t282)) else (underwoodlaw09_SpecSeen.j2 kj30 a0 a1 t237 x14_1 x15_1 t268 t271 t285 t288 true (wrap64 (1 + (wrap64 (Int.tmod a3 3)))) 0 (wrap64 (a0)) (wrap64 (a1)) (wrap64 (1 + (wrap64 (Int.tmod a4 3)))) 0 (wrap64 (a0)) (wrap64 (a2)) t261 t262 t265 t278 t279 t282)) = some r := H
     have A51 := Aside0.mk A510
     clear A510
     have HC52 := Aside0.mk H
     clear H
     have hnb53 := NB248_238.out
     have hnc53 := NB238_248.out
     have hnb54 := NB248_239.out
     have hnc54 := NB239_248.out
     have hcz55_0 : wc.cell? ⟨gb248, 0, none⟩ = some (.int .i64 x249000_30) := (blk_cell BK248.out 0).trans rfl
     have hcz55_1 : wc.cell? ⟨gb248, 1, none⟩ = some (u249001) := (blk_cell BK248.out 1).trans rfl
     have hcz55_2 : wc.cell? ⟨gb248, 2, none⟩ = some (u249002) := (blk_cell BK248.out 2).trans rfl
     have hfz55_0 := blk_frozen BK248.out 0
     have hfz55_1 := blk_frozen BK248.out 1
     have hfz55_2 := blk_frozen BK248.out 2
     have hnb56 := NB238_239.out
     have hnc56 := NB239_238.out
     have hcz57_0 : wc.cell? ⟨gb238, 0, none⟩ = some (.int .i64 (wrap64 (1 + (wrap64 (Int.tmod a3 3))))) := (blk_cell BK238.out 0).trans rfl
     have hcz57_1 : wc.cell? ⟨gb238, 1, none⟩ = some (.int .i64 0) := (blk_cell BK238.out 1).trans rfl
     have hcz57_2 : wc.cell? ⟨gb238, 2, none⟩ = some (.int .i64 (wrap64 (a0))) := (blk_cell BK238.out 2).trans rfl
     have hcz57_3 : wc.cell? ⟨gb238, 3, none⟩ = some (.int .i64 (wrap64 (a1))) := (blk_cell BK238.out 3).trans rfl
     have hfz57_0 := blk_frozen BK238.out 0
     have hfz57_1 := blk_frozen BK238.out 1
     have hfz57_2 := blk_frozen BK238.out 2
     have hfz57_3 := blk_frozen BK238.out 3
     have hcz58_0 : wc.cell? ⟨gb239, 0, none⟩ = some (.int .i64 (wrap64 (1 + (wrap64 (Int.tmod a4 3))))) := (blk_cell BK239.out 0).trans rfl
     have hcz58_1 : wc.cell? ⟨gb239, 1, none⟩ = some (.int .i64 0) := (blk_cell BK239.out 1).trans rfl
     have hcz58_2 : wc.cell? ⟨gb239, 2, none⟩ = some (.int .i64 (wrap64 (a0))) := (blk_cell BK239.out 2).trans rfl
     have hcz58_3 : wc.cell? ⟨gb239, 3, none⟩ = some (.int .i64 (wrap64 (a2))) := (blk_cell BK239.out 3).trans rfl
     have hfz58_0 := blk_frozen BK239.out 0
     have hfz58_1 := blk_frozen BK239.out 1
     have hfz58_2 := blk_frozen BK239.out 2
     have hfz58_3 := blk_frozen BK239.out 3
     go_upto_region 15 with (first | ((with_reducible refine gate_dst (N := 79) rfl ?_); (try (refine gate_guard (by rfl) ?_; dsimp only)); refine Kd.R_lit k26 _ 26 ?hg (N := 79) ?hd (xs := ([(⟨(wrap64 (1 + (wrap64 (Int.tmod a3 3)))), 0, (wrap64 (a0)), (wrap64 (a1))⟩ : S26), (⟨(wrap64 (1 + (wrap64 (Int.tmod a4 3)))), 0, (wrap64 (a0)), (wrap64 (a2))⟩ : S26)] : List (S26))) (inner := [.int .i64 (wrap64 (1 + (wrap64 (Int.tmod a3 3)))), .int .i64 0, .int .i64 (wrap64 (a0)), .int .i64 (wrap64 (a1)), .int .i64 (wrap64 (1 + (wrap64 (Int.tmod a4 3)))), .int .i64 0, .int .i64 (wrap64 (a0)), .int .i64 (wrap64 (a2))]) (ok := fun _ => True) (okp := fun _ => True) ?hr ?hp (fun _ hk => hk) trivial (Below.refl _ _) (Nat.le_refl _) (by simp) ?_; (case hd => rfl); (case hg => rfl); (case hr => first | (go_simp; done) | (go_simp; rfl)); (case hp => exact (Reps.c4 (show Kd.M k26 _ _ _ (⟨(wrap64 (1 + (wrap64 (Int.tmod a3 3)))), 0, (wrap64 (a0)), (wrap64 (a1))⟩ : S26) [.int .i64 (wrap64 (1 + (wrap64 (Int.tmod a3 3)))), .int .i64 0, .int .i64 (wrap64 (a0)), .int .i64 (wrap64 (a1))] from (k26_mkM _ _ _ (⟨(wrap64 (1 + (wrap64 (Int.tmod a3 3)))), 0, (wrap64 (a0)), (wrap64 (a1))⟩ : S26) )) (Reps.c4 (show Kd.M k26 _ _ _ (⟨(wrap64 (1 + (wrap64 (Int.tmod a4 3)))), 0, (wrap64 (a0)), (wrap64 (a2))⟩ : S26) [.int .i64 (wrap64 (1 + (wrap64 (Int.tmod a4 3)))), .int .i64 0, .int .i64 (wrap64 (a0)), .int .i64 (wrap64 (a2))] from (k26_mkM _ _ _ (⟨(wrap64 (1 + (wrap64 (Int.tmod a4 3)))), 0, (wrap64 (a0)), (wrap64 (a2))⟩ : S26) )) (Reps.none _ _)))); intro v259 w59 ho60 hb hg_ hnew_; clear hg_ hnew_; (first | rw [← Ny258.out] at ho60 | (simp only [Int.reduceToNat] at ho60; rw [← Ny258.out] at ho60)); have n0_ := Aside0.mk (Kd.V_elder' (uV HO_249001.out) (Kd.R_base ho60) hb); have n1_ := Aside0.mk (Kd.V_elder' (uV HO_249002.out) (Kd.R_base ho60) hb); have n2_ := Aside0.mk (Kd.R_lower (Kd.R_newB (Kd.R_newB ho60 (g := gb238) (o := .cells #[.int .i64 (wrap64 (1 + (wrap64 (Int.tmod a3 3)))), .int .i64 0, .int .i64 (wrap64 (a0)), .int .i64 (wrap64 (a1))] 26 (0, 0)) (ub BK238.out)) (g := gb239) (o := .cells #[.int .i64 (wrap64 (1 + (wrap64 (Int.tmod a4 3)))), .int .i64 0, .int .i64 (wrap64 (a0)), .int .i64 (wrap64 (a2))] 26 (0, 0)) (ub BK239.out)) (below_size (uB HB.out))); have n3_ := Aside0.mk (blk_below (g := gb238) (o := .cells #[.int .i64 (wrap64 (1 + (wrap64 (Int.tmod a3 3)))), .int .i64 0, .int .i64 (wrap64 (a0)), .int .i64 (wrap64 (a1))] 26 (0, 0)) (ub BK238.out) hb); have n4_ := Aside0.mk (blk_below (g := gb239) (o := .cells #[.int .i64 (wrap64 (1 + (wrap64 (Int.tmod a4 3)))), .int .i64 0, .int .i64 (wrap64 (a0)), .int .i64 (wrap64 (a2))] 26 (0, 0)) (ub BK239.out) hb); have n5_ := Aside0.mk (blk_below (g := gb248) (o := .cells #[.int .i64 x249000_30, u249001, u249002] 24 (0, 0)) (ub BK248.out) hb); have n6_ := Aside0.mk (below_step (uB HB.out) hb); clear HO_249001; clear HO_249002; clear BK238; clear BK239; clear BK248; clear HB; have HO_249001 := n0_; have HO_249002 := n1_; have HO260 := n2_; have BK238 := n3_; have BK239 := n4_; have BK248 := n5_; have HB := n6_; clear n0_ n1_ n2_ n3_ n4_ n5_ n6_; clear hb ho60; obtain ⟨Ao61, co61, eo61⟩ := Kd.V_slice HO_249001.out; subst eo61; obtain ⟨Ao62, co62, eo62⟩ := Kd.V_slice HO_249002.out; subst eo62; obtain ⟨Ao63, co63, eo63⟩ := Kd.R_slice HO260.out; subst eo63) | ((with_reducible refine gate_callee (f := 13) rfl ?_); refine goesL_ (some 80) rfl rfl Try.func13 (by kernel_rfl) rfl #[.agg #[.int .i64 x249000_30, .slice Ao61 x249001_30.length co61, .slice Ao62 x249002_30.length co62], .slice Ao63 y258.length co63] rfl ls ?_; (with_reducible refine (spec_All.calls kj30 x249000_30 (fun k_ => ((k_ ≠ gb238 ∧ (k_ ≠ gb239 ∧ k_ ≠ gb248)) ∧ some k_ ≠ (.slice Ao63 y258.length co63 : Value).ownBlock)) _ _ x249001_30 (fun k_ => ((k_ ≠ gb238 ∧ (k_ ≠ gb239 ∧ k_ ≠ gb248)) ∧ some k_ ≠ (.slice Ao63 y258.length co63 : Value).ownBlock)) _ _ x249002_30 _ _ y258 t261 t262 t265 t268 t271 _ ?side1 ?side2 ?side3 ?side4 A50.out).mono ?_); (case side1 => exact HO_249001.out); (case side2 => exact HO_249002.out); (case side3 => repeat (first | exact (Kd.R_reads' HO260.out).2.2 | (with_reducible refine Kd.C_alloc ?_ _) | (with_reducible refine Kd.C_drewN ?_ _) | (with_reducible refine Kd.C_drew ?_))); (case side4 => exact (Kd.R_reads' HO260.out).2.1); rintro e w64 ⟨v263, v266, v269, v272, rfl, ho0, ho1, ho2, ho3, hb⟩; refine ⟨_, rfl, ?_⟩; have n0_ := Aside0.mk (Kd.V_mono (Kd.V_told (Kd.V_told (Kd.V_old (uV HO_249001.out) hb) (Kd.R_base ho2)) (Kd.R_base ho3)) (fun _ h_ => h_.1)); have n1_ := Aside0.mk (Kd.V_mono (Kd.V_told (Kd.V_told (Kd.V_old (uV HO_249002.out) hb) (Kd.R_base ho2)) (Kd.R_base ho3)) (fun _ h_ => h_.1)); have n2_ := Aside0.mk (Kd.R_below (uR HO260.out) hb); have n3_ := Aside0.mk (Kd.V_lower (Kd.V_mono (ok' := fun k_ => some k_ ≠ (v269 : Value).ownBlock ∧ some k_ ≠ (v272 : Value).ownBlock ∧ some k_ ≠ (.slice Ao63 y258.length co63 : Value).ownBlock ∧ k_ ≠ gb238 ∧ k_ ≠ gb239 ∧ k_ ≠ gb248) ho0 (fun k_ hk_ => by first | exact ⟨hk_.2.1, hk_.2.2, Or.elim hk_.1 (fun hs_ => Or.elim hs_ (fun hs_ => hs_.2) (fun hs_ => hs_.2)) (fun hn_ => (Kd.fresh' (Kd.R_lt (uR HO260.out)) k_ hn_)), Or.elim hk_.1 (fun hs_ => Or.elim hs_ (fun hs_ => hs_.1.1) (fun hs_ => hs_.1.1)) (fun hn_ => (Kd.freshB (g := gb238) (o := .cells #[.int .i64 (wrap64 (1 + (wrap64 (Int.tmod a3 3)))), .int .i64 0, .int .i64 (wrap64 (a0)), .int .i64 (wrap64 (a1))] 26 (0, 0)) (ub BK238.out) k_ hn_)), Or.elim hk_.1 (fun hs_ => Or.elim hs_ (fun hs_ => hs_.1.2.1) (fun hs_ => hs_.1.2.1)) (fun hn_ => (Kd.freshB (g := gb239) (o := .cells #[.int .i64 (wrap64 (1 + (wrap64 (Int.tmod a4 3)))), .int .i64 0, .int .i64 (wrap64 (a0)), .int .i64 (wrap64 (a2))] 26 (0, 0)) (ub BK239.out) k_ hn_)), Or.elim hk_.1 (fun hs_ => Or.elim hs_ (fun hs_ => hs_.1.2.2) (fun hs_ => hs_.1.2.2)) (fun hn_ => (Kd.freshB (g := gb248) (o := .cells #[.int .i64 x249000_30, .slice Ao61 x249001_30.length co61, .slice Ao62 x249002_30.length co62] 24 (0, 0)) (ub BK248.out) k_ hn_))⟩ | grind)) (below_size (uB HB.out))); have n4_ := Aside0.mk (Kd.V_lower (Kd.V_mono (ok' := fun k_ => some k_ ≠ (v269 : Value).ownBlock ∧ some k_ ≠ (v272 : Value).ownBlock ∧ some k_ ≠ (.slice Ao63 y258.length co63 : Value).ownBlock ∧ k_ ≠ gb238 ∧ k_ ≠ gb239 ∧ k_ ≠ gb248) ho1 (fun k_ hk_ => by first | exact ⟨hk_.2.1, hk_.2.2, Or.elim hk_.1 (fun hs_ => Or.elim hs_ (fun hs_ => hs_.2) (fun hs_ => hs_.2)) (fun hn_ => (Kd.fresh' (Kd.R_lt (uR HO260.out)) k_ hn_)), Or.elim hk_.1 (fun hs_ => Or.elim hs_ (fun hs_ => hs_.1.1) (fun hs_ => hs_.1.1)) (fun hn_ => (Kd.freshB (g := gb238) (o := .cells #[.int .i64 (wrap64 (1 + (wrap64 (Int.tmod a3 3)))), .int .i64 0, .int .i64 (wrap64 (a0)), .int .i64 (wrap64 (a1))] 26 (0, 0)) (ub BK238.out) k_ hn_)), Or.elim hk_.1 (fun hs_ => Or.elim hs_ (fun hs_ => hs_.1.2.1) (fun hs_ => hs_.1.2.1)) (fun hn_ => (Kd.freshB (g := gb239) (o := .cells #[.int .i64 (wrap64 (1 + (wrap64 (Int.tmod a4 3)))), .int .i64 0, .int .i64 (wrap64 (a0)), .int .i64 (wrap64 (a2))] 26 (0, 0)) (ub BK239.out) k_ hn_)), Or.elim hk_.1 (fun hs_ => Or.elim hs_ (fun hs_ => hs_.1.2.2) (fun hs_ => hs_.1.2.2)) (fun hn_ => (Kd.freshB (g := gb248) (o := .cells #[.int .i64 x249000_30, .slice Ao61 x249001_30.length co61, .slice Ao62 x249002_30.length co62] 24 (0, 0)) (ub BK248.out) k_ hn_))⟩ | grind)) (below_size (uB HB.out))); have n5_ := Aside0.mk (Kd.R_lower (Kd.R_mono (ok' := fun k_ => True) ho2 (fun _ hk_ => trivial)) (below_size (uB HB.out))); have n6_ := Aside0.mk (Kd.R_lower (Kd.R_mono (ok' := fun k_ => True) ho3 (fun _ hk_ => trivial)) (below_size (uB HB.out))); have n7_ := Aside0.mk (blk_below (g := gb238) (o := .cells #[.int .i64 (wrap64 (1 + (wrap64 (Int.tmod a3 3)))), .int .i64 0, .int .i64 (wrap64 (a0)), .int .i64 (wrap64 (a1))] 26 (0, 0)) (ub BK238.out) hb); have n8_ := Aside0.mk (blk_below (g := gb239) (o := .cells #[.int .i64 (wrap64 (1 + (wrap64 (Int.tmod a4 3)))), .int .i64 0, .int .i64 (wrap64 (a0)), .int .i64 (wrap64 (a2))] 26 (0, 0)) (ub BK239.out) hb); have n9_ := Aside0.mk (blk_below (g := gb248) (o := .cells #[.int .i64 x249000_30, .slice Ao61 x249001_30.length co61, .slice Ao62 x249002_30.length co62] 24 (0, 0)) (ub BK248.out) hb); have n10_ := Aside0.mk (below_step (uB HB.out) hb); clear HO_249001; clear HO_249002; clear HO260; clear BK238; clear BK239; clear BK248; clear HB; have HO_249001 := n0_; have HO_249002 := n1_; have HO260 := n2_; have HO264 := n3_; have HO267 := n4_; have HO270 := n5_; have HO273 := n6_; have BK238 := n7_; have BK239 := n8_; have BK248 := n9_; have HB := n10_; clear n0_ n1_ n2_ n3_ n4_ n5_ n6_ n7_ n8_ n9_ n10_; (try clear hb); (try clear hb2); (try clear hk); (try clear hi); (try clear ho0); (try clear ho1); (try clear ho2); (try clear ho3)) | ((with_reducible refine gate_dst (N := 17) rfl ?_); (try (refine gate_guard (by rfl) ?_; dsimp only)); refine box_event ?hg (N := 17) ?hd (cs := #[.int .i64 0, .slice none 0 0, .slice none 0 0]) (t := 24) ?hr ?_; (case hd => rfl); (case hg => rfl); (case hr => first | (go_simp; done) | (go_simp; rfl)); intro gb274 hg w65 hbox hb; have n0_ := Aside0.mk (Kd.V_below (Kd.V_elderB (uV HO_249001.out) gb274 (Nat.le_of_eq hg.symm)) hb); have n1_ := Aside0.mk (Kd.V_below (Kd.V_elderB (uV HO_249002.out) gb274 (Nat.le_of_eq hg.symm)) hb); have n2_ := Aside0.mk (Kd.R_below (uR HO260.out) hb); have n3_ := Aside0.mk (Kd.V_below (Kd.V_elderB (uV HO264.out) gb274 (Nat.le_of_eq hg.symm)) hb); have n4_ := Aside0.mk (Kd.V_below (Kd.V_elderB (uV HO267.out) gb274 (Nat.le_of_eq hg.symm)) hb); have n5_ := Aside0.mk (Kd.R_below (uR HO270.out) hb); have n6_ := Aside0.mk (Kd.R_below (uR HO273.out) hb); have n7_ := Aside0.mk (blk_below (g := gb238) (o := .cells #[.int .i64 (wrap64 (1 + (wrap64 (Int.tmod a3 3)))), .int .i64 0, .int .i64 (wrap64 (a0)), .int .i64 (wrap64 (a1))] 26 (0, 0)) (ub BK238.out) hb); have n8_ := Aside0.mk (blk_below (g := gb239) (o := .cells #[.int .i64 (wrap64 (1 + (wrap64 (Int.tmod a4 3)))), .int .i64 0, .int .i64 (wrap64 (a0)), .int .i64 (wrap64 (a2))] 26 (0, 0)) (ub BK239.out) hb); have n9_ := Aside0.mk (blk_below (g := gb248) (o := .cells #[.int .i64 x249000_30, .slice Ao61 x249001_30.length co61, .slice Ao62 x249002_30.length co62] 24 (0, 0)) (ub BK248.out) hb); have n10_ := Aside0.mk (below_step (uB HB.out) hb); have n11_ := Aside0.mk (hbox); have n13_ := Aside0.mk ((by rw [hg]; exact (below_size (uB HB.out)) : w.heap.size ≤ gb274)); have n14_ := Aside0.mk ((by rw [hg]; exact Nat.ne_of_lt (blk_lt (g := gb238) (o := .cells #[.int .i64 (wrap64 (1 + (wrap64 (Int.tmod a3 3)))), .int .i64 0, .int .i64 (wrap64 (a0)), .int .i64 (wrap64 (a1))] 26 (0, 0)) (ub BK238.out)) : gb238 ≠ gb274)); have n15_ := Aside0.mk ((by rw [hg]; exact Nat.ne_of_gt (blk_lt (g := gb238) (o := .cells #[.int .i64 (wrap64 (1 + (wrap64 (Int.tmod a3 3)))), .int .i64 0, .int .i64 (wrap64 (a0)), .int .i64 (wrap64 (a1))] 26 (0, 0)) (ub BK238.out)) : gb274 ≠ gb238)); have n16_ := Aside0.mk ((by rw [hg]; exact Nat.ne_of_lt (blk_lt (g := gb239) (o := .cells #[.int .i64 (wrap64 (1 + (wrap64 (Int.tmod a4 3)))), .int .i64 0, .int .i64 (wrap64 (a0)), .int .i64 (wrap64 (a2))] 26 (0, 0)) (ub BK239.out)) : gb239 ≠ gb274)); have n17_ := Aside0.mk ((by rw [hg]; exact Nat.ne_of_gt (blk_lt (g := gb239) (o := .cells #[.int .i64 (wrap64 (1 + (wrap64 (Int.tmod a4 3)))), .int .i64 0, .int .i64 (wrap64 (a0)), .int .i64 (wrap64 (a2))] 26 (0, 0)) (ub BK239.out)) : gb274 ≠ gb239)); have n18_ := Aside0.mk ((by rw [hg]; exact Nat.ne_of_lt (blk_lt (g := gb248) (o := .cells #[.int .i64 x249000_30, .slice Ao61 x249001_30.length co61, .slice Ao62 x249002_30.length co62] 24 (0, 0)) (ub BK248.out)) : gb248 ≠ gb274)); have n19_ := Aside0.mk ((by rw [hg]; exact Nat.ne_of_gt (blk_lt (g := gb248) (o := .cells #[.int .i64 x249000_30, .slice Ao61 x249001_30.length co61, .slice Ao62 x249002_30.length co62] 24 (0, 0)) (ub BK248.out)) : gb274 ≠ gb248)); clear HO_249001; clear HO_249002; clear HO260; clear HO264; clear HO267; clear HO270; clear HO273; clear BK238; clear BK239; clear BK248; clear HB; have HO_249001 := n0_; have HO_249002 := n1_; have HO260 := n2_; have HO264 := n3_; have HO267 := n4_; have HO270 := n5_; have HO273 := n6_; have BK238 := n7_; have BK239 := n8_; have BK248 := n9_; have HB := n10_; have BK274 := n11_; have GE274 := n13_; have NB238_274 := n14_; have NB274_238 := n15_; have NB239_274 := n16_; have NB274_239 := n17_; have NB248_274 := n18_; have NB274_248 := n19_; clear n0_ n1_ n2_ n3_ n4_ n5_ n6_ n7_ n8_ n9_ n10_ n11_ n13_ n14_ n15_ n16_ n17_ n18_ n19_; clear hb hbox hg; have hnb66 := NB274_238.out; have hnc66 := NB238_274.out; have hnb67 := NB274_239.out; have hnc67 := NB239_274.out; have hnb68 := NB274_248.out; have hnc68 := NB248_274.out; have hcz69_0 : w65.cell? ⟨gb274, 0, none⟩ = some (.int .i64 0) := (blk_cell BK274.out 0).trans rfl; have hcz69_1 : w65.cell? ⟨gb274, 1, none⟩ = some (.slice none 0 0) := (blk_cell BK274.out 1).trans rfl; have hcz69_2 : w65.cell? ⟨gb274, 2, none⟩ = some (.slice none 0 0) := (blk_cell BK274.out 2).trans rfl; have hfz69_0 := blk_frozen BK274.out 0; have hfz69_1 := blk_frozen BK274.out 1; have hfz69_2 := blk_frozen BK274.out 2; obtain ⟨Ao70, co70, eo70⟩ := Kd.V_slice HO264.out; subst eo70; obtain ⟨Ao71, co71, eo71⟩ := Kd.V_slice HO267.out; subst eo71; have hcz72_0 : w65.cell? ⟨gb248, 0, none⟩ = some (.int .i64 x249000_30) := (blk_cell BK248.out 0).trans rfl; have hcz72_1 : w65.cell? ⟨gb248, 1, none⟩ = some (.slice Ao61 x249001_30.length co61) := (blk_cell BK248.out 1).trans rfl; have hcz72_2 : w65.cell? ⟨gb248, 2, none⟩ = some (.slice Ao62 x249002_30.length co62) := (blk_cell BK248.out 2).trans rfl; have hfz72_0 := blk_frozen BK248.out 0; have hfz72_1 := blk_frozen BK248.out 1; have hfz72_2 := blk_frozen BK248.out 2; have hcz73_0 : w65.cell? ⟨gb239, 0, none⟩ = some (.int .i64 (wrap64 (1 + (wrap64 (Int.tmod a4 3))))) := (blk_cell BK239.out 0).trans rfl; have hcz73_1 : w65.cell? ⟨gb239, 1, none⟩ = some (.int .i64 0) := (blk_cell BK239.out 1).trans rfl; have hcz73_2 : w65.cell? ⟨gb239, 2, none⟩ = some (.int .i64 (wrap64 (a0))) := (blk_cell BK239.out 2).trans rfl; have hcz73_3 : w65.cell? ⟨gb239, 3, none⟩ = some (.int .i64 (wrap64 (a2))) := (blk_cell BK239.out 3).trans rfl; have hfz73_0 := blk_frozen BK239.out 0; have hfz73_1 := blk_frozen BK239.out 1; have hfz73_2 := blk_frozen BK239.out 2; have hfz73_3 := blk_frozen BK239.out 3; have hcz74_0 : w65.cell? ⟨gb238, 0, none⟩ = some (.int .i64 (wrap64 (1 + (wrap64 (Int.tmod a3 3))))) := (blk_cell BK238.out 0).trans rfl; have hcz74_1 : w65.cell? ⟨gb238, 1, none⟩ = some (.int .i64 0) := (blk_cell BK238.out 1).trans rfl; have hcz74_2 : w65.cell? ⟨gb238, 2, none⟩ = some (.int .i64 (wrap64 (a0))) := (blk_cell BK238.out 2).trans rfl; have hcz74_3 : w65.cell? ⟨gb238, 3, none⟩ = some (.int .i64 (wrap64 (a1))) := (blk_cell BK238.out 3).trans rfl; have hfz74_0 := blk_frozen BK238.out 0; have hfz74_1 := blk_frozen BK238.out 1; have hfz74_2 := blk_frozen BK238.out 2; have hfz74_3 := blk_frozen BK238.out 3) | ((with_reducible refine gate_dst (N := 88) rfl ?_); (try (refine gate_guard (by rfl) ?_; dsimp only)); refine Kd.R_lit k26 _ 26 ?hg (N := 88) ?hd (xs := ([(⟨(wrap64 (1 + (wrap64 (Int.tmod a4 3)))), 0, (wrap64 (a0)), (wrap64 (a2))⟩ : S26), (⟨(wrap64 (1 + (wrap64 (Int.tmod a3 3)))), 0, (wrap64 (a0)), (wrap64 (a1))⟩ : S26)] : List (S26))) (inner := [.int .i64 (wrap64 (1 + (wrap64 (Int.tmod a4 3)))), .int .i64 0, .int .i64 (wrap64 (a0)), .int .i64 (wrap64 (a2)), .int .i64 (wrap64 (1 + (wrap64 (Int.tmod a3 3)))), .int .i64 0, .int .i64 (wrap64 (a0)), .int .i64 (wrap64 (a1))]) (ok := fun _ => True) (okp := fun _ => True) ?hr ?hp (fun _ hk => hk) trivial (Below.refl _ _) (Nat.le_refl _) (by simp) ?_; (case hd => rfl); (case hg => rfl); (case hr => first | (go_simp; done) | (go_simp; rfl)); (case hp => exact (Reps.c4 (show Kd.M k26 _ _ _ (⟨(wrap64 (1 + (wrap64 (Int.tmod a4 3)))), 0, (wrap64 (a0)), (wrap64 (a2))⟩ : S26) [.int .i64 (wrap64 (1 + (wrap64 (Int.tmod a4 3)))), .int .i64 0, .int .i64 (wrap64 (a0)), .int .i64 (wrap64 (a2))] from (k26_mkM _ _ _ (⟨(wrap64 (1 + (wrap64 (Int.tmod a4 3)))), 0, (wrap64 (a0)), (wrap64 (a2))⟩ : S26) )) (Reps.c4 (show Kd.M k26 _ _ _ (⟨(wrap64 (1 + (wrap64 (Int.tmod a3 3)))), 0, (wrap64 (a0)), (wrap64 (a1))⟩ : S26) [.int .i64 (wrap64 (1 + (wrap64 (Int.tmod a3 3)))), .int .i64 0, .int .i64 (wrap64 (a0)), .int .i64 (wrap64 (a1))] from (k26_mkM _ _ _ (⟨(wrap64 (1 + (wrap64 (Int.tmod a3 3)))), 0, (wrap64 (a0)), (wrap64 (a1))⟩ : S26) )) (Reps.none _ _)))); intro v276 w75 ho76 hb hg_ hnew_; clear hg_ hnew_; (first | rw [← Ny275.out] at ho76 | (simp only [Int.reduceToNat] at ho76; rw [← Ny275.out] at ho76)); have n0_ := Aside0.mk (Kd.V_elder' (by (with_reducible repeat (first | apply Kd.V_alloc | apply Kd.V_drewN | apply Kd.V_drew)); exact (Kd.V_mono (Kd.V_far (p := ⟨gb274, 2, none⟩) (Kd.V_far (p := ⟨gb274, 1, none⟩) (Kd.V_far (p := ⟨gb274, 0, none⟩) (Kd.V_mono HO_249001.out (fun k_ hk => (⟨hk, hk.2⟩ : _ ∧ k_ ≠ gb274))) (fun _ hk => hk.2) (.int .i64 t261)) (fun _ hk => hk.2) (.slice Ao70 t262.length co70)) (fun _ hk => hk.2) (.slice Ao71 t265.length co71)) (fun _ h_ => h_.1))) (Kd.R_base ho76) hb); have n1_ := Aside0.mk (Kd.V_elder' (by (with_reducible repeat (first | apply Kd.V_alloc | apply Kd.V_drewN | apply Kd.V_drew)); exact (Kd.V_mono (Kd.V_far (p := ⟨gb274, 2, none⟩) (Kd.V_far (p := ⟨gb274, 1, none⟩) (Kd.V_far (p := ⟨gb274, 0, none⟩) (Kd.V_mono HO_249002.out (fun k_ hk => (⟨hk, hk.2⟩ : _ ∧ k_ ≠ gb274))) (fun _ hk => hk.2) (.int .i64 t261)) (fun _ hk => hk.2) (.slice Ao70 t262.length co70)) (fun _ hk => hk.2) (.slice Ao71 t265.length co71)) (fun _ h_ => h_.1))) (Kd.R_base ho76) hb); have n2_ := Aside0.mk (Kd.R_elder' (by (with_reducible repeat (first | apply Kd.R_alloc | apply Kd.R_drewN | apply Kd.R_drew)); exact (Kd.R_mono (Kd.R_far (p := ⟨gb274, 2, none⟩) (Kd.R_far (p := ⟨gb274, 1, none⟩) (Kd.R_far (p := ⟨gb274, 0, none⟩) (Kd.R_types HO260.out BK274.out (by decide)) (fun _ hk => hk.2) (.int .i64 t261)) (fun _ hk => hk.2) (.slice Ao70 t262.length co70)) (fun _ hk => hk.2) (.slice Ao71 t265.length co71)) (fun _ h_ => h_.1))) (Kd.R_base ho76) hb); have n3_ := Aside0.mk (Kd.V_elder' (by (with_reducible repeat (first | apply Kd.V_alloc | apply Kd.V_drewN | apply Kd.V_drew)); exact (Kd.V_mono (Kd.V_far (p := ⟨gb274, 2, none⟩) (Kd.V_far (p := ⟨gb274, 1, none⟩) (Kd.V_far (p := ⟨gb274, 0, none⟩) (Kd.V_mono HO264.out (fun k_ hk => (⟨hk, hk.2⟩ : _ ∧ k_ ≠ gb274))) (fun _ hk => hk.2) (.int .i64 t261)) (fun _ hk => hk.2) (.slice Ao70 t262.length co70)) (fun _ hk => hk.2) (.slice Ao71 t265.length co71)) (fun _ h_ => h_.1))) (Kd.R_base ho76) hb); have n4_ := Aside0.mk (Kd.V_elder' (by (with_reducible repeat (first | apply Kd.V_alloc | apply Kd.V_drewN | apply Kd.V_drew)); exact (Kd.V_mono (Kd.V_far (p := ⟨gb274, 2, none⟩) (Kd.V_far (p := ⟨gb274, 1, none⟩) (Kd.V_far (p := ⟨gb274, 0, none⟩) (Kd.V_mono HO267.out (fun k_ hk => (⟨hk, hk.2⟩ : _ ∧ k_ ≠ gb274))) (fun _ hk => hk.2) (.int .i64 t261)) (fun _ hk => hk.2) (.slice Ao70 t262.length co70)) (fun _ hk => hk.2) (.slice Ao71 t265.length co71)) (fun _ h_ => h_.1))) (Kd.R_base ho76) hb); have n5_ := Aside0.mk (Kd.R_below (by (with_reducible repeat (first | apply Kd.R_alloc | apply Kd.R_drewN | apply Kd.R_drew)); exact (Kd.R_mono (Kd.R_far (p := ⟨gb274, 2, none⟩) (Kd.R_far (p := ⟨gb274, 1, none⟩) (Kd.R_far (p := ⟨gb274, 0, none⟩) (Kd.R_types HO270.out BK274.out (by decide)) (fun _ hk => hk.2) (.int .i64 t261)) (fun _ hk => hk.2) (.slice Ao70 t262.length co70)) (fun _ hk => hk.2) (.slice Ao71 t265.length co71)) (fun _ h_ => h_.1))) hb); have n6_ := Aside0.mk (Kd.R_below (by (with_reducible repeat (first | apply Kd.R_alloc | apply Kd.R_drewN | apply Kd.R_drew)); exact (Kd.R_mono (Kd.R_far (p := ⟨gb274, 2, none⟩) (Kd.R_far (p := ⟨gb274, 1, none⟩) (Kd.R_far (p := ⟨gb274, 0, none⟩) (Kd.R_types HO273.out BK274.out (by decide)) (fun _ hk => hk.2) (.int .i64 t261)) (fun _ hk => hk.2) (.slice Ao70 t262.length co70)) (fun _ hk => hk.2) (.slice Ao71 t265.length co71)) (fun _ h_ => h_.1))) hb); have n7_ := Aside0.mk (Kd.R_lower (Kd.R_newB (Kd.R_newB (Kd.R_new' ho76 (Kd.R_lt (by (with_reducible repeat (first | apply Kd.R_alloc | apply Kd.R_drewN | apply Kd.R_drew)); exact (Kd.R_mono (Kd.R_far (p := ⟨gb274, 2, none⟩) (Kd.R_far (p := ⟨gb274, 1, none⟩) (Kd.R_far (p := ⟨gb274, 0, none⟩) (Kd.R_types HO260.out BK274.out (by decide)) (fun _ hk => hk.2) (.int .i64 t261)) (fun _ hk => hk.2) (.slice Ao70 t262.length co70)) (fun _ hk => hk.2) (.slice Ao71 t265.length co71)) (fun _ h_ => h_.1))))) (g := gb238) (o := .cells #[.int .i64 (wrap64 (1 + (wrap64 (Int.tmod a3 3)))), .int .i64 0, .int .i64 (wrap64 (a0)), .int .i64 (wrap64 (a1))] 26 (0, 0)) (by (with_reducible repeat (first | refine blk_drewN ?_ _ | refine blk_drew ?_ | refine blk_alloc ?_ _)); refine blk_far ?_ NB238_274.out _; (with_reducible repeat (first | refine blk_drewN ?_ _ | refine blk_drew ?_ | refine blk_alloc ?_ _)); refine blk_far ?_ NB238_274.out _; (with_reducible repeat (first | refine blk_drewN ?_ _ | refine blk_drew ?_ | refine blk_alloc ?_ _)); refine blk_far ?_ NB238_274.out _; (with_reducible repeat (first | refine blk_drewN ?_ _ | refine blk_drew ?_ | refine blk_alloc ?_ _)); exact BK238.out)) (g := gb239) (o := .cells #[.int .i64 (wrap64 (1 + (wrap64 (Int.tmod a4 3)))), .int .i64 0, .int .i64 (wrap64 (a0)), .int .i64 (wrap64 (a2))] 26 (0, 0)) (by (with_reducible repeat (first | refine blk_drewN ?_ _ | refine blk_drew ?_ | refine blk_alloc ?_ _)); refine blk_far ?_ NB239_274.out _; (with_reducible repeat (first | refine blk_drewN ?_ _ | refine blk_drew ?_ | refine blk_alloc ?_ _)); refine blk_far ?_ NB239_274.out _; (with_reducible repeat (first | refine blk_drewN ?_ _ | refine blk_drew ?_ | refine blk_alloc ?_ _)); refine blk_far ?_ NB239_274.out _; (with_reducible repeat (first | refine blk_drewN ?_ _ | refine blk_drew ?_ | refine blk_alloc ?_ _)); exact BK239.out)) (below_size (uB HB.out))); have n8_ := Aside0.mk (blk_below (g := gb238) (o := .cells #[.int .i64 (wrap64 (1 + (wrap64 (Int.tmod a3 3)))), .int .i64 0, .int .i64 (wrap64 (a0)), .int .i64 (wrap64 (a1))] 26 (0, 0)) (by (with_reducible repeat (first | refine blk_drewN ?_ _ | refine blk_drew ?_ | refine blk_alloc ?_ _)); refine blk_far ?_ NB238_274.out _; (with_reducible repeat (first | refine blk_drewN ?_ _ | refine blk_drew ?_ | refine blk_alloc ?_ _)); refine blk_far ?_ NB238_274.out _; (with_reducible repeat (first | refine blk_drewN ?_ _ | refine blk_drew ?_ | refine blk_alloc ?_ _)); refine blk_far ?_ NB238_274.out _; (with_reducible repeat (first | refine blk_drewN ?_ _ | refine blk_drew ?_ | refine blk_alloc ?_ _)); exact BK238.out) hb); have n9_ := Aside0.mk (blk_below (g := gb239) (o := .cells #[.int .i64 (wrap64 (1 + (wrap64 (Int.tmod a4 3)))), .int .i64 0, .int .i64 (wrap64 (a0)), .int .i64 (wrap64 (a2))] 26 (0, 0)) (by (with_reducible repeat (first | refine blk_drewN ?_ _ | refine blk_drew ?_ | refine blk_alloc ?_ _)); refine blk_far ?_ NB239_274.out _; (with_reducible repeat (first | refine blk_drewN ?_ _ | refine blk_drew ?_ | refine blk_alloc ?_ _)); refine blk_far ?_ NB239_274.out _; (with_reducible repeat (first | refine blk_drewN ?_ _ | refine blk_drew ?_ | refine blk_alloc ?_ _)); refine blk_far ?_ NB239_274.out _; (with_reducible repeat (first | refine blk_drewN ?_ _ | refine blk_drew ?_ | refine blk_alloc ?_ _)); exact BK239.out) hb); have n10_ := Aside0.mk (blk_below (g := gb248) (o := .cells #[.int .i64 x249000_30, .slice Ao61 x249001_30.length co61, .slice Ao62 x249002_30.length co62] 24 (0, 0)) (by (with_reducible repeat (first | refine blk_drewN ?_ _ | refine blk_drew ?_ | refine blk_alloc ?_ _)); refine blk_far ?_ NB248_274.out _; (with_reducible repeat (first | refine blk_drewN ?_ _ | refine blk_drew ?_ | refine blk_alloc ?_ _)); refine blk_far ?_ NB248_274.out _; (with_reducible repeat (first | refine blk_drewN ?_ _ | refine blk_drew ?_ | refine blk_alloc ?_ _)); refine blk_far ?_ NB248_274.out _; (with_reducible repeat (first | refine blk_drewN ?_ _ | refine blk_drew ?_ | refine blk_alloc ?_ _)); exact BK248.out) hb); have n11_ := Aside0.mk (blk_below (g := gb274) (o := .cells #[.int .i64 t261, .slice Ao70 t262.length co70, .slice Ao71 t265.length co71] 24 (0, 0)) (by (with_reducible repeat (first | refine blk_drewN ?_ _ | refine blk_drew ?_ | refine blk_alloc ?_ _)); refine blk_put (cs := #[.int .i64 t261, .slice Ao70 t262.length co70, .slice none 0 0]) ?_ 2 _ rfl; (with_reducible repeat (first | refine blk_drewN ?_ _ | refine blk_drew ?_ | refine blk_alloc ?_ _)); refine blk_put (cs := #[.int .i64 t261, .slice none 0 0, .slice none 0 0]) ?_ 1 _ rfl; (with_reducible repeat (first | refine blk_drewN ?_ _ | refine blk_drew ?_ | refine blk_alloc ?_ _)); refine blk_put (cs := #[.int .i64 0, .slice none 0 0, .slice none 0 0]) ?_ 0 _ rfl; (with_reducible repeat (first | refine blk_drewN ?_ _ | refine blk_drew ?_ | refine blk_alloc ?_ _)); exact BK274.out) hb); have n12_ := Aside0.mk (below_step (uB HB.out) hb); clear HO_249001; clear HO_249002; clear HO260; clear HO264; clear HO267; clear HO270; clear HO273; clear BK238; clear BK239; clear BK248; clear BK274; clear HB; have HO_249001 := n0_; have HO_249002 := n1_; have HO260 := n2_; have HO264 := n3_; have HO267 := n4_; have HO270 := n5_; have HO273 := n6_; have HO277 := n7_; have BK238 := n8_; have BK239 := n9_; have BK248 := n10_; have BK274 := n11_; have HB := n12_; clear n0_ n1_ n2_ n3_ n4_ n5_ n6_ n7_ n8_ n9_ n10_ n11_ n12_; clear hb ho76; obtain ⟨Ao77, co77, eo77⟩ := Kd.R_slice HO277.out; subst eo77) | ((with_reducible refine gate_callee (f := 13) rfl ?_); refine goesL_ (some 89) rfl rfl Try.func13 (by kernel_rfl) rfl #[.agg #[.int .i64 x249000_30, .slice Ao61 x249001_30.length co61, .slice Ao62 x249002_30.length co62], .slice Ao77 y275.length co77] rfl ls ?_; (with_reducible refine (spec_All.calls kj30 x249000_30 (fun k_ => ((((((k_ ≠ gb238 ∧ (k_ ≠ gb239 ∧ k_ ≠ gb248)) ∧ some k_ ≠ (.slice Ao63 y258.length co63 : Value).ownBlock) ∧ some k_ ≠ (v269 : Value).ownBlock) ∧ some k_ ≠ (v272 : Value).ownBlock) ∧ k_ ≠ gb274) ∧ some k_ ≠ (.slice Ao77 y275.length co77 : Value).ownBlock)) _ _ x249001_30 (fun k_ => ((((((k_ ≠ gb238 ∧ (k_ ≠ gb239 ∧ k_ ≠ gb248)) ∧ some k_ ≠ (.slice Ao63 y258.length co63 : Value).ownBlock) ∧ some k_ ≠ (v269 : Value).ownBlock) ∧ some k_ ≠ (v272 : Value).ownBlock) ∧ k_ ≠ gb274) ∧ some k_ ≠ (.slice Ao77 y275.length co77 : Value).ownBlock)) _ _ x249002_30 _ _ y275 t278 t279 t282 t285 t288 _ ?side1 ?side2 ?side3 ?side4 A51.out).mono ?_); (case side1 => exact HO_249001.out); (case side2 => exact HO_249002.out); (case side3 => repeat (first | exact (Kd.R_reads' HO277.out).2.2 | (with_reducible refine Kd.C_alloc ?_ _) | (with_reducible refine Kd.C_drewN ?_ _) | (with_reducible refine Kd.C_drew ?_))); (case side4 => exact (Kd.R_reads' HO277.out).2.1); rintro e w78 ⟨v280, v283, v286, v289, rfl, ho0, ho1, ho2, ho3, hb⟩; refine ⟨_, rfl, ?_⟩; have n0_ := Aside0.mk (Kd.V_mono (Kd.V_told (Kd.V_told (Kd.V_old (uV HO_249001.out) hb) (Kd.R_base ho2)) (Kd.R_base ho3)) (fun _ h_ => h_.1)); have n1_ := Aside0.mk (Kd.V_mono (Kd.V_told (Kd.V_told (Kd.V_old (uV HO_249002.out) hb) (Kd.R_base ho2)) (Kd.R_base ho3)) (fun _ h_ => h_.1)); have n2_ := Aside0.mk (Kd.R_below (uR HO260.out) hb); have n3_ := Aside0.mk (Kd.V_mono (Kd.V_told (Kd.V_told (Kd.V_old (uV HO264.out) hb) (Kd.R_base ho2)) (Kd.R_base ho3)) (fun _ h_ => h_.1)); have n4_ := Aside0.mk (Kd.V_mono (Kd.V_told (Kd.V_told (Kd.V_old (uV HO267.out) hb) (Kd.R_base ho2)) (Kd.R_base ho3)) (fun _ h_ => h_.1)); have n5_ := Aside0.mk (Kd.R_elder' (uR HO270.out) (Kd.R_base ho2) hb); have n6_ := Aside0.mk (Kd.R_elder' (uR HO273.out) (Kd.R_base ho3) hb); have n7_ := Aside0.mk (Kd.R_below (uR HO277.out) hb); have n8_ := Aside0.mk (Kd.V_lower (Kd.V_mono (ok' := fun k_ => some k_ ≠ (v286 : Value).ownBlock ∧ some k_ ≠ (v289 : Value).ownBlock ∧ some k_ ≠ (.slice Ao63 y258.length co63 : Value).ownBlock ∧ some k_ ≠ (v269 : Value).ownBlock ∧ some k_ ≠ (v272 : Value).ownBlock ∧ some k_ ≠ (.slice Ao77 y275.length co77 : Value).ownBlock ∧ k_ ≠ gb238 ∧ k_ ≠ gb239 ∧ k_ ≠ gb248 ∧ k_ ≠ gb274) ho0 (fun k_ hk_ => by first | exact ⟨hk_.2.1, hk_.2.2, Or.elim hk_.1 (fun hs_ => Or.elim hs_ (fun hs_ => hs_.1.1.1.1.2) (fun hs_ => hs_.1.1.1.1.2)) (fun hn_ => (Kd.fresh' (Kd.R_lt (uR HO260.out)) k_ hn_)), Or.elim hk_.1 (fun hs_ => Or.elim hs_ (fun hs_ => hs_.1.1.1.2) (fun hs_ => hs_.1.1.1.2)) (fun hn_ => (Kd.fresh' (Kd.R_lt (uR HO270.out)) k_ hn_)), Or.elim hk_.1 (fun hs_ => Or.elim hs_ (fun hs_ => hs_.1.1.2) (fun hs_ => hs_.1.1.2)) (fun hn_ => (Kd.fresh' (Kd.R_lt (uR HO273.out)) k_ hn_)), Or.elim hk_.1 (fun hs_ => Or.elim hs_ (fun hs_ => hs_.2) (fun hs_ => hs_.2)) (fun hn_ => (Kd.fresh' (Kd.R_lt (uR HO277.out)) k_ hn_)), Or.elim hk_.1 (fun hs_ => Or.elim hs_ (fun hs_ => hs_.1.1.1.1.1.1) (fun hs_ => hs_.1.1.1.1.1.1)) (fun hn_ => (Kd.freshB (g := gb238) (o := .cells #[.int .i64 (wrap64 (1 + (wrap64 (Int.tmod a3 3)))), .int .i64 0, .int .i64 (wrap64 (a0)), .int .i64 (wrap64 (a1))] 26 (0, 0)) (ub BK238.out) k_ hn_)), Or.elim hk_.1 (fun hs_ => Or.elim hs_ (fun hs_ => hs_.1.1.1.1.1.2.1) (fun hs_ => hs_.1.1.1.1.1.2.1)) (fun hn_ => (Kd.freshB (g := gb239) (o := .cells #[.int .i64 (wrap64 (1 + (wrap64 (Int.tmod a4 3)))), .int .i64 0, .int .i64 (wrap64 (a0)), .int .i64 (wrap64 (a2))] 26 (0, 0)) (ub BK239.out) k_ hn_)), Or.elim hk_.1 (fun hs_ => Or.elim hs_ (fun hs_ => hs_.1.1.1.1.1.2.2) (fun hs_ => hs_.1.1.1.1.1.2.2)) (fun hn_ => (Kd.freshB (g := gb248) (o := .cells #[.int .i64 x249000_30, .slice Ao61 x249001_30.length co61, .slice Ao62 x249002_30.length co62] 24 (0, 0)) (ub BK248.out) k_ hn_)), Or.elim hk_.1 (fun hs_ => Or.elim hs_ (fun hs_ => hs_.1.2) (fun hs_ => hs_.1.2)) (fun hn_ => (Kd.freshB (g := gb274) (o := .cells #[.int .i64 t261, .slice Ao70 t262.length co70, .slice Ao71 t265.length co71] 24 (0, 0)) (ub BK274.out) k_ hn_))⟩ | grind)) (below_size (uB HB.out))); have n9_ := Aside0.mk (Kd.V_lower (Kd.V_mono (ok' := fun k_ => some k_ ≠ (v286 : Value).ownBlock ∧ some k_ ≠ (v289 : Value).ownBlock ∧ some k_ ≠ (.slice Ao63 y258.length co63 : Value).ownBlock ∧ some k_ ≠ (v269 : Value).ownBlock ∧ some k_ ≠ (v272 : Value).ownBlock ∧ some k_ ≠ (.slice Ao77 y275.length co77 : Value).ownBlock ∧ k_ ≠ gb238 ∧ k_ ≠ gb239 ∧ k_ ≠ gb248 ∧ k_ ≠ gb274) ho1 (fun k_ hk_ => by first | exact ⟨hk_.2.1, hk_.2.2, Or.elim hk_.1 (fun hs_ => Or.elim hs_ (fun hs_ => hs_.1.1.1.1.2) (fun hs_ => hs_.1.1.1.1.2)) (fun hn_ => (Kd.fresh' (Kd.R_lt (uR HO260.out)) k_ hn_)), Or.elim hk_.1 (fun hs_ => Or.elim hs_ (fun hs_ => hs_.1.1.1.2) (fun hs_ => hs_.1.1.1.2)) (fun hn_ => (Kd.fresh' (Kd.R_lt (uR HO270.out)) k_ hn_)), Or.elim hk_.1 (fun hs_ => Or.elim hs_ (fun hs_ => hs_.1.1.2) (fun hs_ => hs_.1.1.2)) (fun hn_ => (Kd.fresh' (Kd.R_lt (uR HO273.out)) k_ hn_)), Or.elim hk_.1 (fun hs_ => Or.elim hs_ (fun hs_ => hs_.2) (fun hs_ => hs_.2)) (fun hn_ => (Kd.fresh' (Kd.R_lt (uR HO277.out)) k_ hn_)), Or.elim hk_.1 (fun hs_ => Or.elim hs_ (fun hs_ => hs_.1.1.1.1.1.1) (fun hs_ => hs_.1.1.1.1.1.1)) (fun hn_ => (Kd.freshB (g := gb238) (o := .cells #[.int .i64 (wrap64 (1 + (wrap64 (Int.tmod a3 3)))), .int .i64 0, .int .i64 (wrap64 (a0)), .int .i64 (wrap64 (a1))] 26 (0, 0)) (ub BK238.out) k_ hn_)), Or.elim hk_.1 (fun hs_ => Or.elim hs_ (fun hs_ => hs_.1.1.1.1.1.2.1) (fun hs_ => hs_.1.1.1.1.1.2.1)) (fun hn_ => (Kd.freshB (g := gb239) (o := .cells #[.int .i64 (wrap64 (1 + (wrap64 (Int.tmod a4 3)))), .int .i64 0, .int .i64 (wrap64 (a0)), .int .i64 (wrap64 (a2))] 26 (0, 0)) (ub BK239.out) k_ hn_)), Or.elim hk_.1 (fun hs_ => Or.elim hs_ (fun hs_ => hs_.1.1.1.1.1.2.2) (fun hs_ => hs_.1.1.1.1.1.2.2)) (fun hn_ => (Kd.freshB (g := gb248) (o := .cells #[.int .i64 x249000_30, .slice Ao61 x249001_30.length co61, .slice Ao62 x249002_30.length co62] 24 (0, 0)) (ub BK248.out) k_ hn_)), Or.elim hk_.1 (fun hs_ => Or.elim hs_ (fun hs_ => hs_.1.2) (fun hs_ => hs_.1.2)) (fun hn_ => (Kd.freshB (g := gb274) (o := .cells #[.int .i64 t261, .slice Ao70 t262.length co70, .slice Ao71 t265.length co71] 24 (0, 0)) (ub BK274.out) k_ hn_))⟩ | grind)) (below_size (uB HB.out))); have n10_ := Aside0.mk (Kd.R_lower (Kd.R_new' (Kd.R_mono (ok' := fun k_ => True) ho2 (fun _ hk_ => trivial)) (Kd.R_lt (uR HO270.out))) (below_size (uB HB.out))); have n11_ := Aside0.mk (Kd.R_lower (Kd.R_new' (Kd.R_mono (ok' := fun k_ => True) ho3 (fun _ hk_ => trivial)) (Kd.R_lt (uR HO273.out))) (below_size (uB HB.out))); have n12_ := Aside0.mk (blk_below (g := gb238) (o := .cells #[.int .i64 (wrap64 (1 + (wrap64 (Int.tmod a3 3)))), .int .i64 0, .int .i64 (wrap64 (a0)), .int .i64 (wrap64 (a1))] 26 (0, 0)) (ub BK238.out) hb); have n13_ := Aside0.mk (blk_below (g := gb239) (o := .cells #[.int .i64 (wrap64 (1 + (wrap64 (Int.tmod a4 3)))), .int .i64 0, .int .i64 (wrap64 (a0)), .int .i64 (wrap64 (a2))] 26 (0, 0)) (ub BK239.out) hb); have n14_ := Aside0.mk (blk_below (g := gb248) (o := .cells #[.int .i64 x249000_30, .slice Ao61 x249001_30.length co61, .slice Ao62 x249002_30.length co62] 24 (0, 0)) (ub BK248.out) hb); have n15_ := Aside0.mk (blk_below (g := gb274) (o := .cells #[.int .i64 t261, .slice Ao70 t262.length co70, .slice Ao71 t265.length co71] 24 (0, 0)) (ub BK274.out) hb); have n16_ := Aside0.mk (below_step (uB HB.out) hb); clear HO_249001; clear HO_249002; clear HO260; clear HO264; clear HO267; clear HO270; clear HO273; clear HO277; clear BK238; clear BK239; clear BK248; clear BK274; clear HB; have HO_249001 := n0_; have HO_249002 := n1_; have HO260 := n2_; have HO264 := n3_; have HO267 := n4_; have HO270 := n5_; have HO273 := n6_; have HO277 := n7_; have HO281 := n8_; have HO284 := n9_; have HO287 := n10_; have HO290 := n11_; have BK238 := n12_; have BK239 := n13_; have BK248 := n14_; have BK274 := n15_; have HB := n16_; clear n0_ n1_ n2_ n3_ n4_ n5_ n6_ n7_ n8_ n9_ n10_ n11_ n12_ n13_ n14_ n15_ n16_; (try clear hb); (try clear hb2); (try clear hk); (try clear hi); (try clear ho0); (try clear ho1); (try clear ho2); (try clear ho3)) | ((with_reducible refine gate_dst (N := 20) rfl ?_); (try (refine gate_guard (by rfl) ?_; dsimp only)); refine box_event ?hg (N := 20) ?hd (cs := #[.int .i64 0, .slice none 0 0, .slice none 0 0]) (t := 24) ?hr ?_; (case hd => rfl); (case hg => rfl); (case hr => first | (go_simp; done) | (go_simp; rfl)); intro gb291 hg w79 hbox hb; have n0_ := Aside0.mk (Kd.V_below (Kd.V_elderB (uV HO_249001.out) gb291 (Nat.le_of_eq hg.symm)) hb); have n1_ := Aside0.mk (Kd.V_below (Kd.V_elderB (uV HO_249002.out) gb291 (Nat.le_of_eq hg.symm)) hb); have n2_ := Aside0.mk (Kd.R_below (uR HO260.out) hb); have n3_ := Aside0.mk (Kd.V_below (Kd.V_elderB (uV HO264.out) gb291 (Nat.le_of_eq hg.symm)) hb); have n4_ := Aside0.mk (Kd.V_below (Kd.V_elderB (uV HO267.out) gb291 (Nat.le_of_eq hg.symm)) hb); have n5_ := Aside0.mk (Kd.R_below (uR HO270.out) hb); have n6_ := Aside0.mk (Kd.R_below (uR HO273.out) hb); have n7_ := Aside0.mk (Kd.R_below (uR HO277.out) hb); have n8_ := Aside0.mk (Kd.V_below (Kd.V_elderB (uV HO281.out) gb291 (Nat.le_of_eq hg.symm)) hb); have n9_ := Aside0.mk (Kd.V_below (Kd.V_elderB (uV HO284.out) gb291 (Nat.le_of_eq hg.symm)) hb); have n10_ := Aside0.mk (Kd.R_below (uR HO287.out) hb); have n11_ := Aside0.mk (Kd.R_below (uR HO290.out) hb); have n12_ := Aside0.mk (blk_below (g := gb238) (o := .cells #[.int .i64 (wrap64 (1 + (wrap64 (Int.tmod a3 3)))), .int .i64 0, .int .i64 (wrap64 (a0)), .int .i64 (wrap64 (a1))] 26 (0, 0)) (ub BK238.out) hb); have n13_ := Aside0.mk (blk_below (g := gb239) (o := .cells #[.int .i64 (wrap64 (1 + (wrap64 (Int.tmod a4 3)))), .int .i64 0, .int .i64 (wrap64 (a0)), .int .i64 (wrap64 (a2))] 26 (0, 0)) (ub BK239.out) hb); have n14_ := Aside0.mk (blk_below (g := gb248) (o := .cells #[.int .i64 x249000_30, .slice Ao61 x249001_30.length co61, .slice Ao62 x249002_30.length co62] 24 (0, 0)) (ub BK248.out) hb); have n15_ := Aside0.mk (blk_below (g := gb274) (o := .cells #[.int .i64 t261, .slice Ao70 t262.length co70, .slice Ao71 t265.length co71] 24 (0, 0)) (ub BK274.out) hb); have n16_ := Aside0.mk (below_step (uB HB.out) hb); have n17_ := Aside0.mk (hbox); have n19_ := Aside0.mk ((by rw [hg]; exact (below_size (uB HB.out)) : w.heap.size ≤ gb291)); have n20_ := Aside0.mk ((by rw [hg]; exact Nat.ne_of_lt (blk_lt (g := gb238) (o := .cells #[.int .i64 (wrap64 (1 + (wrap64 (Int.tmod a3 3)))), .int .i64 0, .int .i64 (wrap64 (a0)), .int .i64 (wrap64 (a1))] 26 (0, 0)) (ub BK238.out)) : gb238 ≠ gb291)); have n21_ := Aside0.mk ((by rw [hg]; exact Nat.ne_of_gt (blk_lt (g := gb238) (o := .cells #[.int .i64 (wrap64 (1 + (wrap64 (Int.tmod a3 3)))), .int .i64 0, .int .i64 (wrap64 (a0)), .int .i64 (wrap64 (a1))] 26 (0, 0)) (ub BK238.out)) : gb291 ≠ gb238)); have n22_ := Aside0.mk ((by rw [hg]; exact Nat.ne_of_lt (blk_lt (g := gb239) (o := .cells #[.int .i64 (wrap64 (1 + (wrap64 (Int.tmod a4 3)))), .int .i64 0, .int .i64 (wrap64 (a0)), .int .i64 (wrap64 (a2))] 26 (0, 0)) (ub BK239.out)) : gb239 ≠ gb291)); have n23_ := Aside0.mk ((by rw [hg]; exact Nat.ne_of_gt (blk_lt (g := gb239) (o := .cells #[.int .i64 (wrap64 (1 + (wrap64 (Int.tmod a4 3)))), .int .i64 0, .int .i64 (wrap64 (a0)), .int .i64 (wrap64 (a2))] 26 (0, 0)) (ub BK239.out)) : gb291 ≠ gb239)); have n24_ := Aside0.mk ((by rw [hg]; exact Nat.ne_of_lt (blk_lt (g := gb248) (o := .cells #[.int .i64 x249000_30, .slice Ao61 x249001_30.length co61, .slice Ao62 x249002_30.length co62] 24 (0, 0)) (ub BK248.out)) : gb248 ≠ gb291)); have n25_ := Aside0.mk ((by rw [hg]; exact Nat.ne_of_gt (blk_lt (g := gb248) (o := .cells #[.int .i64 x249000_30, .slice Ao61 x249001_30.length co61, .slice Ao62 x249002_30.length co62] 24 (0, 0)) (ub BK248.out)) : gb291 ≠ gb248)); have n26_ := Aside0.mk ((by rw [hg]; exact Nat.ne_of_lt (blk_lt (g := gb274) (o := .cells #[.int .i64 t261, .slice Ao70 t262.length co70, .slice Ao71 t265.length co71] 24 (0, 0)) (ub BK274.out)) : gb274 ≠ gb291)); have n27_ := Aside0.mk ((by rw [hg]; exact Nat.ne_of_gt (blk_lt (g := gb274) (o := .cells #[.int .i64 t261, .slice Ao70 t262.length co70, .slice Ao71 t265.length co71] 24 (0, 0)) (ub BK274.out)) : gb291 ≠ gb274)); clear HO_249001; clear HO_249002; clear HO260; clear HO264; clear HO267; clear HO270; clear HO273; clear HO277; clear HO281; clear HO284; clear HO287; clear HO290; clear BK238; clear BK239; clear BK248; clear BK274; clear HB; have HO_249001 := n0_; have HO_249002 := n1_; have HO260 := n2_; have HO264 := n3_; have HO267 := n4_; have HO270 := n5_; have HO273 := n6_; have HO277 := n7_; have HO281 := n8_; have HO284 := n9_; have HO287 := n10_; have HO290 := n11_; have BK238 := n12_; have BK239 := n13_; have BK248 := n14_; have BK274 := n15_; have HB := n16_; have BK291 := n17_; have GE291 := n19_; have NB238_291 := n20_; have NB291_238 := n21_; have NB239_291 := n22_; have NB291_239 := n23_; have NB248_291 := n24_; have NB291_248 := n25_; have NB274_291 := n26_; have NB291_274 := n27_; clear n0_ n1_ n2_ n3_ n4_ n5_ n6_ n7_ n8_ n9_ n10_ n11_ n12_ n13_ n14_ n15_ n16_ n17_ n19_ n20_ n21_ n22_ n23_ n24_ n25_ n26_ n27_; clear hb hbox hg; have hnb80 := NB291_238.out; have hnc80 := NB238_291.out; have hnb81 := NB291_239.out; have hnc81 := NB239_291.out; have hnb82 := NB291_248.out; have hnc82 := NB248_291.out; have hnb83 := NB291_274.out; have hnc83 := NB274_291.out; have hcz84_0 : w79.cell? ⟨gb291, 0, none⟩ = some (.int .i64 0) := (blk_cell BK291.out 0).trans rfl; have hcz84_1 : w79.cell? ⟨gb291, 1, none⟩ = some (.slice none 0 0) := (blk_cell BK291.out 1).trans rfl; have hcz84_2 : w79.cell? ⟨gb291, 2, none⟩ = some (.slice none 0 0) := (blk_cell BK291.out 2).trans rfl; have hfz84_0 := blk_frozen BK291.out 0; have hfz84_1 := blk_frozen BK291.out 1; have hfz84_2 := blk_frozen BK291.out 2; obtain ⟨Ao85, co85, eo85⟩ := Kd.V_slice HO281.out; subst eo85; obtain ⟨Ao86, co86, eo86⟩ := Kd.V_slice HO284.out; subst eo86) | ((with_reducible refine gate_store (t := 24) (p := 20) rfl ?_); refine store_event (t := 24) (p := 20) (v := ?vo_w87) (w1 := (((w79.setCell ⟨gb291, 0, none⟩ (.int .i64 t278)).setCell ⟨gb291, 1, none⟩ (.slice Ao85 t279.length co85)).setCell ⟨gb291, 2, none⟩ (.slice Ao86 t282.length co86))) ?hg ?ho ?hn ?hr ?_; (case ho => rfl); (case hg => rfl); (case hn => rfl); (case hr => first | (go_simp; done) | (go_simp; rfl)); intro w87 hw; have n0_ : Aside0 (Kd.V (Kd.int .i64) 3 w87 w.heap.size (fun k_ => some k_ ≠ (.slice Ao63 y258.length co63 : Value).ownBlock ∧ some k_ ≠ (v269 : Value).ownBlock ∧ some k_ ≠ (v272 : Value).ownBlock ∧ some k_ ≠ (.slice Ao77 y275.length co77 : Value).ownBlock ∧ some k_ ≠ (v286 : Value).ownBlock ∧ some k_ ≠ (v289 : Value).ownBlock ∧ k_ ≠ gb238 ∧ k_ ≠ gb239 ∧ k_ ≠ gb248 ∧ k_ ≠ gb274 ∧ k_ ≠ gb291) (.slice Ao61 x249001_30.length co61) x249001_30) := ⟨(by rw [hw]; exact (by (with_reducible repeat (first | apply Kd.V_alloc | apply Kd.V_drewN | apply Kd.V_drew)); exact Kd.V_mono (Kd.V_far (p := ⟨gb291, 2, none⟩) (Kd.V_far (p := ⟨gb291, 1, none⟩) (Kd.V_far (p := ⟨gb291, 0, none⟩) (Kd.V_mono HO_249001.out (fun k_ hk => (⟨hk, hk.2⟩ : _ ∧ k_ ≠ gb291))) (fun _ hk => hk.2) (.int .i64 t278)) (fun _ hk => hk.2) (.slice Ao85 t279.length co85)) (fun _ hk => hk.2) (.slice Ao86 t282.length co86)) (fun _ hk => ⟨hk.1.1.1.1.1.1.1.1.2, ⟨hk.1.1.1.1.1.1.1.2, ⟨hk.1.1.1.1.1.1.2, ⟨hk.1.1.1.1.2, ⟨hk.1.1.1.2, ⟨hk.1.1.2, ⟨hk.1.1.1.1.1.1.1.1.1.1, ⟨hk.1.1.1.1.1.1.1.1.1.2.1, ⟨hk.1.1.1.1.1.1.1.1.1.2.2, ⟨hk.1.1.1.1.1.2, hk.1.2⟩⟩⟩⟩⟩⟩⟩⟩⟩⟩)))⟩; have n1_ : Aside0 (Kd.V (Kd.int .i64) 3 w87 w.heap.size (fun k_ => some k_ ≠ (.slice Ao63 y258.length co63 : Value).ownBlock ∧ some k_ ≠ (v269 : Value).ownBlock ∧ some k_ ≠ (v272 : Value).ownBlock ∧ some k_ ≠ (.slice Ao77 y275.length co77 : Value).ownBlock ∧ some k_ ≠ (v286 : Value).ownBlock ∧ some k_ ≠ (v289 : Value).ownBlock ∧ k_ ≠ gb238 ∧ k_ ≠ gb239 ∧ k_ ≠ gb248 ∧ k_ ≠ gb274 ∧ k_ ≠ gb291) (.slice Ao62 x249002_30.length co62) x249002_30) := ⟨(by rw [hw]; exact (by (with_reducible repeat (first | apply Kd.V_alloc | apply Kd.V_drewN | apply Kd.V_drew)); exact Kd.V_mono (Kd.V_far (p := ⟨gb291, 2, none⟩) (Kd.V_far (p := ⟨gb291, 1, none⟩) (Kd.V_far (p := ⟨gb291, 0, none⟩) (Kd.V_mono HO_249002.out (fun k_ hk => (⟨hk, hk.2⟩ : _ ∧ k_ ≠ gb291))) (fun _ hk => hk.2) (.int .i64 t278)) (fun _ hk => hk.2) (.slice Ao85 t279.length co85)) (fun _ hk => hk.2) (.slice Ao86 t282.length co86)) (fun _ hk => ⟨hk.1.1.1.1.1.1.1.1.2, ⟨hk.1.1.1.1.1.1.1.2, ⟨hk.1.1.1.1.1.1.2, ⟨hk.1.1.1.1.2, ⟨hk.1.1.1.2, ⟨hk.1.1.2, ⟨hk.1.1.1.1.1.1.1.1.1.1, ⟨hk.1.1.1.1.1.1.1.1.1.2.1, ⟨hk.1.1.1.1.1.1.1.1.1.2.2, ⟨hk.1.1.1.1.1.2, hk.1.2⟩⟩⟩⟩⟩⟩⟩⟩⟩⟩)))⟩; have n2_ : Aside0 (Kd.R k26 26 w87 w.heap.size (fun k_ => some k_ ≠ (.slice Ao77 y275.length co77 : Value).ownBlock ∧ k_ ≠ gb238 ∧ k_ ≠ gb239) (.slice Ao63 y258.length co63) y258) := ⟨(by rw [hw]; exact (by (with_reducible repeat (first | apply Kd.R_alloc | apply Kd.R_drewN | apply Kd.R_drew)); exact Kd.R_mono (Kd.R_far (p := ⟨gb291, 2, none⟩) (Kd.R_far (p := ⟨gb291, 1, none⟩) (Kd.R_far (p := ⟨gb291, 0, none⟩) (Kd.R_types HO260.out BK291.out (by decide)) (fun _ hk => hk.2) (.int .i64 t278)) (fun _ hk => hk.2) (.slice Ao85 t279.length co85)) (fun _ hk => hk.2) (.slice Ao86 t282.length co86)) (fun _ hk => ⟨hk.1.2, ⟨hk.1.1.1.2, hk.1.1.2⟩⟩)))⟩; have n3_ : Aside0 (Kd.V (Kd.int .i64) 3 w87 w.heap.size (fun k_ => some k_ ≠ (.slice Ao63 y258.length co63 : Value).ownBlock ∧ some k_ ≠ (v269 : Value).ownBlock ∧ some k_ ≠ (v272 : Value).ownBlock ∧ some k_ ≠ (.slice Ao77 y275.length co77 : Value).ownBlock ∧ some k_ ≠ (v286 : Value).ownBlock ∧ some k_ ≠ (v289 : Value).ownBlock ∧ k_ ≠ gb238 ∧ k_ ≠ gb239 ∧ k_ ≠ gb248 ∧ k_ ≠ gb274 ∧ k_ ≠ gb291) (.slice Ao70 t262.length co70) t262) := ⟨(by rw [hw]; exact (by (with_reducible repeat (first | apply Kd.V_alloc | apply Kd.V_drewN | apply Kd.V_drew)); exact Kd.V_mono (Kd.V_far (p := ⟨gb291, 2, none⟩) (Kd.V_far (p := ⟨gb291, 1, none⟩) (Kd.V_far (p := ⟨gb291, 0, none⟩) (Kd.V_mono HO264.out (fun k_ hk => (⟨hk, hk.2⟩ : _ ∧ k_ ≠ gb291))) (fun _ hk => hk.2) (.int .i64 t278)) (fun _ hk => hk.2) (.slice Ao85 t279.length co85)) (fun _ hk => hk.2) (.slice Ao86 t282.length co86)) (fun _ hk => ⟨hk.1.1.1.1.1.1.2.2.1, ⟨hk.1.1.1.1.1.1.1, ⟨hk.1.1.1.1.1.1.2.1, ⟨hk.1.1.1.1.2, ⟨hk.1.1.1.2, ⟨hk.1.1.2, ⟨hk.1.1.1.1.1.1.2.2.2.1, ⟨hk.1.1.1.1.1.1.2.2.2.2.1, ⟨hk.1.1.1.1.1.1.2.2.2.2.2, ⟨hk.1.1.1.1.1.2, hk.1.2⟩⟩⟩⟩⟩⟩⟩⟩⟩⟩)))⟩; have n4_ : Aside0 (Kd.V (Kd.int .i64) 3 w87 w.heap.size (fun k_ => some k_ ≠ (.slice Ao63 y258.length co63 : Value).ownBlock ∧ some k_ ≠ (v269 : Value).ownBlock ∧ some k_ ≠ (v272 : Value).ownBlock ∧ some k_ ≠ (.slice Ao77 y275.length co77 : Value).ownBlock ∧ some k_ ≠ (v286 : Value).ownBlock ∧ some k_ ≠ (v289 : Value).ownBlock ∧ k_ ≠ gb238 ∧ k_ ≠ gb239 ∧ k_ ≠ gb248 ∧ k_ ≠ gb274 ∧ k_ ≠ gb291) (.slice Ao71 t265.length co71) t265) := ⟨(by rw [hw]; exact (by (with_reducible repeat (first | apply Kd.V_alloc | apply Kd.V_drewN | apply Kd.V_drew)); exact Kd.V_mono (Kd.V_far (p := ⟨gb291, 2, none⟩) (Kd.V_far (p := ⟨gb291, 1, none⟩) (Kd.V_far (p := ⟨gb291, 0, none⟩) (Kd.V_mono HO267.out (fun k_ hk => (⟨hk, hk.2⟩ : _ ∧ k_ ≠ gb291))) (fun _ hk => hk.2) (.int .i64 t278)) (fun _ hk => hk.2) (.slice Ao85 t279.length co85)) (fun _ hk => hk.2) (.slice Ao86 t282.length co86)) (fun _ hk => ⟨hk.1.1.1.1.1.1.2.2.1, ⟨hk.1.1.1.1.1.1.1, ⟨hk.1.1.1.1.1.1.2.1, ⟨hk.1.1.1.1.2, ⟨hk.1.1.1.2, ⟨hk.1.1.2, ⟨hk.1.1.1.1.1.1.2.2.2.1, ⟨hk.1.1.1.1.1.1.2.2.2.2.1, ⟨hk.1.1.1.1.1.1.2.2.2.2.2, ⟨hk.1.1.1.1.1.2, hk.1.2⟩⟩⟩⟩⟩⟩⟩⟩⟩⟩)))⟩; have n5_ : Aside0 (Kd.R (Kd.int .i64) 3 w87 w.heap.size (fun k_ => some k_ ≠ (v286 : Value).ownBlock) v269 t268) := ⟨(by rw [hw]; exact (by (with_reducible repeat (first | apply Kd.R_alloc | apply Kd.R_drewN | apply Kd.R_drew)); exact Kd.R_mono (Kd.R_far (p := ⟨gb291, 2, none⟩) (Kd.R_far (p := ⟨gb291, 1, none⟩) (Kd.R_far (p := ⟨gb291, 0, none⟩) (Kd.R_types HO270.out BK291.out (by decide)) (fun _ hk => hk.2) (.int .i64 t278)) (fun _ hk => hk.2) (.slice Ao85 t279.length co85)) (fun _ hk => hk.2) (.slice Ao86 t282.length co86)) (fun _ hk => hk.1.2)))⟩; have n6_ : Aside0 (Kd.R Kd.bool 4 w87 w.heap.size (fun k_ => some k_ ≠ (v289 : Value).ownBlock) v272 t271) := ⟨(by rw [hw]; exact (by (with_reducible repeat (first | apply Kd.R_alloc | apply Kd.R_drewN | apply Kd.R_drew)); exact Kd.R_mono (Kd.R_far (p := ⟨gb291, 2, none⟩) (Kd.R_far (p := ⟨gb291, 1, none⟩) (Kd.R_far (p := ⟨gb291, 0, none⟩) (Kd.R_types HO273.out BK291.out (by decide)) (fun _ hk => hk.2) (.int .i64 t278)) (fun _ hk => hk.2) (.slice Ao85 t279.length co85)) (fun _ hk => hk.2) (.slice Ao86 t282.length co86)) (fun _ hk => hk.1.2)))⟩; have n7_ : Aside0 (Kd.R k26 26 w87 w.heap.size (fun k_ => some k_ ≠ (.slice Ao63 y258.length co63 : Value).ownBlock ∧ k_ ≠ gb238 ∧ k_ ≠ gb239) (.slice Ao77 y275.length co77) y275) := ⟨(by rw [hw]; exact (by (with_reducible repeat (first | apply Kd.R_alloc | apply Kd.R_drewN | apply Kd.R_drew)); exact Kd.R_mono (Kd.R_far (p := ⟨gb291, 2, none⟩) (Kd.R_far (p := ⟨gb291, 1, none⟩) (Kd.R_far (p := ⟨gb291, 0, none⟩) (Kd.R_types HO277.out BK291.out (by decide)) (fun _ hk => hk.2) (.int .i64 t278)) (fun _ hk => hk.2) (.slice Ao85 t279.length co85)) (fun _ hk => hk.2) (.slice Ao86 t282.length co86)) (fun _ hk => ⟨hk.1.1.1.2, ⟨hk.1.1.2, hk.1.2⟩⟩)))⟩; have n8_ : Aside0 (Kd.V (Kd.int .i64) 3 w87 w.heap.size (fun k_ => some k_ ≠ (.slice Ao63 y258.length co63 : Value).ownBlock ∧ some k_ ≠ (v269 : Value).ownBlock ∧ some k_ ≠ (v272 : Value).ownBlock ∧ some k_ ≠ (.slice Ao77 y275.length co77 : Value).ownBlock ∧ some k_ ≠ (v286 : Value).ownBlock ∧ some k_ ≠ (v289 : Value).ownBlock ∧ k_ ≠ gb238 ∧ k_ ≠ gb239 ∧ k_ ≠ gb248 ∧ k_ ≠ gb274 ∧ k_ ≠ gb291) (.slice Ao85 t279.length co85) t279) := ⟨(by rw [hw]; exact (by (with_reducible repeat (first | apply Kd.V_alloc | apply Kd.V_drewN | apply Kd.V_drew)); exact Kd.V_mono (Kd.V_far (p := ⟨gb291, 2, none⟩) (Kd.V_far (p := ⟨gb291, 1, none⟩) (Kd.V_far (p := ⟨gb291, 0, none⟩) (Kd.V_mono HO281.out (fun k_ hk => (⟨hk, hk.2⟩ : _ ∧ k_ ≠ gb291))) (fun _ hk => hk.2) (.int .i64 t278)) (fun _ hk => hk.2) (.slice Ao85 t279.length co85)) (fun _ hk => hk.2) (.slice Ao86 t282.length co86)) (fun _ hk => ⟨hk.1.1.2.2.1, ⟨hk.1.1.2.2.2.1, ⟨hk.1.1.2.2.2.2.1, ⟨hk.1.1.2.2.2.2.2.1, ⟨hk.1.1.1, ⟨hk.1.1.2.1, ⟨hk.1.1.2.2.2.2.2.2.1, ⟨hk.1.1.2.2.2.2.2.2.2.1, ⟨hk.1.1.2.2.2.2.2.2.2.2.1, ⟨hk.1.1.2.2.2.2.2.2.2.2.2, hk.1.2⟩⟩⟩⟩⟩⟩⟩⟩⟩⟩)))⟩; have n9_ : Aside0 (Kd.V (Kd.int .i64) 3 w87 w.heap.size (fun k_ => some k_ ≠ (.slice Ao63 y258.length co63 : Value).ownBlock ∧ some k_ ≠ (v269 : Value).ownBlock ∧ some k_ ≠ (v272 : Value).ownBlock ∧ some k_ ≠ (.slice Ao77 y275.length co77 : Value).ownBlock ∧ some k_ ≠ (v286 : Value).ownBlock ∧ some k_ ≠ (v289 : Value).ownBlock ∧ k_ ≠ gb238 ∧ k_ ≠ gb239 ∧ k_ ≠ gb248 ∧ k_ ≠ gb274 ∧ k_ ≠ gb291) (.slice Ao86 t282.length co86) t282) := ⟨(by rw [hw]; exact (by (with_reducible repeat (first | apply Kd.V_alloc | apply Kd.V_drewN | apply Kd.V_drew)); exact Kd.V_mono (Kd.V_far (p := ⟨gb291, 2, none⟩) (Kd.V_far (p := ⟨gb291, 1, none⟩) (Kd.V_far (p := ⟨gb291, 0, none⟩) (Kd.V_mono HO284.out (fun k_ hk => (⟨hk, hk.2⟩ : _ ∧ k_ ≠ gb291))) (fun _ hk => hk.2) (.int .i64 t278)) (fun _ hk => hk.2) (.slice Ao85 t279.length co85)) (fun _ hk => hk.2) (.slice Ao86 t282.length co86)) (fun _ hk => ⟨hk.1.1.2.2.1, ⟨hk.1.1.2.2.2.1, ⟨hk.1.1.2.2.2.2.1, ⟨hk.1.1.2.2.2.2.2.1, ⟨hk.1.1.1, ⟨hk.1.1.2.1, ⟨hk.1.1.2.2.2.2.2.2.1, ⟨hk.1.1.2.2.2.2.2.2.2.1, ⟨hk.1.1.2.2.2.2.2.2.2.2.1, ⟨hk.1.1.2.2.2.2.2.2.2.2.2, hk.1.2⟩⟩⟩⟩⟩⟩⟩⟩⟩⟩)))⟩; have n10_ : Aside0 (Kd.R (Kd.int .i64) 3 w87 w.heap.size (fun k_ => some k_ ≠ (v269 : Value).ownBlock) v286 t285) := ⟨(by rw [hw]; exact (by (with_reducible repeat (first | apply Kd.R_alloc | apply Kd.R_drewN | apply Kd.R_drew)); exact Kd.R_mono (Kd.R_far (p := ⟨gb291, 2, none⟩) (Kd.R_far (p := ⟨gb291, 1, none⟩) (Kd.R_far (p := ⟨gb291, 0, none⟩) (Kd.R_types HO287.out BK291.out (by decide)) (fun _ hk => hk.2) (.int .i64 t278)) (fun _ hk => hk.2) (.slice Ao85 t279.length co85)) (fun _ hk => hk.2) (.slice Ao86 t282.length co86)) (fun _ hk => hk.1.2)))⟩; have n11_ : Aside0 (Kd.R Kd.bool 4 w87 w.heap.size (fun k_ => some k_ ≠ (v272 : Value).ownBlock) v289 t288) := ⟨(by rw [hw]; exact (by (with_reducible repeat (first | apply Kd.R_alloc | apply Kd.R_drewN | apply Kd.R_drew)); exact Kd.R_mono (Kd.R_far (p := ⟨gb291, 2, none⟩) (Kd.R_far (p := ⟨gb291, 1, none⟩) (Kd.R_far (p := ⟨gb291, 0, none⟩) (Kd.R_types HO290.out BK291.out (by decide)) (fun _ hk => hk.2) (.int .i64 t278)) (fun _ hk => hk.2) (.slice Ao85 t279.length co85)) (fun _ hk => hk.2) (.slice Ao86 t282.length co86)) (fun _ hk => hk.1.2)))⟩; have n12_ : Aside0 (w87.heap[gb238]? = some (.cells #[.int .i64 (wrap64 (1 + (wrap64 (Int.tmod a3 3)))), .int .i64 0, .int .i64 (wrap64 (a0)), .int .i64 (wrap64 (a1))] 26 (0, 0))) := ⟨(by rw [hw]; exact (by (with_reducible repeat (first | refine blk_drewN ?_ _ | refine blk_drew ?_ | refine blk_alloc ?_ _)); refine blk_far ?_ NB238_291.out _; (with_reducible repeat (first | refine blk_drewN ?_ _ | refine blk_drew ?_ | refine blk_alloc ?_ _)); refine blk_far ?_ NB238_291.out _; (with_reducible repeat (first | refine blk_drewN ?_ _ | refine blk_drew ?_ | refine blk_alloc ?_ _)); refine blk_far ?_ NB238_291.out _; (with_reducible repeat (first | refine blk_drewN ?_ _ | refine blk_drew ?_ | refine blk_alloc ?_ _)); exact BK238.out))⟩; have n13_ : Aside0 (w87.heap[gb239]? = some (.cells #[.int .i64 (wrap64 (1 + (wrap64 (Int.tmod a4 3)))), .int .i64 0, .int .i64 (wrap64 (a0)), .int .i64 (wrap64 (a2))] 26 (0, 0))) := ⟨(by rw [hw]; exact (by (with_reducible repeat (first | refine blk_drewN ?_ _ | refine blk_drew ?_ | refine blk_alloc ?_ _)); refine blk_far ?_ NB239_291.out _; (with_reducible repeat (first | refine blk_drewN ?_ _ | refine blk_drew ?_ | refine blk_alloc ?_ _)); refine blk_far ?_ NB239_291.out _; (with_reducible repeat (first | refine blk_drewN ?_ _ | refine blk_drew ?_ | refine blk_alloc ?_ _)); refine blk_far ?_ NB239_291.out _; (with_reducible repeat (first | refine blk_drewN ?_ _ | refine blk_drew ?_ | refine blk_alloc ?_ _)); exact BK239.out))⟩; have n14_ : Aside0 (w87.heap[gb248]? = some (.cells #[.int .i64 x249000_30, .slice Ao61 x249001_30.length co61, .slice Ao62 x249002_30.length co62] 24 (0, 0))) := ⟨(by rw [hw]; exact (by (with_reducible repeat (first | refine blk_drewN ?_ _ | refine blk_drew ?_ | refine blk_alloc ?_ _)); refine blk_far ?_ NB248_291.out _; (with_reducible repeat (first | refine blk_drewN ?_ _ | refine blk_drew ?_ | refine blk_alloc ?_ _)); refine blk_far ?_ NB248_291.out _; (with_reducible repeat (first | refine blk_drewN ?_ _ | refine blk_drew ?_ | refine blk_alloc ?_ _)); refine blk_far ?_ NB248_291.out _; (with_reducible repeat (first | refine blk_drewN ?_ _ | refine blk_drew ?_ | refine blk_alloc ?_ _)); exact BK248.out))⟩; have n15_ : Aside0 (w87.heap[gb274]? = some (.cells #[.int .i64 t261, .slice Ao70 t262.length co70, .slice Ao71 t265.length co71] 24 (0, 0))) := ⟨(by rw [hw]; exact (by (with_reducible repeat (first | refine blk_drewN ?_ _ | refine blk_drew ?_ | refine blk_alloc ?_ _)); refine blk_far ?_ NB274_291.out _; (with_reducible repeat (first | refine blk_drewN ?_ _ | refine blk_drew ?_ | refine blk_alloc ?_ _)); refine blk_far ?_ NB274_291.out _; (with_reducible repeat (first | refine blk_drewN ?_ _ | refine blk_drew ?_ | refine blk_alloc ?_ _)); refine blk_far ?_ NB274_291.out _; (with_reducible repeat (first | refine blk_drewN ?_ _ | refine blk_drew ?_ | refine blk_alloc ?_ _)); exact BK274.out))⟩; have n16_ : Aside0 (w87.heap[gb291]? = some (.cells #[.int .i64 t278, .slice Ao85 t279.length co85, .slice Ao86 t282.length co86] 24 (0, 0))) := ⟨(by rw [hw]; exact (by (with_reducible repeat (first | refine blk_drewN ?_ _ | refine blk_drew ?_ | refine blk_alloc ?_ _)); refine blk_put (cs := #[.int .i64 t278, .slice Ao85 t279.length co85, .slice none 0 0]) ?_ 2 _ rfl; (with_reducible repeat (first | refine blk_drewN ?_ _ | refine blk_drew ?_ | refine blk_alloc ?_ _)); refine blk_put (cs := #[.int .i64 t278, .slice none 0 0, .slice none 0 0]) ?_ 1 _ rfl; (with_reducible repeat (first | refine blk_drewN ?_ _ | refine blk_drew ?_ | refine blk_alloc ?_ _)); refine blk_put (cs := #[.int .i64 0, .slice none 0 0, .slice none 0 0]) ?_ 0 _ rfl; (with_reducible repeat (first | refine blk_drewN ?_ _ | refine blk_drew ?_ | refine blk_alloc ?_ _)); exact BK291.out))⟩; have n17_ : Aside0 (Below w.heap.size w w87) := ⟨(by rw [hw]; exact (uB HB.out))⟩; clear hw; clear HO_249001; clear HO_249002; clear HO260; clear HO264; clear HO267; clear HO270; clear HO273; clear HO277; clear HO281; clear HO284; clear HO287; clear HO290; clear BK238; clear BK239; clear BK248; clear BK274; clear BK291; clear HB; have HO_249001 := n0_; have HO_249002 := n1_; have HO260 := n2_; have HO264 := n3_; have HO267 := n4_; have HO270 := n5_; have HO273 := n6_; have HO277 := n7_; have HO281 := n8_; have HO284 := n9_; have HO287 := n10_; have HO290 := n11_; have BK238 := n12_; have BK239 := n13_; have BK248 := n14_; have BK274 := n15_; have BK291 := n16_; have HB := n17_; clear n0_ n1_ n2_ n3_ n4_ n5_ n6_ n7_ n8_ n9_ n10_ n11_ n12_ n13_ n14_ n15_ n16_ n17_))
     (try simp only [Act.put, List.setIfInBounds_toArray, List.set_cons_zero, List.set_cons_succ])
     go_cut [110] (fun v110 wc => ∃ (kq : Nat) (x110_51 : Bool), v110 = .bool x110_51 ∧ Aside0 (underwoodlaw09_SpecSeen.j2 kq a0 a1 t237 x14_1 x15_1 t268 t271 t285 t288 x110_51 (wrap64 (1 + (wrap64 (Int.tmod a3 3)))) 0 (wrap64 (a0)) (wrap64 (a1)) (wrap64 (1 + (wrap64 (Int.tmod a4 3)))) 0 (wrap64 (a0)) (wrap64 (a2)) t261 t262 t265 t278 t279 t282 = some r) ∧ Aside0 (kq ≤ kj30) ∧ Aside0 (Kd.R (Kd.int .i64) 3 wc w.heap.size (fun k_ => some k_ ≠ (v286 : Value).ownBlock) v269 t268) ∧ Aside0 (Kd.R Kd.bool 4 wc w.heap.size (fun k_ => some k_ ≠ (v289 : Value).ownBlock) v272 t271) ∧ Aside0 (Kd.R (Kd.int .i64) 3 wc w.heap.size (fun k_ => some k_ ≠ (v269 : Value).ownBlock) v286 t285) ∧ Aside0 (Kd.R Kd.bool 4 wc w.heap.size (fun k_ => some k_ ≠ (v272 : Value).ownBlock) v289 t288) ∧ Aside0 (Kd.V (Kd.int .i64) 3 wc w.heap.size (fun k_ => some k_ ≠ (v269 : Value).ownBlock ∧ some k_ ≠ (v272 : Value).ownBlock ∧ some k_ ≠ (v286 : Value).ownBlock ∧ some k_ ≠ (v289 : Value).ownBlock ∧ k_ ≠ gb238 ∧ k_ ≠ gb239 ∧ k_ ≠ gb248 ∧ k_ ≠ gb274 ∧ k_ ≠ gb291) (.slice Ao61 x249001_30.length co61) x249001_30) ∧ Aside0 (Kd.V (Kd.int .i64) 3 wc w.heap.size (fun k_ => some k_ ≠ (v269 : Value).ownBlock ∧ some k_ ≠ (v272 : Value).ownBlock ∧ some k_ ≠ (v286 : Value).ownBlock ∧ some k_ ≠ (v289 : Value).ownBlock ∧ k_ ≠ gb238 ∧ k_ ≠ gb239 ∧ k_ ≠ gb248 ∧ k_ ≠ gb274 ∧ k_ ≠ gb291) (.slice Ao62 x249002_30.length co62) x249002_30) ∧ Aside0 (Kd.V (Kd.int .i64) 3 wc w.heap.size (fun k_ => some k_ ≠ (v269 : Value).ownBlock ∧ some k_ ≠ (v272 : Value).ownBlock ∧ some k_ ≠ (v286 : Value).ownBlock ∧ some k_ ≠ (v289 : Value).ownBlock ∧ k_ ≠ gb238 ∧ k_ ≠ gb239 ∧ k_ ≠ gb248 ∧ k_ ≠ gb274 ∧ k_ ≠ gb291) (.slice Ao70 t262.length co70) t262) ∧ Aside0 (Kd.V (Kd.int .i64) 3 wc w.heap.size (fun k_ => some k_ ≠ (v269 : Value).ownBlock ∧ some k_ ≠ (v272 : Value).ownBlock ∧ some k_ ≠ (v286 : Value).ownBlock ∧ some k_ ≠ (v289 : Value).ownBlock ∧ k_ ≠ gb238 ∧ k_ ≠ gb239 ∧ k_ ≠ gb248 ∧ k_ ≠ gb274 ∧ k_ ≠ gb291) (.slice Ao71 t265.length co71) t265) ∧ Aside0 (Kd.V (Kd.int .i64) 3 wc w.heap.size (fun k_ => some k_ ≠ (v269 : Value).ownBlock ∧ some k_ ≠ (v272 : Value).ownBlock ∧ some k_ ≠ (v286 : Value).ownBlock ∧ some k_ ≠ (v289 : Value).ownBlock ∧ k_ ≠ gb238 ∧ k_ ≠ gb239 ∧ k_ ≠ gb248 ∧ k_ ≠ gb274 ∧ k_ ≠ gb291) (.slice Ao85 t279.length co85) t279) ∧ Aside0 (Kd.V (Kd.int .i64) 3 wc w.heap.size (fun k_ => some k_ ≠ (v269 : Value).ownBlock ∧ some k_ ≠ (v272 : Value).ownBlock ∧ some k_ ≠ (v286 : Value).ownBlock ∧ some k_ ≠ (v289 : Value).ownBlock ∧ k_ ≠ gb238 ∧ k_ ≠ gb239 ∧ k_ ≠ gb248 ∧ k_ ≠ gb274 ∧ k_ ≠ gb291) (.slice Ao86 t282.length co86) t282) ∧ Aside0 (wc.heap[gb238]? = some (.cells #[.int .i64 (wrap64 (1 + (wrap64 (Int.tmod a3 3)))), .int .i64 0, .int .i64 (wrap64 (a0)), .int .i64 (wrap64 (a1))] 26 (0, 0))) ∧ Aside0 (wc.heap[gb239]? = some (.cells #[.int .i64 (wrap64 (1 + (wrap64 (Int.tmod a4 3)))), .int .i64 0, .int .i64 (wrap64 (a0)), .int .i64 (wrap64 (a2))] 26 (0, 0))) ∧ Aside0 (wc.heap[gb248]? = some (.cells #[.int .i64 x249000_30, (.slice Ao61 x249001_30.length co61), (.slice Ao62 x249002_30.length co62)] 24 (0, 0))) ∧ Aside0 (wc.heap[gb274]? = some (.cells #[.int .i64 t261, (.slice Ao70 t262.length co70), (.slice Ao71 t265.length co71)] 24 (0, 0))) ∧ Aside0 (wc.heap[gb291]? = some (.cells #[.int .i64 t278, (.slice Ao85 t279.length co85), (.slice Ao86 t282.length co86)] 24 (0, 0))) ∧ Aside0 (Below w.heap.size w wc))
     case first =>
      have H := HC52.out
      clear HC52
      by_cases c88 : (t268.length : Int) = 2
      rotate_left
      ·rw [if_neg c88] at H
       have c88b0 : ((t268.length : Int) == 2) = false := beq_eq_false_iff_ne.mpr c88
       have c88b1 : ((t268.length : Int) != 2) = true := bne_iff_ne.mpr c88
       (first | rw [c88b0] | (simp only [i64_w, i32_w]; rw [c88b0]) | skip)
       have H' := Aside0.mk H
       clear H
       obtain ⟨Ao100, co100, eo100⟩ := Kd.R_slice HO270.out
       subst eo100
       go_wp2
       go_meet
       case rel => exact ⟨_, (true), (by first | rfl | (simp; done) | (simp [*]; done)), H', ⟨by have := HK1.out; have := HJ30.out; first | omega | exact Nat.le_refl _⟩, ⟨by (with_reducible repeat (first | apply Kd.R_alloc | apply Kd.R_drewN | apply Kd.R_drew)); exact HO270.out⟩, ⟨by (with_reducible repeat (first | apply Kd.R_alloc | apply Kd.R_drewN | apply Kd.R_drew)); exact HO273.out⟩, ⟨by (with_reducible repeat (first | apply Kd.R_alloc | apply Kd.R_drewN | apply Kd.R_drew)); exact HO287.out⟩, ⟨by (with_reducible repeat (first | apply Kd.R_alloc | apply Kd.R_drewN | apply Kd.R_drew)); exact HO290.out⟩, ⟨by (with_reducible repeat (first | apply Kd.V_alloc | apply Kd.V_drewN | apply Kd.V_drew)); exact Kd.V_mono HO_249001.out (fun _ hk => ⟨hk.2.1, ⟨hk.2.2.1, ⟨hk.2.2.2.2.1, ⟨hk.2.2.2.2.2.1, ⟨hk.2.2.2.2.2.2.1, ⟨hk.2.2.2.2.2.2.2.1, ⟨hk.2.2.2.2.2.2.2.2.1, ⟨hk.2.2.2.2.2.2.2.2.2.1, hk.2.2.2.2.2.2.2.2.2.2⟩⟩⟩⟩⟩⟩⟩⟩)⟩, ⟨by (with_reducible repeat (first | apply Kd.V_alloc | apply Kd.V_drewN | apply Kd.V_drew)); exact Kd.V_mono HO_249002.out (fun _ hk => ⟨hk.2.1, ⟨hk.2.2.1, ⟨hk.2.2.2.2.1, ⟨hk.2.2.2.2.2.1, ⟨hk.2.2.2.2.2.2.1, ⟨hk.2.2.2.2.2.2.2.1, ⟨hk.2.2.2.2.2.2.2.2.1, ⟨hk.2.2.2.2.2.2.2.2.2.1, hk.2.2.2.2.2.2.2.2.2.2⟩⟩⟩⟩⟩⟩⟩⟩)⟩, ⟨by (with_reducible repeat (first | apply Kd.V_alloc | apply Kd.V_drewN | apply Kd.V_drew)); exact Kd.V_mono HO264.out (fun _ hk => ⟨hk.2.1, ⟨hk.2.2.1, ⟨hk.2.2.2.2.1, ⟨hk.2.2.2.2.2.1, ⟨hk.2.2.2.2.2.2.1, ⟨hk.2.2.2.2.2.2.2.1, ⟨hk.2.2.2.2.2.2.2.2.1, ⟨hk.2.2.2.2.2.2.2.2.2.1, hk.2.2.2.2.2.2.2.2.2.2⟩⟩⟩⟩⟩⟩⟩⟩)⟩, ⟨by (with_reducible repeat (first | apply Kd.V_alloc | apply Kd.V_drewN | apply Kd.V_drew)); exact Kd.V_mono HO267.out (fun _ hk => ⟨hk.2.1, ⟨hk.2.2.1, ⟨hk.2.2.2.2.1, ⟨hk.2.2.2.2.2.1, ⟨hk.2.2.2.2.2.2.1, ⟨hk.2.2.2.2.2.2.2.1, ⟨hk.2.2.2.2.2.2.2.2.1, ⟨hk.2.2.2.2.2.2.2.2.2.1, hk.2.2.2.2.2.2.2.2.2.2⟩⟩⟩⟩⟩⟩⟩⟩)⟩, ⟨by (with_reducible repeat (first | apply Kd.V_alloc | apply Kd.V_drewN | apply Kd.V_drew)); exact Kd.V_mono HO281.out (fun _ hk => ⟨hk.2.1, ⟨hk.2.2.1, ⟨hk.2.2.2.2.1, ⟨hk.2.2.2.2.2.1, ⟨hk.2.2.2.2.2.2.1, ⟨hk.2.2.2.2.2.2.2.1, ⟨hk.2.2.2.2.2.2.2.2.1, ⟨hk.2.2.2.2.2.2.2.2.2.1, hk.2.2.2.2.2.2.2.2.2.2⟩⟩⟩⟩⟩⟩⟩⟩)⟩, ⟨by (with_reducible repeat (first | apply Kd.V_alloc | apply Kd.V_drewN | apply Kd.V_drew)); exact Kd.V_mono HO284.out (fun _ hk => ⟨hk.2.1, ⟨hk.2.2.1, ⟨hk.2.2.2.2.1, ⟨hk.2.2.2.2.2.1, ⟨hk.2.2.2.2.2.2.1, ⟨hk.2.2.2.2.2.2.2.1, ⟨hk.2.2.2.2.2.2.2.2.1, ⟨hk.2.2.2.2.2.2.2.2.2.1, hk.2.2.2.2.2.2.2.2.2.2⟩⟩⟩⟩⟩⟩⟩⟩)⟩, ⟨by (with_reducible repeat (first | refine blk_drewN ?_ _ | refine blk_drew ?_ | refine blk_alloc ?_ _)); exact BK238.out⟩, ⟨by (with_reducible repeat (first | refine blk_drewN ?_ _ | refine blk_drew ?_ | refine blk_alloc ?_ _)); exact BK239.out⟩, ⟨by (with_reducible repeat (first | refine blk_drewN ?_ _ | refine blk_drew ?_ | refine blk_alloc ?_ _)); exact BK248.out⟩, ⟨by (with_reducible repeat (first | refine blk_drewN ?_ _ | refine blk_drew ?_ | refine blk_alloc ?_ _)); exact BK274.out⟩, ⟨by (with_reducible repeat (first | refine blk_drewN ?_ _ | refine blk_drew ?_ | refine blk_alloc ?_ _)); exact BK291.out⟩, ⟨uB HB.out⟩⟩
      rw [if_pos c88] at H
      have c88b0 : ((t268.length : Int) == 2) = true := beq_iff_eq.mpr c88
      have c88b1 : ((t268.length : Int) != 2) = false := bne_eq_false_iff_eq.mpr c88
      clear c88
      (first | rw [c88b0] | (simp only [i64_w, i32_w]; rw [c88b0]) | skip)
      by_cases c89 : (t285.length : Int) = 2
      rotate_left
      ·rw [if_neg c89] at H
       have c89b0 : ((t285.length : Int) == 2) = false := beq_eq_false_iff_ne.mpr c89
       have c89b1 : ((t285.length : Int) != 2) = true := bne_iff_ne.mpr c89
       have H' := Aside0.mk H
       clear H
       obtain ⟨Ao98, co98, eo98⟩ := Kd.R_slice HO270.out
       subst eo98
       obtain ⟨Ao99, co99, eo99⟩ := Kd.R_slice HO287.out
       subst eo99
       go_wp2
       go_meet
       case rel => exact ⟨_, (true), (by first | rfl | (simp; done) | (simp [*]; done)), H', ⟨by have := HK1.out; have := HJ30.out; first | omega | exact Nat.le_refl _⟩, ⟨by (with_reducible repeat (first | apply Kd.R_alloc | apply Kd.R_drewN | apply Kd.R_drew)); exact HO270.out⟩, ⟨by (with_reducible repeat (first | apply Kd.R_alloc | apply Kd.R_drewN | apply Kd.R_drew)); exact HO273.out⟩, ⟨by (with_reducible repeat (first | apply Kd.R_alloc | apply Kd.R_drewN | apply Kd.R_drew)); exact HO287.out⟩, ⟨by (with_reducible repeat (first | apply Kd.R_alloc | apply Kd.R_drewN | apply Kd.R_drew)); exact HO290.out⟩, ⟨by (with_reducible repeat (first | apply Kd.V_alloc | apply Kd.V_drewN | apply Kd.V_drew)); exact Kd.V_mono HO_249001.out (fun _ hk => ⟨hk.2.1, ⟨hk.2.2.1, ⟨hk.2.2.2.2.1, ⟨hk.2.2.2.2.2.1, ⟨hk.2.2.2.2.2.2.1, ⟨hk.2.2.2.2.2.2.2.1, ⟨hk.2.2.2.2.2.2.2.2.1, ⟨hk.2.2.2.2.2.2.2.2.2.1, hk.2.2.2.2.2.2.2.2.2.2⟩⟩⟩⟩⟩⟩⟩⟩)⟩, ⟨by (with_reducible repeat (first | apply Kd.V_alloc | apply Kd.V_drewN | apply Kd.V_drew)); exact Kd.V_mono HO_249002.out (fun _ hk => ⟨hk.2.1, ⟨hk.2.2.1, ⟨hk.2.2.2.2.1, ⟨hk.2.2.2.2.2.1, ⟨hk.2.2.2.2.2.2.1, ⟨hk.2.2.2.2.2.2.2.1, ⟨hk.2.2.2.2.2.2.2.2.1, ⟨hk.2.2.2.2.2.2.2.2.2.1, hk.2.2.2.2.2.2.2.2.2.2⟩⟩⟩⟩⟩⟩⟩⟩)⟩, ⟨by (with_reducible repeat (first | apply Kd.V_alloc | apply Kd.V_drewN | apply Kd.V_drew)); exact Kd.V_mono HO264.out (fun _ hk => ⟨hk.2.1, ⟨hk.2.2.1, ⟨hk.2.2.2.2.1, ⟨hk.2.2.2.2.2.1, ⟨hk.2.2.2.2.2.2.1, ⟨hk.2.2.2.2.2.2.2.1, ⟨hk.2.2.2.2.2.2.2.2.1, ⟨hk.2.2.2.2.2.2.2.2.2.1, hk.2.2.2.2.2.2.2.2.2.2⟩⟩⟩⟩⟩⟩⟩⟩)⟩, ⟨by (with_reducible repeat (first | apply Kd.V_alloc | apply Kd.V_drewN | apply Kd.V_drew)); exact Kd.V_mono HO267.out (fun _ hk => ⟨hk.2.1, ⟨hk.2.2.1, ⟨hk.2.2.2.2.1, ⟨hk.2.2.2.2.2.1, ⟨hk.2.2.2.2.2.2.1, ⟨hk.2.2.2.2.2.2.2.1, ⟨hk.2.2.2.2.2.2.2.2.1, ⟨hk.2.2.2.2.2.2.2.2.2.1, hk.2.2.2.2.2.2.2.2.2.2⟩⟩⟩⟩⟩⟩⟩⟩)⟩, ⟨by (with_reducible repeat (first | apply Kd.V_alloc | apply Kd.V_drewN | apply Kd.V_drew)); exact Kd.V_mono HO281.out (fun _ hk => ⟨hk.2.1, ⟨hk.2.2.1, ⟨hk.2.2.2.2.1, ⟨hk.2.2.2.2.2.1, ⟨hk.2.2.2.2.2.2.1, ⟨hk.2.2.2.2.2.2.2.1, ⟨hk.2.2.2.2.2.2.2.2.1, ⟨hk.2.2.2.2.2.2.2.2.2.1, hk.2.2.2.2.2.2.2.2.2.2⟩⟩⟩⟩⟩⟩⟩⟩)⟩, ⟨by (with_reducible repeat (first | apply Kd.V_alloc | apply Kd.V_drewN | apply Kd.V_drew)); exact Kd.V_mono HO284.out (fun _ hk => ⟨hk.2.1, ⟨hk.2.2.1, ⟨hk.2.2.2.2.1, ⟨hk.2.2.2.2.2.1, ⟨hk.2.2.2.2.2.2.1, ⟨hk.2.2.2.2.2.2.2.1, ⟨hk.2.2.2.2.2.2.2.2.1, ⟨hk.2.2.2.2.2.2.2.2.2.1, hk.2.2.2.2.2.2.2.2.2.2⟩⟩⟩⟩⟩⟩⟩⟩)⟩, ⟨by (with_reducible repeat (first | refine blk_drewN ?_ _ | refine blk_drew ?_ | refine blk_alloc ?_ _)); exact BK238.out⟩, ⟨by (with_reducible repeat (first | refine blk_drewN ?_ _ | refine blk_drew ?_ | refine blk_alloc ?_ _)); exact BK239.out⟩, ⟨by (with_reducible repeat (first | refine blk_drewN ?_ _ | refine blk_drew ?_ | refine blk_alloc ?_ _)); exact BK248.out⟩, ⟨by (with_reducible repeat (first | refine blk_drewN ?_ _ | refine blk_drew ?_ | refine blk_alloc ?_ _)); exact BK274.out⟩, ⟨by (with_reducible repeat (first | refine blk_drewN ?_ _ | refine blk_drew ?_ | refine blk_alloc ?_ _)); exact BK291.out⟩, ⟨uB HB.out⟩⟩
      rw [if_pos c89] at H
      have c89b0 : ((t285.length : Int) == 2) = true := beq_iff_eq.mpr c89
      have c89b1 : ((t285.length : Int) != 2) = false := bne_eq_false_iff_eq.mpr c89
      clear c89
      by_cases c90 : (t271.length : Int) = 2
      rotate_left
      ·rw [if_neg c90] at H
       have c90b0 : ((t271.length : Int) == 2) = false := beq_eq_false_iff_ne.mpr c90
       have c90b1 : ((t271.length : Int) != 2) = true := bne_iff_ne.mpr c90
       have H' := Aside0.mk H
       clear H
       obtain ⟨Ao95, co95, eo95⟩ := Kd.R_slice HO270.out
       subst eo95
       obtain ⟨Ao96, co96, eo96⟩ := Kd.R_slice HO287.out
       subst eo96
       obtain ⟨Ao97, co97, eo97⟩ := Kd.R_slice HO273.out
       subst eo97
       go_wp2
       go_meet
       case rel => exact ⟨_, (true), (by first | rfl | (simp; done) | (simp [*]; done)), H', ⟨by have := HK1.out; have := HJ30.out; first | omega | exact Nat.le_refl _⟩, ⟨by (with_reducible repeat (first | apply Kd.R_alloc | apply Kd.R_drewN | apply Kd.R_drew)); exact HO270.out⟩, ⟨by (with_reducible repeat (first | apply Kd.R_alloc | apply Kd.R_drewN | apply Kd.R_drew)); exact HO273.out⟩, ⟨by (with_reducible repeat (first | apply Kd.R_alloc | apply Kd.R_drewN | apply Kd.R_drew)); exact HO287.out⟩, ⟨by (with_reducible repeat (first | apply Kd.R_alloc | apply Kd.R_drewN | apply Kd.R_drew)); exact HO290.out⟩, ⟨by (with_reducible repeat (first | apply Kd.V_alloc | apply Kd.V_drewN | apply Kd.V_drew)); exact Kd.V_mono HO_249001.out (fun _ hk => ⟨hk.2.1, ⟨hk.2.2.1, ⟨hk.2.2.2.2.1, ⟨hk.2.2.2.2.2.1, ⟨hk.2.2.2.2.2.2.1, ⟨hk.2.2.2.2.2.2.2.1, ⟨hk.2.2.2.2.2.2.2.2.1, ⟨hk.2.2.2.2.2.2.2.2.2.1, hk.2.2.2.2.2.2.2.2.2.2⟩⟩⟩⟩⟩⟩⟩⟩)⟩, ⟨by (with_reducible repeat (first | apply Kd.V_alloc | apply Kd.V_drewN | apply Kd.V_drew)); exact Kd.V_mono HO_249002.out (fun _ hk => ⟨hk.2.1, ⟨hk.2.2.1, ⟨hk.2.2.2.2.1, ⟨hk.2.2.2.2.2.1, ⟨hk.2.2.2.2.2.2.1, ⟨hk.2.2.2.2.2.2.2.1, ⟨hk.2.2.2.2.2.2.2.2.1, ⟨hk.2.2.2.2.2.2.2.2.2.1, hk.2.2.2.2.2.2.2.2.2.2⟩⟩⟩⟩⟩⟩⟩⟩)⟩, ⟨by (with_reducible repeat (first | apply Kd.V_alloc | apply Kd.V_drewN | apply Kd.V_drew)); exact Kd.V_mono HO264.out (fun _ hk => ⟨hk.2.1, ⟨hk.2.2.1, ⟨hk.2.2.2.2.1, ⟨hk.2.2.2.2.2.1, ⟨hk.2.2.2.2.2.2.1, ⟨hk.2.2.2.2.2.2.2.1, ⟨hk.2.2.2.2.2.2.2.2.1, ⟨hk.2.2.2.2.2.2.2.2.2.1, hk.2.2.2.2.2.2.2.2.2.2⟩⟩⟩⟩⟩⟩⟩⟩)⟩, ⟨by (with_reducible repeat (first | apply Kd.V_alloc | apply Kd.V_drewN | apply Kd.V_drew)); exact Kd.V_mono HO267.out (fun _ hk => ⟨hk.2.1, ⟨hk.2.2.1, ⟨hk.2.2.2.2.1, ⟨hk.2.2.2.2.2.1, ⟨hk.2.2.2.2.2.2.1, ⟨hk.2.2.2.2.2.2.2.1, ⟨hk.2.2.2.2.2.2.2.2.1, ⟨hk.2.2.2.2.2.2.2.2.2.1, hk.2.2.2.2.2.2.2.2.2.2⟩⟩⟩⟩⟩⟩⟩⟩)⟩, ⟨by (with_reducible repeat (first | apply Kd.V_alloc | apply Kd.V_drewN | apply Kd.V_drew)); exact Kd.V_mono HO281.out (fun _ hk => ⟨hk.2.1, ⟨hk.2.2.1, ⟨hk.2.2.2.2.1, ⟨hk.2.2.2.2.2.1, ⟨hk.2.2.2.2.2.2.1, ⟨hk.2.2.2.2.2.2.2.1, ⟨hk.2.2.2.2.2.2.2.2.1, ⟨hk.2.2.2.2.2.2.2.2.2.1, hk.2.2.2.2.2.2.2.2.2.2⟩⟩⟩⟩⟩⟩⟩⟩)⟩, ⟨by (with_reducible repeat (first | apply Kd.V_alloc | apply Kd.V_drewN | apply Kd.V_drew)); exact Kd.V_mono HO284.out (fun _ hk => ⟨hk.2.1, ⟨hk.2.2.1, ⟨hk.2.2.2.2.1, ⟨hk.2.2.2.2.2.1, ⟨hk.2.2.2.2.2.2.1, ⟨hk.2.2.2.2.2.2.2.1, ⟨hk.2.2.2.2.2.2.2.2.1, ⟨hk.2.2.2.2.2.2.2.2.2.1, hk.2.2.2.2.2.2.2.2.2.2⟩⟩⟩⟩⟩⟩⟩⟩)⟩, ⟨by (with_reducible repeat (first | refine blk_drewN ?_ _ | refine blk_drew ?_ | refine blk_alloc ?_ _)); exact BK238.out⟩, ⟨by (with_reducible repeat (first | refine blk_drewN ?_ _ | refine blk_drew ?_ | refine blk_alloc ?_ _)); exact BK239.out⟩, ⟨by (with_reducible repeat (first | refine blk_drewN ?_ _ | refine blk_drew ?_ | refine blk_alloc ?_ _)); exact BK248.out⟩, ⟨by (with_reducible repeat (first | refine blk_drewN ?_ _ | refine blk_drew ?_ | refine blk_alloc ?_ _)); exact BK274.out⟩, ⟨by (with_reducible repeat (first | refine blk_drewN ?_ _ | refine blk_drew ?_ | refine blk_alloc ?_ _)); exact BK291.out⟩, ⟨uB HB.out⟩⟩
      rw [if_pos c90] at H
      have c90b0 : ((t271.length : Int) == 2) = true := beq_iff_eq.mpr c90
      have c90b1 : ((t271.length : Int) != 2) = false := bne_eq_false_iff_eq.mpr c90
      clear c90
      have H' := Aside0.mk H
      clear H
      obtain ⟨Ao91, co91, eo91⟩ := Kd.R_slice HO270.out
      subst eo91
      obtain ⟨Ao92, co92, eo92⟩ := Kd.R_slice HO287.out
      subst eo92
      obtain ⟨Ao93, co93, eo93⟩ := Kd.R_slice HO273.out
      subst eo93
      obtain ⟨Ao94, co94, eo94⟩ := Kd.R_slice HO290.out
      subst eo94
      go_wp2
      go_meet
      case rel => exact ⟨_, (((t288.length : Int) != 2)), (by first | rfl | (simp; done) | (simp [*]; done)), H', ⟨by have := HK1.out; have := HJ30.out; first | omega | exact Nat.le_refl _⟩, ⟨by (with_reducible repeat (first | apply Kd.R_alloc | apply Kd.R_drewN | apply Kd.R_drew)); exact HO270.out⟩, ⟨by (with_reducible repeat (first | apply Kd.R_alloc | apply Kd.R_drewN | apply Kd.R_drew)); exact HO273.out⟩, ⟨by (with_reducible repeat (first | apply Kd.R_alloc | apply Kd.R_drewN | apply Kd.R_drew)); exact HO287.out⟩, ⟨by (with_reducible repeat (first | apply Kd.R_alloc | apply Kd.R_drewN | apply Kd.R_drew)); exact HO290.out⟩, ⟨by (with_reducible repeat (first | apply Kd.V_alloc | apply Kd.V_drewN | apply Kd.V_drew)); exact Kd.V_mono HO_249001.out (fun _ hk => ⟨hk.2.1, ⟨hk.2.2.1, ⟨hk.2.2.2.2.1, ⟨hk.2.2.2.2.2.1, ⟨hk.2.2.2.2.2.2.1, ⟨hk.2.2.2.2.2.2.2.1, ⟨hk.2.2.2.2.2.2.2.2.1, ⟨hk.2.2.2.2.2.2.2.2.2.1, hk.2.2.2.2.2.2.2.2.2.2⟩⟩⟩⟩⟩⟩⟩⟩)⟩, ⟨by (with_reducible repeat (first | apply Kd.V_alloc | apply Kd.V_drewN | apply Kd.V_drew)); exact Kd.V_mono HO_249002.out (fun _ hk => ⟨hk.2.1, ⟨hk.2.2.1, ⟨hk.2.2.2.2.1, ⟨hk.2.2.2.2.2.1, ⟨hk.2.2.2.2.2.2.1, ⟨hk.2.2.2.2.2.2.2.1, ⟨hk.2.2.2.2.2.2.2.2.1, ⟨hk.2.2.2.2.2.2.2.2.2.1, hk.2.2.2.2.2.2.2.2.2.2⟩⟩⟩⟩⟩⟩⟩⟩)⟩, ⟨by (with_reducible repeat (first | apply Kd.V_alloc | apply Kd.V_drewN | apply Kd.V_drew)); exact Kd.V_mono HO264.out (fun _ hk => ⟨hk.2.1, ⟨hk.2.2.1, ⟨hk.2.2.2.2.1, ⟨hk.2.2.2.2.2.1, ⟨hk.2.2.2.2.2.2.1, ⟨hk.2.2.2.2.2.2.2.1, ⟨hk.2.2.2.2.2.2.2.2.1, ⟨hk.2.2.2.2.2.2.2.2.2.1, hk.2.2.2.2.2.2.2.2.2.2⟩⟩⟩⟩⟩⟩⟩⟩)⟩, ⟨by (with_reducible repeat (first | apply Kd.V_alloc | apply Kd.V_drewN | apply Kd.V_drew)); exact Kd.V_mono HO267.out (fun _ hk => ⟨hk.2.1, ⟨hk.2.2.1, ⟨hk.2.2.2.2.1, ⟨hk.2.2.2.2.2.1, ⟨hk.2.2.2.2.2.2.1, ⟨hk.2.2.2.2.2.2.2.1, ⟨hk.2.2.2.2.2.2.2.2.1, ⟨hk.2.2.2.2.2.2.2.2.2.1, hk.2.2.2.2.2.2.2.2.2.2⟩⟩⟩⟩⟩⟩⟩⟩)⟩, ⟨by (with_reducible repeat (first | apply Kd.V_alloc | apply Kd.V_drewN | apply Kd.V_drew)); exact Kd.V_mono HO281.out (fun _ hk => ⟨hk.2.1, ⟨hk.2.2.1, ⟨hk.2.2.2.2.1, ⟨hk.2.2.2.2.2.1, ⟨hk.2.2.2.2.2.2.1, ⟨hk.2.2.2.2.2.2.2.1, ⟨hk.2.2.2.2.2.2.2.2.1, ⟨hk.2.2.2.2.2.2.2.2.2.1, hk.2.2.2.2.2.2.2.2.2.2⟩⟩⟩⟩⟩⟩⟩⟩)⟩, ⟨by (with_reducible repeat (first | apply Kd.V_alloc | apply Kd.V_drewN | apply Kd.V_drew)); exact Kd.V_mono HO284.out (fun _ hk => ⟨hk.2.1, ⟨hk.2.2.1, ⟨hk.2.2.2.2.1, ⟨hk.2.2.2.2.2.1, ⟨hk.2.2.2.2.2.2.1, ⟨hk.2.2.2.2.2.2.2.1, ⟨hk.2.2.2.2.2.2.2.2.1, ⟨hk.2.2.2.2.2.2.2.2.2.1, hk.2.2.2.2.2.2.2.2.2.2⟩⟩⟩⟩⟩⟩⟩⟩)⟩, ⟨by (with_reducible repeat (first | refine blk_drewN ?_ _ | refine blk_drew ?_ | refine blk_alloc ?_ _)); exact BK238.out⟩, ⟨by (with_reducible repeat (first | refine blk_drewN ?_ _ | refine blk_drew ?_ | refine blk_alloc ?_ _)); exact BK239.out⟩, ⟨by (with_reducible repeat (first | refine blk_drewN ?_ _ | refine blk_drew ?_ | refine blk_alloc ?_ _)); exact BK248.out⟩, ⟨by (with_reducible repeat (first | refine blk_drewN ?_ _ | refine blk_drew ?_ | refine blk_alloc ?_ _)); exact BK274.out⟩, ⟨by (with_reducible repeat (first | refine blk_drewN ?_ _ | refine blk_drew ?_ | refine blk_alloc ?_ _)); exact BK291.out⟩, ⟨uB HB.out⟩⟩
     case rest =>
      clear HC52
      try clear c1
      try clear c2
      try clear p2
      try clear c3
      try clear c4
      try clear c5
      try clear c6
      try clear p6
      try clear c7
      try clear c8
      try clear c9
      try clear c10
      try clear c10b0
      try clear c10b1
      try clear c11
      try clear c13
      try clear c15
      try clear c16
      try clear c17
      try clear c25
      try clear c29
      try clear c29b0
      try clear c34
      try clear c35
      try clear c40
      try clear c40b0
      try clear c40b1
      try clear c42
      try clear c43
      try clear c53
      try clear c54
      try clear c56
      try clear p64
      try clear c66
      try clear c67
      try clear c68
      try clear c80
      try clear c81
      try clear c82
      try clear c83
      try clear c88
      try clear c88b0
      try clear c88b1
      try clear c89
      try clear c89b0
      try clear c89b1
      try clear c90
      try clear c90b0
      try clear c90b1
      try clear hcz13_0
      try clear hcz13_1
      try clear hcz13_2
      try clear hcz13_3
      try clear hcz16_0
      try clear hcz16_1
      try clear hcz16_2
      try clear hcz16_3
      try clear hcz17_0
      try clear hcz17_1
      try clear hcz17_2
      try clear hcz17_3
      try clear hcz19_0
      try clear hcz19_1
      try clear hcz19_2
      try clear hcz19_3
      try clear hcz20_0
      try clear hcz20_1
      try clear hcz20_2
      try clear hcz20_3
      try clear hcz23_0
      try clear hcz23_1
      try clear hcz23_2
      try clear hcz23_3
      try clear hcz26_0
      try clear hcz26_1
      try clear hcz26_2
      try clear hcz26_3
      try clear hcz27_0
      try clear hcz27_1
      try clear hcz27_2
      try clear hcz27_3
      try clear hcz36_0
      try clear hcz36_1
      try clear hcz36_2
      try clear hcz44_0
      try clear hcz44_1
      try clear hcz44_2
      try clear hcz46_0
      try clear hcz46_1
      try clear hcz46_2
      try clear hcz55_0
      try clear hcz55_1
      try clear hcz55_2
      try clear hcz57_0
      try clear hcz57_1
      try clear hcz57_2
      try clear hcz57_3
      try clear hcz58_0
      try clear hcz58_1
      try clear hcz58_2
      try clear hcz58_3
      try clear hcz69_0
      try clear hcz69_1
      try clear hcz69_2
      try clear hcz72_0
      try clear hcz72_1
      try clear hcz72_2
      try clear hcz73_0
      try clear hcz73_1
      try clear hcz73_2
      try clear hcz73_3
      try clear hcz74_0
      try clear hcz74_1
      try clear hcz74_2
      try clear hcz74_3
      try clear hcz84_0
      try clear hcz84_1
      try clear hcz84_2
      try clear hfz13_0
      try clear hfz13_1
      try clear hfz13_2
      try clear hfz13_3
      try clear hfz16_0
      try clear hfz16_1
      try clear hfz16_2
      try clear hfz16_3
      try clear hfz17_0
      try clear hfz17_1
      try clear hfz17_2
      try clear hfz17_3
      try clear hfz19_0
      try clear hfz19_1
      try clear hfz19_2
      try clear hfz19_3
      try clear hfz20_0
      try clear hfz20_1
      try clear hfz20_2
      try clear hfz20_3
      try clear hfz23_0
      try clear hfz23_1
      try clear hfz23_2
      try clear hfz23_3
      try clear hfz26_0
      try clear hfz26_1
      try clear hfz26_2
      try clear hfz26_3
      try clear hfz27_0
      try clear hfz27_1
      try clear hfz27_2
      try clear hfz27_3
      try clear hfz36_0
      try clear hfz36_1
      try clear hfz36_2
      try clear hfz44_0
      try clear hfz44_1
      try clear hfz44_2
      try clear hfz46_0
      try clear hfz46_1
      try clear hfz46_2
      try clear hfz55_0
      try clear hfz55_1
      try clear hfz55_2
      try clear hfz57_0
      try clear hfz57_1
      try clear hfz57_2
      try clear hfz57_3
      try clear hfz58_0
      try clear hfz58_1
      try clear hfz58_2
      try clear hfz58_3
      try clear hfz69_0
      try clear hfz69_1
      try clear hfz69_2
      try clear hfz72_0
      try clear hfz72_1
      try clear hfz72_2
      try clear hfz73_0
      try clear hfz73_1
      try clear hfz73_2
      try clear hfz73_3
      try clear hfz74_0
      try clear hfz74_1
      try clear hfz74_2
      try clear hfz74_3
      try clear hfz84_0
      try clear hfz84_1
      try clear hfz84_2
      try clear p2
      try clear p6
      obtain ⟨kq, x110_51, rfl, HA, HJ51, HO_18, HO_19, HO_21, HO_22, HO_249001, HO_249002, HO_275001, HO_275002, HO_292001, HO_292002, BK238, BK239, BK248, BK274, BK291, HB⟩ := hcut
      cases kq with
      | zero => exact absurd HA.out (by simp [underwoodlaw09_SpecSeen.j2])
      | succ kj51 =>
       have H := HA.out
       clear HA
       simp only [underwoodlaw09_SpecSeen.j2] at H
       by_cases c101 : x110_51 = true
       ·subst c101
        have H1 : (some false) = some r := by rw [if_pos rfl] at H; exact H
        clear H
        have H := H1
        clear H1
        exact absurd hr (by rw [← Option.some.inj H]; decide)
       replace c101 := Bool.eq_false_iff.mpr c101
       subst c101
       have H1 : (if x14_1 = true then (underwoodlaw09_SpecSeen.l0 kj51 a0 a1 t237 true (wrap64 (x15_1 + 1)) (wrap64 (1 + (wrap64 (Int.tmod a3 3)))) 0 (wrap64 (a0)) (wrap64 (a1)) (wrap64 (1 + (wrap64 (Int.tmod a4 3)))) 0 (wrap64 (a0)) (wrap64 (a2))) else ((underwoodref09_Same.f kj51 t261 t262 t265 t278 t279 t282).bind fun t292 => (if t292 = true then (if 0 < (t268.length : Int) then (if 1 < (t285.length : Int) then (if (rd t268 0) = (rd t285 1) then (if 1 < (t268.length : Int) then (if 0 < (t285.length : Int) then (if (rd t268 1) = (rd t285 0) then (if 0 < (t271.length : Int) then (if 1 < (t288.length : Int) then (if ((rdOf false t271 0) != (rdOf false t288 1)) = true then (underwoodlaw09_SpecSeen.l0 kj51 a0 a1 t237 true (wrap64 (x15_1 + 1)) (wrap64 (1 + (wrap64 (Int.tmod a3 3)))) 0 (wrap64 (a0)) (wrap64 (a1)) (wrap64 (1 + (wrap64 (Int.tmod a4 3)))) 0 (wrap64 (a0)) (wrap64 (a2))) else (if 1 < (t271.length : Int) then (if 0 < (t288.length : Int) then (underwoodlaw09_SpecSeen.l0 kj51 a0 a1 t237 ((rdOf false t271 1) != (rdOf false t288 0)) (wrap64 (x15_1 + 1)) (wrap64 (1 + (wrap64 (Int.tmod a3 3)))) 0 (wrap64 (a0)) (wrap64 (a1)) (wrap64 (1 + (wrap64 (Int.tmod a4 3)))) 0 (wrap64 (a0)) (wrap64 (a2))) else (none)) else (none))) else (none)) else (none)) else (underwoodlaw09_SpecSeen.l0 kj51 a0 a1 t237 true (wrap64 (x15_1 + 1)) (wrap64 (1 + (wrap64 (Int.tmod a3 3)))) 0 (wrap64 (a0)) (wrap64 (a1)) (wrap64 (1 + (wrap64 (Int.tmod a4 3)))) 0 (wrap64 (a0)) (wrap64 (a2)))) else (none)) else (none)) else (underwoodlaw09_SpecSeen.l0 kj51 a0 a1 t237 true (wrap64 (x15_1 + 1)) (wrap64 (1 + (wrap64 (Int.tmod a3 3)))) 0 (wrap64 (a0)) (wrap64 (a1)) (wrap64 (1 + (wrap64 (Int.tmod a4 3)))) 0 (wrap64 (a0)) (wrap64 (a2)))) else (none)) else (none)) else (underwoodlaw09_SpecSeen.l0 kj51 a0 a1 t237 true (wrap64 (x15_1 + 1)) (wrap64 (1 + (wrap64 (Int.tmod a3 3)))) 0 (wrap64 (a0)) (wrap64 (a1)) (wrap64 (1 + (wrap64 (Int.tmod a4 3)))) 0 (wrap64 (a0)) (wrap64 (a2)))))) = some r := by rw [if_neg (show ¬ (false = true) by decide)] at H; exact H
       clear H
       have H := H1
       clear H1
       by_cases c102 : x14_1 = true
       ·subst c102
        have H1 : (underwoodlaw09_SpecSeen.l0 kj51 a0 a1 t237 true (wrap64 (x15_1 + 1)) (wrap64 (1 + (wrap64 (Int.tmod a3 3)))) 0 (wrap64 (a0)) (wrap64 (a1)) (wrap64 (1 + (wrap64 (Int.tmod a4 3)))) 0 (wrap64 (a0)) (wrap64 (a2))) = some r := by rw [if_pos rfl] at H; exact H
        clear H
        have H := H1
        clear H1
        have H' := Aside0.mk H
        clear H
        try go_wp2
        have n10_ := Aside0.mk (blk_drew BK238.out)
        have n11_ := Aside0.mk (blk_drew BK239.out)
        have n15_ := Aside0.mk (below_drew1 HB.out)
        clear BK238 BK239 HB
        have BK238 := n10_
        have BK239 := n11_
        have HB := n15_
        clear n10_ n11_ n15_
        refine start_ (n := 44) (S := fun w' => True) (ds := []) (bA 44 0) (by kernel_rfl) rfl (by kernel_rfl) trivial (fun hHeld => ?_); refine with_tabW underwoodlaw09_SpecSeen.tab17 underwoodlaw09_SpecSeen.bits17 (fun HT_ HW_ => ?_)
        generalize wc.drew = w103 at BK238 BK239 HB hHeld ⊢
        refine pu 0 111 44 1 HT_.out (h := ?_)
        refine pu 1 112 44 3 HT_.out (h := ?_)
        refine pz 2 113 44 7 HT_.out (h := ?_)
        refine pz 3 114 44 15 HT_.out (h := ?_)
        refine pz 4 115 44 31 HT_.out (h := ?_)
        refine pz 5 116 44 63 HT_.out (h := ?_)
        refine pu 6 117 44 127 HT_.out (h := ?_)
        refine pu 7 118 44 255 HT_.out (h := ?_)
        refine pz 8 119 44 511 HT_.out (h := ?_)
        refine pz 9 120 44 1023 HT_.out (h := ?_)
        refine pz 10 121 44 2047 HT_.out (h := ?_)
        refine pz 11 122 44 4095 HT_.out (h := ?_)
        refine pz 12 123 44 8191 HT_.out (h := ?_)
        refine pz 13 124 44 16383 HT_.out (h := ?_)
        refine pz 14 125 44 32767 HT_.out (h := ?_)
        refine pu 15 126 44 65535 HT_.out (h := ?_)
        refine pu 16 127 44 131071 HT_.out (h := ?_)
        refine pz 17 128 44 262143 HT_.out (h := ?_)
        refine pz 18 129 44 524287 HT_.out (h := ?_)
        refine pz 19 130 44 1048575 HT_.out (h := ?_)
        refine pz 20 131 44 2097151 HT_.out (h := ?_)
        refine pz 21 132 44 4194303 HT_.out (h := ?_)
        refine pz 22 133 44 8388607 HT_.out (h := ?_)
        refine pz 23 134 44 16777215 HT_.out (h := ?_)
        refine pu 24 135 44 33554431 HT_.out (h := ?_)
        refine pu 25 136 44 67108863 HT_.out (h := ?_)
        refine pz 26 137 44 134217727 HT_.out (h := ?_)
        refine pz 27 138 44 268435455 HT_.out (h := ?_)
        refine pz 28 139 44 536870911 HT_.out (h := ?_)
        refine pz 29 140 44 1073741823 HT_.out (h := ?_)
        refine pz 30 141 44 2147483647 HT_.out (h := ?_)
        refine pz 31 142 44 4294967295 HT_.out (h := ?_)
        refine pz 32 143 44 8589934591 HT_.out (h := ?_)
        refine pu 33 144 44 17179869183 HT_.out (h := ?_)
        refine pu 34 145 44 34359738367 HT_.out (h := ?_)
        refine pz 35 146 44 68719476735 HT_.out (h := ?_)
        refine pz 36 147 44 137438953471 HT_.out (h := ?_)
        refine pz 37 148 44 274877906943 HT_.out (h := ?_)
        refine pz 38 149 44 549755813887 HT_.out (h := ?_)
        refine pz 39 150 44 1099511627775 HT_.out (h := ?_)
        refine pz 40 151 44 2199023255551 HT_.out (h := ?_)
        refine pz 41 152 44 4398046511103 HT_.out (h := ?_)
        refine pu 42 153 44 8796093022207 HT_.out (h := ?_)
        refine pu 43 14 44 17592186044415 HT_.out (h := ?_)
        refine done_ (done_of HT_.out (by kernel_rfl)) ?_
        try go_wp2
        go_roundg kj51
        case measure => have := HK1.out; have := HJ30.out; have := HJ51.out; omega
        case rel => exact ⟨(true), (wrap64 (x15_1 + 1)), (by first | rfl | (simp; done) | (simp [*]; done)), (by first | rfl | (simp; done) | (simp [*]; done)), H', ⟨by have := HK1.out; have := HJ30.out; have := HJ51.out; omega⟩, ⟨by (with_reducible repeat (first | refine blk_drewN ?_ _ | refine blk_drew ?_ | refine blk_alloc ?_ _)); exact BK238.out⟩, ⟨by (with_reducible repeat (first | refine blk_drewN ?_ _ | refine blk_drew ?_ | refine blk_alloc ?_ _)); exact BK239.out⟩, ⟨uB HB.out⟩⟩
       replace c102 := Bool.eq_false_iff.mpr c102
       subst c102
       have H1 : ((underwoodref09_Same.f kj51 t261 t262 t265 t278 t279 t282).bind fun t292 => (if t292 = true then (if 0 < (t268.length : Int) then (if 1 < (t285.length : Int) then (if (rd t268 0) = (rd t285 1) then (if 1 < (t268.length : Int) then (if 0 < (t285.length : Int) then (if (rd t268 1) = (rd t285 0) then (if 0 < (t271.length : Int) then (if 1 < (t288.length : Int) then (if ((rdOf false t271 0) != (rdOf false t288 1)) = true then (underwoodlaw09_SpecSeen.l0 kj51 a0 a1 t237 true (wrap64 (x15_1 + 1)) (wrap64 (1 + (wrap64 (Int.tmod a3 3)))) 0 (wrap64 (a0)) (wrap64 (a1)) (wrap64 (1 + (wrap64 (Int.tmod a4 3)))) 0 (wrap64 (a0)) (wrap64 (a2))) else (if 1 < (t271.length : Int) then (if 0 < (t288.length : Int) then (underwoodlaw09_SpecSeen.l0 kj51 a0 a1 t237 ((rdOf false t271 1) != (rdOf false t288 0)) (wrap64 (x15_1 + 1)) (wrap64 (1 + (wrap64 (Int.tmod a3 3)))) 0 (wrap64 (a0)) (wrap64 (a1)) (wrap64 (1 + (wrap64 (Int.tmod a4 3)))) 0 (wrap64 (a0)) (wrap64 (a2))) else (none)) else (none))) else (none)) else (none)) else (underwoodlaw09_SpecSeen.l0 kj51 a0 a1 t237 true (wrap64 (x15_1 + 1)) (wrap64 (1 + (wrap64 (Int.tmod a3 3)))) 0 (wrap64 (a0)) (wrap64 (a1)) (wrap64 (1 + (wrap64 (Int.tmod a4 3)))) 0 (wrap64 (a0)) (wrap64 (a2)))) else (none)) else (none)) else (underwoodlaw09_SpecSeen.l0 kj51 a0 a1 t237 true (wrap64 (x15_1 + 1)) (wrap64 (1 + (wrap64 (Int.tmod a3 3)))) 0 (wrap64 (a0)) (wrap64 (a1)) (wrap64 (1 + (wrap64 (Int.tmod a4 3)))) 0 (wrap64 (a0)) (wrap64 (a2)))) else (none)) else (none)) else (underwoodlaw09_SpecSeen.l0 kj51 a0 a1 t237 true (wrap64 (x15_1 + 1)) (wrap64 (1 + (wrap64 (Int.tmod a3 3)))) 0 (wrap64 (a0)) (wrap64 (a1)) (wrap64 (1 + (wrap64 (Int.tmod a4 3)))) 0 (wrap64 (a0)) (wrap64 (a2))))) = some r := by rw [if_neg (show ¬ (false = true) by decide)] at H; exact H
       clear H
       have H := H1
       clear H1
       replace H := Option.bind_eq_some_iff.mp H
       obtain ⟨t292, A1040, H⟩ := H
       replace H : (if t292 = true then (if 0 < (t268.length : Int) then (if 1 < (t285.length : Int) then (if (rd t268 0) = (rd t285 1) then (if 1 < (t268.length : Int) then (if 0 < (t285.length : Int) then (if (rd t268 1) = (rd t285 0) then (if 0 < (t271.length : Int) then (if 1 < (t288.length : Int) then (if ((rdOf false t271 0) != (rdOf false t288 1)) = true then (underwoodlaw09_SpecSeen.l0 kj51 a0 a1 t237 true (wrap64 (x15_1 + 1)) (wrap64 (1 + (wrap64 (Int.tmod a3 3)))) 0 (wrap64 (a0)) (wrap64 (a1)) (wrap64 (1 + (wrap64 (Int.tmod a4 3)))) 0 (wrap64 (a0)) (wrap64 (a2))) else (if 1 < (t271.length : Int) then (if 0 < (t288.length : Int) then (underwoodlaw09_SpecSeen.l0 kj51 a0 a1 t237 ((rdOf false t271 1) != (rdOf false t288 0)) (wrap64 (x15_1 + 1)) (wrap64 (1 + (wrap64 (Int.tmod a3 3)))) 0 (wrap64 (a0)) (wrap64 (a1)) (wrap64 (1 + (wrap64 (Int.tmod a4 3)))) 0 (wrap64 (a0)) (wrap64 (a2))) else (none)) else (none))) else (none)) else (none)) else (underwoodlaw09_SpecSeen.l0 kj51 a0 a1 t237 true (wrap64 (x15_1 + 1)) (wrap64 (1 + (wrap64 (Int.tmod a3 3)))) 0 (wrap64 (a0)) (wrap64 (a1)) (wrap64 (1 + (wrap64 (Int.tmod a4 3)))) 0 (wrap64 (a0)) (wrap64 (a2)))) else (none)) else (none)) else (underwoodlaw09_SpecSeen.l0 kj51 a0 a1 t237 true (wrap64 (x15_1 + 1)) (wrap64 (1 + (wrap64 (Int.tmod a3 3)))) 0 (wrap64 (a0)) (wrap64 (a1)) (wrap64 (1 + (wrap64 (Int.tmod a4 3)))) 0 (wrap64 (a0)) (wrap64 (a2)))) else (none)) else (none)) else (underwoodlaw09_SpecSeen.l0 kj51 a0 a1 t237 true (wrap64 (x15_1 + 1)) (wrap64 (1 + (wrap64 (Int.tmod a3 3)))) 0 (wrap64 (a0)) (wrap64 (a1)) (wrap64 (1 + (wrap64 (Int.tmod a4 3)))) 0 (wrap64 (a0)) (wrap64 (a2)))) = some r := H
       have A104 := Aside0.mk A1040
       clear A1040
       by_cases c105 : t292 = true
       rotate_left
       ·replace c105 := Bool.eq_false_iff.mpr c105
        subst c105
        have H1 : (underwoodlaw09_SpecSeen.l0 kj51 a0 a1 t237 true (wrap64 (x15_1 + 1)) (wrap64 (1 + (wrap64 (Int.tmod a3 3)))) 0 (wrap64 (a0)) (wrap64 (a1)) (wrap64 (1 + (wrap64 (Int.tmod a4 3)))) 0 (wrap64 (a0)) (wrap64 (a2))) = some r := by rw [if_neg (show ¬ (false = true) by decide)] at H; exact H
        clear H
        have H := H1
        clear H1
        have H' := Aside0.mk H
        clear H
        try go_wp2
        have n6_ := Aside0.mk (Kd.V_drew HO_275001.out)
        have n7_ := Aside0.mk (Kd.V_drew HO_275002.out)
        have n8_ := Aside0.mk (Kd.V_drew HO_292001.out)
        have n9_ := Aside0.mk (Kd.V_drew HO_292002.out)
        have n10_ := Aside0.mk (blk_drew BK238.out)
        have n11_ := Aside0.mk (blk_drew BK239.out)
        have n13_ := Aside0.mk (blk_drew BK274.out)
        have n14_ := Aside0.mk (blk_drew BK291.out)
        have n15_ := Aside0.mk (below_drew1 HB.out)
        clear HO_275001 HO_275002 HO_292001 HO_292002 BK238 BK239 BK274 BK291 HB
        have HO_275001 := n6_
        have HO_275002 := n7_
        have HO_292001 := n8_
        have HO_292002 := n9_
        have BK238 := n10_
        have BK239 := n11_
        have BK274 := n13_
        have BK291 := n14_
        have HB := n15_
        clear n6_ n7_ n8_ n9_ n10_ n11_ n13_ n14_ n15_
        refine start_ (n := 44) (S := fun w' => w'.cell? ⟨gb274, 0, none⟩ = some (.int .i64 t261) ∧ w'.cell? ⟨gb274, 1, none⟩ = some (.slice Ao70 t262.length co70) ∧ w'.cell? ⟨gb274, 2, none⟩ = some (.slice Ao71 t265.length co71) ∧ w'.cell? ⟨gb291, 0, none⟩ = some (.int .i64 t278) ∧ w'.cell? ⟨gb291, 1, none⟩ = some (.slice Ao85 t279.length co85) ∧ w'.cell? ⟨gb291, 2, none⟩ = some (.slice Ao86 t282.length co86)) (ds := []) (bA 44 0) (by kernel_rfl) rfl (by kernel_rfl) ⟨(blk_cell BK274.out 0).trans rfl, (blk_cell BK274.out 1).trans rfl, (blk_cell BK274.out 2).trans rfl, (blk_cell BK291.out 0).trans rfl, (blk_cell BK291.out 1).trans rfl, (blk_cell BK291.out 2).trans rfl⟩ (fun hHeld => ?_); refine with_tabW underwoodlaw09_SpecSeen.tab17 underwoodlaw09_SpecSeen.bits17 (fun HT_ HW_ => ?_)
        generalize wc.drew = w137 at HO_275001 HO_275002 HO_292001 HO_292002 BK238 BK239 BK274 BK291 HB hHeld ⊢
        refine pu 0 111 44 1 HT_.out (h := ?_)
        refine pu 1 112 44 3 HT_.out (h := ?_)
        refine tk 2 113 44 7 HT_.out HW_.out hHeld (hy := by rintro w' ⟨s0, s1, s2, s3, s4, s5⟩; go_simp; with_reducible rfl) (h := ?_)
        refine tk 3 114 44 15 HT_.out HW_.out hHeld (hy := by rintro w' ⟨s0, s1, s2, s3, s4, s5⟩; go_simp; with_reducible rfl) (h := ?_)
        refine one_ (i := 4) (N := some 115) (bA 44 31) rfl rfl (one_of HT_.out (by kernel_rfl)) (by decide) (fun K hK => ?_)
        refine goes_ Try.func12 (by kernel_rfl) rfl #[.agg #[.int .i64 t261, .slice Ao70 t262.length co70, .slice Ao71 t265.length co71], .agg #[.int .i64 t278, .slice Ao85 t279.length co85, .slice Ao86 t282.length co86]] (by rfl) rfl rfl ls ?_
        with_reducible refine (underwoodref09_Same.calls kj51 t261 _ _ t262 _ _ t265 t278 _ _ t279 _ _ t282 false _ ?side1 ?side2 ?side3 ?side4 ?side5 ?side6 ?side7 ?side8 A104.out).mono ?_
        (case side1 => repeat (first | exact (Kd.V_reads' HO_275001.out).2.2 | (with_reducible refine Kd.C_alloc ?_ _) | (with_reducible refine Kd.C_drewN ?_ _) | (with_reducible refine Kd.C_drew ?_)))
        (case side2 => exact (Kd.V_reads' HO_275001.out).2.1)
        (case side3 => repeat (first | exact (Kd.V_reads' HO_275002.out).2.2 | (with_reducible refine Kd.C_alloc ?_ _) | (with_reducible refine Kd.C_drewN ?_ _) | (with_reducible refine Kd.C_drew ?_)))
        (case side4 => exact (Kd.V_reads' HO_275002.out).2.1)
        (case side5 => repeat (first | exact (Kd.V_reads' HO_292001.out).2.2 | (with_reducible refine Kd.C_alloc ?_ _) | (with_reducible refine Kd.C_drewN ?_ _) | (with_reducible refine Kd.C_drew ?_)))
        (case side6 => exact (Kd.V_reads' HO_292001.out).2.1)
        (case side7 => repeat (first | exact (Kd.V_reads' HO_292002.out).2.2 | (with_reducible refine Kd.C_alloc ?_ _) | (with_reducible refine Kd.C_drewN ?_ _) | (with_reducible refine Kd.C_drew ?_)))
        (case side8 => exact (Kd.V_reads' HO_292002.out).2.1)
        rintro e w138 ⟨rfl, hb⟩
        refine ⟨_, rfl, ?_⟩
        have n10_ := Aside0.mk (blk_below (g := gb238) (o := .cells #[.int .i64 (wrap64 (1 + (wrap64 (Int.tmod a3 3)))), .int .i64 0, .int .i64 (wrap64 (a0)), .int .i64 (wrap64 (a1))] 26 (0, 0)) (ub BK238.out) hb)
        have n11_ := Aside0.mk (blk_below (g := gb239) (o := .cells #[.int .i64 (wrap64 (1 + (wrap64 (Int.tmod a4 3)))), .int .i64 0, .int .i64 (wrap64 (a0)), .int .i64 (wrap64 (a2))] 26 (0, 0)) (ub BK239.out) hb)
        have n13_ := Aside0.mk (blk_below (g := gb274) (o := .cells #[.int .i64 t261, .slice Ao70 t262.length co70, .slice Ao71 t265.length co71] 24 (0, 0)) (ub BK274.out) hb)
        have n14_ := Aside0.mk (blk_below (g := gb291) (o := .cells #[.int .i64 t278, .slice Ao85 t279.length co85, .slice Ao86 t282.length co86] 24 (0, 0)) (ub BK291.out) hb)
        have n15_ := Aside0.mk (below_step (uB HB.out) hb)
        clear BK238 BK239 BK274 BK291 HB
        have BK238 := n10_
        have BK239 := n11_
        have BK274 := n13_
        have BK291 := n14_
        have HB := n15_
        clear n10_ n11_ n13_ n14_ n15_
        (try clear hb)
        (try clear hb2)
        (try clear hk)
        (try clear hi)
        refine hK.out _ _ ⟨(blk_cell BK274.out 0).trans rfl, (blk_cell BK274.out 1).trans rfl, (blk_cell BK274.out 2).trans rfl, (blk_cell BK291.out 0).trans rfl, (blk_cell BK291.out 1).trans rfl, (blk_cell BK291.out 2).trans rfl⟩ (fun hHeld => ?_)
        clear hK K
        refine norm_ (a' := ?_) ?_ ?_
        rotate_left
        ·show Act.put _ (some 115) _ = _
         simp only [Act.put, List.setIfInBounds_toArray, List.set_cons_zero, List.set_cons_succ, i64_w, i32_w]
         rfl
        refine pu 5 116 44 63 HT_.out (h := ?_)
        refine pu 6 117 44 127 HT_.out (h := ?_)
        refine pu 7 118 44 255 HT_.out (h := ?_)
        refine pz 8 119 44 511 HT_.out (h := ?_)
        refine pz 9 120 44 1023 HT_.out (h := ?_)
        refine pz 10 121 44 2047 HT_.out (h := ?_)
        refine pz 11 122 44 4095 HT_.out (h := ?_)
        refine pz 12 123 44 8191 HT_.out (h := ?_)
        refine pz 13 124 44 16383 HT_.out (h := ?_)
        refine pz 14 125 44 32767 HT_.out (h := ?_)
        refine pu 15 126 44 65535 HT_.out (h := ?_)
        refine pu 16 127 44 131071 HT_.out (h := ?_)
        refine pz 17 128 44 262143 HT_.out (h := ?_)
        refine pz 18 129 44 524287 HT_.out (h := ?_)
        refine pz 19 130 44 1048575 HT_.out (h := ?_)
        refine pz 20 131 44 2097151 HT_.out (h := ?_)
        refine pz 21 132 44 4194303 HT_.out (h := ?_)
        refine pz 22 133 44 8388607 HT_.out (h := ?_)
        refine pz 23 134 44 16777215 HT_.out (h := ?_)
        refine pu 24 135 44 33554431 HT_.out (h := ?_)
        refine pu 25 136 44 67108863 HT_.out (h := ?_)
        refine pz 26 137 44 134217727 HT_.out (h := ?_)
        refine pz 27 138 44 268435455 HT_.out (h := ?_)
        refine pz 28 139 44 536870911 HT_.out (h := ?_)
        refine pz 29 140 44 1073741823 HT_.out (h := ?_)
        refine pz 30 141 44 2147483647 HT_.out (h := ?_)
        refine pz 31 142 44 4294967295 HT_.out (h := ?_)
        refine pz 32 143 44 8589934591 HT_.out (h := ?_)
        refine pu 33 144 44 17179869183 HT_.out (h := ?_)
        refine pu 34 145 44 34359738367 HT_.out (h := ?_)
        refine pz 35 146 44 68719476735 HT_.out (h := ?_)
        refine pz 36 147 44 137438953471 HT_.out (h := ?_)
        refine pz 37 148 44 274877906943 HT_.out (h := ?_)
        refine pz 38 149 44 549755813887 HT_.out (h := ?_)
        refine pz 39 150 44 1099511627775 HT_.out (h := ?_)
        refine pz 40 151 44 2199023255551 HT_.out (h := ?_)
        refine pz 41 152 44 4398046511103 HT_.out (h := ?_)
        refine pu 42 153 44 8796093022207 HT_.out (h := ?_)
        refine pu 43 14 44 17592186044415 HT_.out (h := ?_)
        refine done_ (done_of HT_.out (by kernel_rfl)) ?_
        try go_wp2
        go_roundg kj51
        case measure => have := HK1.out; have := HJ30.out; have := HJ51.out; omega
        case rel => exact ⟨(true), (wrap64 (x15_1 + 1)), (by first | rfl | (simp; done) | (simp [*]; done)), (by first | rfl | (simp; done) | (simp [*]; done)), H', ⟨by have := HK1.out; have := HJ30.out; have := HJ51.out; omega⟩, ⟨by (with_reducible repeat (first | refine blk_drewN ?_ _ | refine blk_drew ?_ | refine blk_alloc ?_ _)); exact BK238.out⟩, ⟨by (with_reducible repeat (first | refine blk_drewN ?_ _ | refine blk_drew ?_ | refine blk_alloc ?_ _)); exact BK239.out⟩, ⟨uB HB.out⟩⟩
       subst c105
       have H1 : (if 0 < (t268.length : Int) then (if 1 < (t285.length : Int) then (if (rd t268 0) = (rd t285 1) then (if 1 < (t268.length : Int) then (if 0 < (t285.length : Int) then (if (rd t268 1) = (rd t285 0) then (if 0 < (t271.length : Int) then (if 1 < (t288.length : Int) then (if ((rdOf false t271 0) != (rdOf false t288 1)) = true then (underwoodlaw09_SpecSeen.l0 kj51 a0 a1 t237 true (wrap64 (x15_1 + 1)) (wrap64 (1 + (wrap64 (Int.tmod a3 3)))) 0 (wrap64 (a0)) (wrap64 (a1)) (wrap64 (1 + (wrap64 (Int.tmod a4 3)))) 0 (wrap64 (a0)) (wrap64 (a2))) else (if 1 < (t271.length : Int) then (if 0 < (t288.length : Int) then (underwoodlaw09_SpecSeen.l0 kj51 a0 a1 t237 ((rdOf false t271 1) != (rdOf false t288 0)) (wrap64 (x15_1 + 1)) (wrap64 (1 + (wrap64 (Int.tmod a3 3)))) 0 (wrap64 (a0)) (wrap64 (a1)) (wrap64 (1 + (wrap64 (Int.tmod a4 3)))) 0 (wrap64 (a0)) (wrap64 (a2))) else (none)) else (none))) else (none)) else (none)) else (underwoodlaw09_SpecSeen.l0 kj51 a0 a1 t237 true (wrap64 (x15_1 + 1)) (wrap64 (1 + (wrap64 (Int.tmod a3 3)))) 0 (wrap64 (a0)) (wrap64 (a1)) (wrap64 (1 + (wrap64 (Int.tmod a4 3)))) 0 (wrap64 (a0)) (wrap64 (a2)))) else (none)) else (none)) else (underwoodlaw09_SpecSeen.l0 kj51 a0 a1 t237 true (wrap64 (x15_1 + 1)) (wrap64 (1 + (wrap64 (Int.tmod a3 3)))) 0 (wrap64 (a0)) (wrap64 (a1)) (wrap64 (1 + (wrap64 (Int.tmod a4 3)))) 0 (wrap64 (a0)) (wrap64 (a2)))) else (none)) else (none)) = some r := by rw [if_pos rfl] at H; exact H
       clear H
       have H := H1
       clear H1
       by_cases c106 : 0 < (t268.length : Int)
       rotate_left
       ·rw [if_neg c106] at H
        exact absurd H (by simp)
       rw [if_pos c106] at H
       have c106b0 : decide (0 < (t268.length : Int)) = true := decide_eq_true c106
       have c106b1 : decide (0 < t268.length) = true := decide_eq_true (by omega)
       clear c106
       by_cases c107 : 1 < (t285.length : Int)
       rotate_left
       ·rw [if_neg c107] at H
        exact absurd H (by simp)
       rw [if_pos c107] at H
       have c107b0 : decide (1 < (t285.length : Int)) = true := decide_eq_true c107
       have c107b1 : decide (1 < t285.length) = true := decide_eq_true (by omega)
       clear c107
       by_cases c108 : (rd t268 0) = (rd t285 1)
       rotate_left
       ·rw [if_neg c108] at H
        have c108b0 : ((rd t268 0) == (rd t285 1)) = false := beq_eq_false_iff_ne.mpr c108
        have c108b1 : ((rd t268 0) != (rd t285 1)) = true := bne_iff_ne.mpr c108
        have H' := Aside0.mk H
        clear H
        try go_wp2
        have n0_ := Aside0.mk (Kd.R_drew HO_18.out)
        have n2_ := Aside0.mk (Kd.R_drew HO_21.out)
        have n6_ := Aside0.mk (Kd.V_drew HO_275001.out)
        have n7_ := Aside0.mk (Kd.V_drew HO_275002.out)
        have n8_ := Aside0.mk (Kd.V_drew HO_292001.out)
        have n9_ := Aside0.mk (Kd.V_drew HO_292002.out)
        have n10_ := Aside0.mk (blk_drew BK238.out)
        have n11_ := Aside0.mk (blk_drew BK239.out)
        have n13_ := Aside0.mk (blk_drew BK274.out)
        have n14_ := Aside0.mk (blk_drew BK291.out)
        have n15_ := Aside0.mk (below_drew1 HB.out)
        clear HO_18 HO_21 HO_275001 HO_275002 HO_292001 HO_292002 BK238 BK239 BK274 BK291 HB
        have HO_18 := n0_
        have HO_21 := n2_
        have HO_275001 := n6_
        have HO_275002 := n7_
        have HO_292001 := n8_
        have HO_292002 := n9_
        have BK238 := n10_
        have BK239 := n11_
        have BK274 := n13_
        have BK291 := n14_
        have HB := n15_
        clear n0_ n2_ n6_ n7_ n8_ n9_ n10_ n11_ n13_ n14_ n15_
        obtain ⟨Ao135, co135, eo135⟩ := Kd.R_slice HO_18.out
        (first | subst eo135 | (injection eo135 with f1_ f2_ f3_; have f4_ := f1_.symm; have f5_ := f3_.symm; clear f1_ f2_ f3_; subst f4_; subst f5_))
        obtain ⟨Ao136, co136, eo136⟩ := Kd.R_slice HO_21.out
        (first | subst eo136 | (injection eo136 with f1_ f2_ f3_; have f4_ := f1_.symm; have f5_ := f3_.symm; clear f1_ f2_ f3_; subst f4_; subst f5_))
        have p293 : 0 ≤ (0 : Int) := (by omega)
        have q293 : 0 < (t268.length : Int) := of_decide_eq_true (by first | (with_reducible assumption) | assumption)
        obtain ⟨ad293, e293, hx293_0⟩ := Kd.at_int (Kd.R_reads' HO_18.out).2.2 0 p293 q293
        cases e293
        have qi293 : (0 < t268.length) = True := eq_true (by omega)
        (try rw [show ((0 : Int)).toNat = 0 from rfl] at hx293_0)
        (try rw [Addr.add_zero'] at hx293_0)
        replace p293 := eq_true p293
        replace q293 := eq_true q293
        have p294 : 0 ≤ (1 : Int) := (by omega)
        have q294 : 1 < (t285.length : Int) := of_decide_eq_true (by first | (with_reducible assumption) | assumption)
        obtain ⟨ad294, e294, hx294_0⟩ := Kd.at_int (Kd.R_reads' HO_21.out).2.2 1 p294 q294
        cases e294
        (try simp only [show (1 : Int).toNat = 1 from rfl, Nat.reduceMul, Nat.reduceEqDiff, Go.Addr.add, ↓reduceIte] at hx294_0)
        have qi294 : (1 < t285.length) = True := eq_true (by omega)
        (try rw [show ((1 : Int)).toNat = 1 from rfl] at hx294_0)
        replace p294 := eq_true p294
        replace q294 := eq_true q294
        refine start_ (n := 44) (S := fun w' => w'.cell? ⟨gb274, 0, none⟩ = some (.int .i64 t261) ∧ w'.cell? ⟨gb274, 1, none⟩ = some (.slice Ao70 t262.length co70) ∧ w'.cell? ⟨gb274, 2, none⟩ = some (.slice Ao71 t265.length co71) ∧ w'.cell? ⟨gb291, 0, none⟩ = some (.int .i64 t278) ∧ w'.cell? ⟨gb291, 1, none⟩ = some (.slice Ao85 t279.length co85) ∧ w'.cell? ⟨gb291, 2, none⟩ = some (.slice Ao86 t282.length co86) ∧ w'.cell? ad293 = some (.int .i64 (rd t268 0)) ∧ w'.cell? ⟨ad294.block, ad294.off + 1, none⟩ = some (.int .i64 (rd t285 1))) (ds := []) (bA 44 0) (by kernel_rfl) rfl (by kernel_rfl) ⟨(blk_cell BK274.out 0).trans rfl, (blk_cell BK274.out 1).trans rfl, (blk_cell BK274.out 2).trans rfl, (blk_cell BK291.out 0).trans rfl, (blk_cell BK291.out 1).trans rfl, (blk_cell BK291.out 2).trans rfl, hx293_0, hx294_0⟩ (fun hHeld => ?_); refine with_tabW underwoodlaw09_SpecSeen.tab17 underwoodlaw09_SpecSeen.bits17 (fun HT_ HW_ => ?_)
        generalize wc.drew = w133 at HO_18 HO_21 HO_275001 HO_275002 HO_292001 HO_292002 BK238 BK239 BK274 BK291 HB hx293_0 hx294_0 hHeld ⊢
        refine pu 0 111 44 1 HT_.out (h := ?_)
        refine pu 1 112 44 3 HT_.out (h := ?_)
        refine tk 2 113 44 7 HT_.out HW_.out hHeld (hy := by rintro w' ⟨s0, s1, s2, s3, s4, s5, s6, s7⟩; go_simp; with_reducible rfl) (h := ?_)
        refine tk 3 114 44 15 HT_.out HW_.out hHeld (hy := by rintro w' ⟨s0, s1, s2, s3, s4, s5, s6, s7⟩; go_simp; with_reducible rfl) (h := ?_)
        refine one_ (i := 4) (N := some 115) (bA 44 31) rfl rfl (one_of HT_.out (by kernel_rfl)) (by decide) (fun K hK => ?_)
        refine goes_ Try.func12 (by kernel_rfl) rfl #[.agg #[.int .i64 t261, .slice Ao70 t262.length co70, .slice Ao71 t265.length co71], .agg #[.int .i64 t278, .slice Ao85 t279.length co85, .slice Ao86 t282.length co86]] (by rfl) rfl rfl ls ?_
        with_reducible refine (underwoodref09_Same.calls kj51 t261 _ _ t262 _ _ t265 t278 _ _ t279 _ _ t282 true _ ?side1 ?side2 ?side3 ?side4 ?side5 ?side6 ?side7 ?side8 A104.out).mono ?_
        (case side1 => repeat (first | exact (Kd.V_reads' HO_275001.out).2.2 | (with_reducible refine Kd.C_alloc ?_ _) | (with_reducible refine Kd.C_drewN ?_ _) | (with_reducible refine Kd.C_drew ?_)))
        (case side2 => exact (Kd.V_reads' HO_275001.out).2.1)
        (case side3 => repeat (first | exact (Kd.V_reads' HO_275002.out).2.2 | (with_reducible refine Kd.C_alloc ?_ _) | (with_reducible refine Kd.C_drewN ?_ _) | (with_reducible refine Kd.C_drew ?_)))
        (case side4 => exact (Kd.V_reads' HO_275002.out).2.1)
        (case side5 => repeat (first | exact (Kd.V_reads' HO_292001.out).2.2 | (with_reducible refine Kd.C_alloc ?_ _) | (with_reducible refine Kd.C_drewN ?_ _) | (with_reducible refine Kd.C_drew ?_)))
        (case side6 => exact (Kd.V_reads' HO_292001.out).2.1)
        (case side7 => repeat (first | exact (Kd.V_reads' HO_292002.out).2.2 | (with_reducible refine Kd.C_alloc ?_ _) | (with_reducible refine Kd.C_drewN ?_ _) | (with_reducible refine Kd.C_drew ?_)))
        (case side8 => exact (Kd.V_reads' HO_292002.out).2.1)
        rintro e w134 ⟨rfl, hb⟩
        have HS6_ := (hb.cell (World.block_lt_of_cell? _ _ (hHeld.2.2.2.2.2.2.1))).trans (hHeld.2.2.2.2.2.2.1)
        have HS7_ := (hb.cell (World.block_lt_of_cell? _ _ (hHeld.2.2.2.2.2.2.2))).trans (hHeld.2.2.2.2.2.2.2)
        refine ⟨_, rfl, ?_⟩
        have n0_ := Aside0.mk (Kd.R_below (uR HO_18.out) hb)
        have n2_ := Aside0.mk (Kd.R_below (uR HO_21.out) hb)
        have n10_ := Aside0.mk (blk_below (g := gb238) (o := .cells #[.int .i64 (wrap64 (1 + (wrap64 (Int.tmod a3 3)))), .int .i64 0, .int .i64 (wrap64 (a0)), .int .i64 (wrap64 (a1))] 26 (0, 0)) (ub BK238.out) hb)
        have n11_ := Aside0.mk (blk_below (g := gb239) (o := .cells #[.int .i64 (wrap64 (1 + (wrap64 (Int.tmod a4 3)))), .int .i64 0, .int .i64 (wrap64 (a0)), .int .i64 (wrap64 (a2))] 26 (0, 0)) (ub BK239.out) hb)
        have n13_ := Aside0.mk (blk_below (g := gb274) (o := .cells #[.int .i64 t261, .slice Ao70 t262.length co70, .slice Ao71 t265.length co71] 24 (0, 0)) (ub BK274.out) hb)
        have n14_ := Aside0.mk (blk_below (g := gb291) (o := .cells #[.int .i64 t278, .slice Ao85 t279.length co85, .slice Ao86 t282.length co86] 24 (0, 0)) (ub BK291.out) hb)
        have n15_ := Aside0.mk (below_step (uB HB.out) hb)
        clear HO_18 HO_21 BK238 BK239 BK274 BK291 HB
        have HO_18 := n0_
        have HO_21 := n2_
        have BK238 := n10_
        have BK239 := n11_
        have BK274 := n13_
        have BK291 := n14_
        have HB := n15_
        clear n0_ n2_ n10_ n11_ n13_ n14_ n15_
        (try clear hb)
        (try clear hb2)
        (try clear hk)
        (try clear hi)
        refine hK.out _ _ ⟨(blk_cell BK274.out 0).trans rfl, (blk_cell BK274.out 1).trans rfl, (blk_cell BK274.out 2).trans rfl, (blk_cell BK291.out 0).trans rfl, (blk_cell BK291.out 1).trans rfl, (blk_cell BK291.out 2).trans rfl, HS6_, HS7_⟩ (fun hHeld => ?_)
        clear hK K
        refine norm_ (a' := ?_) ?_ ?_
        rotate_left
        ·show Act.put _ (some 115) _ = _
         simp only [Act.put, List.setIfInBounds_toArray, List.set_cons_zero, List.set_cons_succ, i64_w, i32_w]
         rfl
        refine pu 5 116 44 63 HT_.out (h := ?_)
        refine pu 6 117 44 127 HT_.out (h := ?_)
        refine pu 7 118 44 255 HT_.out (h := ?_)
        refine pu 8 119 44 511 HT_.out (h := ?_)
        refine pu 9 120 44 1023 HT_.out (h := ?_)
        refine pu 11 122 44 3071 HT_.out (h := ?_)
        refine pu 12 123 44 7167 HT_.out (h := ?_)
        refine tk 10 121 44 8191 HT_.out HW_.out hHeld (hy := by rintro w' ⟨s0, s1, s2, s3, s4, s5, s6, s7⟩; go_simp; with_reducible rfl) (h := ?_)
        refine tk 13 124 44 16383 HT_.out HW_.out hHeld (hy := by rintro w' ⟨s0, s1, s2, s3, s4, s5, s6, s7⟩; go_simp; with_reducible rfl) (h := ?_)
        refine pu 14 125 44 32767 HT_.out (h := ?_)
        refine pu 15 126 44 65535 HT_.out (h := ?_)
        refine pu 16 127 44 131071 HT_.out (h := ?_)
        refine pz 17 128 44 262143 HT_.out (h := ?_)
        refine pz 18 129 44 524287 HT_.out (h := ?_)
        refine pz 19 130 44 1048575 HT_.out (h := ?_)
        refine pz 20 131 44 2097151 HT_.out (h := ?_)
        refine pz 21 132 44 4194303 HT_.out (h := ?_)
        refine pz 22 133 44 8388607 HT_.out (h := ?_)
        refine pz 23 134 44 16777215 HT_.out (h := ?_)
        refine pu 24 135 44 33554431 HT_.out (h := ?_)
        refine pu 25 136 44 67108863 HT_.out (h := ?_)
        refine pz 26 137 44 134217727 HT_.out (h := ?_)
        refine pz 27 138 44 268435455 HT_.out (h := ?_)
        refine pz 28 139 44 536870911 HT_.out (h := ?_)
        refine pz 29 140 44 1073741823 HT_.out (h := ?_)
        refine pz 30 141 44 2147483647 HT_.out (h := ?_)
        refine pz 31 142 44 4294967295 HT_.out (h := ?_)
        refine pz 32 143 44 8589934591 HT_.out (h := ?_)
        refine pu 33 144 44 17179869183 HT_.out (h := ?_)
        refine pu 34 145 44 34359738367 HT_.out (h := ?_)
        refine pz 35 146 44 68719476735 HT_.out (h := ?_)
        refine pz 36 147 44 137438953471 HT_.out (h := ?_)
        refine pz 37 148 44 274877906943 HT_.out (h := ?_)
        refine pz 38 149 44 549755813887 HT_.out (h := ?_)
        refine pz 39 150 44 1099511627775 HT_.out (h := ?_)
        refine pz 40 151 44 2199023255551 HT_.out (h := ?_)
        refine pz 41 152 44 4398046511103 HT_.out (h := ?_)
        refine pu 42 153 44 8796093022207 HT_.out (h := ?_)
        refine pu 43 14 44 17592186044415 HT_.out (h := ?_)
        refine done_ (done_of HT_.out (by kernel_rfl)) ?_
        try go_wp2
        go_roundg kj51
        case measure => have := HK1.out; have := HJ30.out; have := HJ51.out; omega
        case rel => exact ⟨(true), (wrap64 (x15_1 + 1)), (by first | rfl | (simp; done) | (simp [*]; done)), (by first | rfl | (simp; done) | (simp [*]; done)), H', ⟨by have := HK1.out; have := HJ30.out; have := HJ51.out; omega⟩, ⟨by (with_reducible repeat (first | refine blk_drewN ?_ _ | refine blk_drew ?_ | refine blk_alloc ?_ _)); exact BK238.out⟩, ⟨by (with_reducible repeat (first | refine blk_drewN ?_ _ | refine blk_drew ?_ | refine blk_alloc ?_ _)); exact BK239.out⟩, ⟨uB HB.out⟩⟩
       rw [if_pos c108] at H
       have c108b0 : ((rd t268 0) == (rd t285 1)) = true := beq_iff_eq.mpr c108
       have c108b1 : ((rd t268 0) != (rd t285 1)) = false := bne_eq_false_iff_eq.mpr c108
       clear c108
       by_cases c109 : 1 < (t268.length : Int)
       rotate_left
       ·rw [if_neg c109] at H
        exact absurd H (by simp)
       rw [if_pos c109] at H
       have c109b0 : decide (1 < (t268.length : Int)) = true := decide_eq_true c109
       have c109b1 : decide (1 < t268.length) = true := decide_eq_true (by omega)
       clear c109
       by_cases c110 : 0 < (t285.length : Int)
       rotate_left
       ·rw [if_neg c110] at H
        exact absurd H (by simp)
       rw [if_pos c110] at H
       have c110b0 : decide (0 < (t285.length : Int)) = true := decide_eq_true c110
       have c110b1 : decide (0 < t285.length) = true := decide_eq_true (by omega)
       clear c110
       by_cases c111 : (rd t268 1) = (rd t285 0)
       rotate_left
       ·rw [if_neg c111] at H
        have c111b0 : ((rd t268 1) == (rd t285 0)) = false := beq_eq_false_iff_ne.mpr c111
        have c111b1 : ((rd t268 1) != (rd t285 0)) = true := bne_iff_ne.mpr c111
        have H' := Aside0.mk H
        clear H
        try go_wp2
        have n0_ := Aside0.mk (Kd.R_drew HO_18.out)
        have n2_ := Aside0.mk (Kd.R_drew HO_21.out)
        have n6_ := Aside0.mk (Kd.V_drew HO_275001.out)
        have n7_ := Aside0.mk (Kd.V_drew HO_275002.out)
        have n8_ := Aside0.mk (Kd.V_drew HO_292001.out)
        have n9_ := Aside0.mk (Kd.V_drew HO_292002.out)
        have n10_ := Aside0.mk (blk_drew BK238.out)
        have n11_ := Aside0.mk (blk_drew BK239.out)
        have n13_ := Aside0.mk (blk_drew BK274.out)
        have n14_ := Aside0.mk (blk_drew BK291.out)
        have n15_ := Aside0.mk (below_drew1 HB.out)
        clear HO_18 HO_21 HO_275001 HO_275002 HO_292001 HO_292002 BK238 BK239 BK274 BK291 HB
        have HO_18 := n0_
        have HO_21 := n2_
        have HO_275001 := n6_
        have HO_275002 := n7_
        have HO_292001 := n8_
        have HO_292002 := n9_
        have BK238 := n10_
        have BK239 := n11_
        have BK274 := n13_
        have BK291 := n14_
        have HB := n15_
        clear n0_ n2_ n6_ n7_ n8_ n9_ n10_ n11_ n13_ n14_ n15_
        obtain ⟨Ao131, co131, eo131⟩ := Kd.R_slice HO_18.out
        (first | subst eo131 | (injection eo131 with f1_ f2_ f3_; have f4_ := f1_.symm; have f5_ := f3_.symm; clear f1_ f2_ f3_; subst f4_; subst f5_))
        obtain ⟨Ao132, co132, eo132⟩ := Kd.R_slice HO_21.out
        (first | subst eo132 | (injection eo132 with f1_ f2_ f3_; have f4_ := f1_.symm; have f5_ := f3_.symm; clear f1_ f2_ f3_; subst f4_; subst f5_))
        have p293 : 0 ≤ (0 : Int) := (by omega)
        have q293 : 0 < (t268.length : Int) := of_decide_eq_true (by first | (with_reducible assumption) | assumption)
        obtain ⟨ad293, e293, hx293_0⟩ := Kd.at_int (Kd.R_reads' HO_18.out).2.2 0 p293 q293
        cases e293
        have qi293 : (0 < t268.length) = True := eq_true (by omega)
        (try rw [show ((0 : Int)).toNat = 0 from rfl] at hx293_0)
        (try rw [Addr.add_zero'] at hx293_0)
        replace p293 := eq_true p293
        replace q293 := eq_true q293
        have p294 : 0 ≤ (1 : Int) := (by omega)
        have q294 : 1 < (t285.length : Int) := of_decide_eq_true (by first | (with_reducible assumption) | assumption)
        obtain ⟨ad294, e294, hx294_0⟩ := Kd.at_int (Kd.R_reads' HO_21.out).2.2 1 p294 q294
        cases e294
        (try simp only [show (1 : Int).toNat = 1 from rfl, Nat.reduceMul, Nat.reduceEqDiff, Go.Addr.add, ↓reduceIte] at hx294_0)
        have qi294 : (1 < t285.length) = True := eq_true (by omega)
        (try rw [show ((1 : Int)).toNat = 1 from rfl] at hx294_0)
        replace p294 := eq_true p294
        replace q294 := eq_true q294
        have p295 : 0 ≤ (1 : Int) := (by omega)
        have q295 : 1 < (t268.length : Int) := of_decide_eq_true (by first | (with_reducible assumption) | assumption)
        obtain ⟨ad295, e295, hx295_0⟩ := Kd.at_int (Kd.R_reads' HO_18.out).2.2 1 p295 q295
        obtain rfl : ad293 = ad295 := (by injection e295)
        (try simp only [show (1 : Int).toNat = 1 from rfl, Nat.reduceMul, Nat.reduceEqDiff, Go.Addr.add, ↓reduceIte] at hx295_0)
        have qi295 : (1 < t268.length) = True := eq_true (by omega)
        (try rw [show ((1 : Int)).toNat = 1 from rfl] at hx295_0)
        replace p295 := eq_true p295
        replace q295 := eq_true q295
        have p296 : 0 ≤ (0 : Int) := (by omega)
        have q296 : 0 < (t285.length : Int) := of_decide_eq_true (by first | (with_reducible assumption) | assumption)
        obtain ⟨ad296, e296, hx296_0⟩ := Kd.at_int (Kd.R_reads' HO_21.out).2.2 0 p296 q296
        obtain rfl : ad294 = ad296 := (by injection e296)
        have qi296 : (0 < t285.length) = True := eq_true (by omega)
        (try rw [show ((0 : Int)).toNat = 0 from rfl] at hx296_0)
        (try rw [Addr.add_zero'] at hx296_0)
        replace p296 := eq_true p296
        replace q296 := eq_true q296
        refine start_ (n := 44) (S := fun w' => w'.cell? ⟨gb274, 0, none⟩ = some (.int .i64 t261) ∧ w'.cell? ⟨gb274, 1, none⟩ = some (.slice Ao70 t262.length co70) ∧ w'.cell? ⟨gb274, 2, none⟩ = some (.slice Ao71 t265.length co71) ∧ w'.cell? ⟨gb291, 0, none⟩ = some (.int .i64 t278) ∧ w'.cell? ⟨gb291, 1, none⟩ = some (.slice Ao85 t279.length co85) ∧ w'.cell? ⟨gb291, 2, none⟩ = some (.slice Ao86 t282.length co86) ∧ w'.cell? ad293 = some (.int .i64 (rd t268 0)) ∧ w'.cell? ⟨ad294.block, ad294.off + 1, none⟩ = some (.int .i64 (rd t285 1)) ∧ w'.cell? ⟨ad293.block, ad293.off + 1, none⟩ = some (.int .i64 (rd t268 1)) ∧ w'.cell? ad294 = some (.int .i64 (rd t285 0))) (ds := []) (bA 44 0) (by kernel_rfl) rfl (by kernel_rfl) ⟨(blk_cell BK274.out 0).trans rfl, (blk_cell BK274.out 1).trans rfl, (blk_cell BK274.out 2).trans rfl, (blk_cell BK291.out 0).trans rfl, (blk_cell BK291.out 1).trans rfl, (blk_cell BK291.out 2).trans rfl, hx293_0, hx294_0, hx295_0, hx296_0⟩ (fun hHeld => ?_); refine with_tabW underwoodlaw09_SpecSeen.tab17 underwoodlaw09_SpecSeen.bits17 (fun HT_ HW_ => ?_)
        generalize wc.drew = w129 at HO_18 HO_21 HO_275001 HO_275002 HO_292001 HO_292002 BK238 BK239 BK274 BK291 HB hx293_0 hx294_0 hx295_0 hx296_0 hHeld ⊢
        refine pu 0 111 44 1 HT_.out (h := ?_)
        refine pu 1 112 44 3 HT_.out (h := ?_)
        refine tk 2 113 44 7 HT_.out HW_.out hHeld (hy := by rintro w' ⟨s0, s1, s2, s3, s4, s5, s6, s7, s8, s9⟩; go_simp; with_reducible rfl) (h := ?_)
        refine tk 3 114 44 15 HT_.out HW_.out hHeld (hy := by rintro w' ⟨s0, s1, s2, s3, s4, s5, s6, s7, s8, s9⟩; go_simp; with_reducible rfl) (h := ?_)
        refine one_ (i := 4) (N := some 115) (bA 44 31) rfl rfl (one_of HT_.out (by kernel_rfl)) (by decide) (fun K hK => ?_)
        refine goes_ Try.func12 (by kernel_rfl) rfl #[.agg #[.int .i64 t261, .slice Ao70 t262.length co70, .slice Ao71 t265.length co71], .agg #[.int .i64 t278, .slice Ao85 t279.length co85, .slice Ao86 t282.length co86]] (by rfl) rfl rfl ls ?_
        with_reducible refine (underwoodref09_Same.calls kj51 t261 _ _ t262 _ _ t265 t278 _ _ t279 _ _ t282 true _ ?side1 ?side2 ?side3 ?side4 ?side5 ?side6 ?side7 ?side8 A104.out).mono ?_
        (case side1 => repeat (first | exact (Kd.V_reads' HO_275001.out).2.2 | (with_reducible refine Kd.C_alloc ?_ _) | (with_reducible refine Kd.C_drewN ?_ _) | (with_reducible refine Kd.C_drew ?_)))
        (case side2 => exact (Kd.V_reads' HO_275001.out).2.1)
        (case side3 => repeat (first | exact (Kd.V_reads' HO_275002.out).2.2 | (with_reducible refine Kd.C_alloc ?_ _) | (with_reducible refine Kd.C_drewN ?_ _) | (with_reducible refine Kd.C_drew ?_)))
        (case side4 => exact (Kd.V_reads' HO_275002.out).2.1)
        (case side5 => repeat (first | exact (Kd.V_reads' HO_292001.out).2.2 | (with_reducible refine Kd.C_alloc ?_ _) | (with_reducible refine Kd.C_drewN ?_ _) | (with_reducible refine Kd.C_drew ?_)))
        (case side6 => exact (Kd.V_reads' HO_292001.out).2.1)
        (case side7 => repeat (first | exact (Kd.V_reads' HO_292002.out).2.2 | (with_reducible refine Kd.C_alloc ?_ _) | (with_reducible refine Kd.C_drewN ?_ _) | (with_reducible refine Kd.C_drew ?_)))
        (case side8 => exact (Kd.V_reads' HO_292002.out).2.1)
        rintro e w130 ⟨rfl, hb⟩
        have HS6_ := (hb.cell (World.block_lt_of_cell? _ _ (hHeld.2.2.2.2.2.2.1))).trans (hHeld.2.2.2.2.2.2.1)
        have HS7_ := (hb.cell (World.block_lt_of_cell? _ _ (hHeld.2.2.2.2.2.2.2.1))).trans (hHeld.2.2.2.2.2.2.2.1)
        have HS8_ := (hb.cell (World.block_lt_of_cell? _ _ (hHeld.2.2.2.2.2.2.2.2.1))).trans (hHeld.2.2.2.2.2.2.2.2.1)
        have HS9_ := (hb.cell (World.block_lt_of_cell? _ _ (hHeld.2.2.2.2.2.2.2.2.2))).trans (hHeld.2.2.2.2.2.2.2.2.2)
        refine ⟨_, rfl, ?_⟩
        have n0_ := Aside0.mk (Kd.R_below (uR HO_18.out) hb)
        have n2_ := Aside0.mk (Kd.R_below (uR HO_21.out) hb)
        have n10_ := Aside0.mk (blk_below (g := gb238) (o := .cells #[.int .i64 (wrap64 (1 + (wrap64 (Int.tmod a3 3)))), .int .i64 0, .int .i64 (wrap64 (a0)), .int .i64 (wrap64 (a1))] 26 (0, 0)) (ub BK238.out) hb)
        have n11_ := Aside0.mk (blk_below (g := gb239) (o := .cells #[.int .i64 (wrap64 (1 + (wrap64 (Int.tmod a4 3)))), .int .i64 0, .int .i64 (wrap64 (a0)), .int .i64 (wrap64 (a2))] 26 (0, 0)) (ub BK239.out) hb)
        have n13_ := Aside0.mk (blk_below (g := gb274) (o := .cells #[.int .i64 t261, .slice Ao70 t262.length co70, .slice Ao71 t265.length co71] 24 (0, 0)) (ub BK274.out) hb)
        have n14_ := Aside0.mk (blk_below (g := gb291) (o := .cells #[.int .i64 t278, .slice Ao85 t279.length co85, .slice Ao86 t282.length co86] 24 (0, 0)) (ub BK291.out) hb)
        have n15_ := Aside0.mk (below_step (uB HB.out) hb)
        clear HO_18 HO_21 BK238 BK239 BK274 BK291 HB
        have HO_18 := n0_
        have HO_21 := n2_
        have BK238 := n10_
        have BK239 := n11_
        have BK274 := n13_
        have BK291 := n14_
        have HB := n15_
        clear n0_ n2_ n10_ n11_ n13_ n14_ n15_
        (try clear hb)
        (try clear hb2)
        (try clear hk)
        (try clear hi)
        refine hK.out _ _ ⟨(blk_cell BK274.out 0).trans rfl, (blk_cell BK274.out 1).trans rfl, (blk_cell BK274.out 2).trans rfl, (blk_cell BK291.out 0).trans rfl, (blk_cell BK291.out 1).trans rfl, (blk_cell BK291.out 2).trans rfl, HS6_, HS7_, HS8_, HS9_⟩ (fun hHeld => ?_)
        clear hK K
        refine norm_ (a' := ?_) ?_ ?_
        rotate_left
        ·show Act.put _ (some 115) _ = _
         simp only [Act.put, List.setIfInBounds_toArray, List.set_cons_zero, List.set_cons_succ, i64_w, i32_w]
         rfl
        refine pu 5 116 44 63 HT_.out (h := ?_)
        refine pu 6 117 44 127 HT_.out (h := ?_)
        refine pu 7 118 44 255 HT_.out (h := ?_)
        refine pu 8 119 44 511 HT_.out (h := ?_)
        refine pu 9 120 44 1023 HT_.out (h := ?_)
        refine pu 11 122 44 3071 HT_.out (h := ?_)
        refine pu 12 123 44 7167 HT_.out (h := ?_)
        refine tk 10 121 44 8191 HT_.out HW_.out hHeld (hy := by rintro w' ⟨s0, s1, s2, s3, s4, s5, s6, s7, s8, s9⟩; go_simp; with_reducible rfl) (h := ?_)
        refine tk 13 124 44 16383 HT_.out HW_.out hHeld (hy := by rintro w' ⟨s0, s1, s2, s3, s4, s5, s6, s7, s8, s9⟩; go_simp; with_reducible rfl) (h := ?_)
        refine pu 14 125 44 32767 HT_.out (h := ?_)
        refine pu 15 126 44 65535 HT_.out (h := ?_)
        refine pu 16 127 44 131071 HT_.out (h := ?_)
        refine pu 17 128 44 262143 HT_.out (h := ?_)
        refine pu 18 129 44 524287 HT_.out (h := ?_)
        refine pu 20 131 44 1572863 HT_.out (h := ?_)
        refine pu 21 132 44 3670015 HT_.out (h := ?_)
        refine tk 19 130 44 4194303 HT_.out HW_.out hHeld (hy := by rintro w' ⟨s0, s1, s2, s3, s4, s5, s6, s7, s8, s9⟩; go_simp; with_reducible rfl) (h := ?_)
        refine tk 22 133 44 8388607 HT_.out HW_.out hHeld (hy := by rintro w' ⟨s0, s1, s2, s3, s4, s5, s6, s7, s8, s9⟩; go_simp; with_reducible rfl) (h := ?_)
        refine pu 23 134 44 16777215 HT_.out (h := ?_)
        refine pu 24 135 44 33554431 HT_.out (h := ?_)
        refine pu 25 136 44 67108863 HT_.out (h := ?_)
        refine pz 26 137 44 134217727 HT_.out (h := ?_)
        refine pz 27 138 44 268435455 HT_.out (h := ?_)
        refine pz 28 139 44 536870911 HT_.out (h := ?_)
        refine pz 29 140 44 1073741823 HT_.out (h := ?_)
        refine pz 30 141 44 2147483647 HT_.out (h := ?_)
        refine pz 31 142 44 4294967295 HT_.out (h := ?_)
        refine pz 32 143 44 8589934591 HT_.out (h := ?_)
        refine pu 33 144 44 17179869183 HT_.out (h := ?_)
        refine pu 34 145 44 34359738367 HT_.out (h := ?_)
        refine pz 35 146 44 68719476735 HT_.out (h := ?_)
        refine pz 36 147 44 137438953471 HT_.out (h := ?_)
        refine pz 37 148 44 274877906943 HT_.out (h := ?_)
        refine pz 38 149 44 549755813887 HT_.out (h := ?_)
        refine pz 39 150 44 1099511627775 HT_.out (h := ?_)
        refine pz 40 151 44 2199023255551 HT_.out (h := ?_)
        refine pz 41 152 44 4398046511103 HT_.out (h := ?_)
        refine pu 42 153 44 8796093022207 HT_.out (h := ?_)
        refine pu 43 14 44 17592186044415 HT_.out (h := ?_)
        refine done_ (done_of HT_.out (by kernel_rfl)) ?_
        try go_wp2
        go_roundg kj51
        case measure => have := HK1.out; have := HJ30.out; have := HJ51.out; omega
        case rel => exact ⟨(true), (wrap64 (x15_1 + 1)), (by first | rfl | (simp; done) | (simp [*]; done)), (by first | rfl | (simp; done) | (simp [*]; done)), H', ⟨by have := HK1.out; have := HJ30.out; have := HJ51.out; omega⟩, ⟨by (with_reducible repeat (first | refine blk_drewN ?_ _ | refine blk_drew ?_ | refine blk_alloc ?_ _)); exact BK238.out⟩, ⟨by (with_reducible repeat (first | refine blk_drewN ?_ _ | refine blk_drew ?_ | refine blk_alloc ?_ _)); exact BK239.out⟩, ⟨uB HB.out⟩⟩
       rw [if_pos c111] at H
       have c111b0 : ((rd t268 1) == (rd t285 0)) = true := beq_iff_eq.mpr c111
       have c111b1 : ((rd t268 1) != (rd t285 0)) = false := bne_eq_false_iff_eq.mpr c111
       clear c111
       by_cases c112 : 0 < (t271.length : Int)
       rotate_left
       ·rw [if_neg c112] at H
        exact absurd H (by simp)
       rw [if_pos c112] at H
       have c112b0 : decide (0 < (t271.length : Int)) = true := decide_eq_true c112
       have c112b1 : decide (0 < t271.length) = true := decide_eq_true (by omega)
       clear c112
       by_cases c113 : 1 < (t288.length : Int)
       rotate_left
       ·rw [if_neg c113] at H
        exact absurd H (by simp)
       rw [if_pos c113] at H
       have c113b0 : decide (1 < (t288.length : Int)) = true := decide_eq_true c113
       have c113b1 : decide (1 < t288.length) = true := decide_eq_true (by omega)
       clear c113
       by_cases c114 : ((rdOf false t271 0) != (rdOf false t288 1)) = true
       ·rw [if_pos c114] at H
        have c114b0 : ((rdOf false t271 0) != (rdOf false t288 1)) = true := c114
        (try (have c114b1 : decide ((rdOf false t271 0) = (rdOf false t288 1)) = false := by simpa using c114))
        (try (have c114b2 : ((rdOf false t271 0) == (rdOf false t288 1)) = false := by simpa using c114))
        (try (have c114b3 : ¬ ((rdOf false t271 0) = (rdOf false t288 1)) := by simpa using c114))
        clear c114
        have H' := Aside0.mk H
        clear H
        try go_wp2
        have n0_ := Aside0.mk (Kd.R_drew HO_18.out)
        have n1_ := Aside0.mk (Kd.R_drew HO_19.out)
        have n2_ := Aside0.mk (Kd.R_drew HO_21.out)
        have n3_ := Aside0.mk (Kd.R_drew HO_22.out)
        have n6_ := Aside0.mk (Kd.V_drew HO_275001.out)
        have n7_ := Aside0.mk (Kd.V_drew HO_275002.out)
        have n8_ := Aside0.mk (Kd.V_drew HO_292001.out)
        have n9_ := Aside0.mk (Kd.V_drew HO_292002.out)
        have n10_ := Aside0.mk (blk_drew BK238.out)
        have n11_ := Aside0.mk (blk_drew BK239.out)
        have n13_ := Aside0.mk (blk_drew BK274.out)
        have n14_ := Aside0.mk (blk_drew BK291.out)
        have n15_ := Aside0.mk (below_drew1 HB.out)
        clear HO_18 HO_19 HO_21 HO_22 HO_275001 HO_275002 HO_292001 HO_292002 BK238 BK239 BK274 BK291 HB
        have HO_18 := n0_
        have HO_19 := n1_
        have HO_21 := n2_
        have HO_22 := n3_
        have HO_275001 := n6_
        have HO_275002 := n7_
        have HO_292001 := n8_
        have HO_292002 := n9_
        have BK238 := n10_
        have BK239 := n11_
        have BK274 := n13_
        have BK291 := n14_
        have HB := n15_
        clear n0_ n1_ n2_ n3_ n6_ n7_ n8_ n9_ n10_ n11_ n13_ n14_ n15_
        obtain ⟨Ao117, co117, eo117⟩ := Kd.R_slice HO_18.out
        (first | subst eo117 | (injection eo117 with f1_ f2_ f3_; have f4_ := f1_.symm; have f5_ := f3_.symm; clear f1_ f2_ f3_; subst f4_; subst f5_))
        obtain ⟨Ao118, co118, eo118⟩ := Kd.R_slice HO_21.out
        (first | subst eo118 | (injection eo118 with f1_ f2_ f3_; have f4_ := f1_.symm; have f5_ := f3_.symm; clear f1_ f2_ f3_; subst f4_; subst f5_))
        obtain ⟨Ao119, co119, eo119⟩ := Kd.R_slice HO_19.out
        (first | subst eo119 | (injection eo119 with f1_ f2_ f3_; have f4_ := f1_.symm; have f5_ := f3_.symm; clear f1_ f2_ f3_; subst f4_; subst f5_))
        obtain ⟨Ao120, co120, eo120⟩ := Kd.R_slice HO_22.out
        (first | subst eo120 | (injection eo120 with f1_ f2_ f3_; have f4_ := f1_.symm; have f5_ := f3_.symm; clear f1_ f2_ f3_; subst f4_; subst f5_))
        have p293 : 0 ≤ (0 : Int) := (by omega)
        have q293 : 0 < (t268.length : Int) := of_decide_eq_true (by first | (with_reducible assumption) | assumption)
        obtain ⟨ad293, e293, hx293_0⟩ := Kd.at_int (Kd.R_reads' HO_18.out).2.2 0 p293 q293
        cases e293
        have qi293 : (0 < t268.length) = True := eq_true (by omega)
        (try rw [show ((0 : Int)).toNat = 0 from rfl] at hx293_0)
        (try rw [Addr.add_zero'] at hx293_0)
        replace p293 := eq_true p293
        replace q293 := eq_true q293
        have p294 : 0 ≤ (1 : Int) := (by omega)
        have q294 : 1 < (t285.length : Int) := of_decide_eq_true (by first | (with_reducible assumption) | assumption)
        obtain ⟨ad294, e294, hx294_0⟩ := Kd.at_int (Kd.R_reads' HO_21.out).2.2 1 p294 q294
        cases e294
        (try simp only [show (1 : Int).toNat = 1 from rfl, Nat.reduceMul, Nat.reduceEqDiff, Go.Addr.add, ↓reduceIte] at hx294_0)
        have qi294 : (1 < t285.length) = True := eq_true (by omega)
        (try rw [show ((1 : Int)).toNat = 1 from rfl] at hx294_0)
        replace p294 := eq_true p294
        replace q294 := eq_true q294
        have p295 : 0 ≤ (1 : Int) := (by omega)
        have q295 : 1 < (t268.length : Int) := of_decide_eq_true (by first | (with_reducible assumption) | assumption)
        obtain ⟨ad295, e295, hx295_0⟩ := Kd.at_int (Kd.R_reads' HO_18.out).2.2 1 p295 q295
        obtain rfl : ad293 = ad295 := (by injection e295)
        (try simp only [show (1 : Int).toNat = 1 from rfl, Nat.reduceMul, Nat.reduceEqDiff, Go.Addr.add, ↓reduceIte] at hx295_0)
        have qi295 : (1 < t268.length) = True := eq_true (by omega)
        (try rw [show ((1 : Int)).toNat = 1 from rfl] at hx295_0)
        replace p295 := eq_true p295
        replace q295 := eq_true q295
        have p296 : 0 ≤ (0 : Int) := (by omega)
        have q296 : 0 < (t285.length : Int) := of_decide_eq_true (by first | (with_reducible assumption) | assumption)
        obtain ⟨ad296, e296, hx296_0⟩ := Kd.at_int (Kd.R_reads' HO_21.out).2.2 0 p296 q296
        obtain rfl : ad294 = ad296 := (by injection e296)
        have qi296 : (0 < t285.length) = True := eq_true (by omega)
        (try rw [show ((0 : Int)).toNat = 0 from rfl] at hx296_0)
        (try rw [Addr.add_zero'] at hx296_0)
        replace p296 := eq_true p296
        replace q296 := eq_true q296
        have p297 : 0 ≤ (0 : Int) := (by omega)
        have q297 : 0 < (t271.length : Int) := of_decide_eq_true (by first | (with_reducible assumption) | assumption)
        obtain ⟨ad297, e297, hx297_0⟩ := Kd.at_bool (Kd.R_reads' HO_19.out).2.2 0 p297 q297
        cases e297
        have qi297 : (0 < t271.length) = True := eq_true (by omega)
        (try rw [show ((0 : Int)).toNat = 0 from rfl] at hx297_0)
        (try rw [Addr.add_zero'] at hx297_0)
        replace p297 := eq_true p297
        replace q297 := eq_true q297
        have p298 : 0 ≤ (1 : Int) := (by omega)
        have q298 : 1 < (t288.length : Int) := of_decide_eq_true (by first | (with_reducible assumption) | assumption)
        obtain ⟨ad298, e298, hx298_0⟩ := Kd.at_bool (Kd.R_reads' HO_22.out).2.2 1 p298 q298
        cases e298
        (try simp only [show (1 : Int).toNat = 1 from rfl, Nat.reduceMul, Nat.reduceEqDiff, Go.Addr.add, ↓reduceIte] at hx298_0)
        have qi298 : (1 < t288.length) = True := eq_true (by omega)
        (try rw [show ((1 : Int)).toNat = 1 from rfl] at hx298_0)
        replace p298 := eq_true p298
        replace q298 := eq_true q298
        refine start_ (n := 44) (S := fun w' => w'.cell? ⟨gb274, 0, none⟩ = some (.int .i64 t261) ∧ w'.cell? ⟨gb274, 1, none⟩ = some (.slice Ao70 t262.length co70) ∧ w'.cell? ⟨gb274, 2, none⟩ = some (.slice Ao71 t265.length co71) ∧ w'.cell? ⟨gb291, 0, none⟩ = some (.int .i64 t278) ∧ w'.cell? ⟨gb291, 1, none⟩ = some (.slice Ao85 t279.length co85) ∧ w'.cell? ⟨gb291, 2, none⟩ = some (.slice Ao86 t282.length co86) ∧ w'.cell? ad293 = some (.int .i64 (rd t268 0)) ∧ w'.cell? ⟨ad294.block, ad294.off + 1, none⟩ = some (.int .i64 (rd t285 1)) ∧ w'.cell? ⟨ad293.block, ad293.off + 1, none⟩ = some (.int .i64 (rd t268 1)) ∧ w'.cell? ad294 = some (.int .i64 (rd t285 0)) ∧ w'.cell? ad297 = some (.bool (rdOf false t271 0)) ∧ w'.cell? ⟨ad298.block, ad298.off + 1, none⟩ = some (.bool (rdOf false t288 1))) (ds := []) (bA 44 0) (by kernel_rfl) rfl (by kernel_rfl) ⟨(blk_cell BK274.out 0).trans rfl, (blk_cell BK274.out 1).trans rfl, (blk_cell BK274.out 2).trans rfl, (blk_cell BK291.out 0).trans rfl, (blk_cell BK291.out 1).trans rfl, (blk_cell BK291.out 2).trans rfl, hx293_0, hx294_0, hx295_0, hx296_0, hx297_0, hx298_0⟩ (fun hHeld => ?_); refine with_tabW underwoodlaw09_SpecSeen.tab17 underwoodlaw09_SpecSeen.bits17 (fun HT_ HW_ => ?_)
        generalize wc.drew = w115 at HO_18 HO_19 HO_21 HO_22 HO_275001 HO_275002 HO_292001 HO_292002 BK238 BK239 BK274 BK291 HB hx293_0 hx294_0 hx295_0 hx296_0 hx297_0 hx298_0 hHeld ⊢
        refine pu 0 111 44 1 HT_.out (h := ?_)
        refine pu 1 112 44 3 HT_.out (h := ?_)
        refine tk 2 113 44 7 HT_.out HW_.out hHeld (hy := by rintro w' ⟨s0, s1, s2, s3, s4, s5, s6, s7, s8, s9, s10, s11⟩; go_simp; with_reducible rfl) (h := ?_)
        refine tk 3 114 44 15 HT_.out HW_.out hHeld (hy := by rintro w' ⟨s0, s1, s2, s3, s4, s5, s6, s7, s8, s9, s10, s11⟩; go_simp; with_reducible rfl) (h := ?_)
        refine one_ (i := 4) (N := some 115) (bA 44 31) rfl rfl (one_of HT_.out (by kernel_rfl)) (by decide) (fun K hK => ?_)
        refine goes_ Try.func12 (by kernel_rfl) rfl #[.agg #[.int .i64 t261, .slice Ao70 t262.length co70, .slice Ao71 t265.length co71], .agg #[.int .i64 t278, .slice Ao85 t279.length co85, .slice Ao86 t282.length co86]] (by rfl) rfl rfl ls ?_
        with_reducible refine (underwoodref09_Same.calls kj51 t261 _ _ t262 _ _ t265 t278 _ _ t279 _ _ t282 true _ ?side1 ?side2 ?side3 ?side4 ?side5 ?side6 ?side7 ?side8 A104.out).mono ?_
        (case side1 => repeat (first | exact (Kd.V_reads' HO_275001.out).2.2 | (with_reducible refine Kd.C_alloc ?_ _) | (with_reducible refine Kd.C_drewN ?_ _) | (with_reducible refine Kd.C_drew ?_)))
        (case side2 => exact (Kd.V_reads' HO_275001.out).2.1)
        (case side3 => repeat (first | exact (Kd.V_reads' HO_275002.out).2.2 | (with_reducible refine Kd.C_alloc ?_ _) | (with_reducible refine Kd.C_drewN ?_ _) | (with_reducible refine Kd.C_drew ?_)))
        (case side4 => exact (Kd.V_reads' HO_275002.out).2.1)
        (case side5 => repeat (first | exact (Kd.V_reads' HO_292001.out).2.2 | (with_reducible refine Kd.C_alloc ?_ _) | (with_reducible refine Kd.C_drewN ?_ _) | (with_reducible refine Kd.C_drew ?_)))
        (case side6 => exact (Kd.V_reads' HO_292001.out).2.1)
        (case side7 => repeat (first | exact (Kd.V_reads' HO_292002.out).2.2 | (with_reducible refine Kd.C_alloc ?_ _) | (with_reducible refine Kd.C_drewN ?_ _) | (with_reducible refine Kd.C_drew ?_)))
        (case side8 => exact (Kd.V_reads' HO_292002.out).2.1)
        rintro e w116 ⟨rfl, hb⟩
        have HS6_ := (hb.cell (World.block_lt_of_cell? _ _ (hHeld.2.2.2.2.2.2.1))).trans (hHeld.2.2.2.2.2.2.1)
        have HS7_ := (hb.cell (World.block_lt_of_cell? _ _ (hHeld.2.2.2.2.2.2.2.1))).trans (hHeld.2.2.2.2.2.2.2.1)
        have HS8_ := (hb.cell (World.block_lt_of_cell? _ _ (hHeld.2.2.2.2.2.2.2.2.1))).trans (hHeld.2.2.2.2.2.2.2.2.1)
        have HS9_ := (hb.cell (World.block_lt_of_cell? _ _ (hHeld.2.2.2.2.2.2.2.2.2.1))).trans (hHeld.2.2.2.2.2.2.2.2.2.1)
        have HS10_ := (hb.cell (World.block_lt_of_cell? _ _ (hHeld.2.2.2.2.2.2.2.2.2.2.1))).trans (hHeld.2.2.2.2.2.2.2.2.2.2.1)
        have HS11_ := (hb.cell (World.block_lt_of_cell? _ _ (hHeld.2.2.2.2.2.2.2.2.2.2.2))).trans (hHeld.2.2.2.2.2.2.2.2.2.2.2)
        refine ⟨_, rfl, ?_⟩
        have n0_ := Aside0.mk (Kd.R_below (uR HO_18.out) hb)
        have n1_ := Aside0.mk (Kd.R_below (uR HO_19.out) hb)
        have n2_ := Aside0.mk (Kd.R_below (uR HO_21.out) hb)
        have n3_ := Aside0.mk (Kd.R_below (uR HO_22.out) hb)
        have n10_ := Aside0.mk (blk_below (g := gb238) (o := .cells #[.int .i64 (wrap64 (1 + (wrap64 (Int.tmod a3 3)))), .int .i64 0, .int .i64 (wrap64 (a0)), .int .i64 (wrap64 (a1))] 26 (0, 0)) (ub BK238.out) hb)
        have n11_ := Aside0.mk (blk_below (g := gb239) (o := .cells #[.int .i64 (wrap64 (1 + (wrap64 (Int.tmod a4 3)))), .int .i64 0, .int .i64 (wrap64 (a0)), .int .i64 (wrap64 (a2))] 26 (0, 0)) (ub BK239.out) hb)
        have n13_ := Aside0.mk (blk_below (g := gb274) (o := .cells #[.int .i64 t261, .slice Ao70 t262.length co70, .slice Ao71 t265.length co71] 24 (0, 0)) (ub BK274.out) hb)
        have n14_ := Aside0.mk (blk_below (g := gb291) (o := .cells #[.int .i64 t278, .slice Ao85 t279.length co85, .slice Ao86 t282.length co86] 24 (0, 0)) (ub BK291.out) hb)
        have n15_ := Aside0.mk (below_step (uB HB.out) hb)
        clear HO_18 HO_19 HO_21 HO_22 BK238 BK239 BK274 BK291 HB
        have HO_18 := n0_
        have HO_19 := n1_
        have HO_21 := n2_
        have HO_22 := n3_
        have BK238 := n10_
        have BK239 := n11_
        have BK274 := n13_
        have BK291 := n14_
        have HB := n15_
        clear n0_ n1_ n2_ n3_ n10_ n11_ n13_ n14_ n15_
        (try clear hb)
        (try clear hb2)
        (try clear hk)
        (try clear hi)
        refine hK.out _ _ ⟨(blk_cell BK274.out 0).trans rfl, (blk_cell BK274.out 1).trans rfl, (blk_cell BK274.out 2).trans rfl, (blk_cell BK291.out 0).trans rfl, (blk_cell BK291.out 1).trans rfl, (blk_cell BK291.out 2).trans rfl, HS6_, HS7_, HS8_, HS9_, HS10_, HS11_⟩ (fun hHeld => ?_)
        clear hK K
        refine norm_ (a' := ?_) ?_ ?_
        rotate_left
        ·show Act.put _ (some 115) _ = _
         simp only [Act.put, List.setIfInBounds_toArray, List.set_cons_zero, List.set_cons_succ, i64_w, i32_w]
         rfl
        refine pu 5 116 44 63 HT_.out (h := ?_)
        refine pu 6 117 44 127 HT_.out (h := ?_)
        refine pu 7 118 44 255 HT_.out (h := ?_)
        refine pu 8 119 44 511 HT_.out (h := ?_)
        refine pu 9 120 44 1023 HT_.out (h := ?_)
        refine pu 11 122 44 3071 HT_.out (h := ?_)
        refine pu 12 123 44 7167 HT_.out (h := ?_)
        refine tk 10 121 44 8191 HT_.out HW_.out hHeld (hy := by rintro w' ⟨s0, s1, s2, s3, s4, s5, s6, s7, s8, s9, s10, s11⟩; go_simp; with_reducible rfl) (h := ?_)
        refine tk 13 124 44 16383 HT_.out HW_.out hHeld (hy := by rintro w' ⟨s0, s1, s2, s3, s4, s5, s6, s7, s8, s9, s10, s11⟩; go_simp; with_reducible rfl) (h := ?_)
        refine pu 14 125 44 32767 HT_.out (h := ?_)
        refine pu 15 126 44 65535 HT_.out (h := ?_)
        refine pu 16 127 44 131071 HT_.out (h := ?_)
        refine pu 17 128 44 262143 HT_.out (h := ?_)
        refine pu 18 129 44 524287 HT_.out (h := ?_)
        refine pu 20 131 44 1572863 HT_.out (h := ?_)
        refine pu 21 132 44 3670015 HT_.out (h := ?_)
        refine tk 19 130 44 4194303 HT_.out HW_.out hHeld (hy := by rintro w' ⟨s0, s1, s2, s3, s4, s5, s6, s7, s8, s9, s10, s11⟩; go_simp; with_reducible rfl) (h := ?_)
        refine tk 22 133 44 8388607 HT_.out HW_.out hHeld (hy := by rintro w' ⟨s0, s1, s2, s3, s4, s5, s6, s7, s8, s9, s10, s11⟩; go_simp; with_reducible rfl) (h := ?_)
        refine pu 23 134 44 16777215 HT_.out (h := ?_)
        refine pu 24 135 44 33554431 HT_.out (h := ?_)
        refine pu 25 136 44 67108863 HT_.out (h := ?_)
        refine pu 26 137 44 134217727 HT_.out (h := ?_)
        refine pu 27 138 44 268435455 HT_.out (h := ?_)
        refine pu 29 140 44 805306367 HT_.out (h := ?_)
        refine pu 30 141 44 1879048191 HT_.out (h := ?_)
        refine tk 28 139 44 2147483647 HT_.out HW_.out hHeld (hy := by rintro w' ⟨s0, s1, s2, s3, s4, s5, s6, s7, s8, s9, s10, s11⟩; go_simp; with_reducible rfl) (h := ?_)
        refine tk 31 142 44 4294967295 HT_.out HW_.out hHeld (hy := by rintro w' ⟨s0, s1, s2, s3, s4, s5, s6, s7, s8, s9, s10, s11⟩; go_simp; with_reducible rfl) (h := ?_)
        refine pu 32 143 44 8589934591 HT_.out (h := ?_)
        refine pu 33 144 44 17179869183 HT_.out (h := ?_)
        refine pu 34 145 44 34359738367 HT_.out (h := ?_)
        refine pz 35 146 44 68719476735 HT_.out (h := ?_)
        refine pz 36 147 44 137438953471 HT_.out (h := ?_)
        refine pz 37 148 44 274877906943 HT_.out (h := ?_)
        refine pz 38 149 44 549755813887 HT_.out (h := ?_)
        refine pz 39 150 44 1099511627775 HT_.out (h := ?_)
        refine pz 40 151 44 2199023255551 HT_.out (h := ?_)
        refine pz 41 152 44 4398046511103 HT_.out (h := ?_)
        refine pu 42 153 44 8796093022207 HT_.out (h := ?_)
        refine pu 43 14 44 17592186044415 HT_.out (h := ?_)
        refine done_ (done_of HT_.out (by kernel_rfl)) ?_
        try go_wp2
        go_roundg kj51
        case measure => have := HK1.out; have := HJ30.out; have := HJ51.out; omega
        case rel => exact ⟨(true), (wrap64 (x15_1 + 1)), (by first | rfl | (simp; done) | (simp [*]; done)), (by first | rfl | (simp; done) | (simp [*]; done)), H', ⟨by have := HK1.out; have := HJ30.out; have := HJ51.out; omega⟩, ⟨by (with_reducible repeat (first | refine blk_drewN ?_ _ | refine blk_drew ?_ | refine blk_alloc ?_ _)); exact BK238.out⟩, ⟨by (with_reducible repeat (first | refine blk_drewN ?_ _ | refine blk_drew ?_ | refine blk_alloc ?_ _)); exact BK239.out⟩, ⟨uB HB.out⟩⟩
       rw [if_neg c114] at H
       have c114b0 : ((rdOf false t271 0) != (rdOf false t288 1)) = false := by simpa using c114
       (try (have c114b1 : decide ((rdOf false t271 0) = (rdOf false t288 1)) = true := by simpa using c114))
       (try (have c114b2 : ((rdOf false t271 0) == (rdOf false t288 1)) = true := by simpa using c114))
       clear c114
       by_cases c121 : 1 < (t271.length : Int)
       rotate_left
       ·rw [if_neg c121] at H
        exact absurd H (by simp)
       rw [if_pos c121] at H
       have c121b0 : decide (1 < (t271.length : Int)) = true := decide_eq_true c121
       have c121b1 : decide (1 < t271.length) = true := decide_eq_true (by omega)
       clear c121
       by_cases c122 : 0 < (t288.length : Int)
       rotate_left
       ·rw [if_neg c122] at H
        exact absurd H (by simp)
       rw [if_pos c122] at H
       have c122b0 : decide (0 < (t288.length : Int)) = true := decide_eq_true c122
       have c122b1 : decide (0 < t288.length) = true := decide_eq_true (by omega)
       clear c122
       have H' := Aside0.mk H
       clear H
       try go_wp2
       have n0_ := Aside0.mk (Kd.R_drew HO_18.out)
       have n1_ := Aside0.mk (Kd.R_drew HO_19.out)
       have n2_ := Aside0.mk (Kd.R_drew HO_21.out)
       have n3_ := Aside0.mk (Kd.R_drew HO_22.out)
       have n6_ := Aside0.mk (Kd.V_drew HO_275001.out)
       have n7_ := Aside0.mk (Kd.V_drew HO_275002.out)
       have n8_ := Aside0.mk (Kd.V_drew HO_292001.out)
       have n9_ := Aside0.mk (Kd.V_drew HO_292002.out)
       have n10_ := Aside0.mk (blk_drew BK238.out)
       have n11_ := Aside0.mk (blk_drew BK239.out)
       have n13_ := Aside0.mk (blk_drew BK274.out)
       have n14_ := Aside0.mk (blk_drew BK291.out)
       have n15_ := Aside0.mk (below_drew1 HB.out)
       clear HO_18 HO_19 HO_21 HO_22 HO_275001 HO_275002 HO_292001 HO_292002 BK238 BK239 BK274 BK291 HB
       have HO_18 := n0_
       have HO_19 := n1_
       have HO_21 := n2_
       have HO_22 := n3_
       have HO_275001 := n6_
       have HO_275002 := n7_
       have HO_292001 := n8_
       have HO_292002 := n9_
       have BK238 := n10_
       have BK239 := n11_
       have BK274 := n13_
       have BK291 := n14_
       have HB := n15_
       clear n0_ n1_ n2_ n3_ n6_ n7_ n8_ n9_ n10_ n11_ n13_ n14_ n15_
       obtain ⟨Ao125, co125, eo125⟩ := Kd.R_slice HO_18.out
       (first | subst eo125 | (injection eo125 with f1_ f2_ f3_; have f4_ := f1_.symm; have f5_ := f3_.symm; clear f1_ f2_ f3_; subst f4_; subst f5_))
       obtain ⟨Ao126, co126, eo126⟩ := Kd.R_slice HO_21.out
       (first | subst eo126 | (injection eo126 with f1_ f2_ f3_; have f4_ := f1_.symm; have f5_ := f3_.symm; clear f1_ f2_ f3_; subst f4_; subst f5_))
       obtain ⟨Ao127, co127, eo127⟩ := Kd.R_slice HO_19.out
       (first | subst eo127 | (injection eo127 with f1_ f2_ f3_; have f4_ := f1_.symm; have f5_ := f3_.symm; clear f1_ f2_ f3_; subst f4_; subst f5_))
       obtain ⟨Ao128, co128, eo128⟩ := Kd.R_slice HO_22.out
       (first | subst eo128 | (injection eo128 with f1_ f2_ f3_; have f4_ := f1_.symm; have f5_ := f3_.symm; clear f1_ f2_ f3_; subst f4_; subst f5_))
       have p293 : 0 ≤ (0 : Int) := (by omega)
       have q293 : 0 < (t268.length : Int) := of_decide_eq_true (by first | (with_reducible assumption) | assumption)
       obtain ⟨ad293, e293, hx293_0⟩ := Kd.at_int (Kd.R_reads' HO_18.out).2.2 0 p293 q293
       cases e293
       have qi293 : (0 < t268.length) = True := eq_true (by omega)
       (try rw [show ((0 : Int)).toNat = 0 from rfl] at hx293_0)
       (try rw [Addr.add_zero'] at hx293_0)
       replace p293 := eq_true p293
       replace q293 := eq_true q293
       have p294 : 0 ≤ (1 : Int) := (by omega)
       have q294 : 1 < (t285.length : Int) := of_decide_eq_true (by first | (with_reducible assumption) | assumption)
       obtain ⟨ad294, e294, hx294_0⟩ := Kd.at_int (Kd.R_reads' HO_21.out).2.2 1 p294 q294
       cases e294
       (try simp only [show (1 : Int).toNat = 1 from rfl, Nat.reduceMul, Nat.reduceEqDiff, Go.Addr.add, ↓reduceIte] at hx294_0)
       have qi294 : (1 < t285.length) = True := eq_true (by omega)
       (try rw [show ((1 : Int)).toNat = 1 from rfl] at hx294_0)
       replace p294 := eq_true p294
       replace q294 := eq_true q294
       have p295 : 0 ≤ (1 : Int) := (by omega)
       have q295 : 1 < (t268.length : Int) := of_decide_eq_true (by first | (with_reducible assumption) | assumption)
       obtain ⟨ad295, e295, hx295_0⟩ := Kd.at_int (Kd.R_reads' HO_18.out).2.2 1 p295 q295
       obtain rfl : ad293 = ad295 := (by injection e295)
       (try simp only [show (1 : Int).toNat = 1 from rfl, Nat.reduceMul, Nat.reduceEqDiff, Go.Addr.add, ↓reduceIte] at hx295_0)
       have qi295 : (1 < t268.length) = True := eq_true (by omega)
       (try rw [show ((1 : Int)).toNat = 1 from rfl] at hx295_0)
       replace p295 := eq_true p295
       replace q295 := eq_true q295
       have p296 : 0 ≤ (0 : Int) := (by omega)
       have q296 : 0 < (t285.length : Int) := of_decide_eq_true (by first | (with_reducible assumption) | assumption)
       obtain ⟨ad296, e296, hx296_0⟩ := Kd.at_int (Kd.R_reads' HO_21.out).2.2 0 p296 q296
       obtain rfl : ad294 = ad296 := (by injection e296)
       have qi296 : (0 < t285.length) = True := eq_true (by omega)
       (try rw [show ((0 : Int)).toNat = 0 from rfl] at hx296_0)
       (try rw [Addr.add_zero'] at hx296_0)
       replace p296 := eq_true p296
       replace q296 := eq_true q296
       have p297 : 0 ≤ (0 : Int) := (by omega)
       have q297 : 0 < (t271.length : Int) := of_decide_eq_true (by first | (with_reducible assumption) | assumption)
       obtain ⟨ad297, e297, hx297_0⟩ := Kd.at_bool (Kd.R_reads' HO_19.out).2.2 0 p297 q297
       cases e297
       have qi297 : (0 < t271.length) = True := eq_true (by omega)
       (try rw [show ((0 : Int)).toNat = 0 from rfl] at hx297_0)
       (try rw [Addr.add_zero'] at hx297_0)
       replace p297 := eq_true p297
       replace q297 := eq_true q297
       have p298 : 0 ≤ (1 : Int) := (by omega)
       have q298 : 1 < (t288.length : Int) := of_decide_eq_true (by first | (with_reducible assumption) | assumption)
       obtain ⟨ad298, e298, hx298_0⟩ := Kd.at_bool (Kd.R_reads' HO_22.out).2.2 1 p298 q298
       cases e298
       (try simp only [show (1 : Int).toNat = 1 from rfl, Nat.reduceMul, Nat.reduceEqDiff, Go.Addr.add, ↓reduceIte] at hx298_0)
       have qi298 : (1 < t288.length) = True := eq_true (by omega)
       (try rw [show ((1 : Int)).toNat = 1 from rfl] at hx298_0)
       replace p298 := eq_true p298
       replace q298 := eq_true q298
       have p299 : 0 ≤ (1 : Int) := (by omega)
       have q299 : 1 < (t271.length : Int) := of_decide_eq_true (by first | (with_reducible assumption) | assumption)
       obtain ⟨ad299, e299, hx299_0⟩ := Kd.at_bool (Kd.R_reads' HO_19.out).2.2 1 p299 q299
       obtain rfl : ad297 = ad299 := (by injection e299)
       (try simp only [show (1 : Int).toNat = 1 from rfl, Nat.reduceMul, Nat.reduceEqDiff, Go.Addr.add, ↓reduceIte] at hx299_0)
       have qi299 : (1 < t271.length) = True := eq_true (by omega)
       (try rw [show ((1 : Int)).toNat = 1 from rfl] at hx299_0)
       replace p299 := eq_true p299
       replace q299 := eq_true q299
       have p300 : 0 ≤ (0 : Int) := (by omega)
       have q300 : 0 < (t288.length : Int) := of_decide_eq_true (by first | (with_reducible assumption) | assumption)
       obtain ⟨ad300, e300, hx300_0⟩ := Kd.at_bool (Kd.R_reads' HO_22.out).2.2 0 p300 q300
       obtain rfl : ad298 = ad300 := (by injection e300)
       have qi300 : (0 < t288.length) = True := eq_true (by omega)
       (try rw [show ((0 : Int)).toNat = 0 from rfl] at hx300_0)
       (try rw [Addr.add_zero'] at hx300_0)
       replace p300 := eq_true p300
       replace q300 := eq_true q300
       refine start_ (n := 44) (S := fun w' => w'.cell? ⟨gb274, 0, none⟩ = some (.int .i64 t261) ∧ w'.cell? ⟨gb274, 1, none⟩ = some (.slice Ao70 t262.length co70) ∧ w'.cell? ⟨gb274, 2, none⟩ = some (.slice Ao71 t265.length co71) ∧ w'.cell? ⟨gb291, 0, none⟩ = some (.int .i64 t278) ∧ w'.cell? ⟨gb291, 1, none⟩ = some (.slice Ao85 t279.length co85) ∧ w'.cell? ⟨gb291, 2, none⟩ = some (.slice Ao86 t282.length co86) ∧ w'.cell? ad293 = some (.int .i64 (rd t268 0)) ∧ w'.cell? ⟨ad294.block, ad294.off + 1, none⟩ = some (.int .i64 (rd t285 1)) ∧ w'.cell? ⟨ad293.block, ad293.off + 1, none⟩ = some (.int .i64 (rd t268 1)) ∧ w'.cell? ad294 = some (.int .i64 (rd t285 0)) ∧ w'.cell? ad297 = some (.bool (rdOf false t271 0)) ∧ w'.cell? ⟨ad298.block, ad298.off + 1, none⟩ = some (.bool (rdOf false t288 1)) ∧ w'.cell? ⟨ad297.block, ad297.off + 1, none⟩ = some (.bool (rdOf false t271 1)) ∧ w'.cell? ad298 = some (.bool (rdOf false t288 0))) (ds := []) (bA 44 0) (by kernel_rfl) rfl (by kernel_rfl) ⟨(blk_cell BK274.out 0).trans rfl, (blk_cell BK274.out 1).trans rfl, (blk_cell BK274.out 2).trans rfl, (blk_cell BK291.out 0).trans rfl, (blk_cell BK291.out 1).trans rfl, (blk_cell BK291.out 2).trans rfl, hx293_0, hx294_0, hx295_0, hx296_0, hx297_0, hx298_0, hx299_0, hx300_0⟩ (fun hHeld => ?_); refine with_tabW underwoodlaw09_SpecSeen.tab17 underwoodlaw09_SpecSeen.bits17 (fun HT_ HW_ => ?_)
       generalize wc.drew = w123 at HO_18 HO_19 HO_21 HO_22 HO_275001 HO_275002 HO_292001 HO_292002 BK238 BK239 BK274 BK291 HB hx293_0 hx294_0 hx295_0 hx296_0 hx297_0 hx298_0 hx299_0 hx300_0 hHeld ⊢
       refine pu 0 111 44 1 HT_.out (h := ?_)
       refine pu 1 112 44 3 HT_.out (h := ?_)
       refine tk 2 113 44 7 HT_.out HW_.out hHeld (hy := by rintro w' ⟨s0, s1, s2, s3, s4, s5, s6, s7, s8, s9, s10, s11, s12, s13⟩; go_simp; with_reducible rfl) (h := ?_)
       refine tk 3 114 44 15 HT_.out HW_.out hHeld (hy := by rintro w' ⟨s0, s1, s2, s3, s4, s5, s6, s7, s8, s9, s10, s11, s12, s13⟩; go_simp; with_reducible rfl) (h := ?_)
       refine one_ (i := 4) (N := some 115) (bA 44 31) rfl rfl (one_of HT_.out (by kernel_rfl)) (by decide) (fun K hK => ?_)
       refine goes_ Try.func12 (by kernel_rfl) rfl #[.agg #[.int .i64 t261, .slice Ao70 t262.length co70, .slice Ao71 t265.length co71], .agg #[.int .i64 t278, .slice Ao85 t279.length co85, .slice Ao86 t282.length co86]] (by rfl) rfl rfl ls ?_
       with_reducible refine (underwoodref09_Same.calls kj51 t261 _ _ t262 _ _ t265 t278 _ _ t279 _ _ t282 true _ ?side1 ?side2 ?side3 ?side4 ?side5 ?side6 ?side7 ?side8 A104.out).mono ?_
       (case side1 => repeat (first | exact (Kd.V_reads' HO_275001.out).2.2 | (with_reducible refine Kd.C_alloc ?_ _) | (with_reducible refine Kd.C_drewN ?_ _) | (with_reducible refine Kd.C_drew ?_)))
       (case side2 => exact (Kd.V_reads' HO_275001.out).2.1)
       (case side3 => repeat (first | exact (Kd.V_reads' HO_275002.out).2.2 | (with_reducible refine Kd.C_alloc ?_ _) | (with_reducible refine Kd.C_drewN ?_ _) | (with_reducible refine Kd.C_drew ?_)))
       (case side4 => exact (Kd.V_reads' HO_275002.out).2.1)
       (case side5 => repeat (first | exact (Kd.V_reads' HO_292001.out).2.2 | (with_reducible refine Kd.C_alloc ?_ _) | (with_reducible refine Kd.C_drewN ?_ _) | (with_reducible refine Kd.C_drew ?_)))
       (case side6 => exact (Kd.V_reads' HO_292001.out).2.1)
       (case side7 => repeat (first | exact (Kd.V_reads' HO_292002.out).2.2 | (with_reducible refine Kd.C_alloc ?_ _) | (with_reducible refine Kd.C_drewN ?_ _) | (with_reducible refine Kd.C_drew ?_)))
       (case side8 => exact (Kd.V_reads' HO_292002.out).2.1)
       rintro e w124 ⟨rfl, hb⟩
       have HS6_ := (hb.cell (World.block_lt_of_cell? _ _ (hHeld.2.2.2.2.2.2.1))).trans (hHeld.2.2.2.2.2.2.1)
       have HS7_ := (hb.cell (World.block_lt_of_cell? _ _ (hHeld.2.2.2.2.2.2.2.1))).trans (hHeld.2.2.2.2.2.2.2.1)
       have HS8_ := (hb.cell (World.block_lt_of_cell? _ _ (hHeld.2.2.2.2.2.2.2.2.1))).trans (hHeld.2.2.2.2.2.2.2.2.1)
       have HS9_ := (hb.cell (World.block_lt_of_cell? _ _ (hHeld.2.2.2.2.2.2.2.2.2.1))).trans (hHeld.2.2.2.2.2.2.2.2.2.1)
       have HS10_ := (hb.cell (World.block_lt_of_cell? _ _ (hHeld.2.2.2.2.2.2.2.2.2.2.1))).trans (hHeld.2.2.2.2.2.2.2.2.2.2.1)
       have HS11_ := (hb.cell (World.block_lt_of_cell? _ _ (hHeld.2.2.2.2.2.2.2.2.2.2.2.1))).trans (hHeld.2.2.2.2.2.2.2.2.2.2.2.1)
       have HS12_ := (hb.cell (World.block_lt_of_cell? _ _ (hHeld.2.2.2.2.2.2.2.2.2.2.2.2.1))).trans (hHeld.2.2.2.2.2.2.2.2.2.2.2.2.1)
       have HS13_ := (hb.cell (World.block_lt_of_cell? _ _ (hHeld.2.2.2.2.2.2.2.2.2.2.2.2.2))).trans (hHeld.2.2.2.2.2.2.2.2.2.2.2.2.2)
       refine ⟨_, rfl, ?_⟩
       have n0_ := Aside0.mk (Kd.R_below (uR HO_18.out) hb)
       have n1_ := Aside0.mk (Kd.R_below (uR HO_19.out) hb)
       have n2_ := Aside0.mk (Kd.R_below (uR HO_21.out) hb)
       have n3_ := Aside0.mk (Kd.R_below (uR HO_22.out) hb)
       have n10_ := Aside0.mk (blk_below (g := gb238) (o := .cells #[.int .i64 (wrap64 (1 + (wrap64 (Int.tmod a3 3)))), .int .i64 0, .int .i64 (wrap64 (a0)), .int .i64 (wrap64 (a1))] 26 (0, 0)) (ub BK238.out) hb)
       have n11_ := Aside0.mk (blk_below (g := gb239) (o := .cells #[.int .i64 (wrap64 (1 + (wrap64 (Int.tmod a4 3)))), .int .i64 0, .int .i64 (wrap64 (a0)), .int .i64 (wrap64 (a2))] 26 (0, 0)) (ub BK239.out) hb)
       have n13_ := Aside0.mk (blk_below (g := gb274) (o := .cells #[.int .i64 t261, .slice Ao70 t262.length co70, .slice Ao71 t265.length co71] 24 (0, 0)) (ub BK274.out) hb)
       have n14_ := Aside0.mk (blk_below (g := gb291) (o := .cells #[.int .i64 t278, .slice Ao85 t279.length co85, .slice Ao86 t282.length co86] 24 (0, 0)) (ub BK291.out) hb)
       have n15_ := Aside0.mk (below_step (uB HB.out) hb)
       clear HO_18 HO_19 HO_21 HO_22 BK238 BK239 BK274 BK291 HB
       have HO_18 := n0_
       have HO_19 := n1_
       have HO_21 := n2_
       have HO_22 := n3_
       have BK238 := n10_
       have BK239 := n11_
       have BK274 := n13_
       have BK291 := n14_
       have HB := n15_
       clear n0_ n1_ n2_ n3_ n10_ n11_ n13_ n14_ n15_
       (try clear hb)
       (try clear hb2)
       (try clear hk)
       (try clear hi)
       refine hK.out _ _ ⟨(blk_cell BK274.out 0).trans rfl, (blk_cell BK274.out 1).trans rfl, (blk_cell BK274.out 2).trans rfl, (blk_cell BK291.out 0).trans rfl, (blk_cell BK291.out 1).trans rfl, (blk_cell BK291.out 2).trans rfl, HS6_, HS7_, HS8_, HS9_, HS10_, HS11_, HS12_, HS13_⟩ (fun hHeld => ?_)
       clear hK K
       refine norm_ (a' := ?_) ?_ ?_
       rotate_left
       ·show Act.put _ (some 115) _ = _
        simp only [Act.put, List.setIfInBounds_toArray, List.set_cons_zero, List.set_cons_succ, i64_w, i32_w]
        rfl
       refine pu 5 116 44 63 HT_.out (h := ?_)
       refine pu 6 117 44 127 HT_.out (h := ?_)
       refine pu 7 118 44 255 HT_.out (h := ?_)
       refine pu 8 119 44 511 HT_.out (h := ?_)
       refine pu 9 120 44 1023 HT_.out (h := ?_)
       refine pu 11 122 44 3071 HT_.out (h := ?_)
       refine pu 12 123 44 7167 HT_.out (h := ?_)
       refine tk 10 121 44 8191 HT_.out HW_.out hHeld (hy := by rintro w' ⟨s0, s1, s2, s3, s4, s5, s6, s7, s8, s9, s10, s11, s12, s13⟩; go_simp; with_reducible rfl) (h := ?_)
       refine tk 13 124 44 16383 HT_.out HW_.out hHeld (hy := by rintro w' ⟨s0, s1, s2, s3, s4, s5, s6, s7, s8, s9, s10, s11, s12, s13⟩; go_simp; with_reducible rfl) (h := ?_)
       refine pu 14 125 44 32767 HT_.out (h := ?_)
       refine pu 15 126 44 65535 HT_.out (h := ?_)
       refine pu 16 127 44 131071 HT_.out (h := ?_)
       refine pu 17 128 44 262143 HT_.out (h := ?_)
       refine pu 18 129 44 524287 HT_.out (h := ?_)
       refine pu 20 131 44 1572863 HT_.out (h := ?_)
       refine pu 21 132 44 3670015 HT_.out (h := ?_)
       refine tk 19 130 44 4194303 HT_.out HW_.out hHeld (hy := by rintro w' ⟨s0, s1, s2, s3, s4, s5, s6, s7, s8, s9, s10, s11, s12, s13⟩; go_simp; with_reducible rfl) (h := ?_)
       refine tk 22 133 44 8388607 HT_.out HW_.out hHeld (hy := by rintro w' ⟨s0, s1, s2, s3, s4, s5, s6, s7, s8, s9, s10, s11, s12, s13⟩; go_simp; with_reducible rfl) (h := ?_)
       refine pu 23 134 44 16777215 HT_.out (h := ?_)
       refine pu 24 135 44 33554431 HT_.out (h := ?_)
       refine pu 25 136 44 67108863 HT_.out (h := ?_)
       refine pu 26 137 44 134217727 HT_.out (h := ?_)
       refine pu 27 138 44 268435455 HT_.out (h := ?_)
       refine pu 29 140 44 805306367 HT_.out (h := ?_)
       refine pu 30 141 44 1879048191 HT_.out (h := ?_)
       refine tk 28 139 44 2147483647 HT_.out HW_.out hHeld (hy := by rintro w' ⟨s0, s1, s2, s3, s4, s5, s6, s7, s8, s9, s10, s11, s12, s13⟩; go_simp; with_reducible rfl) (h := ?_)
       refine tk 31 142 44 4294967295 HT_.out HW_.out hHeld (hy := by rintro w' ⟨s0, s1, s2, s3, s4, s5, s6, s7, s8, s9, s10, s11, s12, s13⟩; go_simp; with_reducible rfl) (h := ?_)
       refine pu 32 143 44 8589934591 HT_.out (h := ?_)
       refine pu 33 144 44 17179869183 HT_.out (h := ?_)
       refine pu 34 145 44 34359738367 HT_.out (h := ?_)
       refine pu 35 146 44 68719476735 HT_.out (h := ?_)
       refine pu 36 147 44 137438953471 HT_.out (h := ?_)
       refine pu 38 149 44 412316860415 HT_.out (h := ?_)
       refine pu 39 150 44 962072674303 HT_.out (h := ?_)
       refine tk 37 148 44 1099511627775 HT_.out HW_.out hHeld (hy := by rintro w' ⟨s0, s1, s2, s3, s4, s5, s6, s7, s8, s9, s10, s11, s12, s13⟩; go_simp; with_reducible rfl) (h := ?_)
       refine tk 40 151 44 2199023255551 HT_.out HW_.out hHeld (hy := by rintro w' ⟨s0, s1, s2, s3, s4, s5, s6, s7, s8, s9, s10, s11, s12, s13⟩; go_simp; with_reducible rfl) (h := ?_)
       refine pu 41 152 44 4398046511103 HT_.out (h := ?_)
       refine pu 42 153 44 8796093022207 HT_.out (h := ?_)
       refine pu 43 14 44 17592186044415 HT_.out (h := ?_)
       refine done_ (done_of HT_.out (by kernel_rfl)) ?_
       try go_wp2
       go_roundg kj51
       case measure => have := HK1.out; have := HJ30.out; have := HJ51.out; omega
       case rel => exact ⟨(((rdOf false t271 1) != (rdOf false t288 0))), (wrap64 (x15_1 + 1)), (by first | rfl | (simp; done) | (simp [*]; done)), (by first | rfl | (simp; done) | (simp [*]; done)), H', ⟨by have := HK1.out; have := HJ30.out; have := HJ51.out; omega⟩, ⟨by (with_reducible repeat (first | refine blk_drewN ?_ _ | refine blk_drew ?_ | refine blk_alloc ?_ _)); exact BK238.out⟩, ⟨by (with_reducible repeat (first | refine blk_drewN ?_ _ | refine blk_drew ?_ | refine blk_alloc ?_ _)); exact BK239.out⟩, ⟨uB HB.out⟩⟩
/-- THE ONE PURE STATEMENT of underwoodlaw09_SpecSeen: yours. -/
def underwoodlaw09_SpecSeen.Pure : Prop := ∀ (a0 : Int) (a1 : Int) (a2 : Int) (a3 : Int) (a4 : Int), (Lit.int .u16 a0).wf = true → (Lit.int .u32 a1).wf = true → (Lit.int .u32 a2).wf = true → (Lit.int .u8 a3).wf = true → (Lit.int .u8 a4).wf = true → ∃ k, underwoodlaw09_SpecSeen.f k a0 a1 a2 a3 a4 = some true
theorem underwoodlaw09_SpecSeen.walk (P : underwoodlaw09_SpecSeen.Pure) (a0 : Int) (a1 : Int) (a2 : Int) (a3 : Int) (a4 : Int) (w : World) (w0 : (Lit.int .u16 a0).wf = true) (w1 : (Lit.int .u32 a1).wf = true) (w2 : (Lit.int .u32 a2).wf = true) (w3 : (Lit.int .u8 a3).wf = true) (w4 : (Lit.int .u8 a4).wf = true) :
    Calls Try.prog 7 #[.int .u16 a0, .int .u32 a1, .int .u32 a2, .int .u8 a3, .int .u8 a4] w fun e w' => e = .returned (.bool true) ∧ Below w.heap.size w w' := by
  obtain ⟨k, h⟩ := P a0 a1 a2 a3 a4 w0 w1 w2 w3 w4
  refine (underwoodlaw09_SpecSeen.calls k a0 a1 a2 a3 a4 true w h rfl).mono ?_
  rintro e w' ⟨rfl, hd⟩
  exact ⟨rfl, hd⟩
end Go.Proofs.Ytmfgalcepaaolaa.PR
