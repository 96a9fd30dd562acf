/- A part of the proof of SpecSeen: what functions do and tell, and words for that. -/
import Derived.Test.YtmfgalcepaaolaaLPRx0
import Derived.Test.YtmfgalcepaaolaaLPRx1
import Derived.Test.YtmfgalcepaaolaaLPRx6
import Derived.Test.YtmfgalcepaaolaaLPRx7
namespace Go.Proofs.Ytmfgalcepaaolaa.PR
open Go.RowKit Go.Proofs.YtmfgalcepaaolaaW.PrintWords Go.Proofs.YtmfgalcepaaolaaW.PrintLast Go.Proofs.YtmfgalcepaaolaaW.PrintMore
set_option linter.unusedVariables false
set_option linter.unusedSimpArgs false
def underwoodref09_Ints.l0 : Nat → List Int → List Int → Int → Option (Bool)
  | 0, _, _, _ => none
  | k + 1, x0, x1, x5 => if x5 < (x0.length : Int) then (if 0 ≤ x5 then (if x5 < (x1.length : Int) then (if (rd x0 x5) = (rd x1 x5) then (underwoodref09_Ints.l0 k x0 x1 (wrap64 (x5 + 1))) else (some false)) else (none)) else (none)) else (some true)
def underwoodref09_Ints.f (k : Nat) (l0 : List Int) (l1 : List Int) : Option (Bool) := if (l0.length : Int) = (l1.length : Int) then (underwoodref09_Ints.l0 k l0 l1 0) else (some false)
theorem underwoodref09_Ints.mono_l : ∀ k, (∀ y0 y1 y2, LeO (underwoodref09_Ints.l0 k y0 y1 y2) (underwoodref09_Ints.l0 (k + 1) y0 y1 y2))
  | 0 => fun _ _ _ r h => by simp [underwoodref09_Ints.l0] at h
  | k + 1 => by
    have ih0 := underwoodref09_Ints.mono_l k
    · intro y0 y1 y2
      unfold underwoodref09_Ints.l0
      repeat' first
      | (with_reducible exact ih0 _ _ _)
      | (with_reducible exact LeO.refl _)
      | (with_reducible exact LeO.none _)
      | (with_reducible refine LeO.ite ?_ ?_)
      | (with_reducible refine LeO.bind ?_ (fun _ => ?_))
      | exact ih0 _ _ _
      | exact LeO.none _
      | refine LeO.ite ?_ ?_
      | refine LeO.bind ?_ (fun _ => ?_)
theorem underwoodref09_Ints.mono : ∀ a0 a1 k, LeO (underwoodref09_Ints.f k a0 a1) (underwoodref09_Ints.f (k + 1) a0 a1) := by
  intro a0 a1 k
  have ih0 := underwoodref09_Ints.mono_l k
  unfold underwoodref09_Ints.f
  repeat' first
      | (with_reducible exact ih0 _ _ _)
      | (with_reducible exact LeO.refl _)
      | (with_reducible exact LeO.none _)
      | (with_reducible refine LeO.ite ?_ ?_)
      | (with_reducible refine LeO.bind ?_ (fun _ => ?_))
      | exact ih0 _ _ _
      | exact LeO.none _
      | refine LeO.ite ?_ ?_
      | refine LeO.bind ?_ (fun _ => ?_)
set_option maxHeartbeats 8000000 in
set_option maxRecDepth 100000 in
theorem underwoodref09_Ints.calls (k : Nat) (A0 : Option Addr) (c0 : Nat) (l0 : List Int) (A1 : Option Addr) (c1 : Nat) (l1 : List Int) (r : Bool) (w : World) (hr0 : Kd.C (Kd.int .i64) w A0 l0.length l0) (hc0 : l0.length ≤ c0) (hr1 : Kd.C (Kd.int .i64) w A1 l1.length l1) (hc1 : l1.length ≤ c1) (h : underwoodref09_Ints.f k l0 l1 = some r) :
    Calls Try.prog 15 #[.slice A0 l0.length c0, .slice A1 l1.length c1] w fun e w' => e = .returned (.bool r) ∧ Drawn0 w w' := by
  have HR0 := Aside0.mk hr0
  have HC0 := Aside0.mk hc0
  clear hr0 hc0
  have HR1 := Aside0.mk hr1
  have HC1 := Aside0.mk hc1
  clear hr1 hc1
  have H : (if (l0.length : Int) = (l1.length : Int) then (underwoodref09_Ints.l0 k l0 l1 0) else (some false)) = some r := h
  clear h
  by_cases c3 : (l0.length : Int) = (l1.length : Int)
  · rw [if_pos c3] at H
    have c3b0 : ((l0.length : Int) == (l1.length : Int)) = true := beq_iff_eq.mpr c3
    have c3b1 : ((l0.length : Int) != (l1.length : Int)) = false := bne_eq_false_iff_eq.mpr c3
    have c3b2 : (l0.length == l1.length) = true := by first | simpa using c3 | (simp at c3 ⊢; omega)
    clear c3
    have H' := Aside0.mk H
    clear H
    go_enter Try.func15, Try.ntmps15
    go_wp2
    repeat (go_quiet (fail); try go_wp2)
    go_loopg [5] k (fun kq v5 w' => ∃ (x5_1 : Int), v5 = .int .i64 x5_1 ∧ Aside0 (underwoodref09_Ints.l0 kq l0 l1 x5_1 = some r) ∧ Aside0 (kq ≤ k) ∧ Drawn0 w w')
    case atStart => exact ⟨(0), (by first | rfl | (simp; done) | (simp [*]; done)), H', ⟨Nat.le_refl _⟩, by repeat (first | exact Drawn0.refl _ | apply Drawn0.step)⟩
    case round =>
      clear H'
      try clear c1
      try clear p2
      try clear c3
      try clear c3b0
      try clear c3b1
      try clear c3b2
      obtain ⟨x5_1, rfl, HA, HK1, ⟨m1, rfl⟩⟩ := hrel
      cases gk with
      | zero => exact absurd HA.out (by simp [underwoodref09_Ints.l0])
      | succ k1 =>
        have H := HA.out
        clear HA
        simp only [underwoodref09_Ints.l0] at H
        by_cases c4 : x5_1 < (l0.length : Int)
        · rw [if_pos c4] at H
          have c4b0 : decide (x5_1 < (l0.length : Int)) = true := decide_eq_true c4
          clear c4
          by_cases c5 : 0 ≤ x5_1
          · rw [if_pos c5] at H
            have c5b0 : decide (0 ≤ x5_1) = true := decide_eq_true c5
            clear c5
            by_cases c6 : x5_1 < (l1.length : Int)
            · rw [if_pos c6] at H
              have c6b0 : decide (x5_1 < (l1.length : Int)) = true := decide_eq_true c6
              clear c6
              by_cases c7 : (rd l0 x5_1) = (rd l1 x5_1)
              · rw [if_pos c7] at H
                have c7b0 : ((rd l0 x5_1) == (rd l1 x5_1)) = true := beq_iff_eq.mpr c7
                have c7b1 : ((rd l0 x5_1) != (rd l1 x5_1)) = false := bne_eq_false_iff_eq.mpr c7
                clear c7
                have H' := Aside0.mk H
                clear H
                have p224 : 0 ≤ (x5_1 : Int) := of_decide_eq_true (by first | (with_reducible assumption) | assumption)
                have q224 : x5_1 < (l0.length : Int) := of_decide_eq_true (by first | (with_reducible assumption) | assumption)
                obtain ⟨ad224, e224, hx224_0⟩ := Kd.at_int HR0.out x5_1 p224 q224
                cases e224
                replace p224 := eq_true p224
                replace q224 := eq_true q224
                have p225 : 0 ≤ (x5_1 : Int) := of_decide_eq_true (by first | (with_reducible assumption) | assumption)
                have q225 : x5_1 < (l1.length : Int) := of_decide_eq_true (by first | (with_reducible assumption) | assumption)
                obtain ⟨ad225, e225, hx225_0⟩ := Kd.at_int HR1.out x5_1 p225 q225
                cases e225
                replace p225 := eq_true p225
                replace q225 := eq_true q225
                go_wp2
                repeat (go_quiet (fail); try go_wp2)
                go_roundg k1
                case measure => have := HK1.out; omega
                case rel => exact ⟨(wrap64 (x5_1 + 1)), (by first | rfl | (simp; done) | (simp [*]; done)), H', ⟨by have := HK1.out; omega⟩, by repeat (first | exact Drawn0.refl _ | apply Drawn0.step)⟩
              · rw [if_neg c7] at H
                have c7b0 : ((rd l0 x5_1) == (rd l1 x5_1)) = false := beq_eq_false_iff_ne.mpr c7
                have c7b1 : ((rd l0 x5_1) != (rd l1 x5_1)) = true := bne_iff_ne.mpr c7
                obtain rfl := Option.some.inj H
                have p224 : 0 ≤ (x5_1 : Int) := of_decide_eq_true (by first | (with_reducible assumption) | assumption)
                have q224 : x5_1 < (l0.length : Int) := of_decide_eq_true (by first | (with_reducible assumption) | assumption)
                obtain ⟨ad224, e224, hx224_0⟩ := Kd.at_int HR0.out x5_1 p224 q224
                cases e224
                replace p224 := eq_true p224
                replace q224 := eq_true q224
                have p225 : 0 ≤ (x5_1 : Int) := of_decide_eq_true (by first | (with_reducible assumption) | assumption)
                have q225 : x5_1 < (l1.length : Int) := of_decide_eq_true (by first | (with_reducible assumption) | assumption)
                obtain ⟨ad225, e225, hx225_0⟩ := Kd.at_int HR1.out x5_1 p225 q225
                cases e225
                replace p225 := eq_true p225
                replace q225 := eq_true q225
                go_wp2
                repeat (go_quiet (fail); try go_wp2)
                go_ret
                exact ⟨by first | rfl | (simp; done) | (simp [*]; done), by repeat (first | exact Drawn0.refl _ | apply Drawn0.step)⟩
            · rw [if_neg c6] at H
              exact absurd H (by simp)
          · rw [if_neg c5] at H
            exact absurd H (by simp)
        · rw [if_neg c4] at H
          have c4b0 : decide (x5_1 < (l0.length : Int)) = false := decide_eq_false c4
          clear c4
          obtain rfl := Option.some.inj H
          go_wp2
          repeat (go_quiet (fail); try go_wp2)
          go_ret
          exact ⟨by first | rfl | (simp; done) | (simp [*]; done), by repeat (first | exact Drawn0.refl _ | apply Drawn0.step)⟩
  · rw [if_neg c3] at H
    have c3b0 : ((l0.length : Int) == (l1.length : Int)) = false := beq_eq_false_iff_ne.mpr c3
    have c3b1 : ((l0.length : Int) != (l1.length : Int)) = true := bne_iff_ne.mpr c3
    have c3b2 : (l0.length == l1.length) = false := by first | simpa using c3 | (simp at c3 ⊢; omega)
    obtain rfl := Option.some.inj H
    go_enter Try.func15, Try.ntmps15
    go_wp2
    repeat (go_quiet (fail); try go_wp2)
    go_ret
    exact ⟨by first | rfl | (simp; done) | (simp [*]; done), by repeat (first | exact Drawn0.refl _ | apply Drawn0.step)⟩
def underwoodref09_Bools.l0 : Nat → List Bool → List Bool → Int → Option (Bool)
  | 0, _, _, _ => none
  | k + 1, x0, x1, x5 => if x5 < (x0.length : Int) then (if 0 ≤ x5 then (if x5 < (x1.length : Int) then (if ((rdOf false x0 x5) != (rdOf false x1 x5)) = true then (some false) else (underwoodref09_Bools.l0 k x0 x1 (wrap64 (x5 + 1)))) else (none)) else (none)) else (some true)
def underwoodref09_Bools.f (k : Nat) (l0 : List Bool) (l1 : List Bool) : Option (Bool) := if (l0.length : Int) = (l1.length : Int) then (underwoodref09_Bools.l0 k l0 l1 0) else (some false)
theorem underwoodref09_Bools.mono_l : ∀ k, (∀ y0 y1 y2, LeO (underwoodref09_Bools.l0 k y0 y1 y2) (underwoodref09_Bools.l0 (k + 1) y0 y1 y2))
  | 0 => fun _ _ _ r h => by simp [underwoodref09_Bools.l0] at h
  | k + 1 => by
    have ih0 := underwoodref09_Bools.mono_l k
    · intro y0 y1 y2
      unfold underwoodref09_Bools.l0
      repeat' first
      | (with_reducible exact ih0 _ _ _)
      | (with_reducible exact LeO.refl _)
      | (with_reducible exact LeO.none _)
      | (with_reducible refine LeO.ite ?_ ?_)
      | (with_reducible refine LeO.bind ?_ (fun _ => ?_))
      | exact ih0 _ _ _
      | exact LeO.none _
      | refine LeO.ite ?_ ?_
      | refine LeO.bind ?_ (fun _ => ?_)
theorem underwoodref09_Bools.mono : ∀ a0 a1 k, LeO (underwoodref09_Bools.f k a0 a1) (underwoodref09_Bools.f (k + 1) a0 a1) := by
  intro a0 a1 k
  have ih0 := underwoodref09_Bools.mono_l k
  unfold underwoodref09_Bools.f
  repeat' first
      | (with_reducible exact ih0 _ _ _)
      | (with_reducible exact LeO.refl _)
      | (with_reducible exact LeO.none _)
      | (with_reducible refine LeO.ite ?_ ?_)
      | (with_reducible refine LeO.bind ?_ (fun _ => ?_))
      | exact ih0 _ _ _
      | exact LeO.none _
      | refine LeO.ite ?_ ?_
      | refine LeO.bind ?_ (fun _ => ?_)
set_option maxHeartbeats 8000000 in
set_option maxRecDepth 100000 in
theorem underwoodref09_Bools.calls (k : Nat) (A0 : Option Addr) (c0 : Nat) (l0 : List Bool) (A1 : Option Addr) (c1 : Nat) (l1 : List Bool) (r : Bool) (w : World) (hr0 : Kd.C Kd.bool w A0 l0.length l0) (hc0 : l0.length ≤ c0) (hr1 : Kd.C Kd.bool w A1 l1.length l1) (hc1 : l1.length ≤ c1) (h : underwoodref09_Bools.f k l0 l1 = some r) :
    Calls Try.prog 19 #[.slice A0 l0.length c0, .slice A1 l1.length c1] w fun e w' => e = .returned (.bool r) ∧ Drawn0 w w' := by
  have HR0 := Aside0.mk hr0
  have HC0 := Aside0.mk hc0
  clear hr0 hc0
  have HR1 := Aside0.mk hr1
  have HC1 := Aside0.mk hc1
  clear hr1 hc1
  have H : (if (l0.length : Int) = (l1.length : Int) then (underwoodref09_Bools.l0 k l0 l1 0) else (some false)) = some r := h
  clear h
  by_cases c3 : (l0.length : Int) = (l1.length : Int)
  · rw [if_pos c3] at H
    have c3b0 : ((l0.length : Int) == (l1.length : Int)) = true := beq_iff_eq.mpr c3
    have c3b1 : ((l0.length : Int) != (l1.length : Int)) = false := bne_eq_false_iff_eq.mpr c3
    have c3b2 : (l0.length == l1.length) = true := by first | simpa using c3 | (simp at c3 ⊢; omega)
    clear c3
    have H' := Aside0.mk H
    clear H
    go_enter Try.func19, Try.ntmps19
    go_wp2
    repeat (go_quiet (fail); try go_wp2)
    go_loopg [5] k (fun kq v5 w' => ∃ (x5_1 : Int), v5 = .int .i64 x5_1 ∧ Aside0 (underwoodref09_Bools.l0 kq l0 l1 x5_1 = some r) ∧ Aside0 (kq ≤ k) ∧ Drawn0 w w')
    case atStart => exact ⟨(0), (by first | rfl | (simp; done) | (simp [*]; done)), H', ⟨Nat.le_refl _⟩, by repeat (first | exact Drawn0.refl _ | apply Drawn0.step)⟩
    case round =>
      clear H'
      try clear c1
      try clear p2
      try clear c3
      try clear c3b0
      try clear c3b1
      try clear c3b2
      obtain ⟨x5_1, rfl, HA, HK1, ⟨m1, rfl⟩⟩ := hrel
      cases gk with
      | zero => exact absurd HA.out (by simp [underwoodref09_Bools.l0])
      | succ k1 =>
        have H := HA.out
        clear HA
        simp only [underwoodref09_Bools.l0] at H
        by_cases c4 : x5_1 < (l0.length : Int)
        · rw [if_pos c4] at H
          have c4b0 : decide (x5_1 < (l0.length : Int)) = true := decide_eq_true c4
          clear c4
          by_cases c5 : 0 ≤ x5_1
          · rw [if_pos c5] at H
            have c5b0 : decide (0 ≤ x5_1) = true := decide_eq_true c5
            clear c5
            by_cases c6 : x5_1 < (l1.length : Int)
            · rw [if_pos c6] at H
              have c6b0 : decide (x5_1 < (l1.length : Int)) = true := decide_eq_true c6
              clear c6
              by_cases c7 : ((rdOf false l0 x5_1) != (rdOf false l1 x5_1)) = true
              · rw [if_pos c7] at H
                have c7b0 : ((rdOf false l0 x5_1) != (rdOf false l1 x5_1)) = true := c7
                (try (have c7b1 : decide ((rdOf false l0 x5_1) = (rdOf false l1 x5_1)) = false := by simpa using c7))
                (try (have c7b2 : ((rdOf false l0 x5_1) == (rdOf false l1 x5_1)) = false := by simpa using c7))
                (try (have c7b3 : ¬ ((rdOf false l0 x5_1) = (rdOf false l1 x5_1)) := by simpa using c7))
                clear c7
                obtain rfl := Option.some.inj H
                have p227 : 0 ≤ (x5_1 : Int) := of_decide_eq_true (by first | (with_reducible assumption) | assumption)
                have q227 : x5_1 < (l0.length : Int) := of_decide_eq_true (by first | (with_reducible assumption) | assumption)
                obtain ⟨ad227, e227, hx227_0⟩ := Kd.at_bool HR0.out x5_1 p227 q227
                cases e227
                replace p227 := eq_true p227
                replace q227 := eq_true q227
                have p228 : 0 ≤ (x5_1 : Int) := of_decide_eq_true (by first | (with_reducible assumption) | assumption)
                have q228 : x5_1 < (l1.length : Int) := of_decide_eq_true (by first | (with_reducible assumption) | assumption)
                obtain ⟨ad228, e228, hx228_0⟩ := Kd.at_bool HR1.out x5_1 p228 q228
                cases e228
                replace p228 := eq_true p228
                replace q228 := eq_true q228
                go_wp2
                repeat (go_quiet (fail); try go_wp2)
                go_ret
                exact ⟨by first | rfl | (simp; done) | (simp [*]; done), by repeat (first | exact Drawn0.refl _ | apply Drawn0.step)⟩
              · rw [if_neg c7] at H
                have c7b0 : ((rdOf false l0 x5_1) != (rdOf false l1 x5_1)) = false := by simpa using c7
                (try (have c7b1 : decide ((rdOf false l0 x5_1) = (rdOf false l1 x5_1)) = true := by simpa using c7))
                (try (have c7b2 : ((rdOf false l0 x5_1) == (rdOf false l1 x5_1)) = true := by simpa using c7))
                clear c7
                have H' := Aside0.mk H
                clear H
                have p227 : 0 ≤ (x5_1 : Int) := of_decide_eq_true (by first | (with_reducible assumption) | assumption)
                have q227 : x5_1 < (l0.length : Int) := of_decide_eq_true (by first | (with_reducible assumption) | assumption)
                obtain ⟨ad227, e227, hx227_0⟩ := Kd.at_bool HR0.out x5_1 p227 q227
                cases e227
                replace p227 := eq_true p227
                replace q227 := eq_true q227
                have p228 : 0 ≤ (x5_1 : Int) := of_decide_eq_true (by first | (with_reducible assumption) | assumption)
                have q228 : x5_1 < (l1.length : Int) := of_decide_eq_true (by first | (with_reducible assumption) | assumption)
                obtain ⟨ad228, e228, hx228_0⟩ := Kd.at_bool HR1.out x5_1 p228 q228
                cases e228
                replace p228 := eq_true p228
                replace q228 := eq_true q228
                go_wp2
                repeat (go_quiet (fail); try go_wp2)
                go_roundg k1
                case measure => have := HK1.out; omega
                case rel => exact ⟨(wrap64 (x5_1 + 1)), (by first | rfl | (simp; done) | (simp [*]; done)), H', ⟨by have := HK1.out; omega⟩, by repeat (first | exact Drawn0.refl _ | apply Drawn0.step)⟩
            · rw [if_neg c6] at H
              exact absurd H (by simp)
          · rw [if_neg c5] at H
            exact absurd H (by simp)
        · rw [if_neg c4] at H
          have c4b0 : decide (x5_1 < (l0.length : Int)) = false := decide_eq_false c4
          clear c4
          obtain rfl := Option.some.inj H
          go_wp2
          repeat (go_quiet (fail); try go_wp2)
          go_ret
          exact ⟨by first | rfl | (simp; done) | (simp [*]; done), by repeat (first | exact Drawn0.refl _ | apply Drawn0.step)⟩
  · rw [if_neg c3] at H
    have c3b0 : ((l0.length : Int) == (l1.length : Int)) = false := beq_eq_false_iff_ne.mpr c3
    have c3b1 : ((l0.length : Int) != (l1.length : Int)) = true := bne_iff_ne.mpr c3
    have c3b2 : (l0.length == l1.length) = false := by first | simpa using c3 | (simp at c3 ⊢; omega)
    obtain rfl := Option.some.inj H
    go_enter Try.func19, Try.ntmps19
    go_wp2
    repeat (go_quiet (fail); try go_wp2)
    go_ret
    exact ⟨by first | rfl | (simp; done) | (simp [*]; done), by repeat (first | exact Drawn0.refl _ | apply Drawn0.step)⟩
theorem v_int {w : World} {A : Option Addr} {l : List Int} {c e : Nat} (h : Kd.C (Kd.int .i64) w A l.length l) (hc : l.length ≤ c) : Kd.V (Kd.int .i64) e w w.heap.size (fun k => k < w.heap.size) (.slice A l.length c) l := Kd.V_mk hc (Kd.C_F (Kd.heap_int _) h)
/-- A row that reads: its address, its room. -/
structure RdI (w : World) (A : Option Addr) (c : Nat) (l : List Int) : Prop where
  C : Kd.C (Kd.int .i64) w A l.length l
  le : l.length ≤ c
theorem RdI.below {w w1 : World} {A : Option Addr} {c : Nat} {l : List Int} (h : RdI w A c l) (hb : Below w.heap.size w w1) : RdI w1 A c l := ⟨Kd.C_below h.C hb, h.le⟩
theorem RdI.nil (w : World) : RdI w none 0 [] := ⟨Kd.C_nil _ _, Nat.le_refl _⟩
theorem RdI.ofV {w : World} {e base : Nat} {ok : Nat → Prop} {v : Value} {l : List Int} (h : Kd.V (Kd.int .i64) e w base ok v l) : ∃ A c, v = .slice A l.length c ∧ RdI w A c l := by
  obtain ⟨A, c, rfl⟩ := Kd.V_slice h
  exact ⟨A, c, rfl, (Kd.V_reads' h).2.2, (Kd.V_reads' h).2.1⟩
theorem RdI.ofR {w : World} {e base : Nat} {ok : Nat → Prop} {v : Value} {l : List Int} (h : Kd.R (Kd.int .i64) e w base ok v l) : ∃ A c, v = .slice A l.length c ∧ RdI w A c l := by
  obtain ⟨A, c, rfl, hl, hC⟩ := Kd.R_reads h
  exact ⟨A, c, rfl, hC, hl⟩
theorem RdI.lit {w : World} {g : Nat} {e : TypeId} {fr : Nat × Nat} {cs : Array Value} (l : List Int) (h : w.heap[g]? = some (.cells cs e fr)) (hcs : cs.toList = encs (Value.int .i64) l) (hl : l.length ≤ 9223372036854775807) : RdI w (some ⟨g, 0, none⟩) l.length l := by
  refine ⟨Kd.C_of_reads (d := (0 : Int)) ⟨rfl, hl, fun hp => ⟨_, rfl, fun j hj => ?_⟩⟩, Nat.le_refl _⟩
  rw [Addr.add_lit, Nat.zero_add]
  unfold World.cell?
  rw [h]
  show cs[j]? = _
  rw [← Array.getElem?_toList, hcs]
  simp [encs, List.getD, List.getElem?_eq_getElem hj]
theorem do_s (k : Nat) (w : World) (a0 : Int) (A1 : Option Addr) (c1 : Nat) (l1 : List Int) (A2 : Option Addr) (c2 : Nat) (l2 : List Int) (o0 o1 o2 o3 : Int) (r1 : Int) (r2 r3 : List Int) (r4 : Int) (r5 : Bool) (h1 : RdI w A1 c1 l1) (h2 : RdI w A2 c2 l2) (h : spec_Do.f k a0 l1 l2 o0 o1 o2 o3 = some (r1, r2, r3, r4, r5)) :
    Calls Try.prog 11 #[.agg #[.int .i64 a0, .slice A1 l1.length c1, .slice A2 l2.length c2], .agg #[.int .i64 o0, .int .i64 o1, .int .i64 o2, .int .i64 o3]] w fun e w' => ∃ A1' c1' A2' c2', e = .returned (.tuple #[.agg #[.int .i64 r1, .slice A1' r2.length c1', .slice A2' r3.length c2'], .int .i64 r4, .bool r5]) ∧ RdI w' A1' c1' r2 ∧ RdI w' A2' c2' r3 ∧ Below w.heap.size w w' := by
  refine (spec_Do.calls k a0 _ A1 c1 l1 _ A2 c2 l2 o0 o1 o2 o3 r1 r2 r3 r4 r5 w (v_int h1.C h1.le) (v_int h2.C h2.le) h).mono ?_
  rintro e w' ⟨v1, v2, rfl, hv1, hv2, hb⟩
  obtain ⟨A1', c1', rfl, hr1⟩ := RdI.ofV hv1
  obtain ⟨A2', c2', rfl, hr2⟩ := RdI.ofV hv2
  exact ⟨A1', c1', A2', c2', rfl, hr1, hr2, hb⟩
theorem flat_get {α : Type} (f : α → List Value) (n : Nat) (hf : ∀ x, (f x).length = n) : ∀ (l : List α) (j : Nat) (p : α) (i : Nat), l[j]? = some p → i < n → (l.flatMap f)[j * n + i]? = (f p)[i]?
  | [], j, p, i, h, _ => by simp at h
  | x :: l, 0, p, i, h, hi => by
    simp at h
    subst h
    rw [List.flatMap_cons, Nat.zero_mul, Nat.zero_add, List.getElem?_append_left (by rw [hf]; exact hi)]
  | x :: l, j + 1, p, i, h, hi => by
    simp at h
    rw [List.flatMap_cons, List.getElem?_append_right (by rw [hf, Nat.succ_mul]; omega), hf, show (j + 1) * n + i - n = j * n + i by rw [Nat.succ_mul]; omega]
    exact flat_get f n hf l j p i h hi
theorem ops_lit {w : World} {g : Nat} {e : TypeId} {fr : Nat × Nat} {cs : Array Value} (l : List S26) (h : w.heap[g]? = some (.cells cs e fr)) (hcs : cs.toList = l.flatMap (fun x => [.int .i64 x.f0, .int .i64 x.f1, .int .i64 x.f2, .int .i64 x.f3])) (hl : l.length ≤ 9223372036854775807) : Kd.C k26 w (some ⟨g, 0, none⟩) l.length l := by
  refine ⟨rfl, hl, fun hp => ⟨_, rfl, fun j p hj => ⟨_, rfl, k26_mk w p, fun i u hu => ?_⟩⟩⟩
  have hi : i < 4 := by have := (List.getElem?_eq_some_iff.1 hu).1; simpa using this
  show w.cell? ((⟨g, 0, none⟩ : Addr).add (j * 4 + i)) = some u
  rw [Addr.add_lit, Nat.zero_add]
  unfold World.cell?
  rw [h]
  show cs[j * 4 + i]? = _
  rw [← Array.getElem?_toList, hcs, flat_get _ 4 (fun _ => rfl) l j p i hj hi]
  exact hu
theorem all_s (k : Nat) (w : World) (a0 : Int) (A1 : Option Addr) (c1 : Nat) (l1 : List Int) (A2 : Option Addr) (c2 : Nat) (l2 : List Int) (A3 : Option Addr) (c3 : Nat) (l3 : List S26) (r1 : Int) (r2 r3 r4 : List Int) (r5 : List Bool) (h1 : RdI w A1 c1 l1) (h2 : RdI w A2 c2 l2) (h3 : Kd.C k26 w A3 l3.length l3) (hc3 : l3.length ≤ c3) (h : spec_All.f k a0 l1 l2 l3 = some (r1, r2, r3, r4, r5)) :
    Calls Try.prog 13 #[.agg #[.int .i64 a0, .slice A1 l1.length c1, .slice A2 l2.length c2], .slice A3 l3.length c3] w fun e w' => ∃ A1' c1' A2' c2' A3' c3' A4' c4', e = .returned (.tuple #[.agg #[.int .i64 r1, .slice A1' r2.length c1', .slice A2' r3.length c2'], .slice A3' r4.length c3', .slice A4' r5.length c4']) ∧ RdI w' A1' c1' r2 ∧ RdI w' A2' c2' r3 ∧ RdI w' A3' c3' r4 ∧ Aside0 (Kd.C Kd.bool w' A4' r5.length r5) ∧ Aside0 (r5.length ≤ c4') ∧ Below w.heap.size w w' := by
  refine (spec_All.calls k a0 _ A1 c1 l1 _ A2 c2 l2 A3 c3 l3 r1 r2 r3 r4 r5 w (v_int h1.C h1.le) (v_int h2.C h2.le) h3 hc3 h).mono ?_
  rintro e w' ⟨v1, v2, v3, v4, rfl, hv1, hv2, hv3, hv4, hb⟩
  obtain ⟨A1', c1', rfl, hr1⟩ := RdI.ofV hv1
  obtain ⟨A2', c2', rfl, hr2⟩ := RdI.ofV hv2
  obtain ⟨A3', c3', rfl, hr3⟩ := RdI.ofR hv3
  obtain ⟨A4', c4', rfl, hl4, hC4⟩ := Kd.R_reads hv4
  exact ⟨A1', c1', A2', c2', A3', c3', A4', c4', rfl, hr1, hr2, hr3, ⟨hC4⟩, ⟨hl4⟩, hb⟩
theorem new_s (a0 : Int) (w : World) : Calls Try.prog 16 #[.int .i64 a0] w fun e w' => e = .returned (.agg #[.int .i64 a0, .slice none 0 0, .slice none 0 0]) ∧ Below w.heap.size w w' := by
  go_enter Try.func16, Try.ntmps16
  go_wp2
  refine bodyPost_ret (v := .agg #[.int .i64 a0, .slice none 0 0, .slice none 0 0]) ?_ rfl ⟨rfl, ?_⟩
  · simp [results, Try.results16, go_sem]
  · repeat (first | refine Below.setCell ?_ (by simp) _ | refine below_alloc ?_ _ | exact Below.refl _ _)
theorem ints_s (k : Nat) (w : World) (A1 : Option Addr) (c1 : Nat) (l1 : List Int) (A2 : Option Addr) (c2 : Nat) (l2 : List Int) (r : Bool) (h1 : RdI w A1 c1 l1) (h2 : RdI w A2 c2 l2) (h : underwoodref09_Ints.f k l1 l2 = some r) :
    Calls Try.prog 15 #[.slice A1 l1.length c1, .slice A2 l2.length c2] w fun e w' => e = .returned (.bool r) ∧ Drawn0 w w' := underwoodref09_Ints.calls k A1 c1 l1 A2 c2 l2 r w h1.C h1.le h2.C h2.le h
theorem blk_newat (w : World) (o : Obj) {n : Nat} (h : n = w.heap.size) : (w.alloc o).heap[n]? = some o := by subst h; exact blk_new _ _
theorem below_next {w wk W wn : World} (H : Below w.heap.size w wk) (hW : Below wk.heap.size wk W) (hb : Below W.heap.size W wn) : Below w.heap.size w wn := below_then (below_then H H.size hW) (Nat.le_trans H.size hW.size) hb
theorem ints_b (k : Nat) (w : World) (A1 : Option Addr) (c1 : Nat) (l1 : List Int) (A2 : Option Addr) (c2 : Nat) (l2 : List Int) (r : Bool) (h1 : RdI w A1 c1 l1) (h2 : RdI w A2 c2 l2) (h : underwoodref09_Ints.f k l1 l2 = some r) :
    Calls Try.prog 15 #[.slice A1 l1.length c1, .slice A2 l2.length c2] w fun e w1 => e = .returned (.bool r) ∧ Below w.heap.size w w1 := (ints_s k w A1 c1 l1 A2 c2 l2 r h1 h2 h).mono (fun _ _ h => ⟨h.1, h.2.below⟩)
theorem bools_b (k : Nat) (w : World) (A1 : Option Addr) (c1 : Nat) (l1 : List Bool) (A2 : Option Addr) (c2 : Nat) (l2 : List Bool) (r : Bool) (h1 : Kd.C Kd.bool w A1 l1.length l1) (hc1 : l1.length ≤ c1) (h2 : Kd.C Kd.bool w A2 l2.length l2) (hc2 : l2.length ≤ c2) (h : underwoodref09_Bools.f k l1 l2 = some r) :
    Calls Try.prog 19 #[.slice A1 l1.length c1, .slice A2 l2.length c2] w fun e w1 => e = .returned (.bool r) ∧ Below w.heap.size w w1 := (underwoodref09_Bools.calls k A1 c1 l1 A2 c2 l2 r w h1 hc1 h2 hc2 h).mono (fun _ _ h => ⟨h.1, h.2.below⟩)
theorem bools_lit {w : World} {g : Nat} {e : TypeId} {fr : Nat × Nat} {cs : Array Value} (l : List Bool) (h : w.heap[g]? = some (.cells cs e fr)) (hcs : cs.toList = encs Value.bool l) (hl : l.length ≤ 9223372036854775807) : Kd.C Kd.bool w (some ⟨g, 0, none⟩) l.length l := by
  refine Kd.C_of_reads (d := false) ⟨rfl, hl, fun hp => ⟨_, rfl, fun j hj => ?_⟩⟩
  rw [Addr.add_lit, Nat.zero_add]
  unfold World.cell?
  rw [h]
  show cs[j]? = _
  rw [← Array.getElem?_toList, hcs]
  simp [encs, List.getD, List.getElem?_eq_getElem hj]
theorem up_cell {w W w1 : World} {a : Addr} {v : Value} (hW : Below w.heap.size w W) (hb : Below W.heap.size W w1) (h : w.cell? a = some v) : w1.cell? a = some v := pw_cell_below hb (pw_cell_below hW h)
theorem al {w : World} {a : Addr} {v : Value} (h : w.cell? a = some v) : ∀ o, (w.alloc o).cell? a = some v := fun o => pw_cell_below (below_alloc (Below.refl _ _) o) h
set_option maxHeartbeats 4000000 in
set_option maxRecDepth 100000 in
theorem underwoodlaw09_awake.aw (w : World) : Calls Try.prog 8 #[] w fun e w' => e = .returned (.bool true) ∧ Below w.heap.size w w' := by
  go_enter Try.func8, Try.ntmps8
  go_wp2_with fail
  refine (do_s 10 _ 1 (some ⟨w.heap.size, 0, none⟩) 1 [5] (some ⟨w.heap.size + 1, 0, none⟩) 1 [7] 2 0 5 9 1 [5] [7] 0 false ?_ ?_ (by kernel_rfl)).mono ?_
  · exact RdI.lit [5] (e := 3) (fr := (0, 0)) (cs := #[.int .i64 5]) (blk_alloc (blk_alloc (blk_newat _ _ rfl) _) _) rfl (by decide)
  · exact RdI.lit [7] (e := 3) (fr := (0, 0)) (cs := #[.int .i64 7]) (blk_alloc (blk_newat _ _ (by simp)) _) rfl (by decide)
  rintro e w1 ⟨B1, d1, B2, d2, rfl, R1, R2, hb⟩
  have hbw : Below w.heap.size w w1 := below_then (by repeat (first | refine below_alloc ?_ _ | exact Below.refl _ _)) (by simp; omega) hb
  have L1 : RdI w1 (some ⟨w.heap.size, 0, none⟩) 1 [5] := (RdI.lit [5] (e := 3) (fr := (0, 0)) (cs := #[.int .i64 5]) (blk_alloc (blk_alloc (blk_newat _ _ rfl) _) _) rfl (by decide)).below hb
  have L2 : RdI w1 (some ⟨w.heap.size + 1, 0, none⟩) 1 [7] := (RdI.lit [7] (e := 3) (fr := (0, 0)) (cs := #[.int .i64 7]) (blk_alloc (blk_newat _ _ (by simp)) _) rfl (by decide)).below hb
  have m0 : w1.cell? ⟨w.heap.size + 1 + 1, 0, none⟩ = some (.int .i64 1) := pw_cell_below hb (by go_simp)
  have m1 : w1.cell? ⟨w.heap.size + 1 + 1, 1, none⟩ = some (.slice (some ⟨w.heap.size, 0, none⟩) 1 1) := pw_cell_below hb (by go_simp)
  have m2 : w1.cell? ⟨w.heap.size + 1 + 1, 2, none⟩ = some (.slice (some ⟨w.heap.size + 1, 0, none⟩) 1 1) := pw_cell_below hb (by go_simp)
  have n0 := al m0
  have n1 := al m1
  have n2 := al m2
  clear hb
  have HB := Aside0.mk hbw
  clear hbw R1 R2
  go_wp2_with fail
  refine (do_s 10 _ 1 (some ⟨w.heap.size, 0, none⟩) 1 [5] (some ⟨w.heap.size + 1, 0, none⟩) 1 [7] 3 0 5 0 1 [] [] 0 true ?_ ?_ (by kernel_rfl)).mono ?_
  · exact L1.below (by repeat (first | refine below_alloc ?_ _ | exact Below.refl _ _))
  · exact L2.below (by repeat (first | refine below_alloc ?_ _ | exact Below.refl _ _))
  rintro e w2 ⟨G1, g1, G2, g2, rfl, R1, R2, hb⟩
  clear n0 n1 n2
  replace L1 := (L1.below (by repeat (first | refine below_alloc ?_ _ | exact Below.refl _ _))).below hb
  replace L2 := (L2.below (by repeat (first | refine below_alloc ?_ _ | exact Below.refl _ _))).below hb
  replace m0 := up_cell (by repeat (first | refine below_alloc ?_ _ | exact Below.refl _ _)) hb m0
  replace m1 := up_cell (by repeat (first | refine below_alloc ?_ _ | exact Below.refl _ _)) hb m1
  replace m2 := up_cell (by repeat (first | refine below_alloc ?_ _ | exact Below.refl _ _)) hb m2
  replace HB := Aside0.mk (below_next HB.out (by repeat (first | refine below_alloc ?_ _ | exact Below.refl _ _)) hb)
  have nm0 := al m0
  have nm1 := al m1
  have nm2 := al m2
  clear hb
  go_wp2_with fail
  refine (do_s 10 _ 1 G1 g1 [] G2 g2 [] 1 0 5 0 1 [] [] 0 false (R1.below (by repeat (first | refine below_alloc ?_ _ | exact Below.refl _ _))) (R2.below (by repeat (first | refine below_alloc ?_ _ | exact Below.refl _ _))) (by kernel_rfl)).mono ?_
  rintro e w3 ⟨X1, x1, X2, x2, rfl, _, _, hb⟩
  clear nm0 nm1 nm2
  replace L1 := (L1.below (by repeat (first | refine below_alloc ?_ _ | exact Below.refl _ _))).below hb
  replace L2 := (L2.below (by repeat (first | refine below_alloc ?_ _ | exact Below.refl _ _))).below hb
  replace m0 := up_cell (by repeat (first | refine below_alloc ?_ _ | exact Below.refl _ _)) hb m0
  replace m1 := up_cell (by repeat (first | refine below_alloc ?_ _ | exact Below.refl _ _)) hb m1
  replace m2 := up_cell (by repeat (first | refine below_alloc ?_ _ | exact Below.refl _ _)) hb m2
  replace HB := Aside0.mk (below_next HB.out (by repeat (first | refine below_alloc ?_ _ | exact Below.refl _ _)) hb)
  clear hb R1 R2
  go_wp2_with fail
  refine (do_s 10 _ 1 (some ⟨w.heap.size, 0, none⟩) 1 [5] (some ⟨w.heap.size + 1, 0, none⟩) 1 [7] 1 0 5 0 1 [5] [7] 7 true (L1.below (by repeat (first | refine below_alloc ?_ _ | exact Below.refl _ _))) (L2.below (by repeat (first | refine below_alloc ?_ _ | exact Below.refl _ _))) (by kernel_rfl)).mono ?_
  rintro e w4 ⟨Y1, y1, Y2, y2, rfl, _, _, hb⟩
  replace HB := Aside0.mk (below_next HB.out (by repeat (first | refine below_alloc ?_ _ | exact Below.refl _ _)) hb)
  clear hb m0 m1 m2 L1 L2
  go_wp2_with fail
  refine (new_s _ _).mono ?_
  rintro e w5 ⟨rfl, hb⟩
  replace HB := Aside0.mk (below_next HB.out (by repeat (first | refine below_alloc ?_ _ | exact Below.refl _ _)) hb)
  clear hb
  go_wp2_with fail
  refine (all_s 10 _ 2 none 0 [] none 0 [] (some ⟨w5.heap.size, 0, none⟩) 3 [⟨4, 0, 1, 0⟩, ⟨4, 0, 2, 0⟩, ⟨5, 0, 0, 0⟩] 2 [] [1] [0, 0, 2] [true, true, true] (RdI.nil _) (RdI.nil _) (ops_lit (e := 26) (fr := (0, 0)) _ (blk_newat _ _ rfl) rfl (by decide)) (by decide) (by kernel_rfl)).mono ?_
  rintro e w6 ⟨S1, s1, S2, s2, S3, s3, S4, s4, rfl, RS1, RS2, RS3, CS4, HS4, hb⟩
  replace HB := Aside0.mk (below_next HB.out (by repeat (first | refine below_alloc ?_ _ | exact Below.refl _ _)) hb)
  clear hb
  go_wp2_with fail
  refine (new_s _ _).mono ?_
  rintro e w7 ⟨rfl, hb⟩
  have b0 : w7.cell? ⟨w6.heap.size, 0, none⟩ = some (.int .i64 2) := pw_cell_below hb (by go_simp)
  have b1 : w7.cell? ⟨w6.heap.size, 1, none⟩ = some (.slice S1 0 s1) := pw_cell_below hb (by go_simp)
  have b2 : w7.cell? ⟨w6.heap.size, 2, none⟩ = some (.slice S2 1 s2) := pw_cell_below hb (by go_simp)
  replace RS1 := (RS1.below (by repeat (first | refine below_alloc ?_ _ | exact Below.refl _ _))).below hb
  replace RS2 := (RS2.below (by repeat (first | refine below_alloc ?_ _ | exact Below.refl _ _))).below hb
  replace RS3 := (RS3.below (by repeat (first | refine below_alloc ?_ _ | exact Below.refl _ _))).below hb
  replace CS4 := Aside0.mk (Kd.C_below (Kd.C_below CS4.out (by repeat (first | refine below_alloc ?_ _ | exact Below.refl _ _))) hb)
  replace HB := Aside0.mk (below_next HB.out (by repeat (first | refine below_alloc ?_ _ | exact Below.refl _ _)) hb)
  clear hb
  go_wp2_with fail
  refine (all_s 10 _ 3 none 0 [] none 0 [] (some ⟨w7.heap.size, 0, none⟩) 3 [⟨6, 0, 1, 0⟩, ⟨6, 0, 2, 0⟩, ⟨7, 0, 0, 0⟩] 3 [] [2] [0, 0, 1] [true, true, true] (RdI.nil _) (RdI.nil _) (ops_lit (e := 26) (fr := (0, 0)) _ (blk_newat _ _ rfl) rfl (by decide)) (by decide) (by kernel_rfl)).mono ?_
  rintro e w8 ⟨T1, t1, T2, t2, T3, t3, T4, t4, rfl, RT1, RT2, RT3, CT4, HT4, hb⟩
  replace RS1 := (RS1.below (by repeat (first | refine below_alloc ?_ _ | exact Below.refl _ _))).below hb
  replace RS2 := (RS2.below (by repeat (first | refine below_alloc ?_ _ | exact Below.refl _ _))).below hb
  replace RS3 := (RS3.below (by repeat (first | refine below_alloc ?_ _ | exact Below.refl _ _))).below hb
  replace b0 := up_cell (by repeat (first | refine below_alloc ?_ _ | exact Below.refl _ _)) hb b0
  replace b1 := up_cell (by repeat (first | refine below_alloc ?_ _ | exact Below.refl _ _)) hb b1
  replace b2 := up_cell (by repeat (first | refine below_alloc ?_ _ | exact Below.refl _ _)) hb b2
  replace CS4 := Aside0.mk (Kd.C_below (Kd.C_below CS4.out (by repeat (first | refine below_alloc ?_ _ | exact Below.refl _ _))) hb)
  replace HB := Aside0.mk (below_next HB.out (by repeat (first | refine below_alloc ?_ _ | exact Below.refl _ _)) hb)
  clear hb
  have e0 : ∀ o1 o2, ((w8.alloc o1).alloc o2).cell? ⟨w6.heap.size, 2, none⟩ = some (.slice S2 1 s2) := fun o1 o2 => al (al b2 o1) o2
  have e1 : ∀ o1, (w8.alloc o1).cell? ⟨w6.heap.size, 2, none⟩ = some (.slice S2 1 s2) := fun o1 => al b2 o1
  go_wp2_with fail
  refine (ints_b 10 _ S2 s2 [1] _ 1 [1] true (RS2.below (by repeat (first | refine below_alloc ?_ _ | exact Below.refl _ _))) (RdI.lit [1] (e := 3) (fr := (0, 0)) (cs := #[.int .i64 1]) (blk_newat _ _ (by simp)) rfl (by decide)) (by kernel_rfl)).mono ?_
  rintro e w9 ⟨rfl, hb⟩
  clear e0 e1
  have d2 : w9.cell? ⟨w8.heap.size, 2, none⟩ = some (.slice T2 1 t2) := pw_cell_below hb (by go_simp)
  replace RS1 := (RS1.below (by repeat (first | refine below_alloc ?_ _ | exact Below.refl _ _))).below hb
  replace RS2 := (RS2.below (by repeat (first | refine below_alloc ?_ _ | exact Below.refl _ _))).below hb
  replace RS3 := (RS3.below (by repeat (first | refine below_alloc ?_ _ | exact Below.refl _ _))).below hb
  replace RT2 := (RT2.below (by repeat (first | refine below_alloc ?_ _ | exact Below.refl _ _))).below hb
  replace RT3 := (RT3.below (by repeat (first | refine below_alloc ?_ _ | exact Below.refl _ _))).below hb
  replace b0 := up_cell (by repeat (first | refine below_alloc ?_ _ | exact Below.refl _ _)) hb b0
  replace b1 := up_cell (by repeat (first | refine below_alloc ?_ _ | exact Below.refl _ _)) hb b1
  replace b2 := up_cell (by repeat (first | refine below_alloc ?_ _ | exact Below.refl _ _)) hb b2
  replace CS4 := Aside0.mk (Kd.C_below (Kd.C_below CS4.out (by repeat (first | refine below_alloc ?_ _ | exact Below.refl _ _))) hb)
  replace HB := Aside0.mk (below_next HB.out (by repeat (first | refine below_alloc ?_ _ | exact Below.refl _ _)) hb)
  clear hb
  go_wp2_with fail
  refine (ints_b 10 _ S3 s3 [0, 0, 2] _ 3 [0, 0, 2] true (RS3.below (by repeat (first | refine below_alloc ?_ _ | exact Below.refl _ _))) (RdI.lit [0, 0, 2] (e := 3) (fr := (0, 0)) (cs := #[.int .i64 0, .int .i64 0, .int .i64 2]) (blk_newat _ _ (by simp)) rfl (by decide)) (by kernel_rfl)).mono ?_
  rintro e w10 ⟨rfl, hb⟩
  replace RS1 := (RS1.below (by repeat (first | refine below_alloc ?_ _ | exact Below.refl _ _))).below hb
  replace RS2 := (RS2.below (by repeat (first | refine below_alloc ?_ _ | exact Below.refl _ _))).below hb
  replace RT2 := (RT2.below (by repeat (first | refine below_alloc ?_ _ | exact Below.refl _ _))).below hb
  replace RT3 := (RT3.below (by repeat (first | refine below_alloc ?_ _ | exact Below.refl _ _))).below hb
  replace b0 := up_cell (by repeat (first | refine below_alloc ?_ _ | exact Below.refl _ _)) hb b0
  replace b1 := up_cell (by repeat (first | refine below_alloc ?_ _ | exact Below.refl _ _)) hb b1
  replace b2 := up_cell (by repeat (first | refine below_alloc ?_ _ | exact Below.refl _ _)) hb b2
  replace d2 := up_cell (by repeat (first | refine below_alloc ?_ _ | exact Below.refl _ _)) hb d2
  replace CS4 := Aside0.mk (Kd.C_below (Kd.C_below CS4.out (by repeat (first | refine below_alloc ?_ _ | exact Below.refl _ _))) hb)
  replace HB := Aside0.mk (below_next HB.out (by repeat (first | refine below_alloc ?_ _ | exact Below.refl _ _)) hb)
  clear hb RS3
  go_wp2_with fail
  refine (bools_b 10 _ S4 s4 [true, true, true] _ 3 [true, true, true] true (Kd.C_below CS4.out (by repeat (first | refine below_alloc ?_ _ | exact Below.refl _ _))) HS4.out (bools_lit (e := 4) (fr := (0, 0)) (cs := #[.bool true, .bool true, .bool true]) _ (blk_newat _ _ (by simp)) rfl (by decide)) (by decide) (by kernel_rfl)).mono ?_
  rintro e w11 ⟨rfl, hb⟩
  replace RS1 := (RS1.below (by repeat (first | refine below_alloc ?_ _ | exact Below.refl _ _))).below hb
  replace RS2 := (RS2.below (by repeat (first | refine below_alloc ?_ _ | exact Below.refl _ _))).below hb
  replace RT2 := (RT2.below (by repeat (first | refine below_alloc ?_ _ | exact Below.refl _ _))).below hb
  replace RT3 := (RT3.below (by repeat (first | refine below_alloc ?_ _ | exact Below.refl _ _))).below hb
  replace b0 := up_cell (by repeat (first | refine below_alloc ?_ _ | exact Below.refl _ _)) hb b0
  replace b1 := up_cell (by repeat (first | refine below_alloc ?_ _ | exact Below.refl _ _)) hb b1
  replace b2 := up_cell (by repeat (first | refine below_alloc ?_ _ | exact Below.refl _ _)) hb b2
  replace d2 := up_cell (by repeat (first | refine below_alloc ?_ _ | exact Below.refl _ _)) hb d2
  replace HB := Aside0.mk (below_next HB.out (by repeat (first | refine below_alloc ?_ _ | exact Below.refl _ _)) hb)
  clear hb CS4 HS4
  have nd2 := al d2
  go_wp2_with fail
  refine (ints_b 10 _ T2 t2 [2] _ 1 [2] true (RT2.below (by repeat (first | refine below_alloc ?_ _ | exact Below.refl _ _))) (RdI.lit [2] (e := 3) (fr := (0, 0)) (cs := #[.int .i64 2]) (blk_newat _ _ (by simp)) rfl (by decide)) (by kernel_rfl)).mono ?_
  rintro e w12 ⟨rfl, hb⟩
  clear nd2 d2
  replace RS1 := (RS1.below (by repeat (first | refine below_alloc ?_ _ | exact Below.refl _ _))).below hb
  replace RS2 := (RS2.below (by repeat (first | refine below_alloc ?_ _ | exact Below.refl _ _))).below hb
  replace RT3 := (RT3.below (by repeat (first | refine below_alloc ?_ _ | exact Below.refl _ _))).below hb
  replace b0 := up_cell (by repeat (first | refine below_alloc ?_ _ | exact Below.refl _ _)) hb b0
  replace b1 := up_cell (by repeat (first | refine below_alloc ?_ _ | exact Below.refl _ _)) hb b1
  replace b2 := up_cell (by repeat (first | refine below_alloc ?_ _ | exact Below.refl _ _)) hb b2
  replace HB := Aside0.mk (below_next HB.out (by repeat (first | refine below_alloc ?_ _ | exact Below.refl _ _)) hb)
  clear hb RT2
  go_wp2_with fail
  refine (ints_b 10 _ T3 t3 [0, 0, 1] _ 3 [0, 0, 1] true (RT3.below (by repeat (first | refine below_alloc ?_ _ | exact Below.refl _ _))) (RdI.lit [0, 0, 1] (e := 3) (fr := (0, 0)) (cs := #[.int .i64 0, .int .i64 0, .int .i64 1]) (blk_newat _ _ (by simp)) rfl (by decide)) (by kernel_rfl)).mono ?_
  rintro e w13 ⟨rfl, hb⟩
  replace RS1 := (RS1.below (by repeat (first | refine below_alloc ?_ _ | exact Below.refl _ _))).below hb
  replace RS2 := (RS2.below (by repeat (first | refine below_alloc ?_ _ | exact Below.refl _ _))).below hb
  replace b0 := up_cell (by repeat (first | refine below_alloc ?_ _ | exact Below.refl _ _)) hb b0
  replace b1 := up_cell (by repeat (first | refine below_alloc ?_ _ | exact Below.refl _ _)) hb b1
  replace b2 := up_cell (by repeat (first | refine below_alloc ?_ _ | exact Below.refl _ _)) hb b2
  replace HB := Aside0.mk (below_next HB.out (by repeat (first | refine below_alloc ?_ _ | exact Below.refl _ _)) hb)
  clear hb RT3
  go_wp2_with fail
  refine (spec_Right.calls 10 2 S1 s1 [] S2 s2 [1] true _ (RS1.below (by repeat (first | refine below_alloc ?_ _ | exact Below.refl _ _))).C RS1.le (RS2.below (by repeat (first | refine below_alloc ?_ _ | exact Below.refl _ _))).C RS2.le (by kernel_rfl)).mono ?_
  rintro e w14 ⟨rfl, hb⟩
  replace HB := Aside0.mk (below_next HB.out (by repeat (first | refine below_alloc ?_ _ | exact Below.refl _ _)) hb)
  clear hb b0 b1 b2 RS1 RS2
  go_wp2_with fail
  refine (spec_Of.calls 7 3 _ (by kernel_rfl)).mono ?_
  rintro e w15 ⟨rfl, hb⟩
  replace HB := Aside0.mk (below_next HB.out (by repeat (first | refine below_alloc ?_ _ | exact Below.refl _ _)) hb)
  clear hb
  go_wp2
  go_ret
  exact ⟨rfl, HB.out⟩
def underwoodlaw09_awake.f : Option (Bool) := some true
theorem underwoodlaw09_awake.calls (r : Bool) (w : World) (h : underwoodlaw09_awake.f = some r) :
    Calls Try.prog 8 #[] w fun e w' => e = .returned (.bool r) ∧ Below w.heap.size w w' := by
  obtain rfl := Option.some.inj h
  exact underwoodlaw09_awake.aw w
end Go.Proofs.Ytmfgalcepaaolaa.PR
