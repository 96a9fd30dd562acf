import Derived.Test.YtjmhioacbpgalaaDoorT5
namespace Go.Proofs.YtjmhioacbpgalaaDoor.S
open Go Go.Proofs.YtjmhioacbpgalaaDoorV
set_option linter.unusedSimpArgs false
set_option linter.unusedVariables false
set_option maxRecDepth 100000
set_option maxHeartbeats 4000000
/-! ### turns come round: the plain law -/
def cT (on : List Bool) : Nat → Nat
  | 0 => 0
  | i + 1 => cT on i + if qT on i = true then 1 else 0
def hT (on : List Bool) (x : Nat) : Nat → Nat
  | 0 => 0
  | i + 1 => hT on x i + if qT on i = true ∧ i % on.length = x then 1 else 0
section
variable {on : List Bool}
theorem qT_add (i : Nat) : qT on (i + on.length) = qT on i := by simp [qT]
theorem qT_mod (i : Nat) : qT on (i % on.length) = qT on i := by simp [qT]
theorem cT_add (i : Nat) : cT on (i + on.length) = cT on i + cT on on.length := by
  induction i with
  | zero => simp [cT]
  | succ i ih =>
    rw [Nat.add_right_comm]
    simp only [cT, ih, qT_add]; omega
theorem hT_add (x i : Nat) : hT on x (i + on.length) = hT on x i + hT on x on.length := by
  induction i with
  | zero => simp [hT]
  | succ i ih =>
    rw [Nat.add_right_comm]
    simp only [hT, ih, qT_add, Nat.add_mod_right]; omega
theorem hT_below (x : Nat) : ∀ j, j ≤ on.length → hT on x j = if x < j ∧ qT on x = true then 1 else 0
  | 0, _ => by simp [hT]
  | j + 1, hj => by
    rw [hT, hT_below x j (by omega), Nat.mod_eq_of_lt (by omega)]
    by_cases h : j = x
    · subst h
      by_cases hq : qT on j = true <;> simp [hq]
    · have e : (x < j + 1) ↔ (x < j) := by omega
      simp only [e]
      have : ¬ (qT on j = true ∧ j = x) := fun h' => h h'.2
      rw [if_neg this, Nat.add_zero]
theorem cT_mono : ∀ {i j : Nat}, i ≤ j → cT on i ≤ cT on j := by
  intro i j h
  induction h with
  | refl => exact Nat.le_refl _
  | step _ ih => exact Nat.le_trans ih (Nat.le_add_right _ _)
theorem hT_flat (x : Nat) {i j : Nat} (h : i ≤ j) (hc : cT on i = cT on j) : hT on x i = hT on x j := by
  induction h with
  | refl => rfl
  | @step m hm ih =>
    have h1 := cT_mono (on := on) hm
    simp only [cT] at hc
    have hq : ¬ qT on m = true := fun hq => by rw [if_pos hq] at hc; omega
    rw [if_neg hq] at hc
    rw [ih hc, hT, if_neg (fun h => hq h.1)]; rfl
theorem hT_same (x : Nat) {i j : Nat} (hc : cT on i = cT on j) : hT on x i = hT on x j := by
  rcases Nat.le_total i j with h | h
  · exact hT_flat x h hc
  · exact (hT_flat x h hc.symm).symm
theorem cT_inj {i j : Nat} (hi : qT on i = true) (hj : qT on j = true) (hc : cT on i = cT on j) : i = j := by
  rcases Nat.lt_trichotomy i j with h | h | h
  · have := cT_mono (on := on) (show i + 1 ≤ j from h)
    rw [cT, if_pos hi] at this; omega
  · exact h
  · have := cT_mono (on := on) (show j + 1 ≤ i from h)
    rw [cT, if_pos hj] at this; omega
theorem seekN_some : ∀ {d J J' : Nat}, seekN on d J = some J' → J ≤ J' ∧ qT on J' = true ∧ cT on J' = cT on J
  | 0, J, J', h => by cases h
  | d + 1, J, J', h => by
    simp only [seekN] at h
    split at h
    · rename_i hq; cases h; exact ⟨Nat.le_refl _, hq, rfl⟩
    · rename_i hq
      obtain ⟨h1, h2, h3⟩ := seekN_some h
      rw [cT, if_neg hq] at h3
      exact ⟨by omega, h2, h3⟩
theorem seekN_none : ∀ {d J : Nat}, seekN on d J = none ↔ cT on (J + d) = cT on J
  | 0, J => by simp [seekN]
  | d + 1, J => by
    simp only [seekN]
    by_cases hq : qT on J = true
    · rw [if_pos hq]
      have := cT_mono (on := on) (show J + 1 ≤ J + (d + 1) by omega)
      rw [cT, if_pos hq] at this
      constructor
      · intro h; cases h
      · intro h; omega
    · rw [if_neg hq, seekN_none, cT, if_neg hq, show J + 1 + d = J + (d + 1) by omega]; simp
theorem seekN_mod : ∀ {d a b : Nat}, a % on.length = b % on.length → (seekN on d a).map (· % on.length) = (seekN on d b).map (· % on.length)
  | 0, a, b, h => rfl
  | d + 1, a, b, h => by
    have hq : qT on a = qT on b := by rw [← qT_mod a, ← qT_mod b, h]
    simp only [seekN, hq]
    by_cases hb : qT on b = true
    · rw [if_pos hb, if_pos hb, Option.map_some, Option.map_some, h]
    · rw [if_neg hb, if_neg hb]
      exact seekN_mod (by rw [Nat.add_mod a, Nat.add_mod b, h])
theorem nextS_map (last : Int) {J : Nat} (h : ((lastN on last).toNat + 1) % on.length = J % on.length) : nextS on last = match (seekN on on.length J).map (· % on.length) with | some x => (x : Int) | none => -1 := by
  rw [← seekN_mod h]
  unfold nextS
  cases seekN on on.length ((lastN on last).toNat + 1) <;> rfl
/-- Behind so many turns. -/
structure Turn (on : List Bool) (last : Int) (k J J1 : Nat) (at_ first : Int) : Prop where
  le : (lastN on last).toNat + 1 ≤ J
  cnt : cT on J = cT on ((lastN on last).toNat + 1) + k
  mod : ((lastN on at_).toNat + 1) % on.length = J % on.length
  one : 0 < k → first = ((J1 % on.length : Nat) : Int) ∧ qT on J1 = true ∧ cT on J1 = cT on ((lastN on last).toNat + 1)
def hadS (on : List Bool) (last : Int) (J : Nat) : List Int := (List.range on.length).map fun x => ((hT on x J - hT on x ((lastN on last).toNat + 1) : Nat) : Int)
theorem Turn.zero (on : List Bool) (last : Int) : Turn on last 0 ((lastN on last).toNat + 1) 0 last (-1) := ⟨Nat.le_refl _, rfl, rfl, fun h => absurd h (Nat.lt_irrefl 0)⟩
theorem hT_mono {x : Nat} : ∀ {i j : Nat}, i ≤ j → hT on x i ≤ hT on x j := by
  intro i j h
  induction h with
  | refl => exact Nat.le_refl _
  | step _ ih => exact Nat.le_trans ih (Nat.le_add_right _ _)
theorem Turn.step {last : Int} {k J J1 : Nat} {at_ first : Int} (T : Turn on last k J J1 at_ first) (hk : k < 2 * cT on on.length) :
    ∃ J', nextS on at_ = ((J' % on.length : Nat) : Int) ∧ J' % on.length < on.length ∧ qT on (J' % on.length) = true ∧ Turn on last (k + 1) (J' + 1) (if k = 0 then J' else J1) ((J' % on.length : Nat) : Int) (if k = 0 then ((J' % on.length : Nat) : Int) else first) ∧
      hadS on last (J' + 1) = (hadS on last J).set (J' % on.length) ((hadS on last J)[J' % on.length]?.getD 0 + 1) ∧ (k = cT on on.length → k ≠ 0 → ((J' % on.length : Nat) : Int) = first) := by
  have hn : 0 < on.length := by
    rcases Nat.eq_zero_or_pos on.length with h | h
    · rw [h] at hk; simp [cT] at hk
    · exact h
  cases hs : seekN on on.length J with
  | none =>
    rw [seekN_none, cT_add] at hs; omega
  | some J' =>
    obtain ⟨h1, h2, h3⟩ := seekN_some hs
    have hlt : J' % on.length < on.length := Nat.mod_lt _ hn
    have hq : qT on (J' % on.length) = true := by rw [qT_mod]; exact h2
    have hnext : nextS on at_ = ((J' % on.length : Nat) : Int) := by rw [nextS_map at_ T.mod, hs]; rfl
    have hl : lastN on ((J' % on.length : Nat) : Int) = ((J' % on.length : Nat) : Int) := by unfold lastN; rw [if_neg (by omega)]
    refine ⟨J', hnext, hlt, hq, ⟨by have := T.le; omega, by rw [cT, if_pos h2, h3, T.cnt]; omega, ?_, fun _ => ?_⟩, ?_, fun hkm hk0 => ?_⟩
    · rw [hl, Int.toNat_natCast, Nat.add_mod, Nat.mod_mod, ← Nat.add_mod]
    · by_cases hk0 : k = 0
      · rw [if_pos hk0, if_pos hk0]
        exact ⟨rfl, h2, by rw [h3, T.cnt, hk0]; rfl⟩
      · rw [if_neg hk0, if_neg hk0]
        exact T.one (by omega)
    · apply List.ext_getElem?
      intro x
      rw [List.getElem?_set]
      have hlen : (hadS on last J).length = on.length := by simp [hadS]
      by_cases hx : x < on.length
      · have g : ∀ J, (hadS on last J)[x]? = some ((hT on x J - hT on x ((lastN on last).toNat + 1) : Nat) : Int) := fun J => by simp [hadS, hx]
        have hm := hT_mono (on := on) (x := x) T.le
        have hflat := hT_same (on := on) x h3
        by_cases e : J' % on.length = x
        · rw [if_pos e, if_pos (by rw [hlen]; omega)]
          subst e
          rw [g, g, hT, if_pos ⟨h2, rfl⟩, hflat]
          simp; omega
        · rw [if_neg e, g, g, hT, if_neg (fun h => e h.2), hflat, Nat.add_zero]
      · rw [if_neg (by omega)]
        rw [List.getElem?_eq_none (by simp [hadS]; omega), List.getElem?_eq_none (by simp [hadS]; omega)]
    · obtain ⟨f1, f2, f3⟩ := T.one (by omega)
      rw [f1]
      have : J' = J1 + on.length := cT_inj h2 (by rw [qT_add]; exact f2) (by rw [h3, T.cnt, cT_add, f3, hkm])
      rw [this, Nat.add_mod_right]
theorem Turn.all {last : Int} {J J1 : Nat} {at_ first : Int} (T : Turn on last (2 * cT on on.length) J J1 at_ first) {x : Nat} (hx : x < on.length) (hq : qT on x = true) : (hadS on last J)[x]? = some 2 := by
  have h1 : cT on J = cT on ((lastN on last).toNat + 1 + on.length + on.length) := by rw [T.cnt, cT_add, cT_add]; omega
  have h2 : hT on x on.length = 1 := by rw [hT_below x _ (Nat.le_refl _), if_pos ⟨hx, hq⟩]
  have h3 := hT_same (on := on) x h1
  rw [hT_add, hT_add, h2] at h3
  simp [hadS, hx, h3]; omega
theorem hT_cT {x : Nat} : ∀ {i j : Nat}, i ≤ j → hT on x j + cT on i ≤ cT on j + hT on x i := by
  intro i j h
  induction h with
  | refl => exact Nat.le_of_eq (Nat.add_comm _ _)
  | @step m _ ih =>
    simp only [hT, cT]
    by_cases hq : qT on m = true
    · rw [if_pos hq]; split <;> omega
    · rw [if_neg hq, if_neg (fun h => hq h.1)]; omega
theorem Turn.few {last : Int} {k J J1 : Nat} {at_ first : Int} (T : Turn on last k J J1 at_ first) {x : Nat} {v : Int} (h : (hadS on last J)[x]? = some v) : 0 ≤ v ∧ v ≤ k := by
  have hx : x < on.length := by
    have := (List.getElem?_eq_some_iff.1 h).1
    simpa [hadS] using this
  have : v = ((hT on x J - hT on x ((lastN on last).toNat + 1) : Nat) : Int) := by
    simp [hadS, hx] at h; exact h.symm
  have h2 := hT_cT (on := on) (x := x) T.le
  have h3 := T.cnt
  omega
theorem next_none {last : Int} (h : cT on on.length = 0) : nextS on last = -1 := by
  have : seekN on on.length ((lastN on last).toNat + 1) = none := by rw [seekN_none, cT_add, h]; rfl
  unfold nextS; rw [this]
theorem hadS_zero (on : List Bool) (last : Int) : hadS on last ((lastN on last).toNat + 1) = List.replicate on.length 0 := by
  apply List.ext_getElem?
  intro i
  by_cases h : i < on.length
  · simp [hadS, h]
  · rw [List.getElem?_eq_none (by simp [hadS]; omega), List.getElem?_eq_none (by simp; omega)]
end
end Go.Proofs.YtjmhioacbpgalaaDoor.S
