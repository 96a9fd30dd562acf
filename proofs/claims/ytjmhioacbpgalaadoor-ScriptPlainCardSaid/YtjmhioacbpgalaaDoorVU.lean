/- A state told anew; loops whose states are told anew at each round. -/
import Derived.Test.YtjmhioacbpgalaaDoorVT
namespace Go.Proofs.YtjmhioacbpgalaaDoorV
open Go Go.RowKit
set_option linter.unusedVariables false
variable {p : Nat} {E : Env} {P : Program} {x y : Code} {st st' s : St} {Q : Exit → St → Prop} {K : St → Prop}

/-- The same activation, told by another state. -/
def Told (p : Nat) (st s : St) : Prop := ∀ (g : G) (w : World) (a : Act), StRel p g w st a → ∃ g', Lw p g w g' w ∧ StRel p g' w s a
theorem Told.refl : Told p st st := fun g w a R => ⟨g, .refl g w, R⟩
theorem Told.of_norm {live : List Nat} (h : norm live st = some s) : Told 0 st s := fun g w a R => norm_sound R h
def pinsB (p : Nat) (ids : List Nat) : Bool := ids.take p == List.range p
/-- Temporaries that live on, objects with new numbers. -/
theorem Told.ren (live ids : List Nat) {T' : List (Nat × D)} {H' : List (Option DObj)} (hnd : (nodupB ids && pinsB p ids) = true) (hT : renT (posL ids) (keepT live st.T) = some T') (hH : renH (posL ids) st.H ids = some H') : Told p st ⟨st.n, T', H'⟩ := by
  intro g w a R
  obtain ⟨hlen, hget⟩ := renH_get hH
  rw [Bool.and_eq_true] at hnd
  obtain ⟨hnd, hpin⟩ := hnd
  have hpin : ids.take p = List.range p := by simpa [pinsB] using hpin
  have hpl : p ≤ ids.length := by
    have := congrArg List.length hpin
    simp at this; omega
  have hpi : ∀ i, i < p → ids[i]? = some i := fun i hi => by
    have h1 : (ids.take p)[i]? = some i := by rw [hpin]; simp [hi]
    rwa [List.getElem?_take, if_pos hi] at h1
  let g' : G := ⟨fun j => (ids[j]?).bind g.m, g.F, g.K⟩
  have hm : ∀ i j x, posL ids i = some j → g.m i = some x → g'.m j = some x := fun i j x e1 e2 => by
    show (ids[j]?).bind g.m = _
    rw [posL_get e1]; exact e2
  have hm2 : ∀ i j, ids[j]? = some i → ∀ x, g'.m j = some x → g.m i = some x := fun i j e x e2 => by
    have e2 : (ids[j]?).bind g.m = some x := e2
    rw [e] at e2; exact e2
  have hm3 : ∀ i j x, ids[j]? = some i → g.m i = some x → g'.m j = some x := fun i j x e1 e2 => by
    show (ids[j]?).bind g.m = _
    rw [e1]; exact e2
  refine ⟨g', ⟨fun i hi => (by show (ids[i]?).bind g.m = _; rw [hpi i hi]; rfl), fun _ h => h, fun _ => Iff.rfl, fun _ _ => rfl, Nat.le_refl _, rfl, rfl, rfl, fun _ h => .inl h⟩, R.n, fun t d' e => by
    obtain ⟨d, e1, e2⟩ := renT_look hT t d' e
    obtain ⟨y, e3, e4⟩ := R.T t d (keepT_look e1)
    exact ⟨y, e3, Rep.ren hm (fun _ h => h) _ _ _ e2 e4⟩, ⟨fun j cs s e => ?_, fun j o' e => ?_, fun j j' o1 o2 b p q e1 e2 l1 l2 m1 m2 => ?_, R.H.frz, R.H.keep⟩, fun j hj => ?_, R.defers, (by show p ≤ H'.length; omega)⟩
  · rcases hget j _ e with ⟨i, k1, ⟨o, k2, k3⟩ | ⟨k2, k3⟩⟩
    case inr => cases k3; rfl
    cases o with
    | cells cs0 s0 =>
      simp only [DObj.ren] at k3
      obtain ⟨cs1, e3, e4⟩ := opt_map k3
      cases e4
      exact renAll_cell e3 (R.H.cell i _ _ k2)
    | map es => simp only [DObj.ren] at k3; obtain ⟨_, _, e4⟩ := opt_map k3; cases e4
    | siter => cases k3
  · rcases hget j _ e with ⟨i, k1, ⟨o, k2, k3⟩ | ⟨k2, k3⟩⟩
    case inr => subst k3; exact .inr ⟨rfl, (by show (ids[j]?).bind g.m = none; rw [k1]; exact R.m i k2)⟩
    have r := R.H.obj i o k2
    have hlive : o.live = true → ∀ b p, g.m i = some (b, p) → ¬ g'.F b ∧ ¬ g'.K b := fun hl b p hb => by
      exact (r.at hb).2 hl
    -- its own number may not be the one that 'posL' gives: it is, for no number stands twice
    have hp : posL ids i = some j := by
      have : ∀ (l : List Nat) (j : Nat), nodupB l = true → l[j]? = some i → posL l i = some j := by
        intro l
        induction l with
        | nil => intro j _ e; simp at e
        | cons a l ih =>
          intro j hn e
          have hn' := hn
          simp only [nodupB, Bool.and_eq_true, Bool.not_eq_true'] at hn'
          cases j with
          | zero => simp at e; subst e; simp [posL]
          | succ j =>
            simp at e
            have hne : i ≠ a := fun he => by
              subst he
              have : l.contains i = true := by simpa using List.mem_of_getElem? e
              rw [this] at hn'; exact absurd hn'.1 (by simp)
            simp only [posL, if_neg hne, ih j hn'.2 e, Option.map_some]
      exact this ids j hnd k1
    exact ObjRel.ren hm (fun _ h => h) hp (fun hn => (show (ids[j]?).bind g.m = none by rw [k1]; exact hn)) k3 hlive r
  · rcases hget j _ e1 with ⟨i, k1, ⟨o, k2, k3⟩ | ⟨k2, k3⟩⟩
    case inr => have m1 : (ids[j]?).bind g.m = _ := m1; rw [k1] at m1; have m1 : g.m i = _ := m1; rw [R.m i k2] at m1; cases m1
    rcases hget j' _ e2 with ⟨i', k1', ⟨o', k2', k3'⟩ | ⟨k2', k3'⟩⟩
    case inr => have m2 : (ids[j']?).bind g.m = _ := m2; rw [k1'] at m2; have m2 : g.m i' = _ := m2; rw [R.m i' k2'] at m2; cases m2
    have : i = i' := R.H.inj i i' o o' b p q k2 k2' (by rw [← DObj.ren_live k3]; exact l1) (by rw [← DObj.ren_live k3']; exact l2) (hm2 _ _ k1 _ m1) (hm2 _ _ k1' _ m2)
    subst this
    exact nodupB_inj hnd k1 k1'
  · have : ids[j]? = none := List.getElem?_eq_none (by have hj : H'.length ≤ j := hj; omega)
    show (ids[j]?).bind g.m = none
    rw [this]; rfl

theorem k_told (h : Told p st s) (hk : WpD p P x s Q) : WpD p P x st Q := by
  intro g w a R
  obtain ⟨g', l, R'⟩ := h g w a R
  exact wp_mono (hk g' w a R') fun e a' w' ⟨st2, g2, q, l2, R2⟩ => ⟨st2, g2, q, l.trans l2, R2⟩
/-- A loop: each round ends in a state that can be told by one with a lesser number. -/
theorem k_loopR (J : Nat → St → Prop) (n : Nat) (hs : Told p st s) (h0 : J n s) (round : ∀ n s, J n s → WpD p P x s (thenQ (fun st' => ∃ m s', Told p st' s' ∧ J m s' ∧ m < n) Q)) : WpD p P (.loop x) st (thenQ K Q) := by
  refine k_told hs ?_
  intro g w a R b k cs
  have key : ∀ n st g w a, J n st → StRel p g w st a →
      ∃ e a' w', (∃ st' g', thenQ K Q e st' ∧ Lw p g w g' w' ∧ StRel p g' w' st' a') ∧ Arrives P (lone (b.at a (.code x :: .inLoop x :: k)) cs w) b k cs e a' w' := by
    intro n
    induction n using Nat.strongRecOn with
    | _ n ih =>
      intro st g w a hI R
      obtain ⟨e, a1, w1, ⟨st1, g1, q, l1, R1⟩, harr⟩ := round n st hI g w a R b (.inLoop x :: k) cs
      cases e with
      | normal =>
        obtain ⟨m, s', ht, hI1, hlt⟩ := q
        obtain ⟨g1', lt1, R1'⟩ := ht g1 w1 a1 R1
        obtain ⟨e2, a2, w2, ⟨st2, g2, q2, l2, R2⟩, harr2⟩ := ih m hlt s' g1' w1 a1 hI1 R1'
        exact ⟨e2, a2, w2, ⟨st2, g2, q2, (l1.trans lt1).trans l2, R2⟩, .of_steps (Steps.trans harr (.one step_inLoop)) harr2⟩
      | exit id => exact ⟨(.exit id), a1, w1, ⟨st1, g1, q, l1, R1⟩, .pass (x := .inLoop x) rfl (fun _ _ => .inl (by simp)) harr⟩
      | goto l => exact ⟨(.goto l), a1, w1, ⟨st1, g1, q, l1, R1⟩, .pass (x := .inLoop x) rfl (fun _ _ => .inl (by simp)) harr⟩
      | ret => exact ⟨.ret, a1, w1, ⟨st1, g1, q, l1, R1⟩, .pass (x := .inLoop x) rfl (fun _ _ => .inl (by simp)) harr⟩
      | panic ch => exact ⟨(.panic ch), a1, w1, ⟨st1, g1, q, l1, R1⟩, .pass (x := .inLoop x) rfl (fun _ _ => .inl (by simp)) harr⟩
      | outgrown => exact ⟨.outgrown, a1, w1, ⟨st1, g1, q, l1, R1⟩, .pass (x := .inLoop x) rfl (fun _ _ => .inl (by simp)) harr⟩
  obtain ⟨e, a', w', hq, harr⟩ := key n s g w a h0 R
  exact ⟨e, a', w', hq, .of_steps (.one step_loop) harr⟩
end Go.Proofs.YtjmhioacbpgalaaDoorV
