/- Regions that draw their order: the walk over every order at once. -/
import Derived.Test.YtjmhioacbpgalaaDoorVI
namespace Go.Proofs.YtjmhioacbpgalaaDoorV
open Go Go.RowKit
set_option linter.unusedVariables false
set_option linter.unusedSimpArgs false

def cntT : List Bool → Nat
  | [] => 0
  | b :: l => (if b then 1 else 0) + cntT l
theorem cntT_set : ∀ (l : List Bool) (i : Nat), l[i]? = some false → cntT (l.set i true) = cntT l + 1
  | [], i, h => by simp at h
  | b :: l, 0, h => by simp at h; subst h; simp [cntT]; omega
  | b :: l, i + 1, h => by simp only [List.set_cons_succ, cntT]; rw [cntT_set l i (by simpa using h)]; omega
theorem cntT_le : ∀ (l : List Bool), cntT l ≤ l.length
  | [] => Nat.le_refl _
  | b :: l => by have := cntT_le l; simp only [cntT, List.length_cons]; split <;> omega
theorem cntT_full : ∀ (l : List Bool), cntT l = l.length → ∀ i, i < l.length → l[i]? = some true
  | [], _, i, h => by simp at h
  | b :: l, h, i, hi => by
    have hle := cntT_le l
    simp only [cntT, List.length_cons] at h
    have hb : b = true := by cases b; · simp at h; omega
                             · rfl
    subst hb
    cases i with
    | zero => rfl
    | succ i => simpa using cntT_full l (by simp at h; omega) i (by simpa using hi)
theorem cntT_below : ∀ (l : List Bool) (j : Nat), j ≤ l.length → (∀ i, i < j → l[i]? = some true) → (∀ i, j ≤ i → l[i]? ≠ some true) → cntT l = j
  | [], j, hj, _, _ => by simp at hj; subst hj; rfl
  | b :: l, 0, hj, h1, h2 => by
    have hb : b = false := by cases b; · rfl
                              · exact absurd rfl (h2 0 (Nat.le_refl _))
    subst hb
    simp only [cntT]
    rw [cntT_below l 0 (Nat.zero_le _) (fun i hi => absurd hi (Nat.not_lt_zero _)) fun i _ => by simpa using h2 (i + 1) (Nat.zero_le _)]
    simp
  | b :: l, j + 1, hj, h1, h2 => by
    have hb : b = true := by simpa using h1 0 (Nat.zero_lt_succ _)
    subst hb
    simp only [cntT]
    rw [cntT_below l j (by simpa using hj) (fun i hi => by simpa using h1 (i + 1) (by omega)) fun i hi => by simpa using h2 (i + 1) (by omega)]
    simp; omega

section
variable {E : Env} {ops : Array Oper} {PL : List (List Nat)} {n k : Nat} {Q : Exit → Act → World → Prop}

theorem preds_listed (hok : drawOk ops.toList PL n k = true) {listed : Array Bool} (hcl : ∀ i, listed.getD i false = true → ∀ j ∈ getP PL i, listed.getD j false = true) {i : Nat} {o : Oper} (ho : ops[i]? = some o)
    (hr : ∀ e ∈ o.after, Region.binds .any e = true → listed.getD e.on false = true) : ∀ j ∈ getP PL i, listed.getD j false = true := by
  obtain ⟨_, h⟩ := drawOk_spec hok
  obtain ⟨_, h2, _⟩ := h i o (by simpa using ho)
  have himm : ∀ j ∈ immOf o, listed.getD j false = true := fun j hj => by
    unfold immOf at hj
    obtain ⟨e, he, rfl⟩ := List.mem_map.1 hj
    obtain ⟨he1, he2⟩ := List.mem_filter.1 he
    exact hr e (by simpa using he1) he2
  intro j hj
  rcases h2 j hj with h | ⟨m, hm, h⟩
  · exact himm j h
  · exact hcl m (himm m hm) j h

/-- What writes, one behind the other. -/
theorem tail_wp {p : Nat} (hE : E.ok) (hok : drawOk ops.toList PL n k = true) (st2 : St) : ∀ (fuel j : Nat) (listed : Array Bool) (g : G) (w : World) (a : Act) (st : St), k ≤ j → j + fuel = ops.size → listed.size = ops.size →
    (∀ i, i < j → listed.getD i false = true) → (∀ i, j ≤ i → listed.getD i false = false) → StRel p g w st a → runL E ops (ops.toList.drop j) st = some st2 →
    (∀ g' a' w', Lw p g w g' w' → StRel p g' w' st2 a' → Q .normal a' w') → wpAny E.P .any ops Q fuel listed a w := by
  intro fuel
  induction fuel with
  | zero =>
    intro j listed g w a st hkj hj hsz h1 h2 R hrun hq
    have hdrop : ops.toList.drop j = [] := List.drop_eq_nil_of_le (by simp; omega)
    rw [hdrop] at hrun; cases hrun
    refine ⟨?_, hq g a w (.refl g w) R⟩
    rw [List.eq_nil_iff_forall_not_mem]
    intro i hi
    obtain ⟨q1, o, q2, _⟩ := mem_ready.1 hi
    have hlt : i < ops.size := (Array.getElem?_eq_some_iff.1 q2).1
    have := h1 i (by omega)
    rw [Array.getD_eq_getD_getElem?] at q1 this
    cases hx : listed[i]? <;> rw [hx] at q1 this <;> simp_all
  | succ fuel ih =>
    intro j listed g w a st hkj hj hsz h1 h2 R hrun hq
    have hjs : j < ops.size := by omega
    have hoj : ops[j]? = some ops[j] := Array.getElem?_eq_getElem hjs
    obtain ⟨_, hspec⟩ := drawOk_spec hok
    have hcl : ∀ i, listed.getD i false = true → ∀ m ∈ getP PL i, listed.getD m false = true := fun i hi m hm => by
      have hij : i < j := Nat.lt_of_not_le fun hle => by rw [h2 i hle] at hi; cases hi
      obtain ⟨s1, s2, _⟩ := hspec i ops[i] (by simp)
      have : ∀ (d i : Nat), i < d → i < ops.size → ∀ m ∈ getP PL i, m < i := by
        intro d
        induction d with
        | zero => intro i hi; omega
        | succ d ihd =>
          intro i hi his m hm
          obtain ⟨s1, s2, _⟩ := hspec i ops[i] (by simp [his])
          rcases s2 m hm with h | ⟨p, hp, h⟩
          · exact s1 m h
          · have hpi := s1 p hp
            have := ihd p (by omega) (by omega) m h
            omega
      have := this (i + 1) i (by omega) (by omega) m hm
      exact h1 m (by omega)
    have hready : j ∈ Region.ready .any ops listed := mem_ready.2 ⟨by
      have := h2 j (Nat.le_refl _)
      rw [Array.getD_eq_getD_getElem?] at this ⊢
      have hj' : j < listed.size := by omega
      rw [Array.getElem?_eq_getElem hj'] at this ⊢
      exact this, ops[j], hoj, fun e he hb => by
      obtain ⟨s1, _⟩ := hspec j ops[j] (by simp [hjs])
      exact h1 _ (s1 _ (by unfold immOf; exact List.mem_map.2 ⟨e, List.mem_filter.2 ⟨by simpa using he, hb⟩, rfl⟩))⟩
    refine ⟨fun hnil => by rw [hnil] at hready; simp at hready, fun i hi => ?_⟩
    obtain ⟨q1, o, q2, q3⟩ := mem_ready.1 hi
    have his : i < ops.size := (Array.getElem?_eq_some_iff.1 q2).1
    have hij : i = j := by
      rcases Nat.lt_trichotomy i j with h | h | h
      · have := h1 i h
        rw [Array.getD_eq_getD_getElem?] at q1 this
        cases hx : listed[i]? <;> rw [hx] at q1 this <;> simp_all
      · exact h
      · obtain ⟨_, _, _, s4⟩ := hspec i o (by simpa using q2)
        have := preds_listed hok hcl q2 q3 j (s4 (by omega) j h)
        rw [h2 j (Nat.le_refl _)] at this; cases this
    subst hij
    have hdrop : ops.toList.drop i = o :: ops.toList.drop (i + 1) := by
      have : ops.toList[i]? = some o := by simpa using q2
      obtain ⟨hl, he⟩ := List.getElem?_eq_some_iff.1 this
      rw [List.drop_eq_getElem_cons hl, he]
    rw [hdrop] at hrun
    simp only [runL] at hrun
    have next : ∀ (st1 : St) (g1 : G) (w1 : World) (a1 : Act), Lw p g w g1 w1 → StRel p g1 w1 st1 a1 → runL E ops (ops.toList.drop (i + 1)) st1 = some st2 → wpAny E.P .any ops Q fuel (listed.setIfInBounds i true) a1 w1 := by
      intro st1 g1 w1 a1 le R1 hrun1
      refine ih (i + 1) (listed.setIfInBounds i true) g1 w1 a1 st1 (by omega) (by omega) (by simp [hsz]) (fun m hm => ?_) (fun m hm => ?_) R1 hrun1 fun g' a' w' l' R' => hq g' a' w' (le.trans l') R'
      · by_cases hmi : i = m
        · subst hmi
          have : i < listed.size := by omega
          simp [this]
        · rw [getD_set_ne false hmi]; exact h1 m (by omega)
      · rw [getD_set_ne false (by omega)]; exact h2 m (by omega)
    unfold wpOp
    rw [q2]
    dsimp only
    split at hrun
    · rename_i st1 hst
      unfold stepD at hst
      split at hst
      · rename_i hw
        have hw' := wantD_eq R.T hw
        split at hst
        · rename_i r hr
          split at hst
          · rename_i H' hH
            cases hst
            obtain ⟨k1, k2⟩ := setH_look hH
            rw [if_pos hw']
            refine .inl ?_
            refine coreD_sound hE hr (fun x _ => evalD_rep R.T x) R.H (fun id h1 h2 => ⟨R.m id h1, by unfold lookH; rw [List.getElem?_eq_none h1]⟩) fun g' w' v' ho => ?_
            refine next { n := st.n, T := putT st.n st.T o.dst r.val, H := H' } g' w' _ (ho.le.lw fun id hi => ho.m id (.inl (Nat.lt_of_lt_of_le hi R.pin))) ⟨(put_size _ _).trans R.n, putT_rep R.n (fun t d e => by obtain ⟨y, h1, h2⟩ := R.T t d e; exact ⟨y, h1, Rep.mono ho.le _ _ h2⟩) ho.rep _, by rw [k1]; exact ho.heap, fun id hid => ?_, ?_, (show p ≤ H'.length by have := R.pin; omega)⟩ hrun
            · have hid : H'.length ≤ id := hid
              rw [ho.m id (.inr (by rw [← k2]; exact hid))]; exact R.m id (by omega)
            · have := R.defers
              cases o.dst <;> exact this
          · cases hst
        · cases hst
      · rename_i hw
        cases hst
        have hw' := wantD_eq R.T hw
        rw [if_neg (by rw [hw']; simp)]
        exact next { n := st.n, T := putT st.n st.T o.dst (.v undef), H := st.H } g w _ (.refl g w) ⟨(put_size _ _).trans R.n, putT_rep R.n R.T (d := .v undef) (v := undef) rfl _, R.H, R.m, by have := R.defers; cases o.dst <;> exact this, R.pin⟩ hrun
      · cases hst
    · cases hrun
end
end Go.Proofs.YtjmhioacbpgalaaDoorV
