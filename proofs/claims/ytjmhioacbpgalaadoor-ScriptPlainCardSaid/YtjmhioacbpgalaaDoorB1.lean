import Derived.Test.YtjmhioacbpgalaaDoorS2
namespace Go.Proofs.YtjmhioacbpgalaaDoor.S
open Go Go.Proofs.YtjmhioacbpgalaaDoorV
set_option linter.unusedVariables false
/-- What 'Plain' makes: each may be, none stalls, nobody is named behind its death. -/
structure Fine (seats : Int) (ps : PS) : Prop where
  right : ∀ p ∈ ps.o, rightS seats p = true ∧ p.k ≠ 2
  dead : ∀ a, getM false ps.d a = true ↔ ∃ p ∈ ps.o, p.k = 3 ∧ p.a = a
  order : ps.o.Pairwise fun p q => p.k = 3 → p.a ≠ q.a
  count : ps.d.length = (ps.o.filter fun p => p.k == 3).length
  most : 1 ≤ seats → (ps.d.length : Int) ≤ seats - 1
  yes : ∀ p ∈ ps.d, p.2 = true
theorem getM_put {β : Type} (z : β) (m : List (Int × β)) (a b : Int) (v : β) : getM z (putM m a v) b = if b = a then v else getM z m b := by
  induction m with
  | nil => simp only [putM, getM]
  | cons p m ih =>
    simp only [putM]
    split
    · rename_i h
      simp only [getM]
      by_cases hb : b = a
      · rw [if_pos hb, if_pos hb]
      · rw [if_neg hb, if_neg hb, if_neg (by rw [← h]; exact hb)]
    · rename_i h
      simp only [getM, ih]
      by_cases hb : b = p.1
      · rw [if_pos hb, if_pos hb, if_neg (by rw [hb]; exact fun e => h e.symm)]
      · rw [if_neg hb, if_neg hb]
theorem putM_length {m : List (Int × Bool)} {a : Int} (h : getM false m a = false) (hv : ∀ p ∈ m, p.2 = true) : (putM m a true).length = m.length + 1 := by
  induction m with
  | nil => rfl
  | cons p m ih =>
    simp only [putM]
    by_cases e : a = p.1
    · simp only [getM, if_pos e] at h
      rw [hv p (by simp)] at h
      cases h
    · simp only [getM, if_neg e] at h
      rw [if_neg e]
      simp only [List.length_cons, ih h fun q hq => hv q (by simp [hq])]
theorem putM_yes {m : List (Int × Bool)} {a : Int} (hv : ∀ p ∈ m, p.2 = true) : ∀ p ∈ putM m a true, p.2 = true := by
  induction m with
  | nil => intro p hp; simp [putM] at hp; rw [hp]
  | cons q m ih =>
    intro p hp
    simp only [putM] at hp
    split at hp
    · rcases List.mem_cons.1 hp with rfl | hp
      · rfl
      · exact hv p (by simp [hp])
    · rcases List.mem_cons.1 hp with rfl | hp
      · exact hv p (by simp)
      · exact ih (fun x hx => hv x (by simp [hx])) p hp
theorem Fine.app {seats : Int} {ps : PS} {p : Pk} {n : Int} (h : Fine seats ps) (hr : rightS seats p = true) (h2 : p.k ≠ 2) (h3 : p.k ≠ 3) (hd : getM false ps.d p.a = false) : Fine seats { ps with n := n, o := ps.o ++ [p] } where
  right q hq := by
    rcases List.mem_append.1 hq with hq | hq
    · exact h.right q hq
    · simp at hq; subst hq; exact ⟨hr, h2⟩
  dead a := by
    rw [h.dead a]
    constructor
    · rintro ⟨q, hq, e⟩; exact ⟨q, by simp [hq], e⟩
    · rintro ⟨q, hq, e1, e2⟩
      rcases List.mem_append.1 hq with hq | hq
      · exact ⟨q, hq, e1, e2⟩
      · simp at hq; subst hq; exact absurd e1 h3
  order := by
    refine List.pairwise_append.2 ⟨h.order, List.pairwise_singleton _ _, fun q hq r hr => ?_⟩
    simp at hr; subst hr
    intro hk e
    have := (h.dead r.a).2 ⟨q, hq, hk, e⟩
    rw [hd] at this; cases this
  count := by rw [List.filter_append]; simp [h.count, h3]
  most := h.most
  yes := h.yes
theorem Fine.die {seats : Int} {ps : PS} {p : Pk} {n : Int} (h : Fine seats ps) (hr : rightS seats p = true) (h3 : p.k = 3) (hd : getM false ps.d p.a = false) (hm : ((ps.d.length : Nat) : Int) ≠ wr (seats - 1)) (hs : seats ≤ 9223372036854775807) : Fine seats { ps with n := n, d := putM ps.d p.a true, o := ps.o ++ [p] } where
  right q hq := by
    rcases List.mem_append.1 hq with hq | hq
    · exact h.right q hq
    · simp at hq; subst hq; exact ⟨hr, by omega⟩
  dead a := by
    show getM false (putM ps.d p.a true) a = true ↔ _
    rw [getM_put]
    by_cases e : a = p.a
    · rw [if_pos e]; exact ⟨fun _ => ⟨p, by simp, h3, e.symm⟩, fun _ => rfl⟩
    · rw [if_neg e, h.dead a]
      constructor
      · rintro ⟨q, hq, e⟩; exact ⟨q, by simp [hq], e⟩
      · rintro ⟨q, hq, e1, e2⟩
        rcases List.mem_append.1 hq with hq | hq
        · exact ⟨q, hq, e1, e2⟩
        · simp at hq; subst hq; exact absurd e2.symm e
  order := by
    refine List.pairwise_append.2 ⟨h.order, List.pairwise_singleton _ _, fun q hq r hr => ?_⟩
    simp at hr; subst hr
    intro hk e
    have := (h.dead r.a).2 ⟨q, hq, hk, e⟩
    rw [hd] at this; cases this
  count := by
    show (putM ps.d p.a true).length = _
    rw [putM_length hd h.yes, List.filter_append]; simp [h.count, h3]
  most hs1 := by
    show ((putM ps.d p.a true).length : Int) ≤ _
    rw [putM_length hd h.yes]
    have := h.most hs1
    have hw : wr (seats - 1) = seats - 1 := by unfold wr; rw [wrap_id] <;> omega
    rw [hw] at hm
    omega
  yes := putM_yes h.yes
theorem Fine.step {seats : Int} {ps : PS} (h : Fine seats ps) (hs : seats ≤ 9223372036854775807) (p : Pk) : Fine seats (stepP seats ps p) := by
  unfold stepP
  split
  · rename_i hr
    split
    · exact ⟨h.right, h.dead, h.order, h.count, h.most, h.yes⟩
    · rename_i h2
      split
      · rename_i h3
        split
        · exact ⟨h.right, h.dead, h.order, h.count, h.most, h.yes⟩
        · rename_i hn
          simp only [not_or] at hn
          exact h.die hr h3 (by simpa using hn.1) hn.2 hs
      · rename_i h3
        split
        · rename_i hd
          exact h.app hr h2 h3 hd.1
        · exact ⟨h.right, h.dead, h.order, h.count, h.most, h.yes⟩
  · exact h
theorem fine (seats : Int) (hs : seats ≤ 9223372036854775807) (l : List Pk) : Fine seats (foldP seats l) := by
  unfold foldP
  have key : ∀ (m : List Pk) (ps : PS), Fine seats ps → Fine seats (m.foldl (stepP seats) ps) := by
    intro m
    induction m with
    | nil => intro ps h; exact h
    | cons p m ih => intro ps h; exact ih _ (h.step hs p)
  refine key l _ ⟨?_, ?_, List.Pairwise.nil, rfl, ?_, ?_⟩
  · intro p hp; cases hp
  · intro a; simp [getM]
  · intro h; simp; omega
  · intro p hp; cases hp
end Go.Proofs.YtjmhioacbpgalaaDoor.S
