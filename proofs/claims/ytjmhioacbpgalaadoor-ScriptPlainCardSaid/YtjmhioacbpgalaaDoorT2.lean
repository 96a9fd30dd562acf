import Derived.Test.YtjmhioacbpgalaaDoorT1
import Derived.Test.YtjmhioacbpgalaaDoorB1
namespace Go.Proofs.YtjmhioacbpgalaaDoor.S
open Go Go.Proofs.YtjmhioacbpgalaaDoorV
set_option linter.unusedSimpArgs false
set_option linter.unusedVariables false
set_option maxRecDepth 100000
set_option maxHeartbeats 4000000
/-! ### plain picks are plain -/
theorem pk_foldl_take {seats : Int} {l : List Pk} {j : Nat} {p : Pk} (h : l[j]? = some p) : foldP seats (l.take (j + 1)) = stepP seats (foldP seats (l.take j)) p := by
  unfold foldP
  rw [List.take_add_one, h, Option.toList_some, List.foldl_append]; rfl
theorem stab {seats : Int} (hs : seats ≤ 9223372036854775807) {o : List Pk} (hl : o.length ≤ 400) (hr : ∀ p ∈ o, rightS seats p = true ∧ p.k ≠ 2) (ho : o.Pairwise fun p q => p.k = 3 → p.a ≠ q.a)
    (hm : ((o.filter fun p => p.k == 3).length : Int) ≤ seats - 1 ∨ (o.filter fun p => p.k == 3) = []) : plainS seats o = o := by
  have key : ∀ j, j ≤ o.length → (foldP seats (o.take j)).u = [] ∧ (foldP seats (o.take j)).o = o.take j ∧ (foldP seats (o.take j)).n = (j : Int) := by
    intro j
    induction j with
    | zero => intro _; exact ⟨rfl, rfl, rfl⟩
    | succ j ih =>
      intro hj
      obtain ⟨h1, h2, h3⟩ := ih (by omega)
      obtain ⟨p, hp⟩ : ∃ p, o[j]? = some p := ⟨o[j], List.getElem?_eq_getElem (by omega)⟩
      have hf := fine seats hs (o.take j)
      rw [pk_foldl_take hp]
      generalize foldP seats (o.take j) = ps at *
      obtain ⟨u, d, o', n⟩ := ps
      simp only at h1 h2 h3
      subst h1 h2 h3
      obtain ⟨r1, r2⟩ := hr p (List.mem_of_getElem? hp)
      have hw : wr ((j : Int) + 1) = ((j + 1 : Nat) : Int) := by unfold wr; rw [wrap_id] <;> omega
      have htk : o.take (j + 1) = o.take j ++ [p] := by rw [List.take_add_one, hp]; rfl
      have hd : getM false d p.a = false := by
        cases hx : getM false d p.a with
        | false => rfl
        | true =>
          obtain ⟨q, q1, q2, q3⟩ := (hf.dead p.a).1 hx
          have : (o.take (j + 1)).Pairwise fun p q => p.k = 3 → p.a ≠ q.a := ho.sublist (List.take_sublist _ _)
          rw [htk, List.pairwise_append] at this
          exact absurd q3 (this.2.2 q q1 p (by simp) q2)
      by_cases h3 : p.k = 3
      · have hc : ¬ ((d.length : Nat) : Int) = wr (seats - 1) := by
          have h5 : ((o.take (j + 1)).filter fun p => p.k == 3).length ≤ (o.filter fun p => p.k == 3).length := ((List.take_sublist _ _).filter _).length_le
          rw [htk, List.filter_append, List.length_append] at h5
          have h6 : ([p].filter fun p => p.k == 3).length = 1 := by simp [h3]
          have h7 := hf.count
          rcases hm with hm | hm
          · have : wr (seats - 1) = seats - 1 := by unfold wr; rw [wrap_id] <;> omega
            rw [this]; simp only at h7; omega
          · rw [hm] at h5; simp only [List.length_nil] at h5; omega
        have h2' : ¬ (3 : Int) = 2 := by omega
        simp [stepP, r1, h3, hd, hc, hw, htk]
      · have hpos : (((j + 1 : Nat)) : Int) > 0 := by omega
        simp only [stepP, r1, if_true, if_neg r2, if_neg h3, hd, hw, getM, hpos, and_self, htk]
  have := (key o.length (Nat.le_refl _)).2.1
  rw [List.take_length] at this
  exact this
theorem plain_length (s : Int) (l : List Pk) : (plainS s l).length ≤ l.length := by
  have key : ∀ (m : List Pk) (ps : PS), (m.foldl (stepP s) ps).o.length ≤ ps.o.length + m.length := by
    intro m
    induction m with
    | nil => intro ps; exact Nat.le_refl _
    | cons p m ih =>
      intro ps
      refine Nat.le_trans (ih _) ?_
      have : (stepP s ps p).o.length ≤ ps.o.length + 1 := by
        unfold stepP
        repeat' split
        all_goals simp
      simp only [List.length_cons]; omega
  have := key l ⟨[], [], [], 0⟩
  simpa [plainS, foldP] using this
theorem plain_plain {seats : Int} (hs : seats ≤ 9223372036854775807) {l : List Pk} (hl : l.length ≤ 400) : plainS seats (plainS seats l) = plainS seats l := by
  have hf := fine seats hs l
  have h1 := plain_length seats l
  refine stab hs (by omega) hf.right hf.order ?_
  by_cases h0 : 1 ≤ seats
  · refine .inl ?_
    have h2 := hf.most h0
    rw [hf.count] at h2; exact h2
  · refine .inr ?_
    have : plainS seats l = [] := by
      cases hp : plainS seats l with
      | nil => rfl
      | cons p o =>
        have h3 := (hf.right p (by show p ∈ plainS seats l; rw [hp]; simp)).1
        unfold rightS at h3
        rw [if_pos (by omega)] at h3; cases h3
    rw [this]; rfl
def isStep (seats : Int) (p : Pk) : Bool := p.k == 1 && p.b == 0 && decide (0 ≤ p.a) && decide (p.a < seats)
theorem plain_steps {seats : Int} (hs : seats ≤ 9223372036854775807) {l : List Pk} (hl : l.length ≤ 400) : plainS seats (l.filter (isStep seats)) = l.filter (isStep seats) := by
  have h0 := List.length_filter_le (isStep seats) l
  have hk : ∀ p ∈ l.filter (isStep seats), p.k = 1 ∧ p.b = 0 ∧ 0 ≤ p.a ∧ p.a < seats := fun p hp => by
    have := (List.mem_filter.1 hp).2
    simp [isStep] at this; omega
  refine stab hs (by omega) (fun p hp => ?_) ?_ (.inr ?_)
  · have := hk p hp
    refine ⟨?_, by omega⟩
    unfold rightS
    rw [if_neg (by omega), if_pos (.inl this.1)]; simp [this.2.1]
  · refine List.Pairwise.imp_of_mem (R := fun _ _ => True) (fun ha _ _ h3 => ?_) (List.pairwise_of_forall (fun _ _ => trivial))
    have := hk _ ha; omega
  · rw [List.filter_eq_nil_iff]
    intro p hp
    have := hk p hp
    simp; omega
/-! ### what a law may call -/
noncomputable def E2 : Env := envOf Tryd.prog [ctrAlive, ctrRight, ctrPlain, ctrSame] []
theorem E2ok : E2.ok := envOf_ok _ _
theorem E2P : E2.P = Tryd.prog := rfl
theorem h11 : HasC [ctrAlive, ctrRight, ctrPlain, ctrSame] 11 ctrAlive := .here rfl
theorem h12 : HasC [ctrAlive, ctrRight, ctrPlain, ctrSame] 12 ctrRight := .there rfl (.here rfl)
theorem h15 : HasC [ctrAlive, ctrRight, ctrPlain, ctrSame] 15 ctrPlain := .there rfl (.there rfl (.here rfl))
theorem h14 : HasC [ctrAlive, ctrRight, ctrPlain, ctrSame] 14 ctrSame := .there rfl (.there rfl (.there rfl (.here rfl)))
section
variable {look : Nat → Option DObj} {base : Nat}
theorem e11 : opCall E2 look base 11 [] = some { val := .v (.bool true) } := call_v h11 rfl rfl () rfl trivial rfl rfl rfl
theorem e12 {s k a b : Int} : opCall E2 look base 12 [.v (.int .i64 s), .agg [.v (.int .i64 k), .v (.int .i64 a), .v (.int .i64 b)]] = some { val := .v (.bool (rightS s ⟨k, a, b⟩)) } :=
  call_v h12 rfl rfl (s, ⟨k, a, b⟩) ⟨_, _, rfl, .plain rfl, _, _, rfl, .plain rfl, rfl⟩ trivial rfl rfl rfl
theorem e15 {s : Int} {l : List Pk} (h : l.length ≤ 400) : opCall E2 look base 15 [.v (.int .i64 s), rowsL l] = some { val := refL Pk base (plainS s l).length, news := [.cells (cellsL (plainS s l)) false] } :=
  call_row h15 rfl rfl (s, l) ⟨_, _, rfl, .plain rfl, _, _, rfl, .plain (rowsL_refs l), rfl⟩ h rfl rfl
theorem e15r {s : Int} {id : Nat} {sh : Bool} {l : List Pk} (hl : look id = some (.cells (cellsL l) sh)) (h : l.length ≤ 400) : opCall E2 look base 15 [.v (.int .i64 s), refL Pk id l.length] = some { val := refL Pk base (plainS s l).length, news := [.cells (cellsL (plainS s l)) false] } :=
  call_row h15 rfl rfl (s, l) ⟨_, _, rfl, .plain rfl, _, _, rfl, by have := Lent.refL (n := l.length) hl (Nat.le_refl _); rwa [List.take_length] at this, rfl⟩ h rfl rfl
theorem e14 {i j : Nat} {s1 s2 : Bool} {l : List Pk} (h1 : look i = some (.cells (cellsL l) s1)) (h2 : look j = some (.cells (cellsL l) s2)) (h : l.length ≤ 400) : opCall E2 look base 14 [refL Pk i l.length, refL Pk j l.length] = some { val := .v (.bool true) } :=
  call_v h14 rfl rfl l ⟨_, _, rfl, by have := Lent.refL (n := l.length) h1 (Nat.le_refl _); rwa [List.take_length] at this, _, _, rfl, by have := Lent.refL (n := l.length) h2 (Nat.le_refl _); rwa [List.take_length] at this, rfl⟩ h rfl rfl rfl
end
theorem c_callT' {E : Env} {T : List (Nat × D)} {look : Nat → Option DObj} {base : Nat} {f : FuncId} {az : Array Operand} {ts : Array TypeId} : coreD E (evalD T) look base (.call ⟨.value (.func f), az, ts⟩) = opCall E look base f (az.toList.map (evalD T)) := c_call rfl
attribute [go_sem] c_callT' e11 e12 e15 E2P
end Go.Proofs.YtjmhioacbpgalaaDoor.S
