import Derived.Test.YtjmhioacbpgalaaDoorT9
namespace Go.Proofs.YtjmhioacbpgalaaDoor.S
open Go Go.Proofs.YtjmhioacbpgalaaDoorV
set_option linter.unusedSimpArgs false
set_option linter.unusedVariables false
set_option maxRecDepth 100000
set_option maxHeartbeats 4000000
attribute [-go_sem] lookH_zero
attribute [local go_sem] lookH_z2
/-! ### the document's plain picks are these -/
theorem foldP_filter (seats : Int) (l : List Pk) : foldP seats (l.filter (rightS seats)) = foldP seats l := by
  unfold foldP
  have key : ∀ (l : List Pk) (ps : PS), (l.filter (rightS seats)).foldl (stepP seats) ps = l.foldl (stepP seats) ps := by
    intro l
    induction l with
    | nil => intro ps; rfl
    | cons p l ih =>
      intro ps
      cases h : rightS seats p with
      | true => rw [List.filter_cons_of_pos h, List.foldl_cons, List.foldl_cons, ih]
      | false =>
        have hs : stepP seats ps p = ps := by unfold stepP; rw [if_neg (by rw [h]; simp)]
        rw [List.filter_cons_of_neg (by rw [h]; simp), List.foldl_cons, hs, ih]
  exact key l _
theorem right_b {seats : Int} {p : Pk} (h : rightS seats p = true) : 0 ≤ p.b ∧ p.b ≤ 1048576 ∧ 1 ≤ seats ∧ (p.k = 1 ∨ p.k = 2 ∨ p.k = 3) := by
  unfold rightS at h
  split at h
  · cases h
  · split at h
    · have : p.b = 0 := by simpa using h
      omega
    · simp at h; omega
/-- What has been kept of stalls tells when one ends. -/
structure Kept (all : List Pk) (k : Nat) (ps : PS) : Prop where
  n : ps.n = k
  u : ∀ (w x : Int), 0 ≤ x → (getM 0 ps.u w ≤ x ↔ ∀ (i : Nat) (q : Pk), i < k → all[i]? = some q → q.k = 2 → q.a = w → (i : Int) + 1 + q.b ≤ x)
theorem Kept.stall {all : List Pk} {k : Nat} {ps : PS} (h : Kept all k ps) (w : Int) : ((k : Int) + 1 > getM 0 ps.u w) ↔ stallS all k w = false := by
  have h1 := h.u w k (Int.natCast_nonneg k)
  have : ((k : Int) + 1 > getM 0 ps.u w) ↔ getM 0 ps.u w ≤ k := by omega
  rw [this, h1]
  unfold stallS
  rw [List.any_eq_false]
  constructor
  · intro h i hi
    have hi : i < k := by simpa using hi
    cases hq : all[i]? with
    | none => simp
    | some q =>
      simp
      intro e1 e2
      have := h i q hi hq e1 e2
      omega
  · intro h i q hi hq e1 e2
    have := h i (by simpa using hi)
    rw [hq] at this
    simp at this
    have := this e1 e2
    omega
theorem foldR_plain {seats : Int} (hs : seats ≤ 9223372036854775807) {all : List Pk} (hl : all.length ≤ 400) (hr : ∀ p ∈ all, rightS seats p = true) :
    ∀ k, k ≤ all.length → foldR seats all k = (foldP seats (all.take k)).o ∧ Kept all k (foldP seats (all.take k))
  | 0, _ => ⟨rfl, rfl, fun w x hx => by
      constructor
      · intro _ i q hi; omega
      · intro _; exact hx⟩
  | k + 1, hk => by
    obtain ⟨h1, h2⟩ := foldR_plain hs hl hr k (by omega)
    obtain ⟨p, hp⟩ : ∃ p, all[k]? = some p := ⟨all[k], List.getElem?_eq_getElem (by omega)⟩
    have hrp := hr p (List.mem_of_getElem? hp)
    obtain ⟨b1, b2, b3, b4⟩ := right_b hrp
    have hf := fine seats hs (all.take k)
    rw [pk_foldl_take hp]
    simp only [foldR, hp]
    rw [h1]
    generalize foldP seats (all.take k) = ps at *
    have hst := h2.stall p.a
    have hn := h2.n
    have hw : wr (ps.n + 1) = ((k + 1 : Nat) : Int) := by rw [hn]; unfold wr; rw [wrap_id] <;> omega
    have hw2 : wr (wr (ps.n + 1) + p.b) = (k : Int) + 1 + p.b := by rw [hw]; unfold wr; rw [wrap_id] <;> omega
    have hw3 : wr (seats - 1) = seats - 1 := by unfold wr; rw [wrap_id] <;> omega
    have hdead : getM false ps.d p.a = isDead ps.o p.a := by
      have := hf.dead p.a
      cases h : getM false ps.d p.a with
      | true =>
        obtain ⟨q, q1, q2, q3⟩ := this.1 h
        exact (List.any_eq_true.2 ⟨q, q1, by simp [q2, q3]⟩).symm
      | false =>
        cases h3 : isDead ps.o p.a with
        | false => rfl
        | true =>
          obtain ⟨q, q1, q2⟩ := List.any_eq_true.1 h3
          simp at q2
          rw [this.2 ⟨q, q1, q2.1, q2.2⟩] at h; cases h
    have hcnt : ps.d.length = dies ps.o := hf.count
    have hmost := hf.most b3
    -- what is kept, where no stall is added
    have hold : ∀ d o, (p.k ≠ 2) → Kept all (k + 1) { ps with n := wr (ps.n + 1), d := d, o := o } := fun d o h => ⟨hw, fun w x hx => by
      rw [h2.u w x hx]
      constructor
      · intro h' i q hi hq e1 e2
        rcases Nat.lt_or_ge i k with h3 | h3
        · exact h' i q h3 hq e1 e2
        · obtain rfl : i = k := by omega
          rw [hp] at hq; cases hq; exact absurd e1 h
      · intro h' i q hi hq e1 e2; exact h' i q (by omega) hq e1 e2⟩
    unfold stepR stepP
    rw [if_pos hrp]
    rcases b4 with hk1 | hk2 | hk3
    · have e2 : ¬ p.k = 2 := by omega
      have e3 : ¬ p.k = 3 := by omega
      have e2b : (p.k == 2) = false := by simp [hk1]
      have e1b : (p.k == 1) = true := by simp [hk1]
      have e3b : (p.k == 3) = false := by simp [hk1]
      rw [if_neg e2, if_neg e3, hdead, e2b, e1b, e3b, hw]
      have hgt : (((k + 1 : Nat)) : Int) > getM 0 ps.u p.a ↔ stallS all k p.a = false := by rw [← hst]; omega
      simp only [hgt]
      cases hd : isDead ps.o p.a with
      | true => simp; have := hold ps.d ps.o e2; rw [hw] at this; exact this
      | false =>
        cases hs2 : stallS all k p.a with
        | true => simp; have := hold ps.d ps.o e2; rw [hw] at this; exact this
        | false => simp; have := hold ps.d (ps.o ++ [p]) e2; rw [hw] at this; exact this
    · have e2b : (p.k == 2) = true := by simp [hk2]
      rw [if_pos hk2, e2b, if_pos (.inr rfl)]
      refine ⟨rfl, hw, fun w x hx => ?_⟩
      show getM 0 (putM ps.u p.a _) w ≤ x ↔ _
      rw [getM_put, hw2]
      have h0 := h2.u w x hx
      constructor
      · intro h i q hi hq e1 e2
        rcases Nat.lt_or_ge i k with h3 | h3
        · refine h0.1 ?_ i q h3 hq e1 e2
          by_cases hwa : w = p.a
          · rw [if_pos hwa] at h; rw [hwa]; split at h <;> omega
          · rw [if_neg hwa] at h; exact h
        · obtain rfl : i = k := by omega
          rw [hp] at hq; cases hq
          rw [if_pos e2.symm] at h
          split at h <;> omega
      · intro h
        have h4 := h0.2 fun i q hi hq e1 e2 => h i q (by omega) hq e1 e2
        by_cases hwa : w = p.a
        · rw [if_pos hwa]
          have h5 := h k p (by omega) hp hk2 hwa.symm
          rw [hwa] at h4
          split <;> omega
        · rw [if_neg hwa]; exact h4
    · have e2 : ¬ p.k = 2 := by omega
      have e2b : (p.k == 2) = false := by simp [hk3]
      have e1b : (p.k == 1) = false := by simp [hk3]
      have e3b : (p.k == 3) = true := by simp [hk3]
      rw [if_neg e2, if_pos hk3, hdead, e2b, e1b, e3b, hw3, hcnt]
      cases hd : isDead ps.o p.a with
      | true => simp; have := hold ps.d ps.o e2; exact this
      | false =>
        by_cases hm : (dies ps.o : Int) = seats - 1
        · have h5 : ¬ ((dies ps.o : Int) + 1 < seats) := by omega
          simp [hm, h5]; have := hold ps.d ps.o e2; exact this
        · have h5 : (dies ps.o : Int) + 1 < seats := by omega
          simp [hm, h5]; have := hold (putM ps.d p.a true) (ps.o ++ [p]) e2; exact this
theorem refPlain_eq {seats : Int} (hs : seats ≤ 9223372036854775807) {l : List Pk} (hl : l.length ≤ 400) : foldR seats (l.filter (rightS seats)) (l.filter (rightS seats)).length = plainS seats l := by
  have hle := List.length_filter_le (rightS seats) l
  have := (foldR_plain hs (all := l.filter (rightS seats)) (by omega) (fun p hp => (List.mem_filter.1 hp).2) _ (Nat.le_refl _)).1
  rw [this, List.take_length, foldP_filter]; rfl
theorem refPlain' (seats : Int) (hs : seats ≤ 9223372036854775807) (l : List Pk) (hl : l.length ≤ 400) : Fits Tryd.prog 16 [.v (.int .i64 seats), rowsL l] (refL Pk 0 (plainS seats l).length) [.cells (cellsL (plainS seats l)) false] := by
  have := refPlain seats l hl
  rwa [refPlain_eq hs hl] at this
/-! ### whose turn it is, by the document -/
theorem seekN_add {on : List Bool} : ∀ (a b J : Nat), seekN on (a + b) J = match seekN on a J with | some x => some x | none => seekN on b (J + a)
  | 0, b, J => by rw [Nat.zero_add]; rfl
  | a + 1, b, J => by
    rw [Nat.add_right_comm]
    simp only [seekN]
    by_cases h : qT on J = true
    · rw [if_pos h, if_pos h]
    · rw [if_neg h, if_neg h, seekN_add a b (J + 1), show J + 1 + a = J + (a + 1) by omega]
theorem seekN_lt {on : List Bool} : ∀ {d J J' : Nat}, seekN on d J = some J' → J' < J + d
  | 0, J, J', h => by cases h
  | d + 1, J, J', h => by
    simp only [seekN] at h
    split at h
    · cases h; omega
    · have := seekN_lt h; omega
def refN (on : List Bool) (s : Nat) : Int := match seekN on (on.length - s) s with
  | some x => (x : Int)
  | none => match seekN on s 0 with
    | some x => (x : Int)
    | none => -1
def startN (on : List Bool) (last : Int) : Nat := if last < 0 ∨ last ≥ on.length then 0 else last.toNat + 1
theorem refN_eq (on : List Bool) (last : Int) : refN on (startN on last) = nextS on last := by
  have hs : startN on last ≤ on.length := by unfold startN; split <;> omega
  rcases Nat.eq_zero_or_pos on.length with h | h
  · have h0 : startN on last = 0 := by omega
    rw [h0]
    simp [refN, nextS, h, seekN]
  have hm : ((lastN on last).toNat + 1) % on.length = (startN on last) % on.length := by
    unfold lastN startN
    split
    · · have : ((on.length : Int) - 1).toNat + 1 = on.length := by omega
        rw [this]; simp
    · rfl
  rw [nextS_map last hm]
  have e : on.length = (on.length - startN on last) + startN on last := by omega
  have h1 : seekN on on.length (startN on last) = match seekN on (on.length - startN on last) (startN on last) with | some x => some x | none => seekN on (startN on last) on.length := by
    conv => lhs; rw [e, seekN_add]
    rw [show startN on last + (on.length - startN on last) = on.length by omega]
  rw [h1]
  unfold refN
  cases h2 : seekN on (on.length - startN on last) (startN on last) with
  | some x =>
    have := seekN_lt h2
    simp [Nat.mod_eq_of_lt (show x < on.length by omega)]
  | none =>
    dsimp only
    have h3 : (seekN on (startN on last) on.length).map (· % on.length) = (seekN on (startN on last) 0).map (· % on.length) := seekN_mod (by simp)
    rw [h3]
    cases h4 : seekN on (startN on last) 0 with
    | none => rfl
    | some x =>
      have := seekN_lt h4
      simp [Nat.mod_eq_of_lt (show x < on.length by omega)]
theorem refNext (on : List Bool) (last : Int) (hl : on.length ≤ 100) : Fits Tryd.prog 18 [rowsL on, .v (.int .i64 last)] (.v (.int .i64 (nextS on last))) [] := by
  rw [← refN_eq]
  refine fits_ofT Tryd.func18 rfl rfl rfl rfl ?_
  simp only [Tryd.ntmps18, List.length_cons, List.length_nil, Nat.reduceAdd, Nat.reduceSub, argsT]
  refine k_start ?_
  have key : ((startN on last : Nat) : Int) = (if last < 0 ∨ last ≥ on.length then -1 else last) + 1 := by unfold startN; split <;> omega
  have hsl : startN on last ≤ on.length := by unfold startN; split <;> omega
  repeat' (first
    | with_reducible refine k_seq ?_
    | ((fail_if_success with_reducible refine k_stop 1 ?_); (with_reducible refine k_region' E0P E0ok ?_); simp only [go_sem])
    | with_reducible refine RunP_some ?_
    | ((with_reducible refine gs_split ?_ ?_) <;> intro hc <;> simp only [go_sem, hc])
    | ((with_reducible refine k_cnd ?_); simp only [go_sem])
    | with_reducible refine cp_t ?_
    | with_reducible refine cp_f ?_
    | ((with_reducible refine cp_s ?_ ?_) <;> intro hc <;> (try simp only [hc]))
    | with_reducible refine k_skip ?_
    | with_reducible refine k_ret ?_
    | with_reducible refine k_block ?_
    | with_reducible refine k_exit ?_
    | with_reducible refine blk_exit ?_
    | ((with_reducible refine blk_other ?_ ?_); (· rfl))
    | with_reducible refine blk_ret ?_
    | with_reducible refine k_label ?_)
  refine k_cut2 ⟨38, [(0, rowsL on), (1, .v (.int .i64 ((startN on last : Nat) - 1 : Int)))], []⟩ ?_ ?_
  · repeat' (first
      | with_reducible refine k_seq ?_
      | ((with_reducible refine k_region' E0P E0ok ?_); simp only [go_sem])
      | with_reducible refine RunP_some ?_
      | ((with_reducible refine gs_split ?_ ?_) <;> intro hc <;> simp only [go_sem, hc])
      | ((with_reducible refine k_cnd ?_); simp only [go_sem])
      | with_reducible refine cp_t ?_
      | with_reducible refine cp_f ?_
      | ((with_reducible refine cp_s ?_ ?_) <;> intro hc <;> (try simp only [hc]))
      | with_reducible refine k_skip ?_
      | with_reducible refine k_ret ?_
      | with_reducible refine k_block ?_
      | with_reducible refine k_exit ?_
      | with_reducible refine blk_exit ?_
      | ((with_reducible refine blk_other ?_ ?_); (· rfl))
      | with_reducible refine blk_ret ?_
      | with_reducible refine k_label ?_)
    all_goals
      simp only [decide_eq_true_eq, decide_eq_false_iff_not] at *
      refine Told.ren [0, 1] [] rfl ?_ rfl
      simp [keepT, lookT, renT, ren_rowsL, D.ren]
      rw [key]
      first
        | (rw [if_pos (by omega)]; omega)
        | (rw [if_neg (by omega)]; omega)
  generalize startN on last = s at *
  have hws : IntKind.i64.wrap ((s : Int) - 1 + 1) = (s : Int) := by rw [wrap_id] <;> omega
  repeat' (first
    | with_reducible refine k_seq ?_
    | ((with_reducible refine k_region' E0P E0ok ?_); simp only [go_sem, hws])
    | with_reducible refine RunP_some ?_
    | ((with_reducible refine gs_split ?_ ?_) <;> intro hc <;> simp only [go_sem, hws, hc])
    | ((with_reducible refine k_cnd ?_); simp only [go_sem, hws])
    | with_reducible refine cp_t ?_
    | with_reducible refine cp_f ?_
    | ((with_reducible refine cp_s ?_ ?_) <;> intro hc <;> (try simp only [hc]))
    | with_reducible refine k_skip ?_
    | with_reducible refine k_ret ?_
    | with_reducible refine k_block ?_
    | with_reducible refine k_exit ?_
    | with_reducible refine blk_exit ?_
    | ((with_reducible refine blk_other ?_ ?_); (· rfl))
    | with_reducible refine blk_ret ?_
    | with_reducible refine k_label ?_)
  refine k_loopI (on.length - s) (fun j => ⟨38, [(0, rowsL on), (1, .v (.int .i64 ((s : Nat) - 1 : Int))), (5, .v (.int .i64 ((s + j : Nat) : Int)))], []⟩) (fun j => seekN on (on.length - s) s = seekN on (on.length - s - j) (s + j)) (Told.ren [0, 1, 5] [] rfl (by simp [keepT, lookT, renT, D.ren, ren_rowsL]) rfl) (by simp) ?_ ?_
  · intro j hj hJ
    have hdec : decide (((s + j : Nat) : Int) < (on.length : Int)) = true := by rw [decide_eq_true_eq]; omega
    have hw : IntKind.i64.wrap (((s + j : Nat) : Int) + 1) = ((s + (j + 1) : Nat) : Int) := by rw [wrap_id] <;> omega
    have hi := idx23 (k := .i64) (lt23 (show s + j < on.length by omega))
    have hd : on.length - s - j = (on.length - s - (j + 1)) + 1 := by omega
    rw [hd] at hJ
    simp only [seekN] at hJ
    rcases hq : qT on (s + j) with _ | _
    · rw [hq] at hi
      rw [if_neg (by rw [hq]; simp)] at hJ
      repeat' (first
        | with_reducible refine k_seq ?_
        | ((with_reducible refine k_region' E0P E0ok ?_); simp only [go_sem, hdec, hw, hi, ld4e])
        | with_reducible refine RunP_some ?_
        | ((with_reducible refine gs_split ?_ ?_) <;> intro hc <;> simp only [go_sem, hdec, hw, hi, ld4e, hc])
        | ((with_reducible refine k_cnd ?_); simp only [go_sem, hdec, hw, hi, ld4e])
        | with_reducible refine cp_t ?_
        | with_reducible refine cp_f ?_
        | ((with_reducible refine cp_s ?_ ?_) <;> intro hc <;> (try simp only [hc]))
        | with_reducible refine k_skip ?_
        | with_reducible refine k_ret ?_
        | with_reducible refine k_block ?_
        | with_reducible refine k_exit ?_
        | with_reducible refine blk_exit ?_
        | ((with_reducible refine blk_other ?_ ?_); (· rfl))
        | with_reducible refine blk_ret ?_
        | with_reducible refine k_label ?_)
      exact ⟨Told.ren [0, 1, 5] [] rfl (by simp [keepT, lookT, renT, D.ren, ren_rowsL]) rfl, hJ⟩
    · rw [hq] at hi
      rw [if_pos hq] at hJ
      repeat' (first
        | with_reducible refine k_seq ?_
        | ((with_reducible refine k_region' E0P E0ok ?_); simp only [go_sem, hdec, hw, hi, ld4e])
        | with_reducible refine RunP_some ?_
        | ((with_reducible refine gs_split ?_ ?_) <;> intro hc <;> simp only [go_sem, hdec, hw, hi, ld4e, hc])
        | ((with_reducible refine k_cnd ?_); simp only [go_sem, hdec, hw, hi, ld4e])
        | with_reducible refine cp_t ?_
        | with_reducible refine cp_f ?_
        | ((with_reducible refine cp_s ?_ ?_) <;> intro hc <;> (try simp only [hc]))
        | with_reducible refine k_skip ?_
        | with_reducible refine k_ret ?_
        | with_reducible refine k_block ?_
        | with_reducible refine k_exit ?_
        | with_reducible refine blk_exit ?_
        | ((with_reducible refine blk_other ?_ ?_); (· rfl))
        | with_reducible refine blk_ret ?_
        | with_reducible refine k_label ?_)
      rw [show refN on s = ((s + j : Nat) : Int) by unfold refN; rw [hJ]]
      exact end_here (.inr rfl) rfl rfl
  intro hJ
  have hn1 : seekN on (on.length - s) s = none := by rw [hJ, Nat.sub_self]; rfl
  have hdec : decide (((s + (on.length - s) : Nat) : Int) < (on.length : Int)) = false := by rw [decide_eq_false_iff_not]; omega
  repeat' (first
    | with_reducible refine k_seq ?_
    | ((with_reducible refine k_region' E0P E0ok ?_); simp only [go_sem, hdec])
    | with_reducible refine RunP_some ?_
    | ((with_reducible refine gs_split ?_ ?_) <;> intro hc <;> simp only [go_sem, hdec, hc])
    | ((with_reducible refine k_cnd ?_); simp only [go_sem, hdec])
    | with_reducible refine cp_t ?_
    | with_reducible refine cp_f ?_
    | ((with_reducible refine cp_s ?_ ?_) <;> intro hc <;> (try simp only [hc]))
    | with_reducible refine k_skip ?_
    | with_reducible refine k_ret ?_
    | with_reducible refine k_block ?_
    | with_reducible refine k_exit ?_
    | with_reducible refine blk_exit ?_
    | ((with_reducible refine blk_other ?_ ?_); (· rfl))
    | with_reducible refine blk_ret ?_
    | with_reducible refine k_label ?_)
  refine k_loopI s (fun j => ⟨38, [(0, rowsL on), (1, .v (.int .i64 ((s : Nat) - 1 : Int))), (6, .v (.int .i64 (j : Int)))], []⟩) (fun j => seekN on s 0 = seekN on (s - j) j) (Told.ren [0, 1, 6] [] rfl (by simp [keepT, lookT, renT, D.ren, ren_rowsL]) rfl) (by simp) ?_ ?_
  · intro j hj hJ
    have hdec : decide ((j : Int) ≤ ((s : Nat) - 1 : Int)) = true := by rw [decide_eq_true_eq]; omega
    have hw : IntKind.i64.wrap ((j : Int) + 1) = ((j + 1 : Nat) : Int) := by rw [wrap_id] <;> omega
    have hi := idx23 (k := .i64) (lt23 (show j < on.length by omega))
    have hd : s - j = (s - (j + 1)) + 1 := by omega
    rw [hd] at hJ
    simp only [seekN] at hJ
    rcases hq : qT on j with _ | _
    · rw [hq] at hi
      rw [if_neg (by rw [hq]; simp)] at hJ
      repeat' (first
        | with_reducible refine k_seq ?_
        | ((with_reducible refine k_region' E0P E0ok ?_); simp only [go_sem, hdec, hw, hi, ld4e])
        | with_reducible refine RunP_some ?_
        | ((with_reducible refine gs_split ?_ ?_) <;> intro hc <;> simp only [go_sem, hdec, hw, hi, ld4e, hc])
        | ((with_reducible refine k_cnd ?_); simp only [go_sem, hdec, hw, hi, ld4e])
        | with_reducible refine cp_t ?_
        | with_reducible refine cp_f ?_
        | ((with_reducible refine cp_s ?_ ?_) <;> intro hc <;> (try simp only [hc]))
        | with_reducible refine k_skip ?_
        | with_reducible refine k_ret ?_
        | with_reducible refine k_block ?_
        | with_reducible refine k_exit ?_
        | with_reducible refine blk_exit ?_
        | ((with_reducible refine blk_other ?_ ?_); (· rfl))
        | with_reducible refine blk_ret ?_
        | with_reducible refine k_label ?_)
      exact ⟨Told.ren [0, 1, 6] [] rfl (by simp [keepT, lookT, renT, D.ren, ren_rowsL]) rfl, hJ⟩
    · rw [hq] at hi
      rw [if_pos hq] at hJ
      repeat' (first
        | with_reducible refine k_seq ?_
        | ((with_reducible refine k_region' E0P E0ok ?_); simp only [go_sem, hdec, hw, hi, ld4e])
        | with_reducible refine RunP_some ?_
        | ((with_reducible refine gs_split ?_ ?_) <;> intro hc <;> simp only [go_sem, hdec, hw, hi, ld4e, hc])
        | ((with_reducible refine k_cnd ?_); simp only [go_sem, hdec, hw, hi, ld4e])
        | with_reducible refine cp_t ?_
        | with_reducible refine cp_f ?_
        | ((with_reducible refine cp_s ?_ ?_) <;> intro hc <;> (try simp only [hc]))
        | with_reducible refine k_skip ?_
        | with_reducible refine k_ret ?_
        | with_reducible refine k_block ?_
        | with_reducible refine k_exit ?_
        | with_reducible refine blk_exit ?_
        | ((with_reducible refine blk_other ?_ ?_); (· rfl))
        | with_reducible refine blk_ret ?_
        | with_reducible refine k_label ?_)
      rw [show refN on s = ((j : Nat) : Int) by unfold refN; rw [hn1, hJ]]
      exact end_here (.inr rfl) rfl rfl
  · intro hJ
    have hdec : decide ((s : Int) ≤ ((s : Nat) - 1 : Int)) = false := by rw [decide_eq_false_iff_not]; omega
    rw [show refN on s = -1 by unfold refN; rw [hn1, hJ, Nat.sub_self]; rfl]
    repeat' (first
      | with_reducible refine k_seq ?_
      | ((with_reducible refine k_region' E0P E0ok ?_); simp only [go_sem, hdec])
      | with_reducible refine RunP_some ?_
      | ((with_reducible refine gs_split ?_ ?_) <;> intro hc <;> simp only [go_sem, hdec, hc])
      | ((with_reducible refine k_cnd ?_); simp only [go_sem, hdec])
      | with_reducible refine cp_t ?_
      | with_reducible refine cp_f ?_
      | ((with_reducible refine cp_s ?_ ?_) <;> intro hc <;> (try simp only [hc]))
      | with_reducible refine k_skip ?_
      | with_reducible refine k_ret ?_
      | with_reducible refine k_block ?_
      | with_reducible refine k_exit ?_
      | with_reducible refine blk_exit ?_
      | ((with_reducible refine blk_other ?_ ?_); (· rfl))
      | with_reducible refine blk_ret ?_
      | with_reducible refine k_label ?_)
    exact end_here (.inr rfl) rfl rfl
end Go.Proofs.YtjmhioacbpgalaaDoor.S
