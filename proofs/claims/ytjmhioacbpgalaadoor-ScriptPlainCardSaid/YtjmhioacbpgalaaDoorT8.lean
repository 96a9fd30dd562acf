import Derived.Test.YtjmhioacbpgalaaDoorT7
namespace Go.Proofs.YtjmhioacbpgalaaDoor.S
open Go Go.Proofs.YtjmhioacbpgalaaDoorV
set_option linter.unusedSimpArgs false
set_option linter.unusedVariables false
set_option maxRecDepth 100000
set_option maxHeartbeats 4000000
attribute [-go_sem] lookH_zero
attribute [local go_sem] lookH_z2
/-! ### the document's functions -/
theorem refRight (seats : Int) (p : Pk) : Fits Tryd.prog 13 [.v (.int .i64 seats), enc p] (.v (.bool (rightS seats p))) [] := by
  refine fits_ofT Tryd.func13 rfl rfl rfl rfl ?_
  simp only [Tryd.ntmps13, List.length_cons, List.length_nil, Nat.reduceAdd, Nat.reduceSub, argsT, enc_pk]
  refine k_start ?_
  have key : ∀ b, rightS seats p = b → rightS seats p = b := fun _ h => h
  repeat' (first
    | with_reducible refine k_seq ?_
    | ((with_reducible refine k_region' E0P E0ok ?_); simp only [go_sem])
    | with_reducible refine RunP_some ?_
    | ((with_reducible refine gs_split ?_ ?_) <;> intro hc <;> simp only [go_sem, hc])
    | ((with_reducible refine k_cnd ?_); simp only [go_sem])
    | with_reducible refine cp_t ?_
    | with_reducible refine cp_f ?_
    | ((with_reducible refine cp_s ?_ ?_) <;> intro hc <;> (try simp only [hc]))
    | with_reducible refine k_skip ?_
    | with_reducible refine k_ret ?_
    | with_reducible refine k_block ?_
    | with_reducible refine k_exit ?_
    | with_reducible refine blk_exit ?_
    | ((with_reducible refine blk_other ?_ ?_); (· rfl))
    | with_reducible refine blk_ret ?_
    | with_reducible refine k_label ?_)
  all_goals
    simp only [Bool.not_eq_true', Bool.not_eq_false', beq_iff_eq, beq_eq_false_iff_ne, decide_eq_true_eq, decide_eq_false_iff_not, ne_eq] at *
    refine end_here (.inr rfl) ?_ rfl
    refine congrArg (fun b => some (D.v (Value.bool b))) ?_
    simp only [rightS]
  all_goals simp [*]
  all_goals omega
def isDead (o : List Pk) (w : Int) : Bool := o.any fun q => q.k == 3 && q.a == w
theorem take_any {o : List Pk} {f : Pk → Bool} {j : Nat} {p : Pk} (h : o[j]? = some p) : (o.take (j + 1)).any f = ((o.take j).any f || f p) := by
  rw [List.take_add_one, h, List.any_append]; simp
theorem hitAny {o : List Pk} {f : Pk → Bool} {j : Nat} {p : Pk} (h : o[j]? = some p) (hf : f p = true) : o.any f = true := List.any_eq_true.2 ⟨p, List.mem_of_getElem? h, hf⟩
theorem deadF (o : List Pk) (w : Int) (hl : o.length ≤ 400) : Fits Tryd.prog 24 [rowsL o, .v (.int .i64 w)] (.v (.bool (isDead o w))) [] := by
  refine fits_ofT Tryd.func24 rfl rfl rfl rfl ?_
  simp only [Tryd.ntmps24, List.length_cons, List.length_nil, Nat.reduceAdd, Nat.reduceSub, argsT]
  refine k_start ?_
  repeat' (first
    | with_reducible refine k_seq ?_
    | ((with_reducible refine k_region' E0P E0ok ?_); simp only [go_sem])
    | with_reducible refine RunP_some ?_
    | ((with_reducible refine gs_split ?_ ?_) <;> intro hc <;> simp only [go_sem, hc])
    | ((with_reducible refine k_cnd ?_); simp only [go_sem])
    | with_reducible refine cp_t ?_
    | with_reducible refine cp_f ?_
    | ((with_reducible refine cp_s ?_ ?_) <;> intro hc <;> (try simp only [hc]))
    | with_reducible refine k_skip ?_
    | with_reducible refine k_ret ?_
    | with_reducible refine k_block ?_
    | with_reducible refine k_exit ?_
    | with_reducible refine blk_exit ?_
    | ((with_reducible refine blk_other ?_ ?_); (· rfl))
    | with_reducible refine blk_ret ?_
    | with_reducible refine k_label ?_)
  refine k_loopI o.length (fun j => ⟨27, [(0, rowsL o), (1, .v (.int .i64 w)), (5, .v (.int .i64 j))], []⟩) (fun j => isDead (o.take j) w = false) (Told.ren [0, 1, 5] [] rfl (by simp [keepT, lookT, renT, D.ren, ren_rowsL]) rfl) rfl ?_ ?_
  · intro j hj hJ
    obtain ⟨p, hx⟩ : ∃ p, o[j]? = some p := ⟨o[j], List.getElem?_eq_getElem hj⟩
    have hdec : decide ((j : Int) < (o.length : Int)) = true := by simpa using hj
    have hw : IntKind.i64.wrap ((j : Int) + 1) = ((j + 1 : Nat) : Int) := by rw [wrap_id] <;> omega
    have hix := idx22 (k := .i64) hx
    have ht := take_any (f := fun q => q.k == 3 && q.a == w) hx
    repeat' (first
      | with_reducible refine k_seq ?_
      | ((with_reducible refine k_region' E0P E0ok ?_); simp only [go_sem, hdec, hw, hix])
      | with_reducible refine RunP_some ?_
      | ((with_reducible refine gs_split ?_ ?_) <;> intro hc <;> simp only [go_sem, hdec, hw, hix, hc])
      | ((with_reducible refine k_cnd ?_); simp only [go_sem, hdec, hw, hix])
      | with_reducible refine cp_t ?_
      | with_reducible refine cp_f ?_
      | ((with_reducible refine cp_s ?_ ?_) <;> intro hc <;> (try simp only [hc]))
      | with_reducible refine k_skip ?_
      | with_reducible refine k_ret ?_
      | with_reducible refine k_block ?_
      | with_reducible refine k_exit ?_
      | with_reducible refine blk_exit ?_
      | ((with_reducible refine blk_other ?_ ?_); (· rfl))
      | with_reducible refine blk_ret ?_
      | with_reducible refine k_label ?_)
    · rw [show isDead o w = true from hitAny hx (by simp_all)]
      exact end_here (.inr rfl) rfl rfl
    all_goals exact ⟨Told.ren [0, 1, 5] [] rfl (by simp [keepT, lookT, renT, D.ren, ren_rowsL]) rfl, by unfold isDead at hJ ⊢; rw [ht, hJ]; simp_all⟩
  · intro hJ
    have hdec : decide ((o.length : Int) < (o.length : Int)) = false := by simp
    rw [List.take_length] at hJ
    rw [hJ]
    repeat' (first
      | with_reducible refine k_seq ?_
      | ((with_reducible refine k_region' E0P E0ok ?_); simp only [go_sem, hdec])
      | with_reducible refine RunP_some ?_
      | ((with_reducible refine gs_split ?_ ?_) <;> intro hc <;> simp only [go_sem, hdec, hc])
      | ((with_reducible refine k_cnd ?_); simp only [go_sem, hdec])
      | with_reducible refine cp_t ?_
      | with_reducible refine cp_f ?_
      | ((with_reducible refine cp_s ?_ ?_) <;> intro hc <;> (try simp only [hc]))
      | with_reducible refine k_skip ?_
      | with_reducible refine k_ret ?_
      | with_reducible refine k_block ?_
      | with_reducible refine k_exit ?_
      | with_reducible refine blk_exit ?_
      | ((with_reducible refine blk_other ?_ ?_); (· rfl))
      | with_reducible refine blk_ret ?_
      | with_reducible refine k_label ?_)
    exact end_here (.inr rfl) rfl rfl
theorem deathsF (o : List Pk) (hl : o.length ≤ 400) : Fits Tryd.prog 26 [rowsL o] (.v (.int .i64 (dies o))) [] := by
  refine fits_ofT Tryd.func26 rfl rfl rfl rfl ?_
  simp only [Tryd.ntmps26, List.length_cons, List.length_nil, Nat.reduceAdd, Nat.reduceSub, argsT]
  refine k_start ?_
  repeat' (first
    | with_reducible refine k_seq ?_
    | ((with_reducible refine k_region' E0P E0ok ?_); simp only [go_sem])
    | with_reducible refine RunP_some ?_
    | ((with_reducible refine gs_split ?_ ?_) <;> intro hc <;> simp only [go_sem, hc])
    | ((with_reducible refine k_cnd ?_); simp only [go_sem])
    | with_reducible refine cp_t ?_
    | with_reducible refine cp_f ?_
    | ((with_reducible refine cp_s ?_ ?_) <;> intro hc <;> (try simp only [hc]))
    | with_reducible refine k_skip ?_
    | with_reducible refine k_ret ?_
    | with_reducible refine k_block ?_
    | with_reducible refine k_exit ?_
    | with_reducible refine blk_exit ?_
    | ((with_reducible refine blk_other ?_ ?_); (· rfl))
    | with_reducible refine blk_ret ?_
    | with_reducible refine k_label ?_)
  refine k_loopI o.length (fun j => ⟨20, [(0, rowsL o), (3, .v (.int .i64 (dies (o.take j)))), (4, .v (.int .i64 j))], []⟩) (fun j => True) (Told.ren [0, 3, 4] [] rfl (by simp [keepT, lookT, renT, D.ren, ren_rowsL, dies]) rfl) trivial ?_ ?_
  · intro j hj hJ
    obtain ⟨p, hx⟩ : ∃ p, o[j]? = some p := ⟨o[j], List.getElem?_eq_getElem hj⟩
    have hdec : decide ((j : Int) < (o.length : Int)) = true := by simpa using hj
    have hw : IntKind.i64.wrap ((j : Int) + 1) = ((j + 1 : Nat) : Int) := by rw [wrap_id] <;> omega
    have hix := idx22 (k := .i64) hx
    have hd : dies (o.take j) ≤ j := by
      have := List.length_filter_le (fun q : Pk => q.k == 3) (o.take j)
      simp only [List.length_take] at this; unfold dies; omega
    have ht : dies (o.take (j + 1)) = dies (o.take j) + if p.k == 3 then 1 else 0 := by
      unfold dies; rw [List.take_add_one, hx, List.filter_append]; cases h : p.k == 3 <;> simp [h]
    have hw2 : IntKind.i64.wrap ((dies (o.take j) : Int) + 1) = ((dies (o.take j) + 1 : Nat) : Int) := by rw [wrap_id] <;> omega
    rcases hc : p.k == 3 with _ | _
    all_goals
      repeat' (first
        | with_reducible refine k_seq ?_
        | ((with_reducible refine k_region' E0P E0ok ?_); simp only [go_sem, hdec, hw, hix, hw2, hc])
        | with_reducible refine RunP_some ?_
        | ((with_reducible refine gs_split ?_ ?_) <;> intro hc <;> simp only [go_sem, hdec, hw, hix, hw2, hc, hc])
        | ((with_reducible refine k_cnd ?_); simp only [go_sem, hdec, hw, hix, hw2, hc])
        | with_reducible refine cp_t ?_
        | with_reducible refine cp_f ?_
        | ((with_reducible refine cp_s ?_ ?_) <;> intro hc <;> (try simp only [hc]))
        | with_reducible refine k_skip ?_
        | with_reducible refine k_ret ?_
        | with_reducible refine k_block ?_
        | with_reducible refine k_exit ?_
        | with_reducible refine blk_exit ?_
        | ((with_reducible refine blk_other ?_ ?_); (· rfl))
        | with_reducible refine blk_ret ?_
        | with_reducible refine k_label ?_)
    all_goals exact ⟨Told.ren [0, 3, 4] [] rfl (by simp [keepT, lookT, renT, D.ren, ren_rowsL, ht, hc]) rfl, trivial⟩
  · intro hJ
    have hdec : decide ((o.length : Int) < (o.length : Int)) = false := by simp
    rw [List.take_length]
    repeat' (first
      | with_reducible refine k_seq ?_
      | ((with_reducible refine k_region' E0P E0ok ?_); simp only [go_sem, hdec])
      | with_reducible refine RunP_some ?_
      | ((with_reducible refine gs_split ?_ ?_) <;> intro hc <;> simp only [go_sem, hdec, hc])
      | ((with_reducible refine k_cnd ?_); simp only [go_sem, hdec])
      | with_reducible refine cp_t ?_
      | with_reducible refine cp_f ?_
      | ((with_reducible refine cp_s ?_ ?_) <;> intro hc <;> (try simp only [hc]))
      | with_reducible refine k_skip ?_
      | with_reducible refine k_ret ?_
      | with_reducible refine k_block ?_
      | with_reducible refine k_exit ?_
      | with_reducible refine blk_exit ?_
      | ((with_reducible refine blk_other ?_ ?_); (· rfl))
      | with_reducible refine blk_ret ?_
      | with_reducible refine k_label ?_)
    exact end_here (.inr rfl) rfl rfl
def stallS (l : List Pk) (at_ : Nat) (w : Int) : Bool := (List.range at_).any fun k => match l[k]? with
  | some q => q.k == 2 && q.a == w && decide (q.b ≥ (at_ : Int) - k)
  | none => false
theorem stallsF (l : List Pk) (at_ : Nat) (w : Pk) (hw0 : l[at_]? = some w) (hl : l.length ≤ 400) : Fits Tryd.prog 25 [rowsL l, .v (.int .i64 at_)] (.v (.bool (stallS l at_ w.a))) [] := by
  refine fits_ofT Tryd.func25 rfl rfl rfl rfl ?_
  simp only [Tryd.ntmps25, List.length_cons, List.length_nil, Nat.reduceAdd, Nat.reduceSub, argsT]
  refine k_start ?_
  have hat : at_ < l.length := (List.getElem?_eq_some_iff.1 hw0).1
  have hia := idx22 (k := .i64) hw0
  repeat' (first
    | with_reducible refine k_seq ?_
    | ((with_reducible refine k_region' E0P E0ok ?_); simp only [go_sem])
    | with_reducible refine RunP_some ?_
    | ((with_reducible refine gs_split ?_ ?_) <;> intro hc <;> simp only [go_sem, hc])
    | ((with_reducible refine k_cnd ?_); simp only [go_sem])
    | with_reducible refine cp_t ?_
    | with_reducible refine cp_f ?_
    | ((with_reducible refine cp_s ?_ ?_) <;> intro hc <;> (try simp only [hc]))
    | with_reducible refine k_skip ?_
    | with_reducible refine k_ret ?_
    | with_reducible refine k_block ?_
    | with_reducible refine k_exit ?_
    | with_reducible refine blk_exit ?_
    | ((with_reducible refine blk_other ?_ ?_); (· rfl))
    | with_reducible refine blk_ret ?_
    | with_reducible refine k_label ?_)
  refine k_loopI at_ (fun j => ⟨41, [(0, rowsL l), (1, .v (.int .i64 at_)), (5, .v (.int .i64 j))], []⟩) (fun j => ∀ k, k < j → ∀ q, l[k]? = some q → (q.k == 2 && q.a == w.a && decide (q.b ≥ (at_ : Int) - k)) = false) (Told.ren [0, 1, 5] [] rfl (by simp [keepT, lookT, renT, D.ren, ren_rowsL]) rfl) (fun k hk => absurd hk (Nat.not_lt_zero _)) ?_ ?_
  · intro j hj hJ
    obtain ⟨p, hx⟩ : ∃ p, l[j]? = some p := ⟨l[j], List.getElem?_eq_getElem (by omega)⟩
    have hdec : decide ((j : Int) < (at_ : Int)) = true := by simpa using hj
    have hw : IntKind.i64.wrap ((j : Int) + 1) = ((j + 1 : Nat) : Int) := by rw [wrap_id] <;> omega
    have hw2 : IntKind.i64.wrap ((at_ : Int) - (j : Int)) = (at_ : Int) - j := by rw [wrap_id] <;> omega
    have hix := idx22 (k := .i64) hx
    have hnext : (p.k == 2 && p.a == w.a && decide (p.b ≥ (at_ : Int) - j)) = false → ∀ k, k < j + 1 → ∀ q, l[k]? = some q → (q.k == 2 && q.a == w.a && decide (q.b ≥ (at_ : Int) - k)) = false := by
      intro h k hk q hq
      rcases Nat.lt_or_ge k j with h2 | h2
      · exact hJ k h2 q hq
      · obtain rfl : k = j := by omega
        rw [hx] at hq; cases hq; exact h
    repeat' (first
      | with_reducible refine k_seq ?_
      | ((with_reducible refine k_region' E0P E0ok ?_); simp only [go_sem, hdec, hw, hw2, hix, hia])
      | ((with_reducible refine k_read' E0P E0ok mixd [[], [], [0, 1], [0, 1, 2], [0, 1, 2, 3], [0, 1, 2, 3, 4], [0, 1, 2, 3, 4, 5], [0, 1, 2, 3, 4, 5, 6], [0, 1, 2, 3, 4, 5, 6], [0, 1, 2, 3, 4, 5, 6, 7, 8], [0, 1, 2, 3, 4, 5, 6, 7, 8, 9], [0, 1, 2, 3, 4, 5, 6, 7, 8, 9, 10], [0, 1, 2, 3, 4, 5, 6], [0, 1, 2, 3, 4, 5, 6], [0, 1, 2, 3, 4, 5, 6, 12, 13], [0, 1, 2, 3, 4, 5, 6, 12, 13, 14], [0, 1, 2, 3, 4, 5, 6, 12, 13, 14, 15], [0, 1, 2, 3, 4, 5, 6, 7, 8, 9, 10, 11, 12, 13, 14, 15, 16], [0, 1, 2, 3, 4, 5, 6, 7, 8, 9, 10, 11, 12, 13, 14, 15, 16, 17], [0, 1, 2, 3, 4, 5, 6, 7, 8, 9, 10, 11, 12, 13, 14, 15, 16, 17, 18], [0, 1, 2, 3, 4, 5, 6, 7, 8, 9, 10, 11, 12, 13, 14, 15, 16, 17, 18, 19], [0, 1, 2, 3, 4, 5, 6, 7, 8, 9, 10, 11, 12, 13, 14, 15, 16, 17, 18, 19], [0, 1, 2, 3, 4, 5, 6, 7, 8, 9, 10, 11, 12, 13, 14, 15, 16, 17, 18, 19, 20, 21], [0, 1, 2, 3, 4, 5, 6, 7, 8, 9, 10, 11, 12, 13, 14, 15, 16, 17, 18, 19, 20, 21, 22], [0, 1, 2, 3, 4, 5, 6, 7, 8, 9, 10, 11, 12, 13, 14, 15, 16, 17, 18, 19, 20, 21, 22, 23], [0, 1, 2, 3, 4, 5, 6, 7, 8, 9, 10, 11, 12, 13, 14, 15, 16, 17, 18, 19], [0, 1, 2, 3, 4, 5, 6, 7, 8, 9, 10, 11, 12, 13, 14, 15, 16, 17, 18, 19], [0, 1, 2, 3, 4, 5, 6, 7, 8, 9, 10, 11, 12, 13, 14, 15, 16, 17, 18, 19, 25, 26], [0, 1, 2, 3, 4, 5, 6, 7, 8, 9, 10, 11, 12, 13, 14, 15, 16, 17, 18, 19, 20, 21, 22, 23, 24, 25, 26, 27], [0, 1, 2, 3, 4, 5, 6, 7, 8, 9, 10, 11, 12, 13, 14, 15, 16, 17, 18, 19, 20, 21, 22, 23, 24, 25, 26, 27, 28]] [none, none, none, none, none, none, none, none, none, none, none, none, none, none, none, none, none, none, none, none, none, none, none, none, none, none, none, none, none, none] 28 ?_ ?_); (· kernel_rfl); simp only [go_sem, hdec, hw, hw2, hix, hia])
      | with_reducible refine RunP_some ?_
      | ((with_reducible refine gs_split ?_ ?_) <;> intro hc <;> simp only [go_sem, hdec, hw, hw2, hix, hia, hc])
      | ((with_reducible refine gr_split ?_ ?_) <;> intro hc <;> simp only [go_sem, hdec, hw, hw2, hix, hia, hc])
      | ((with_reducible refine k_cnd ?_); simp only [go_sem, hdec, hw, hw2, hix, hia])
      | with_reducible refine cp_t ?_
      | with_reducible refine cp_f ?_
      | ((with_reducible refine cp_s ?_ ?_) <;> intro hc <;> (try simp only [hc]))
      | with_reducible refine k_skip ?_
      | with_reducible refine k_ret ?_
      | with_reducible refine k_block ?_
      | with_reducible refine k_exit ?_
      | with_reducible refine blk_exit ?_
      | ((with_reducible refine blk_other ?_ ?_); (· rfl))
      | with_reducible refine blk_ret ?_
      | with_reducible refine k_label ?_)
    · have : stallS l at_ w.a = true := List.any_eq_true.2 ⟨j, by simpa using hj, by simp [hx]; simp_all⟩
      rw [this]
      exact end_here (.inr rfl) rfl rfl
    all_goals exact ⟨Told.ren [0, 1, 5] [] rfl (by simp [keepT, lookT, renT, D.ren, ren_rowsL]) rfl, hnext (by simp_all)⟩
  · intro hJ
    have hdec : decide ((at_ : Int) < (at_ : Int)) = false := by simp
    have : stallS l at_ w.a = false := by
      unfold stallS
      rw [List.any_eq_false]
      intro k hk
      cases hq : l[k]? with
      | none => simp
      | some q => have := hJ k (by simpa using hk) q hq; simpa using this
    rw [this]
    repeat' (first
      | with_reducible refine k_seq ?_
      | ((with_reducible refine k_region' E0P E0ok ?_); simp only [go_sem, hdec])
      | with_reducible refine RunP_some ?_
      | ((with_reducible refine gs_split ?_ ?_) <;> intro hc <;> simp only [go_sem, hdec, hc])
      | ((with_reducible refine k_cnd ?_); simp only [go_sem, hdec])
      | with_reducible refine cp_t ?_
      | with_reducible refine cp_f ?_
      | ((with_reducible refine cp_s ?_ ?_) <;> intro hc <;> (try simp only [hc]))
      | with_reducible refine k_skip ?_
      | with_reducible refine k_ret ?_
      | with_reducible refine k_block ?_
      | with_reducible refine k_exit ?_
      | with_reducible refine blk_exit ?_
      | ((with_reducible refine blk_other ?_ ?_); (· rfl))
      | with_reducible refine blk_ret ?_
      | with_reducible refine k_label ?_)
    exact end_here (.inr rfl) rfl rfl
def ctrRefRight : Ctr Tryd.prog where
  f := 13
  A := Int × Pk
  pre _ := True
  args x := [.v (.int .i64 x.1), enc x.2]
  res x := .v (.bool (rightS x.1 x.2))
  objs _ := []
  inj a b h := by
    simp only [List.cons.injEq, D.v.injEq, Value.int.injEq, true_and, and_true] at h
    have : a = b := Prod.ext h.1 (enc_inj h.2)
    rw [this]; exact ⟨rfl, rfl⟩
  enter := enter_of Tryd.func13 rfl rfl
  fits x _ := refRight x.1 x.2
noncomputable def E4 : Env := envOf Tryd.prog [ctrRefRight] []
theorem E4ok : E4.ok := envOf_ok _ _
theorem E4P : E4.P = Tryd.prog := rfl
theorem f13 {look : Nat → Option DObj} {base : Nat} {s k a b : Int} : opCall E4 look base 13 [.v (.int .i64 s), .agg [.v (.int .i64 k), .v (.int .i64 a), .v (.int .i64 b)]] = some { val := .v (.bool (rightS s ⟨k, a, b⟩)) } :=
  call_v (c := ctrRefRight) (HasC.here rfl) rfl rfl (s, ⟨k, a, b⟩) ⟨_, _, rfl, .plain rfl, _, _, rfl, .plain rfl, rfl⟩ trivial rfl rfl rfl
attribute [local go_sem] E4P f13
theorem rightF (seats : Int) (l : List Pk) (hl : l.length ≤ 400) : Fits Tryd.prog 23 [.v (.int .i64 seats), rowsL l] (refL Pk 0 (l.filter (rightS seats)).length) [.cells (cellsL (l.filter (rightS seats))) false] := by
  refine fits_ofT Tryd.func23 rfl rfl (by rw [ren_refL]; rfl) (by simp [renOpts, renO_cellsL]) ?_
  simp only [Tryd.ntmps23, List.length_cons, List.length_nil, Nat.reduceAdd, Nat.reduceSub, argsT]
  refine k_start ?_
  repeat' (first
    | with_reducible refine k_seq ?_
    | ((with_reducible refine k_region' E4P E4ok ?_); simp only [go_sem])
    | with_reducible refine RunP_some ?_
    | ((with_reducible refine gs_split ?_ ?_) <;> intro hc <;> simp only [go_sem, hc])
    | ((with_reducible refine k_cnd ?_); simp only [go_sem])
    | with_reducible refine cp_t ?_
    | with_reducible refine cp_f ?_
    | ((with_reducible refine cp_s ?_ ?_) <;> intro hc <;> (try simp only [hc]))
    | with_reducible refine k_skip ?_
    | with_reducible refine k_ret ?_
    | with_reducible refine k_block ?_
    | with_reducible refine k_exit ?_
    | with_reducible refine blk_exit ?_
    | ((with_reducible refine blk_other ?_ ?_); (· rfl))
    | with_reducible refine blk_ret ?_
    | with_reducible refine k_label ?_)
  refine k_loopI l.length (fun j => ⟨27, [(0, .v (.int .i64 seats)), (1, rowsL l), (5, refL Pk 0 ((l.take j).filter (rightS seats)).length), (6, .v (.int .i64 j))], [some (.cells (cellsL ((l.take j).filter (rightS seats))) false)]⟩) (fun j => True) ?_ trivial ?_ ?_
  · refine (Told.nilL Pk 5 0 rfl).trans (Told.ren [0, 1, 5, 6] [0] rfl ?_ ?_)
    · simp [keepT, lookT, renT, D.ren, posL, ren_rowsL, ren_refL]
    · simp [renH, lookH, renO_cellsL, cellsL_nil]
  · intro j hj hJ
    obtain ⟨p, hx⟩ : ∃ p, l[j]? = some p := ⟨l[j], List.getElem?_eq_getElem hj⟩
    have hdec : decide ((j : Int) < (l.length : Int)) = true := by simpa using hj
    have hw : IntKind.i64.wrap ((j : Int) + 1) = ((j + 1 : Nat) : Int) := by rw [wrap_id] <;> omega
    have hix := idx22 (k := .i64) hx
    have ht : (l.take (j + 1)).filter (rightS seats) = (l.take j).filter (rightS seats) ++ if rightS seats p then [p] else [] := by
      rw [List.take_add_one, hx, List.filter_append]; cases h : rightS seats p <;> simp [h]
    have hol : ((l.take j).filter (rightS seats)).length ≤ 900 := by
      have := List.length_filter_le (rightS seats) (l.take j)
      simp at this; omega
    have happ := fun look base id id2 h h2 => app22 (look := look) (base := base) (id := id) (id2 := id2) (k := p.k) (a := p.a) (b := p.b) h h2 hol
    rw [ht]
    generalize (l.take j).filter (rightS seats) = o at *
    rcases hc : rightS seats p with _ | _
    · repeat' (first
        | with_reducible refine k_seq ?_
        | ((with_reducible refine k_region' E4P E4ok ?_); simp only [go_sem, hdec, hw, hix, hc])
        | with_reducible refine RunP_some ?_
        | ((with_reducible refine gs_split ?_ ?_) <;> intro hc <;> simp only [go_sem, hdec, hw, hix, hc, hc])
        | ((with_reducible refine k_cnd ?_); simp only [go_sem, hdec, hw, hix, hc])
        | with_reducible refine cp_t ?_
        | with_reducible refine cp_f ?_
        | ((with_reducible refine cp_s ?_ ?_) <;> intro hc <;> (try simp only [hc]))
        | with_reducible refine k_skip ?_
        | with_reducible refine k_ret ?_
        | with_reducible refine k_block ?_
        | with_reducible refine k_exit ?_
        | with_reducible refine blk_exit ?_
        | ((with_reducible refine blk_other ?_ ?_); (· rfl))
        | with_reducible refine blk_ret ?_
        | with_reducible refine k_label ?_)
      exact ⟨Told.ren [0, 1, 5, 6] [0] rfl (by simp [keepT, lookT, renT, D.ren, posL, ren_rowsL, ren_refL]) (by simp [renH, lookH, renO_cellsL]), trivial⟩
    · repeat' (first
        | with_reducible refine k_seq ?_
        | ((with_reducible refine k_region' E4P E4ok ?_); simp only [go_sem, hdec, hw, hix, hc, happ, bs26])
        | with_reducible refine RunP_some ?_
        | ((with_reducible refine gs_split ?_ ?_) <;> intro hc <;> simp only [go_sem, hdec, hw, hix, hc, happ, bs26, hc])
        | ((with_reducible refine k_cnd ?_); simp only [go_sem, hdec, hw, hix, hc, happ, bs26])
        | with_reducible refine cp_t ?_
        | with_reducible refine cp_f ?_
        | ((with_reducible refine cp_s ?_ ?_) <;> intro hc <;> (try simp only [hc]))
        | with_reducible refine k_skip ?_
        | with_reducible refine k_ret ?_
        | with_reducible refine k_block ?_
        | with_reducible refine k_exit ?_
        | with_reducible refine blk_exit ?_
        | ((with_reducible refine blk_other ?_ ?_); (· rfl))
        | with_reducible refine blk_ret ?_
        | with_reducible refine k_label ?_)
      exact ⟨Told.ren [0, 1, 5, 6] [2] rfl (by simp [keepT, lookT, renT, D.ren, posL, ren_rowsL, ren_refL]) (by simp [renH, lookH, renO_cellsL]), trivial⟩
  · intro hJ
    have hdec : decide ((l.length : Int) < (l.length : Int)) = false := by simp
    rw [List.take_length]
    repeat' (first
      | with_reducible refine k_seq ?_
      | ((with_reducible refine k_region' E4P E4ok ?_); simp only [go_sem, hdec])
      | with_reducible refine RunP_some ?_
      | ((with_reducible refine gs_split ?_ ?_) <;> intro hc <;> simp only [go_sem, hdec, hc])
      | ((with_reducible refine k_cnd ?_); simp only [go_sem, hdec])
      | with_reducible refine cp_t ?_
      | with_reducible refine cp_f ?_
      | ((with_reducible refine cp_s ?_ ?_) <;> intro hc <;> (try simp only [hc]))
      | with_reducible refine k_skip ?_
      | with_reducible refine k_ret ?_
      | with_reducible refine k_block ?_
      | with_reducible refine k_exit ?_
      | with_reducible refine blk_exit ?_
      | ((with_reducible refine blk_other ?_ ?_); (· rfl))
      | with_reducible refine blk_ret ?_
      | with_reducible refine k_label ?_)
    exact end_here (.inr rfl) rfl rfl
end Go.Proofs.YtjmhioacbpgalaaDoor.S
