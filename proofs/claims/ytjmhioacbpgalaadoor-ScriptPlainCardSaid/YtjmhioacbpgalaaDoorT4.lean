import Derived.Test.YtjmhioacbpgalaaDoorT3
import Derived.Test.YtjmhioacbpgalaaDoorL7
namespace Go.Proofs.YtjmhioacbpgalaaDoor.S
open Go Go.Proofs.YtjmhioacbpgalaaDoorV
set_option linter.unusedSimpArgs false
set_option linter.unusedVariables false
set_option maxRecDepth 100000
set_option maxHeartbeats 4000000
attribute [-go_sem] lookH_zero
attribute [local go_sem] lookH_z2
theorem by4 : tbytes Tryd.prog 4 = some 1 := by kernel_rfl
theorem mk23 {base : Nat} {n : Int} (h0 : 0 ≤ n) (h1 : n ≤ 100) : opMakeSlice Tryd.prog base 23 (.v (.int .i64 n)) (.v (.int .i64 n)) = some { val := refL Bool base n.toNat, news := [.cells (cellsL (List.replicate n.toNat false)) false] } := by
  have e : ∀ k : Nat, (List.replicate k [D.v (.bool false)]).flatten = cellsL (List.replicate k false) := by
    intro k; induction k with
    | zero => rfl
    | succ k ih => rw [List.replicate_succ, List.flatten_cons, ih, List.replicate_succ, cellsL_cons]; rfl
  have hb : 1 * n ≤ 281474976710656 := by omega
  simp only [opMakeSlice, Tryd.underlying23, ts4, by4, zr4, agB4, e]
  simp [h0]
  exact ⟨by omega, rfl⟩
/-- Who has died of some picks. -/
def gone (m : Nat) (o : List Pk) : List Bool := (List.range m).map fun i : Nat => o.any fun q => q.k == 3 && q.a == (i : Int)
theorem gone_nil {m : Nat} : gone m [] = List.replicate m false := by
  simp only [gone, List.any_nil]
  induction m with
  | zero => rfl
  | succ m ih => rw [List.range_succ, List.map_append, ih]; simp [List.replicate_succ']
theorem gone_get {m : Nat} {o : List Pk} {i : Nat} (h : i < m) : (gone m o)[i]? = some (o.any fun q => q.k == 3 && q.a == (i : Int)) := by
  simp [gone, h]
theorem gone_length {m : Nat} {o : List Pk} : (gone m o).length = m := by simp [gone]
theorem gone_set {m : Nat} {o : List Pk} {p : Pk} (h0 : 0 ≤ p.a) (h3 : p.k = 3) : gone m (o ++ [p]) = (gone m o).set p.a.toNat true := by
  apply List.ext_getElem?
  intro i
  rw [List.getElem?_set]
  by_cases hi : i < m
  · rw [gone_get hi, gone_get hi]
    by_cases e : p.a.toNat = i
    · rw [if_pos e, if_pos (by rw [gone_length]; omega)]
      have : p.a = (i : Int) := by omega
      simp [List.any_append, h3, this]
    · rw [if_neg e]
      have : (p.a == (i : Int)) = false := by simp; omega
      simp [List.any_append, this]
  · have hl : ∀ o : List Pk, (gone m o)[i]? = none := fun o => List.getElem?_eq_none (by simp [gone]; omega)
    rw [hl, hl]
    split
    · rw [if_neg (by simp [gone]; omega)]
    · rfl
theorem gone_same {m : Nat} {o : List Pk} {p : Pk} (h3 : p.k ≠ 3) : gone m (o ++ [p]) = gone m o := by
  have : (p.k == 3) = false := by simp [h3]
  simp [gone, List.any_append, this]
def dies (o : List Pk) : Nat := (o.filter fun q => q.k == 3).length
def stA (seats : Int) (o : List Pk) (j : Nat) : St := ⟨63, [(0, .v (.int .i64 seats)), (5, refL Bool 0 seats.toNat), (6, .v (.int .i64 (seats - dies (o.take j)))), (26, refL Pk 1 o.length), (27, .v (.int .i64 o.length)), (28, .v (.int .i64 j))],
  [some (.cells (cellsL (gone seats.toNat (o.take j))) false), some (.cells (cellsL o) false)]⟩
def JA (seats : Int) (o : List Pk) (n : Nat) (s : St) : Prop := ∃ j, n + j = o.length ∧ s = stA seats o j
theorem liv (seats : Int) (hs : seats ≤ 9223372036854775807) (l : List Pk) : Fits Tryd.prog 6 [.v (.int .i64 seats), rowsL l] (.v (.bool true)) [] := by
  refine fits_ofT Tryd.func6 rfl rfl rfl rfl ?_
  simp only [Tryd.ntmps6, List.length_cons, List.length_nil, Nat.reduceAdd, Nat.reduceSub, argsT]
  refine k_start ?_
  by_cases hc : l.length ≤ 400 ∧ 1 ≤ seats ∧ seats ≤ 100
  case neg =>
    have hdec : ∀ (a b : Bool), decide ((l.length : Int) > 400) = a → decide (seats < 1) = b → a = false → b = false → decide (seats > 100) = true := by
      intro a b h1 h2 h3 h4; subst h1 h2; simp at *; omega
    repeat' (first
      | with_reducible refine k_seq ?_
      | ((with_reducible refine k_region' E2P E2ok ?_); simp only [go_sem])
      | with_reducible refine RunP_some ?_
      | ((with_reducible refine gs_split ?_ ?_) <;> intro hc <;> simp only [go_sem, hc])
      | ((with_reducible refine k_cnd ?_); simp only [go_sem])
      | with_reducible refine cp_t ?_
      | with_reducible refine cp_f ?_
      | ((with_reducible refine cp_s ?_ ?_) <;> intro hc <;> (try simp only [hc]))
      | with_reducible refine k_skip ?_
      | with_reducible refine k_ret ?_
      | with_reducible refine k_block ?_
      | with_reducible refine k_exit ?_
      | with_reducible refine blk_exit ?_
      | ((with_reducible refine blk_other ?_ ?_); (· rfl))
      | with_reducible refine blk_ret ?_
      | with_reducible refine k_label ?_)
    all_goals first
      | exact end_here (.inr rfl) rfl rfl
      | (exfalso; simp at *; omega)
  obtain ⟨hl, h1, h100⟩ := hc
  have d1 : decide ((l.length : Int) > 400) = false := by simp; omega
  have d2 : decide (seats < 1) = false := by simp; omega
  have d3 : decide (seats > 100) = false := by simp; omega
  have c15 := fun look base => e15 (look := look) (base := base) (s := seats) hl
  have hf := fine seats hs l
  have hpl := plain_length seats l
  have hmk := fun base => mk23 (base := base) (n := seats) (by omega) h100
  have ho : (foldP seats l).o = plainS seats l := rfl
  generalize hd : (foldP seats l).d = dd at *
  have hr := hf.right
  have hord := hf.order
  have hcnt : dd.length = dies (plainS seats l) := by rw [← hd, hf.count]; rfl
  have hmost := hf.most h1
  rw [ho] at hr hord
  rw [hd, hcnt] at hmost
  generalize plainS seats l = o at *
  repeat' (first
    | with_reducible refine k_seq ?_
    | ((with_reducible refine k_region' E2P E2ok ?_); simp only [go_sem, d1, d2, d3, c15, hmk])
    | with_reducible refine RunP_some ?_
    | ((with_reducible refine gs_split ?_ ?_) <;> intro hc <;> simp only [go_sem, d1, d2, d3, c15, hmk, hc])
    | ((with_reducible refine k_cnd ?_); simp only [go_sem, d1, d2, d3, c15, hmk])
    | with_reducible refine cp_t ?_
    | with_reducible refine cp_f ?_
    | ((with_reducible refine cp_s ?_ ?_) <;> intro hc <;> (try simp only [hc]))
    | with_reducible refine k_skip ?_
    | with_reducible refine k_ret ?_
    | with_reducible refine k_block ?_
    | with_reducible refine k_exit ?_
    | with_reducible refine blk_exit ?_
    | ((with_reducible refine blk_other ?_ ?_); (· rfl))
    | with_reducible refine blk_ret ?_
    | with_reducible refine k_label ?_)
  refine k_loopR (JA seats o) o.length (s := stA seats o 0) ?_ ⟨0, by omega, rfl⟩ ?_
  · refine Told.ren [0, 5, 6, 26, 27, 28] [0, 1] rfl ?_ ?_
    · simp [keepT, lookT, renT, D.ren, posL, ren_rowsL, ren_refL, dies]
    · simp [renH, lookH, renO_cellsL, gone_nil]
  rintro n s ⟨j, hn, rfl⟩
  by_cases hj : j < o.length
  · obtain ⟨p, hx⟩ : ∃ p, o[j]? = some p := ⟨o[j], List.getElem?_eq_getElem hj⟩
    have hdec : decide ((j : Int) < (o.length : Int)) = true := by simpa using hj
    have hw : IntKind.i64.wrap ((j : Int) + 1) = ((j + 1 : Nat) : Int) := by rw [wrap_id] <;> omega
    obtain ⟨r1, r2⟩ := hr p (List.mem_of_getElem? hx)
    have ha : 0 ≤ p.a ∧ p.a < seats := by
      unfold rightS at r1
      by_cases h : p.a < 0 ∨ p.a ≥ seats
      · rw [if_pos h] at r1; cases r1
      · omega
    have hk2 : (p.k == 2) = false := by simpa using r2
    have htk : o.take (j + 1) = o.take j ++ [p] := by rw [List.take_add_one, hx]; rfl
    have hng : (gone seats.toNat (o.take j))[p.a.toNat]? = some false := by
      rw [gone_get (by omega)]
      congr 1
      rw [List.any_eq_false]
      intro q hq
      have hp2 : (o.take (j + 1)).Pairwise fun p q => p.k = 3 → p.a ≠ q.a := hord.sublist (List.take_sublist _ _)
      rw [htk, List.pairwise_append] at hp2
      have := hp2.2.2 q hq p (by simp)
      simp; omega
    have hdl : dies (o.take (j + 1)) ≤ dies o := ((List.take_sublist _ _).filter _).length_le
    have hi1 := idx22r (k := .i64) (id := 1) hj
    have hi2 : opIndexAddr Tryd.prog 23 (refL Bool 0 seats.toNat) (.v (.int .i64 p.a)) = some { val := ptrL Bool 0 p.a.toNat } := idx_refL Tryd.underlying23 ety4 ha.1 (by omega)
    have hl1 := fun look (h : look 1 = some (.cells (cellsL o) false)) => ld26p (look := look) h hx
    have hl2 := fun look (h : look 0 = some (.cells (cellsL (gone seats.toNat (o.take j))) false)) => ld4p (look := look) h hng
    have hst := fun look (h : look 0 = some (.cells (cellsL (gone seats.toNat (o.take j))) false)) => store_ptrL (look := look) (y := true) ety4 h (j := p.a.toNat) (by rw [gone_length]; omega)
    rw [enc_bool] at hst
    simp only [stA]
    by_cases h3 : p.k = 3
    · have hk3 : (p.k == 3) = true := by simpa using h3
      have hd1 : dies (o.take (j + 1)) = dies (o.take j) + 1 := by rw [htk]; simp [dies, List.filter_append, h3]
      have hw2 : IntKind.i64.wrap (seats - dies (o.take j) - 1) = seats - dies (o.take (j + 1)) := by rw [wrap_id] <;> omega
      have hg := gone_set (m := seats.toNat) (o := o.take j) ha.1 h3
      rw [← htk] at hg
      repeat' (first
        | with_reducible refine k_seq ?_
        | ((with_reducible refine k_region' E2P E2ok ?_); simp only [go_sem, hdec, hw, hi1, hi2, hl1, hl2, hst, hk2, hk3, r1, al26, hw2, Bool.not_true])
        | with_reducible refine RunP_some ?_
        | ((with_reducible refine gs_split ?_ ?_) <;> intro hc <;> simp only [go_sem, hdec, hw, hi1, hi2, hl1, hl2, hst, hk2, hk3, r1, al26, hw2, Bool.not_true, hc])
        | ((with_reducible refine k_cnd ?_); simp only [go_sem, hdec, hw, hi1, hi2, hl1, hl2, hst, hk2, hk3, r1, al26, hw2, Bool.not_true])
        | with_reducible refine cp_t ?_
        | with_reducible refine cp_f ?_
        | ((with_reducible refine cp_s ?_ ?_) <;> intro hc <;> (try simp only [hc]))
        | with_reducible refine k_skip ?_
        | with_reducible refine k_ret ?_
        | with_reducible refine k_block ?_
        | with_reducible refine k_exit ?_
        | with_reducible refine blk_exit ?_
        | ((with_reducible refine blk_other ?_ ?_); (· rfl))
        | with_reducible refine blk_ret ?_
        | with_reducible refine k_label ?_)
      refine ⟨n - 1, stA seats o (j + 1), Told.ren [0, 5, 6, 26, 27, 28] [0, 1] rfl ?_ ?_, ⟨j + 1, by omega, rfl⟩, by omega⟩ <;> simp [keepT, lookT, renT, D.ren, posL, ren_rowsL, ren_refL, renH, lookH, renO_cellsL, hg]
    · have hk3 : (p.k == 3) = false := by simpa using h3
      have hd1 : dies (o.take (j + 1)) = dies (o.take j) := by rw [htk]; simp [dies, List.filter_append, h3]
      have hg := gone_same (m := seats.toNat) (o := o.take j) h3
      rw [← htk] at hg
      repeat' (first
        | with_reducible refine k_seq ?_
        | ((with_reducible refine k_region' E2P E2ok ?_); simp only [go_sem, hdec, hw, hi1, hi2, hl1, hl2, hk2, hk3, r1, al26, Bool.not_true])
        | with_reducible refine RunP_some ?_
        | ((with_reducible refine gs_split ?_ ?_) <;> intro hc <;> simp only [go_sem, hdec, hw, hi1, hi2, hl1, hl2, hk2, hk3, r1, al26, Bool.not_true, hc])
        | ((with_reducible refine k_cnd ?_); simp only [go_sem, hdec, hw, hi1, hi2, hl1, hl2, hk2, hk3, r1, al26, Bool.not_true])
        | with_reducible refine cp_t ?_
        | with_reducible refine cp_f ?_
        | ((with_reducible refine cp_s ?_ ?_) <;> intro hc <;> (try simp only [hc]))
        | with_reducible refine k_skip ?_
        | with_reducible refine k_ret ?_
        | with_reducible refine k_block ?_
        | with_reducible refine k_exit ?_
        | with_reducible refine blk_exit ?_
        | ((with_reducible refine blk_other ?_ ?_); (· rfl))
        | with_reducible refine blk_ret ?_
        | with_reducible refine k_label ?_)
      refine ⟨n - 1, stA seats o (j + 1), Told.ren [0, 5, 6, 26, 27, 28] [0, 1] rfl ?_ ?_, ⟨j + 1, by omega, rfl⟩, by omega⟩ <;> simp [keepT, lookT, renT, D.ren, posL, ren_rowsL, ren_refL, renH, lookH, renO_cellsL, hg, hd1]
  · have hj' : j = o.length := by omega
    subst hj'
    have hdec : decide ((o.length : Int) < (o.length : Int)) = false := by simp
    have hge : decide (seats - (dies o : Int) ≥ 1) = true := by simp; omega
    simp only [stA, List.take_length]
    repeat' (first
      | with_reducible refine k_seq ?_
      | ((with_reducible refine k_region' E2P E2ok ?_); simp only [go_sem, hdec, hge])
      | with_reducible refine RunP_some ?_
      | ((with_reducible refine gs_split ?_ ?_) <;> intro hc <;> simp only [go_sem, hdec, hge, hc])
      | ((with_reducible refine k_cnd ?_); simp only [go_sem, hdec, hge])
      | with_reducible refine cp_t ?_
      | with_reducible refine cp_f ?_
      | ((with_reducible refine cp_s ?_ ?_) <;> intro hc <;> (try simp only [hc]))
      | with_reducible refine k_skip ?_
      | with_reducible refine k_ret ?_
      | with_reducible refine k_block ?_
      | with_reducible refine k_exit ?_
      | with_reducible refine blk_exit ?_
      | ((with_reducible refine blk_other ?_ ?_); (· rfl))
      | with_reducible refine blk_ret ?_
      | with_reducible refine k_label ?_)
    exact end_here (.inr rfl) rfl rfl
def args6 : Tys := .cons (.int .i64) (.cons (.slice pickT) .nil)
theorem law6' (seats : Int) (l : List (Int × Int × Int)) (h : (Lit.int .i64 seats).wf = true) : Fits Tryd.prog 6 [.v (.int .i64 seats), Ty.enc (.slice pickT) l] (.v (.bool true)) [] := by
  rw [encs_pk]
  exact liv seats (wf_i64 h).2 _
theorem law6 : Law Tryd.prog 6 args6 := fun x hx => law6' x.1 x.2 hx.1
end Go.Proofs.YtjmhioacbpgalaaDoor.S
