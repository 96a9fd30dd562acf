import Derived.Test.YtjmhioacbpgalaaDoorT6
namespace Go.Proofs.YtjmhioacbpgalaaDoor.S
open Go Go.Proofs.YtjmhioacbpgalaaDoorV
set_option linter.unusedSimpArgs false
set_option linter.unusedVariables false
set_option maxRecDepth 100000
set_option maxHeartbeats 4000000
attribute [-go_sem] lookH_zero
attribute [local go_sem] lookH_z2
theorem by3 : tbytes Tryd.prog 3 = some 8 := by kernel_rfl
theorem zr3 : zeroD Tryd.prog 3 = some [.v (.int .i64 0)] := by kernel_rfl
theorem len40 {look : Nat → Option DObj} {l : List Int} : opLen Tryd.prog look 40 (rowsL l) = some { val := .v (.int .i64 l.length) } := len_rowsL Tryd.underlying40
theorem len40r {look : Nat → Option DObj} {id n : Nat} : opLen Tryd.prog look 40 (refL Int id n) = some { val := .v (.int .i64 n) } := len_refL Tryd.underlying40
theorem len40n {look : Nat → Option DObj} : opLen Tryd.prog look 40 (.v (.slice none 0 0)) = some { val := .v (.int .i64 0) } := len_nil Tryd.underlying40
theorem idx40 {l : List Int} {j : Nat} {x : Int} {k : IntKind} (h : l[j]? = some x) : opIndexAddr Tryd.prog 40 (rowsL l) (.v (.int k (j : Int))) = some { val := .eaddr (cellsE x) } := idx_rowsL Tryd.underlying40 ety3 (Int.natCast_nonneg j) (by simpa using h)
theorem idx40r {id n j : Nat} {k : IntKind} (h : j < n) : opIndexAddr Tryd.prog 40 (refL Int id n) (.v (.int k (j : Int))) = some { val := ptrL Int id j } := by rw [idx_refL Tryd.underlying40 ety3 (Int.natCast_nonneg j) (by omega), Int.toNat_natCast]
attribute [go_sem] len40 len40r len40n
theorem ld3e {look : Nat → Option DObj} {x : Int} : opLoad Tryd.prog look 3 (.eaddr (cellsE x)) = some { val := enc x } := load_eaddrE ety3
theorem ld3p {look : Nat → Option DObj} {l : List Int} {id j : Nat} {s : Bool} {x : Int} (h : look id = some (.cells (cellsL l) s)) (hx : l[j]? = some x) : opLoad Tryd.prog look 3 (ptrL Int id j) = some { val := enc x } := load_ptrL ety3 h hx
attribute [go_sem] ld3e
theorem mk40 {base n : Nat} (h1 : n ≤ 100) : opMakeSlice Tryd.prog base 40 (.v (.int .i64 n)) (.v (.int .i64 n)) = some { val := refL Int base n, news := [.cells (cellsL (List.replicate n (0 : Int))) false] } := by
  have e : ∀ k : Nat, (List.replicate k [D.v (.int .i64 0)]).flatten = cellsL (List.replicate k (0 : Int)) := by
    intro k; induction k with
    | zero => rfl
    | succ k ih => rw [List.replicate_succ, List.flatten_cons, ih, List.replicate_succ, cellsL_cons]; rfl
  simp only [opMakeSlice, Tryd.underlying40, ts3, by3, zr3, agB3, e]
  simp
  exact ⟨by omega, rfl⟩
def ctrNext : Ctr Tryd.prog where
  f := 17
  A := List Bool × Int
  pre x := x.1.length ≤ 100
  args x := [rowsL x.1, .v (.int .i64 x.2)]
  res x := .v (.int .i64 (nextS x.1 x.2))
  objs _ := []
  inj a b h := by
    simp only [List.cons.injEq, D.v.injEq, Value.int.injEq, true_and, and_true] at h
    have : a = b := Prod.ext (rowsL_inj h.1) h.2
    rw [this]; exact ⟨rfl, rfl⟩
  enter := enter_of Tryd.func17 rfl rfl
  fits x h := next x.1 x.2 h
noncomputable def E3 : Env := envOf Tryd.prog [ctrAlive, ctrNext] []
theorem E3ok : E3.ok := envOf_ok _ _
theorem E3P : E3.P = Tryd.prog := rfl
theorem t11 {look : Nat → Option DObj} {base : Nat} : opCall E3 look base 11 [] = some { val := .v (.bool true) } := call_v (HasC.here rfl) rfl rfl () rfl trivial rfl rfl rfl
theorem t17 {look : Nat → Option DObj} {base : Nat} {on : List Bool} {s : Int} (h : on.length ≤ 100) : opCall E3 look base 17 [rowsL on, .v (.int .i64 s)] = some { val := .v (.int .i64 (nextS on s)) } :=
  call_v (c := ctrNext) (HasC.there rfl (HasC.here rfl)) rfl rfl (on, s) ⟨_, _, rfl, .plain (rowsL_refs on), _, _, rfl, .plain rfl, rfl⟩ h rfl rfl rfl
attribute [local go_sem] E3P t11
def stU (on : List Bool) (last : Int) (j : Nat) : St := ⟨100, [(0, rowsL on), (1, .v (.int .i64 last)), (5, .v (.int .i64 (cT on j))), (18, rowsL on), (19, .v (.int .i64 on.length)), (20, .v (.int .i64 j))], []⟩
def stV (on : List Bool) (last : Int) (k J : Nat) (at_ first : Int) : St := ⟨100, [(0, rowsL on), (1, .v (.int .i64 last)), (5, .v (.int .i64 (cT on on.length))), (8, refL Int 0 on.length), (9, .v (.int .i64 at_)), (10, .v (.int .i64 first)), (33, .v (.int .i64 ((2 * cT on on.length : Nat) : Int))), (34, .v (.int .i64 k))], [some (.cells (cellsL (hadS on last J)) false)]⟩
def JV (on : List Bool) (last : Int) (n : Nat) (s : St) : Prop := ∃ k J J1 at_ first, n + k = 2 * cT on on.length ∧ s = stV on last k J at_ first ∧ Turn on last k J J1 at_ first
def stW (on : List Bool) (last : Int) (J j : Nat) : St := ⟨100, [(0, rowsL on), (1, .v (.int .i64 last)), (5, .v (.int .i64 (cT on on.length))), (73, refL Int 0 on.length), (74, .v (.int .i64 on.length)), (75, .v (.int .i64 j))], [some (.cells (cellsL (hadS on last J)) false)]⟩
theorem cT_le (on : List Bool) (i : Nat) : cT on i ≤ i := by
  induction i with
  | zero => exact Nat.le_refl _
  | succ i ih => rw [cT]; split <;> omega
theorem hadS_length {on : List Bool} {last : Int} {J : Nat} : (hadS on last J).length = on.length := by simp [hadS]
theorem turns (on : List Bool) (last : Int) : Fits Tryd.prog 9 [rowsL on, .v (.int .i64 last)] (.v (.bool true)) [] := by
  refine fits_ofT Tryd.func9 rfl rfl rfl rfl ?_
  simp only [Tryd.ntmps9, List.length_cons, List.length_nil, Nat.reduceAdd, Nat.reduceSub, argsT]
  refine k_start ?_
  by_cases hl : on.length ≤ 100
  case neg =>
    have hdec : decide ((on.length : Int) > 100) = true := by simp; omega
    repeat' (first
      | with_reducible refine k_seq ?_
      | ((with_reducible refine k_region' E3P E3ok ?_); simp only [go_sem, hdec])
      | with_reducible refine RunP_some ?_
      | ((with_reducible refine gs_split ?_ ?_) <;> intro hc <;> simp only [go_sem, hdec, hc])
      | ((with_reducible refine k_cnd ?_); simp only [go_sem, hdec])
      | with_reducible refine cp_t ?_
      | with_reducible refine cp_f ?_
      | ((with_reducible refine cp_s ?_ ?_) <;> intro hc <;> (try simp only [hc]))
      | with_reducible refine k_skip ?_
      | with_reducible refine k_ret ?_
      | with_reducible refine k_block ?_
      | with_reducible refine k_exit ?_
      | with_reducible refine blk_exit ?_
      | ((with_reducible refine blk_other ?_ ?_); (· rfl))
      | with_reducible refine blk_ret ?_
      | with_reducible refine k_label ?_)
    exact end_here (.inr rfl) rfl rfl
  have hdec : decide ((on.length : Int) > 100) = false := by simp; omega
  have hcl := cT_le on on.length
  have hmk := fun base => mk40 (base := base) hl
  have hnx := fun look base s => t17 (look := look) (base := base) (s := s) hl
  repeat' (first
    | with_reducible refine k_seq ?_
    | ((with_reducible refine k_region' E3P E3ok ?_); simp only [go_sem, hdec])
    | with_reducible refine RunP_some ?_
    | ((with_reducible refine gs_split ?_ ?_) <;> intro hc <;> simp only [go_sem, hdec, hc])
    | ((with_reducible refine k_cnd ?_); simp only [go_sem, hdec])
    | with_reducible refine cp_t ?_
    | with_reducible refine cp_f ?_
    | ((with_reducible refine cp_s ?_ ?_) <;> intro hc <;> (try simp only [hc]))
    | with_reducible refine k_skip ?_
    | with_reducible refine k_ret ?_
    | with_reducible refine k_block ?_
    | with_reducible refine k_exit ?_
    | with_reducible refine blk_exit ?_
    | ((with_reducible refine blk_other ?_ ?_); (· rfl))
    | with_reducible refine blk_ret ?_
    | with_reducible refine k_label ?_)
  refine k_loopR (fun n s => ∃ j, n + j = on.length ∧ s = stU on last j) on.length (s := stU on last 0) ?_ ⟨0, by omega, rfl⟩ ?_
  · exact Told.ren [0, 1, 5, 18, 19, 20] [] rfl (by simp [keepT, lookT, renT, D.ren, ren_rowsL, cT]) rfl
  rintro n s ⟨j, hn, rfl⟩
  simp only [stU]
  by_cases hj : j < on.length
  · have hd : decide ((j : Int) < (on.length : Int)) = true := by simpa using hj
    have hw : IntKind.i64.wrap ((j : Int) + 1) = ((j + 1 : Nat) : Int) := by rw [wrap_id] <;> omega
    have hi := idx23 (k := .i64) (lt23 hj)
    have hcj := cT_le on j
    have hw2 : IntKind.i64.wrap ((cT on j : Int) + 1) = ((cT on j + 1 : Nat) : Int) := by rw [wrap_id] <;> omega
    cases hq : qT on j with
    | true =>
      rw [hq] at hi
      repeat' (first
        | with_reducible refine k_seq ?_
        | ((with_reducible refine k_region' E3P E3ok ?_); simp only [go_sem, hd, hw, hi, ld4e, hw2])
        | with_reducible refine RunP_some ?_
        | ((with_reducible refine gs_split ?_ ?_) <;> intro hc <;> simp only [go_sem, hd, hw, hi, ld4e, hw2, hc])
        | ((with_reducible refine k_cnd ?_); simp only [go_sem, hd, hw, hi, ld4e, hw2])
        | with_reducible refine cp_t ?_
        | with_reducible refine cp_f ?_
        | ((with_reducible refine cp_s ?_ ?_) <;> intro hc <;> (try simp only [hc]))
        | with_reducible refine k_skip ?_
        | with_reducible refine k_ret ?_
        | with_reducible refine k_block ?_
        | with_reducible refine k_exit ?_
        | with_reducible refine blk_exit ?_
        | ((with_reducible refine blk_other ?_ ?_); (· rfl))
        | with_reducible refine blk_ret ?_
        | with_reducible refine k_label ?_)
      exact ⟨n - 1, stU on last (j + 1), Told.ren [0, 1, 5, 18, 19, 20] [] rfl (by simp [keepT, lookT, renT, D.ren, ren_rowsL, cT, hq]) rfl, ⟨j + 1, by omega, rfl⟩, by omega⟩
    | false =>
      rw [hq] at hi
      repeat' (first
        | with_reducible refine k_seq ?_
        | ((with_reducible refine k_region' E3P E3ok ?_); simp only [go_sem, hd, hw, hi, ld4e, hw2])
        | with_reducible refine RunP_some ?_
        | ((with_reducible refine gs_split ?_ ?_) <;> intro hc <;> simp only [go_sem, hd, hw, hi, ld4e, hw2, hc])
        | ((with_reducible refine k_cnd ?_); simp only [go_sem, hd, hw, hi, ld4e, hw2])
        | with_reducible refine cp_t ?_
        | with_reducible refine cp_f ?_
        | ((with_reducible refine cp_s ?_ ?_) <;> intro hc <;> (try simp only [hc]))
        | with_reducible refine k_skip ?_
        | with_reducible refine k_ret ?_
        | with_reducible refine k_block ?_
        | with_reducible refine k_exit ?_
        | with_reducible refine blk_exit ?_
        | ((with_reducible refine blk_other ?_ ?_); (· rfl))
        | with_reducible refine blk_ret ?_
        | with_reducible refine k_label ?_)
      exact ⟨n - 1, stU on last (j + 1), Told.ren [0, 1, 5, 18, 19, 20] [] rfl (by simp [keepT, lookT, renT, D.ren, ren_rowsL, cT, hq]) rfl, ⟨j + 1, by omega, rfl⟩, by omega⟩
  obtain rfl : j = on.length := by omega
  have hd : decide ((on.length : Int) < (on.length : Int)) = false := by simp
  have hw3 : IntKind.i64.wrap (2 * (cT on on.length : Int)) = ((2 * cT on on.length : Nat) : Int) := by rw [wrap_id] <;> omega
  repeat' (first
    | with_reducible refine k_seq ?_
    | ((with_reducible refine k_region' E3P E3ok ?_); simp only [go_sem, hd, hmk, hw3])
    | with_reducible refine RunP_some ?_
    | ((with_reducible refine gs_split ?_ ?_) <;> intro hc <;> simp only [go_sem, hd, hmk, hw3, hc])
    | ((with_reducible refine k_cnd ?_); simp only [go_sem, hd, hmk, hw3])
    | with_reducible refine cp_t ?_
    | with_reducible refine cp_f ?_
    | ((with_reducible refine cp_s ?_ ?_) <;> intro hc <;> (try simp only [hc]))
    | with_reducible refine k_skip ?_
    | with_reducible refine k_ret ?_
    | with_reducible refine k_block ?_
    | with_reducible refine k_exit ?_
    | with_reducible refine blk_exit ?_
    | ((with_reducible refine blk_other ?_ ?_); (· rfl))
    | with_reducible refine blk_ret ?_
    | with_reducible refine k_label ?_)
  refine k_loopR (JV on last) (2 * cT on on.length) (s := stV on last 0 ((lastN on last).toNat + 1) last (-1)) ?_ ⟨0, _, 0, _, _, by omega, rfl, Turn.zero on last⟩ ?_
  · exact Told.ren [0, 1, 5, 8, 9, 10, 33, 34] [0] rfl (by simp [keepT, lookT, renT, D.ren, ren_rowsL, ren_refL, posL]) (by simp [renH, lookH, renO_cellsL, hadS_zero])
  rintro n s ⟨k, J, J1, at_, first, hn, rfl, T⟩
  simp only [stV]
  by_cases hk : k < 2 * cT on on.length
  · have hd2 : decide ((k : Int) < ((2 * cT on on.length : Nat) : Int)) = true := by simp; omega
    obtain ⟨J', e1, e2, e3, T', e4, e5⟩ := T.step hk
    generalize J' % on.length = x at *
    have hn2 := hnx
    have hnat := fun look base => hnx look base at_
    rw [e1] at hnat
    have hw : IntKind.i64.wrap ((k : Int) + 1) = ((k + 1 : Nat) : Int) := by rw [wrap_id] <;> omega
    have hlt0 : decide ((x : Int) < 0) = false := by rw [decide_eq_false_iff_not]; omega
    have hge : decide ((x : Int) ≥ (on.length : Int)) = false := by simp; omega
    have hi := idx23 (k := .i64) (lt23 e2)
    rw [e3] at hi
    have hi8 := idx40r (k := .i64) (id := 0) e2
    obtain ⟨v, hv⟩ : ∃ v, (hadS on last J)[x]? = some v := ⟨_, List.getElem?_eq_getElem (by rw [hadS_length]; exact e2)⟩
    rw [hv, Option.getD_some] at e4
    have hl8 := fun look (h : look 0 = some (.cells (cellsL (hadS on last J)) false)) => ld3p (look := look) h hv
    have hvb := T.few hv
    have hw8 : IntKind.i64.wrap (v + 1) = v + 1 := by rw [wrap_id] <;> omega
    have hst := fun look (h : look 0 = some (.cells (cellsL (hadS on last J)) false)) => store_ptrL (look := look) (y := v + 1) ety3 h (j := x) (by rw [hadS_length]; exact e2)
    rw [enc_int, ← e4] at hst
    by_cases hk0 : k = 0
    · have hb0 : ((k : Int) == 0) = true := by simp [hk0]
      have hbm : ((k : Int) == (cT on on.length : Int)) = false := by simp; omega
      rw [if_pos hk0, if_pos hk0] at T'
      repeat' (first
        | with_reducible refine k_seq ?_
        | ((with_reducible refine k_region' E3P E3ok ?_); simp only [go_sem, hd2, hnat, hw, hlt0, hge, hi, ld4e, hb0, hbm, hi8, hl8, hw8, hst, Bool.not_true, Bool.not_false])
        | with_reducible refine RunP_some ?_
        | ((with_reducible refine gs_split ?_ ?_) <;> intro hc <;> simp only [go_sem, hd2, hnat, hw, hlt0, hge, hi, ld4e, hb0, hbm, hi8, hl8, hw8, hst, Bool.not_true, Bool.not_false, hc])
        | ((with_reducible refine k_cnd ?_); simp only [go_sem, hd2, hnat, hw, hlt0, hge, hi, ld4e, hb0, hbm, hi8, hl8, hw8, hst, Bool.not_true, Bool.not_false])
        | with_reducible refine cp_t ?_
        | with_reducible refine cp_f ?_
        | ((with_reducible refine cp_s ?_ ?_) <;> intro hc <;> (try simp only [hc]))
        | with_reducible refine k_skip ?_
        | with_reducible refine k_ret ?_
        | with_reducible refine k_block ?_
        | with_reducible refine k_exit ?_
        | with_reducible refine blk_exit ?_
        | ((with_reducible refine blk_other ?_ ?_); (· rfl))
        | with_reducible refine blk_ret ?_
        | with_reducible refine k_label ?_)
      exact ⟨n - 1, stV on last (k + 1) (J' + 1) x x, Told.ren [0, 1, 5, 8, 9, 10, 33, 34] [0] rfl (by simp [keepT, lookT, renT, D.ren, ren_rowsL, ren_refL, posL]) (by simp [renH, lookH, renO_cellsL]), ⟨k + 1, J' + 1, _, x, x, by omega, rfl, T'⟩, by omega⟩
    · have hb0 : ((k : Int) == 0) = false := by simp [hk0]
      rw [if_neg hk0, if_neg hk0] at T'
      by_cases hkm : k = cT on on.length
      · have hbm : ((k : Int) == (cT on on.length : Int)) = true := by simp [hkm]
        have hne : ((x : Int) != first) = false := by rw [e5 hkm hk0]; simp
        repeat' (first
          | with_reducible refine k_seq ?_
          | ((with_reducible refine k_region' E3P E3ok ?_); simp only [go_sem, hd2, hnat, hw, hlt0, hge, hi, ld4e, hb0, hbm, hne, hi8, hl8, hw8, hst, Bool.not_true, Bool.not_false])
          | with_reducible refine RunP_some ?_
          | ((with_reducible refine gs_split ?_ ?_) <;> intro hc <;> simp only [go_sem, hd2, hnat, hw, hlt0, hge, hi, ld4e, hb0, hbm, hne, hi8, hl8, hw8, hst, Bool.not_true, Bool.not_false, hc])
          | ((with_reducible refine k_cnd ?_); simp only [go_sem, hd2, hnat, hw, hlt0, hge, hi, ld4e, hb0, hbm, hne, hi8, hl8, hw8, hst, Bool.not_true, Bool.not_false])
          | with_reducible refine cp_t ?_
          | with_reducible refine cp_f ?_
          | ((with_reducible refine cp_s ?_ ?_) <;> intro hc <;> (try simp only [hc]))
          | with_reducible refine k_skip ?_
          | with_reducible refine k_ret ?_
          | with_reducible refine k_block ?_
          | with_reducible refine k_exit ?_
          | with_reducible refine blk_exit ?_
          | ((with_reducible refine blk_other ?_ ?_); (· rfl))
          | with_reducible refine blk_ret ?_
          | with_reducible refine k_label ?_)
        exact ⟨n - 1, stV on last (k + 1) (J' + 1) x first, Told.ren [0, 1, 5, 8, 9, 10, 33, 34] [0] rfl (by simp [keepT, lookT, renT, D.ren, ren_rowsL, ren_refL, posL]) (by simp [renH, lookH, renO_cellsL]), ⟨k + 1, J' + 1, _, x, first, by omega, rfl, T'⟩, by omega⟩
      · have hbm : ((k : Int) == (cT on on.length : Int)) = false := by simp; omega
        repeat' (first
          | with_reducible refine k_seq ?_
          | ((with_reducible refine k_region' E3P E3ok ?_); simp only [go_sem, hd2, hnat, hw, hlt0, hge, hi, ld4e, hb0, hbm, hi8, hl8, hw8, hst, Bool.not_true, Bool.not_false])
          | with_reducible refine RunP_some ?_
          | ((with_reducible refine gs_split ?_ ?_) <;> intro hc <;> simp only [go_sem, hd2, hnat, hw, hlt0, hge, hi, ld4e, hb0, hbm, hi8, hl8, hw8, hst, Bool.not_true, Bool.not_false, hc])
          | ((with_reducible refine k_cnd ?_); simp only [go_sem, hd2, hnat, hw, hlt0, hge, hi, ld4e, hb0, hbm, hi8, hl8, hw8, hst, Bool.not_true, Bool.not_false])
          | with_reducible refine cp_t ?_
          | with_reducible refine cp_f ?_
          | ((with_reducible refine cp_s ?_ ?_) <;> intro hc <;> (try simp only [hc]))
          | with_reducible refine k_skip ?_
          | with_reducible refine k_ret ?_
          | with_reducible refine k_block ?_
          | with_reducible refine k_exit ?_
          | with_reducible refine blk_exit ?_
          | ((with_reducible refine blk_other ?_ ?_); (· rfl))
          | with_reducible refine blk_ret ?_
          | with_reducible refine k_label ?_)
        exact ⟨n - 1, stV on last (k + 1) (J' + 1) x first, Told.ren [0, 1, 5, 8, 9, 10, 33, 34] [0] rfl (by simp [keepT, lookT, renT, D.ren, ren_rowsL, ren_refL, posL]) (by simp [renH, lookH, renO_cellsL]), ⟨k + 1, J' + 1, _, x, first, by omega, rfl, T'⟩, by omega⟩
  obtain rfl : k = 2 * cT on on.length := by
    have : n + k = 2 * cT on on.length := hn
    omega
  have hd2 : decide (((2 * cT on on.length : Nat) : Int) < ((2 * cT on on.length : Nat) : Int)) = false := by simp
  repeat' (first
    | with_reducible refine k_seq ?_
    | ((with_reducible refine k_region' E3P E3ok ?_); simp only [go_sem, hd2])
    | with_reducible refine RunP_some ?_
    | ((with_reducible refine gs_split ?_ ?_) <;> intro hc <;> simp only [go_sem, hd2, hc])
    | ((with_reducible refine k_cnd ?_); simp only [go_sem, hd2])
    | with_reducible refine cp_t ?_
    | with_reducible refine cp_f ?_
    | ((with_reducible refine cp_s ?_ ?_) <;> intro hc <;> (try simp only [hc]))
    | with_reducible refine k_skip ?_
    | with_reducible refine k_ret ?_
    | with_reducible refine k_block ?_
    | with_reducible refine k_exit ?_
    | with_reducible refine blk_exit ?_
    | ((with_reducible refine blk_other ?_ ?_); (· rfl))
    | with_reducible refine blk_ret ?_
    | with_reducible refine k_label ?_)
  refine k_loopR (fun n s => ∃ j, n + j = on.length ∧ s = stW on last J j) on.length (s := stW on last J 0) ?_ ⟨0, by omega, rfl⟩ ?_
  · exact Told.ren [0, 1, 5, 73, 74, 75] [0] rfl (by simp [keepT, lookT, renT, D.ren, ren_rowsL, ren_refL, posL]) (by simp [renH, lookH, renO_cellsL])
  rintro n s ⟨j, hn, rfl⟩
  simp only [stW]
  by_cases hj : j < on.length
  · have hd : decide ((j : Int) < (on.length : Int)) = true := by simpa using hj
    have hw : IntKind.i64.wrap ((j : Int) + 1) = ((j + 1 : Nat) : Int) := by rw [wrap_id] <;> omega
    have hi := idx23 (k := .i64) (lt23 hj)
    have hi8 := idx40r (k := .i64) (id := 0) hj
    obtain ⟨v, hv⟩ : ∃ v, (hadS on last J)[j]? = some v := ⟨_, List.getElem?_eq_getElem (by rw [hadS_length]; exact hj)⟩
    have hl8 := fun look (h : look 0 = some (.cells (cellsL (hadS on last J)) false)) => ld3p (look := look) h hv
    cases hq : qT on j with
    | true =>
      rw [hq] at hi
      have := T.all hj hq
      rw [hv] at this; cases this
      have hne : ((2 : Int) != 2) = false := rfl
      repeat' (first
        | with_reducible refine k_seq ?_
        | ((with_reducible refine k_region' E3P E3ok ?_); simp only [go_sem, hd, hw, hi, ld4e, hi8, hl8, hne])
        | with_reducible refine RunP_some ?_
        | ((with_reducible refine gs_split ?_ ?_) <;> intro hc <;> simp only [go_sem, hd, hw, hi, ld4e, hi8, hl8, hne, hc])
        | ((with_reducible refine k_cnd ?_); simp only [go_sem, hd, hw, hi, ld4e, hi8, hl8, hne])
        | with_reducible refine cp_t ?_
        | with_reducible refine cp_f ?_
        | ((with_reducible refine cp_s ?_ ?_) <;> intro hc <;> (try simp only [hc]))
        | with_reducible refine k_skip ?_
        | with_reducible refine k_ret ?_
        | with_reducible refine k_block ?_
        | with_reducible refine k_exit ?_
        | with_reducible refine blk_exit ?_
        | ((with_reducible refine blk_other ?_ ?_); (· rfl))
        | with_reducible refine blk_ret ?_
        | with_reducible refine k_label ?_)
      exact ⟨n - 1, stW on last J (j + 1), Told.ren [0, 1, 5, 73, 74, 75] [0] rfl (by simp [keepT, lookT, renT, D.ren, ren_rowsL, ren_refL, posL]) (by simp [renH, lookH, renO_cellsL]), ⟨j + 1, by omega, rfl⟩, by omega⟩
    | false =>
      rw [hq] at hi
      repeat' (first
        | with_reducible refine k_seq ?_
        | ((with_reducible refine k_region' E3P E3ok ?_); simp only [go_sem, hd, hw, hi, ld4e, hi8, hl8])
        | with_reducible refine RunP_some ?_
        | ((with_reducible refine gs_split ?_ ?_) <;> intro hc <;> simp only [go_sem, hd, hw, hi, ld4e, hi8, hl8, hc])
        | ((with_reducible refine k_cnd ?_); simp only [go_sem, hd, hw, hi, ld4e, hi8, hl8])
        | with_reducible refine cp_t ?_
        | with_reducible refine cp_f ?_
        | ((with_reducible refine cp_s ?_ ?_) <;> intro hc <;> (try simp only [hc]))
        | with_reducible refine k_skip ?_
        | with_reducible refine k_ret ?_
        | with_reducible refine k_block ?_
        | with_reducible refine k_exit ?_
        | with_reducible refine blk_exit ?_
        | ((with_reducible refine blk_other ?_ ?_); (· rfl))
        | with_reducible refine blk_ret ?_
        | with_reducible refine k_label ?_)
      exact ⟨n - 1, stW on last J (j + 1), Told.ren [0, 1, 5, 73, 74, 75] [0] rfl (by simp [keepT, lookT, renT, D.ren, ren_rowsL, ren_refL, posL]) (by simp [renH, lookH, renO_cellsL]), ⟨j + 1, by omega, rfl⟩, by omega⟩
  obtain rfl : j = on.length := by omega
  by_cases hm : cT on on.length = 0
  · have hm0 : decide ((cT on on.length : Int) > 0) = false := by simp; omega
    have hnl := fun look base => hnx look base last
    rw [next_none hm] at hnl
    have hb1 : ((-1 : Int) == -1) = true := rfl
    repeat' (first
      | with_reducible refine k_seq ?_
      | ((with_reducible refine k_region' E3P E3ok ?_); simp only [go_sem, hd, hm0, hnl, hb1])
      | with_reducible refine RunP_some ?_
      | ((with_reducible refine gs_split ?_ ?_) <;> intro hc <;> simp only [go_sem, hd, hm0, hnl, hb1, hc])
      | ((with_reducible refine k_cnd ?_); simp only [go_sem, hd, hm0, hnl, hb1])
      | with_reducible refine cp_t ?_
      | with_reducible refine cp_f ?_
      | ((with_reducible refine cp_s ?_ ?_) <;> intro hc <;> (try simp only [hc]))
      | with_reducible refine k_skip ?_
      | with_reducible refine k_ret ?_
      | with_reducible refine k_block ?_
      | with_reducible refine k_exit ?_
      | with_reducible refine blk_exit ?_
      | ((with_reducible refine blk_other ?_ ?_); (· rfl))
      | with_reducible refine blk_ret ?_
      | with_reducible refine k_label ?_)
    exact end_here (.inr rfl) rfl rfl
  · have hm0 : decide ((cT on on.length : Int) > 0) = true := by simp; omega
    repeat' (first
      | with_reducible refine k_seq ?_
      | ((with_reducible refine k_region' E3P E3ok ?_); simp only [go_sem, hd, hm0])
      | with_reducible refine RunP_some ?_
      | ((with_reducible refine gs_split ?_ ?_) <;> intro hc <;> simp only [go_sem, hd, hm0, hc])
      | ((with_reducible refine k_cnd ?_); simp only [go_sem, hd, hm0])
      | with_reducible refine cp_t ?_
      | with_reducible refine cp_f ?_
      | ((with_reducible refine cp_s ?_ ?_) <;> intro hc <;> (try simp only [hc]))
      | with_reducible refine k_skip ?_
      | with_reducible refine k_ret ?_
      | with_reducible refine k_block ?_
      | with_reducible refine k_exit ?_
      | with_reducible refine blk_exit ?_
      | ((with_reducible refine blk_other ?_ ?_); (· rfl))
      | with_reducible refine blk_ret ?_
      | with_reducible refine k_label ?_)
    exact end_here (.inr rfl) rfl rfl
def args9 : Tys := .cons (.slice .bool) (.cons (.int .i64) .nil)
theorem law9' (l : List Bool) (last : Int) : Fits Tryd.prog 9 [Ty.enc (.slice .bool) l, .v (.int .i64 last)] (.v (.bool true)) [] := turns l last
theorem law9 : Law Tryd.prog 9 args9 := fun x hx => law9' x.1 x.2
end Go.Proofs.YtjmhioacbpgalaaDoor.S
