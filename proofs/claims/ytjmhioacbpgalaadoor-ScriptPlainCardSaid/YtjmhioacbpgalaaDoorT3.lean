import Derived.Test.YtjmhioacbpgalaaDoorT2
namespace Go.Proofs.YtjmhioacbpgalaaDoor.S
open Go Go.Proofs.YtjmhioacbpgalaaDoorV
set_option linter.unusedSimpArgs false
set_option linter.unusedVariables false
set_option maxRecDepth 100000
set_option maxHeartbeats 4000000
theorem lookH_z2 {o : Option DObj} {H : List (Option DObj)} : lookH (o :: H) 0 = o := Eq.trans rfl rfl
attribute [-go_sem] lookH_zero
attribute [local go_sem] lookH_z2
theorem zl26 : ([.v (.int .i64 0), .v (.int .i64 0), .v (.int .i64 0)] : List D).length = Enc.w Pk := rfl
/-- One pick more, behind an own row. -/
theorem app22 {look : Nat → Option DObj} {base id id2 : Nat} {l : List Pk} {k a b : Int} (h : look id = some (.cells (cellsL l) false)) (h2 : look id2 = some (.cells [.v (.int .i64 k), .v (.int .i64 a), .v (.int .i64 b)] false)) (hl : l.length ≤ 900) :
    opAppend Tryd.prog look base 22 22 (refL Pk id l.length) (.ref id2 0 1 3 true) = some { val := refL Pk base (l ++ [(⟨k, a, b⟩ : Pk)]).length, news := [.cells (cellsL (l ++ [(⟨k, a, b⟩ : Pk)])) false], upd := [(id, none)] } := by
  have hs : srcD look (Enc.w Pk) (.ref id2 0 1 3 true) = some ([(⟨k, a, b⟩ : Pk)].length, cellsL [(⟨k, a, b⟩ : Pk)]) := src_refL (l := [(⟨k, a, b⟩ : Pk)]) (n := 1) h2 (Nat.le_refl _)
  rw [app_refL Tryd.underlying22 Tryd.underlying22 ety26 by26 zr26 zl26 hs h rfl (by simp) (by simp [roomB]; omega), List.length_append]
def stT (seats : Int) (l : List Pk) (j : Nat) (o : List Pk) : St := ⟨61, [(0, .v (.int .i64 seats)), (5, refL Pk 0 (plainS seats l).length), (6, refL Pk 1 o.length), (16, rowsL l), (17, .v (.int .i64 l.length)), (18, .v (.int .i64 j))],
  [some (.cells (cellsL (plainS seats l)) false), some (.cells (cellsL o) false)]⟩
def JT (seats : Int) (l : List Pk) (n : Nat) (s : St) : Prop := ∃ j, n + j = l.length ∧ s = stT seats l j ((l.take j).filter (isStep seats))
theorem twice (seats : Int) (hs : seats ≤ 9223372036854775807) (l : List Pk) : Fits Tryd.prog 7 [.v (.int .i64 seats), rowsL l] (.v (.bool true)) [] := by
  refine fits_ofT Tryd.func7 rfl rfl rfl rfl ?_
  simp only [Tryd.ntmps7, List.length_cons, List.length_nil, Nat.reduceAdd, Nat.reduceSub, argsT]
  refine k_start ?_
  by_cases hl : l.length ≤ 400
  case neg =>
    have hdec : decide ((l.length : Int) > 400) = true := by simp; omega
    repeat' (first
      | with_reducible refine k_seq ?_
      | ((with_reducible refine k_region' E2P E2ok ?_); simp only [go_sem, hdec])
      | with_reducible refine RunP_some ?_
      | ((with_reducible refine gs_split ?_ ?_) <;> intro hc <;> simp only [go_sem, hdec, hc])
      | ((with_reducible refine k_cnd ?_); simp only [go_sem, hdec])
      | with_reducible refine cp_t ?_
      | with_reducible refine cp_f ?_
      | ((with_reducible refine cp_s ?_ ?_) <;> intro hc <;> (try simp only [hc]))
      | with_reducible refine k_skip ?_
      | with_reducible refine k_ret ?_
      | with_reducible refine k_block ?_
      | with_reducible refine k_exit ?_
      | with_reducible refine blk_exit ?_
      | ((with_reducible refine blk_other ?_ ?_); (· rfl))
      | with_reducible refine blk_ret ?_
      | with_reducible refine k_label ?_)
    exact end_here (.inr rfl) rfl rfl
  have hdec : decide ((l.length : Int) > 400) = false := by simp; omega
  have c15 := fun look base => e15 (look := look) (base := base) (s := seats) hl
  repeat' (first
    | with_reducible refine k_seq ?_
    | ((with_reducible refine k_region' E2P E2ok ?_); simp only [go_sem, hdec, c15])
    | with_reducible refine RunP_some ?_
    | ((with_reducible refine gs_split ?_ ?_) <;> intro hc <;> simp only [go_sem, hdec, c15, hc])
    | ((with_reducible refine k_cnd ?_); simp only [go_sem, hdec, c15])
    | with_reducible refine cp_t ?_
    | with_reducible refine cp_f ?_
    | ((with_reducible refine cp_s ?_ ?_) <;> intro hc <;> (try simp only [hc]))
    | with_reducible refine k_skip ?_
    | with_reducible refine k_ret ?_
    | with_reducible refine k_block ?_
    | with_reducible refine k_exit ?_
    | with_reducible refine blk_exit ?_
    | ((with_reducible refine blk_other ?_ ?_); (· rfl))
    | with_reducible refine blk_ret ?_
    | with_reducible refine k_label ?_)
  refine k_loopR (JT seats l) l.length (s := stT seats l 0 []) ?_ ⟨0, by omega, rfl⟩ ?_
  · refine (Told.nilL Pk 6 1 rfl).trans (Told.ren [0, 5, 6, 16, 17, 18] [0, 1] rfl ?_ ?_)
    · simp [keepT, lookT, renT, D.ren, posL, ren_rowsL, ren_refL]
    · simp [renH, lookH, renO_cellsL, cellsL_nil]
  rintro n s ⟨j, hn, rfl⟩
  by_cases hj : j < l.length
  · obtain ⟨p, hx⟩ : ∃ p, l[j]? = some p := ⟨l[j], List.getElem?_eq_getElem hj⟩
    have hdec : decide ((j : Int) < (l.length : Int)) = true := by simpa using hj
    have hw : IntKind.i64.wrap ((j : Int) + 1) = ((j + 1 : Nat) : Int) := by rw [wrap_id] <;> omega
    have hix := idx22 (k := .i64) hx
    have hfil : (l.take (j + 1)).filter (isStep seats) = (l.take j).filter (isStep seats) ++ if isStep seats p then [p] else [] := by
      rw [List.take_add_one, hx, List.filter_append]
      cases h : isStep seats p <;> simp [h]
    have hol : ((l.take j).filter (isStep seats)).length ≤ 900 := by
      have := List.length_filter_le (isStep seats) (l.take j)
      simp at this; omega
    generalize (l.take j).filter (isStep seats) = o at *
    simp only [stT]
    have happ := fun look base id id2 h h2 => app22 (look := look) (base := base) (id := id) (id2 := id2) (l := o) (k := p.k) (a := p.a) (b := p.b) h h2 hol
    repeat' (first
      | with_reducible refine k_seq ?_
      | ((with_reducible refine k_region' E2P E2ok ?_); simp only [go_sem, hdec, hw, hix, happ, ld26e, bs26, al26])
      | with_reducible refine RunP_some ?_
      | ((with_reducible refine gs_split ?_ ?_) <;> intro hc <;> simp only [go_sem, hdec, hw, hix, happ, ld26e, bs26, al26, hc])
      | ((with_reducible refine k_cnd ?_); simp only [go_sem, hdec, hw, hix, happ, ld26e, bs26, al26])
      | with_reducible refine cp_t ?_
      | with_reducible refine cp_f ?_
      | ((with_reducible refine cp_s ?_ ?_) <;> intro hc <;> (try simp only [hc]))
      | with_reducible refine k_skip ?_
      | with_reducible refine k_ret ?_
      | with_reducible refine k_block ?_
      | with_reducible refine k_exit ?_
      | with_reducible refine blk_exit ?_
      | ((with_reducible refine blk_other ?_ ?_); (· rfl))
      | with_reducible refine blk_ret ?_
      | with_reducible refine k_label ?_)
    all_goals first
      | (have hst : isStep seats p = true := by simp_all [isStep] <;> omega
         rw [hst] at hfil
         refine ⟨n - 1, stT seats l (j + 1) (o ++ [p]), Told.ren [0, 5, 6, 16, 17, 18] [0, 4] rfl ?_ ?_, ⟨j + 1, by omega, by rw [hfil]; rfl⟩, by omega⟩ <;> simp [keepT, lookT, renT, D.ren, posL, ren_rowsL, ren_refL, renH, lookH, renO_cellsL]
         done)
      | (have hst : isStep seats p = false := by simp_all [isStep] <;> omega
         rw [hst] at hfil
         refine ⟨n - 1, stT seats l (j + 1) o, Told.ren [0, 5, 6, 16, 17, 18] [0, 1] rfl ?_ ?_, ⟨j + 1, by omega, by rw [hfil]; simp⟩, by omega⟩ <;> simp [keepT, lookT, renT, D.ren, posL, ren_rowsL, ren_refL, renH, lookH, renO_cellsL]
         done)
  · have hj' : j = l.length := by omega
    subst hj'
    have hdec : decide ((l.length : Int) < (l.length : Int)) = false := by simp
    rw [List.take_length]
    have h1 := plain_plain hs hl
    have h2 := plain_steps hs hl
    have hpl := plain_length seats l
    have hol := List.length_filter_le (isStep seats) l
    generalize l.filter (isStep seats) = o at *
    simp only [stT]
    generalize plainS seats l = q at *
    have d1 := fun look base (h : look 0 = some (.cells (cellsL q) false)) => e15r (look := look) (base := base) (s := seats) h (by omega)
    have d2 := fun look base (h : look 1 = some (.cells (cellsL o) false)) => e15r (look := look) (base := base) (s := seats) h (by omega)
    rw [h1] at d1
    rw [h2] at d2
    have d3 := fun look base (h : look 2 = some (.cells (cellsL q) false)) (h' : look 0 = some (.cells (cellsL q) false)) => e14 (look := look) (base := base) h h' (by omega)
    have d4 := fun look base (h : look 3 = some (.cells (cellsL o) false)) (h' : look 1 = some (.cells (cellsL o) false)) => e14 (look := look) (base := base) h h' (by omega)
    repeat' (first
      | with_reducible refine k_seq ?_
      | ((with_reducible refine k_region' E2P E2ok ?_); simp only [go_sem, hdec, d1, d2, d3, d4])
      | with_reducible refine RunP_some ?_
      | ((with_reducible refine gs_split ?_ ?_) <;> intro hc <;> simp only [go_sem, hdec, d1, d2, d3, d4, hc])
      | ((with_reducible refine k_cnd ?_); simp only [go_sem, hdec, d1, d2, d3, d4])
      | with_reducible refine cp_t ?_
      | with_reducible refine cp_f ?_
      | ((with_reducible refine cp_s ?_ ?_) <;> intro hc <;> (try simp only [hc]))
      | with_reducible refine k_skip ?_
      | with_reducible refine k_ret ?_
      | with_reducible refine k_block ?_
      | with_reducible refine k_exit ?_
      | with_reducible refine blk_exit ?_
      | ((with_reducible refine blk_other ?_ ?_); (· rfl))
      | with_reducible refine blk_ret ?_
      | with_reducible refine k_label ?_)
    exact end_here (.inr rfl) rfl rfl
end Go.Proofs.YtjmhioacbpgalaaDoor.S
