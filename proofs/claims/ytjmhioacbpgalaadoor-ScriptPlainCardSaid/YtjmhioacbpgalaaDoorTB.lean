import Derived.Test.YtjmhioacbpgalaaDoorTA
namespace Go.Proofs.YtjmhioacbpgalaaDoor.S
open Go Go.Proofs.YtjmhioacbpgalaaDoorV
set_option linter.unusedSimpArgs false
set_option linter.unusedVariables false
set_option maxRecDepth 100000
set_option maxHeartbeats 4000000
attribute [-go_sem] lookH_zero
attribute [local go_sem] lookH_z2
def ctrRefPlain : Ctr Tryd.prog where
  f := 16
  A := Int × List Pk
  pre x := x.1 ≤ 9223372036854775807 ∧ x.2.length ≤ 400
  args x := [.v (.int .i64 x.1), rowsL x.2]
  res x := refL Pk 0 (plainS x.1 x.2).length
  objs x := [.cells (cellsL (plainS x.1 x.2)) false]
  inj a b h := by
    simp only [List.cons.injEq, D.v.injEq, Value.int.injEq, true_and, and_true] at h
    have : a = b := Prod.ext h.1 (rowsL_inj h.2)
    rw [this]; exact ⟨rfl, rfl⟩
  enter := enter_of Tryd.func16 rfl rfl
  fits x h := refPlain' x.1 h.1 x.2 h.2
def ctrRefNext : Ctr Tryd.prog where
  f := 18
  A := List Bool × Int
  pre x := x.1.length ≤ 100
  args x := [rowsL x.1, .v (.int .i64 x.2)]
  res x := .v (.int .i64 (nextS x.1 x.2))
  objs _ := []
  inj a b h := by
    simp only [List.cons.injEq, D.v.injEq, Value.int.injEq, true_and, and_true] at h
    have : a = b := Prod.ext (rowsL_inj h.1) h.2
    rw [this]; exact ⟨rfl, rfl⟩
  enter := enter_of Tryd.func18 rfl rfl
  fits x h := refNext x.1 x.2 h
def cs6 : List (Ctr Tryd.prog) := [ctrAlive, ctrRight, ctrRefRight, ctrSame, ctrPlain, ctrRefPlain, ctrNext, ctrRefNext]
noncomputable def E6p : Env := envOf Tryd.prog cs6 []
theorem E6pok : E6p.ok := envOf_ok _ _
theorem E6pP : E6p.P = Tryd.prog := rfl
section
variable {look : Nat → Option DObj} {base : Nat}
theorem p11 : opCall E6p look base 11 [] = some { val := .v (.bool true) } := call_v (c := ctrAlive) (HasC.here rfl) rfl rfl () rfl trivial rfl rfl rfl
theorem p12 {s k a b : Int} : opCall E6p look base 12 [.v (.int .i64 s), .agg [.v (.int .i64 k), .v (.int .i64 a), .v (.int .i64 b)]] = some { val := .v (.bool (rightS s ⟨k, a, b⟩)) } :=
  call_v (c := ctrRight) (HasC.there rfl (HasC.here rfl)) rfl rfl (s, ⟨k, a, b⟩) ⟨_, _, rfl, .plain rfl, _, _, rfl, .plain rfl, rfl⟩ trivial rfl rfl rfl
theorem p13 {s k a b : Int} : opCall E6p look base 13 [.v (.int .i64 s), .agg [.v (.int .i64 k), .v (.int .i64 a), .v (.int .i64 b)]] = some { val := .v (.bool (rightS s ⟨k, a, b⟩)) } :=
  call_v (c := ctrRefRight) (HasC.there rfl (HasC.there rfl (HasC.here rfl))) rfl rfl (s, ⟨k, a, b⟩) ⟨_, _, rfl, .plain rfl, _, _, rfl, .plain rfl, rfl⟩ trivial rfl rfl rfl
theorem p14 {i j : Nat} {s1 s2 : Bool} {l : List Pk} (h1 : look i = some (.cells (cellsL l) s1)) (h2 : look j = some (.cells (cellsL l) s2)) (h : l.length ≤ 400) : opCall E6p look base 14 [refL Pk i l.length, refL Pk j l.length] = some { val := .v (.bool true) } :=
  call_v (c := ctrSame) (HasC.there rfl (HasC.there rfl (HasC.there rfl (HasC.here rfl)))) rfl rfl l ⟨_, _, rfl, lent_all h1, _, _, rfl, lent_all h2, rfl⟩ h rfl rfl rfl
theorem p15 {s : Int} {l : List Pk} (h : l.length ≤ 400) : opCall E6p look base 15 [.v (.int .i64 s), rowsL l] = some { val := refL Pk base (plainS s l).length, news := [.cells (cellsL (plainS s l)) false] } :=
  call_row (c := ctrPlain) (HasC.there rfl (HasC.there rfl (HasC.there rfl (HasC.there rfl (HasC.here rfl))))) rfl rfl (s, l) ⟨_, _, rfl, .plain rfl, _, _, rfl, .plain (rowsL_refs l), rfl⟩ h rfl rfl
theorem p16 {s : Int} {l : List Pk} (hs : s ≤ 9223372036854775807) (h : l.length ≤ 400) : opCall E6p look base 16 [.v (.int .i64 s), rowsL l] = some { val := refL Pk base (plainS s l).length, news := [.cells (cellsL (plainS s l)) false] } :=
  call_row (c := ctrRefPlain) (HasC.there rfl (HasC.there rfl (HasC.there rfl (HasC.there rfl (HasC.there rfl (HasC.here rfl)))))) rfl rfl (s, l) ⟨_, _, rfl, .plain rfl, _, _, rfl, .plain (rowsL_refs l), rfl⟩ ⟨hs, h⟩ rfl rfl
theorem p17 {on : List Bool} {s : Int} (h : on.length ≤ 100) : opCall E6p look base 17 [rowsL on, .v (.int .i64 s)] = some { val := .v (.int .i64 (nextS on s)) } :=
  call_v (c := ctrNext) (HasC.there rfl (HasC.there rfl (HasC.there rfl (HasC.there rfl (HasC.there rfl (HasC.there rfl (HasC.here rfl))))))) rfl rfl (on, s) ⟨_, _, rfl, .plain (rowsL_refs on), _, _, rfl, .plain rfl, rfl⟩ h rfl rfl rfl
theorem p18 {on : List Bool} {s : Int} (h : on.length ≤ 100) : opCall E6p look base 18 [rowsL on, .v (.int .i64 s)] = some { val := .v (.int .i64 (nextS on s)) } :=
  call_v (c := ctrRefNext) (HasC.there rfl (HasC.there rfl (HasC.there rfl (HasC.there rfl (HasC.there rfl (HasC.there rfl (HasC.there rfl (HasC.here rfl)))))))) rfl rfl (on, s) ⟨_, _, rfl, .plain (rowsL_refs on), _, _, rfl, .plain rfl, rfl⟩ h rfl rfl rfl
end
theorem neB {a : Bool} : opBin Tryd.prog .neq 4 (.v (.bool a)) (.v (.bool a)) = some { val := .v (.bool false) } := by cases a <;> kernel_rfl
attribute [local go_sem] E6pP p11 p12 p13 neB
theorem pln (seats : Int) (hs : seats ≤ 9223372036854775807) (l : List Pk) (on : List Bool) (last : Int) : Fits Tryd.prog 3 [.v (.int .i64 seats), rowsL l, rowsL on, .v (.int .i64 last)] (.v (.bool true)) [] := by
  refine fits_ofT Tryd.func3 rfl rfl rfl rfl ?_
  simp only [Tryd.ntmps3, List.length_cons, List.length_nil, Nat.reduceAdd, Nat.reduceSub, argsT]
  refine k_start ?_
  by_cases hc : l.length ≤ 400 ∧ on.length ≤ 100
  case neg =>
    repeat' (first
      | with_reducible refine k_seq ?_
      | ((with_reducible refine k_region' E6pP E6pok ?_); simp only [go_sem])
      | with_reducible refine RunP_some ?_
      | ((with_reducible refine gs_split ?_ ?_) <;> intro hc <;> simp only [go_sem, hc])
      | ((with_reducible refine k_cnd ?_); simp only [go_sem])
      | with_reducible refine cp_t ?_
      | with_reducible refine cp_f ?_
      | ((with_reducible refine cp_s ?_ ?_) <;> intro hc <;> (try simp only [hc]))
      | with_reducible refine k_skip ?_
      | with_reducible refine k_ret ?_
      | with_reducible refine k_block ?_
      | with_reducible refine k_exit ?_
      | with_reducible refine blk_exit ?_
      | ((with_reducible refine blk_other ?_ ?_); (· rfl))
      | with_reducible refine blk_ret ?_
      | with_reducible refine k_label ?_)
    all_goals first
      | exact end_here (.inr rfl) rfl rfl
      | (exfalso; simp at *; omega)
  obtain ⟨hl, ho⟩ := hc
  have d1 : decide ((l.length : Int) > 400) = false := by simp; omega
  have d2 : decide ((on.length : Int) > 100) = false := by simp; omega
  have hpl := plain_length seats l
  have c15 := fun look base => p15 (look := look) (base := base) (s := seats) hl
  have c16 := fun look base => p16 (look := look) (base := base) (s := seats) hs hl
  have c17 := fun look base => p17 (look := look) (base := base) (s := last) ho
  have c18 := fun look base => p18 (look := look) (base := base) (s := last) ho
  generalize plainS seats l = q at *
  generalize nextS on last = nx at *
  have c14 := fun look base (h : look 0 = some (.cells (cellsL q) false)) (h' : look 1 = some (.cells (cellsL q) false)) => p14 (look := look) (base := base) h h' (by omega)
  repeat' (first
    | with_reducible refine k_seq ?_
    | ((with_reducible refine k_region' E6pP E6pok ?_); simp only [go_sem, d1, d2])
    | with_reducible refine RunP_some ?_
    | ((with_reducible refine gs_split ?_ ?_) <;> intro hc <;> simp only [go_sem, d1, d2, hc])
    | ((with_reducible refine k_cnd ?_); simp only [go_sem, d1, d2])
    | with_reducible refine cp_t ?_
    | with_reducible refine cp_f ?_
    | ((with_reducible refine cp_s ?_ ?_) <;> intro hc <;> (try simp only [hc]))
    | with_reducible refine k_skip ?_
    | with_reducible refine k_ret ?_
    | with_reducible refine k_block ?_
    | with_reducible refine k_exit ?_
    | with_reducible refine blk_exit ?_
    | ((with_reducible refine blk_other ?_ ?_); (· rfl))
    | with_reducible refine blk_ret ?_
    | with_reducible refine k_label ?_)
  refine k_loopI l.length (fun j => ⟨53, [(0, .v (.int .i64 seats)), (1, rowsL l), (2, rowsL on), (3, .v (.int .i64 last)), (20, rowsL l), (21, .v (.int .i64 l.length)), (22, .v (.int .i64 j))], []⟩) (fun j => True) (Told.ren [0, 1, 2, 3, 20, 21, 22] [] rfl (by simp [keepT, lookT, renT, D.ren, ren_rowsL]) rfl) trivial ?_ ?_
  · intro j hj hJ
    obtain ⟨p, hx⟩ : ∃ p, l[j]? = some p := ⟨l[j], List.getElem?_eq_getElem hj⟩
    have hdec : decide ((j : Int) < (l.length : Int)) = true := by simpa using hj
    have hw : IntKind.i64.wrap ((j : Int) + 1) = ((j + 1 : Nat) : Int) := by rw [wrap_id] <;> omega
    have hix := idx22 (k := .i64) hx
    repeat' (first
      | with_reducible refine k_seq ?_
      | ((with_reducible refine k_region' E6pP E6pok ?_); simp only [go_sem, hdec, hw, hix, al26])
      | ((with_reducible refine k_read' E6pP E6pok mixd [[], [], [0, 1], [], [], [0, 1, 2, 3, 4], [0, 1, 2, 3, 4, 5]] [none, none, none, none, none, none, none] 5 ?_ ?_); (· kernel_rfl); simp only [go_sem, hdec, hw, hix, al26])
      | with_reducible refine RunP_some ?_
      | ((with_reducible refine gs_split ?_ ?_) <;> intro hc <;> simp only [go_sem, hdec, hw, hix, al26, hc])
      | ((with_reducible refine gr_split ?_ ?_) <;> intro hc <;> simp only [go_sem, hdec, hw, hix, al26, hc])
      | ((with_reducible refine k_cnd ?_); simp only [go_sem, hdec, hw, hix, al26])
      | with_reducible refine cp_t ?_
      | with_reducible refine cp_f ?_
      | ((with_reducible refine cp_s ?_ ?_) <;> intro hc <;> (try simp only [hc]))
      | with_reducible refine k_skip ?_
      | with_reducible refine k_ret ?_
      | with_reducible refine k_block ?_
      | with_reducible refine k_exit ?_
      | with_reducible refine blk_exit ?_
      | ((with_reducible refine blk_other ?_ ?_); (· rfl))
      | with_reducible refine blk_ret ?_
      | with_reducible refine k_label ?_)
    exact ⟨Told.ren [0, 1, 2, 3, 20, 21, 22] [] rfl (by simp [keepT, lookT, renT, D.ren, ren_rowsL]) rfl, trivial⟩
  · intro hJ
    have hdec : decide ((l.length : Int) < (l.length : Int)) = false := by simp
    have hbe : (nx == nx) = true := by simp
    repeat' (first
      | with_reducible refine k_seq ?_
      | ((with_reducible refine k_region' E6pP E6pok ?_); simp only [go_sem, hdec, c15, c16, c14, c17, c18, hbe])
      | with_reducible refine RunP_some ?_
      | ((with_reducible refine gs_split ?_ ?_) <;> intro hc <;> simp only [go_sem, hdec, c15, c16, c14, c17, c18, hbe, hc])
      | ((with_reducible refine k_cnd ?_); simp only [go_sem, hdec, c15, c16, c14, c17, c18, hbe])
      | with_reducible refine cp_t ?_
      | with_reducible refine cp_f ?_
      | ((with_reducible refine cp_s ?_ ?_) <;> intro hc <;> (try simp only [hc]))
      | with_reducible refine k_skip ?_
      | with_reducible refine k_ret ?_
      | with_reducible refine k_block ?_
      | with_reducible refine k_exit ?_
      | with_reducible refine blk_exit ?_
      | ((with_reducible refine blk_other ?_ ?_); (· rfl))
      | with_reducible refine blk_ret ?_
      | with_reducible refine k_label ?_)
    exact end_here (.inr rfl) rfl rfl
def args3 : Tys := .cons (.int .i64) (.cons (.slice pickT) (.cons (.slice .bool) (.cons (.int .i64) .nil)))
theorem law3' (seats : Int) (l : List (Int × Int × Int)) (on : List Bool) (last : Int) (h : (Lit.int .i64 seats).wf = true) : Fits Tryd.prog 3 [.v (.int .i64 seats), Ty.enc (.slice pickT) l, Ty.enc (.slice .bool) on, .v (.int .i64 last)] (.v (.bool true)) [] := by
  rw [encs_pk]
  exact pln seats (wf_i64 h).2 _ on last
theorem law3 : Law Tryd.prog 3 args3 := fun x hx => law3' x.1 x.2.1 x.2.2.1 x.2.2.2 hx.1
end Go.Proofs.YtjmhioacbpgalaaDoor.S
