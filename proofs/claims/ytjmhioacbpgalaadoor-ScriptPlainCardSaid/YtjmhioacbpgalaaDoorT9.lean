import Derived.Test.YtjmhioacbpgalaaDoorT8
namespace Go.Proofs.YtjmhioacbpgalaaDoor.S
open Go Go.Proofs.YtjmhioacbpgalaaDoorV
set_option linter.unusedSimpArgs false
set_option linter.unusedVariables false
set_option maxRecDepth 100000
set_option maxHeartbeats 4000000
attribute [-go_sem] lookH_zero
attribute [local go_sem] lookH_z2
def ctrDead : Ctr Tryd.prog where
  f := 24
  A := List Pk × Int
  pre x := x.1.length ≤ 400
  args x := [rowsL x.1, .v (.int .i64 x.2)]
  res x := .v (.bool (isDead x.1 x.2))
  objs _ := []
  inj a b h := by
    simp only [List.cons.injEq, D.v.injEq, Value.int.injEq, true_and, and_true] at h
    have : a = b := Prod.ext (rowsL_inj h.1) h.2
    rw [this]; exact ⟨rfl, rfl⟩
  enter := enter_of Tryd.func24 rfl rfl
  fits x h := deadF x.1 x.2 h
def ctrDeaths : Ctr Tryd.prog where
  f := 26
  A := List Pk
  pre x := x.length ≤ 400
  args x := [rowsL x]
  res x := .v (.int .i64 (dies x))
  objs _ := []
  inj a b h := by
    simp only [List.cons.injEq, and_true] at h
    rw [rowsL_inj h]; exact ⟨rfl, rfl⟩
  enter := enter_of Tryd.func26 rfl rfl
  fits x h := deathsF x h
def ctrStalls : Ctr Tryd.prog where
  f := 25
  A := List Pk × Nat
  pre x := x.1.length ≤ 400 ∧ x.2 < x.1.length
  args x := [rowsL x.1, .v (.int .i64 x.2)]
  res x := .v (.bool (stallS x.1 x.2 ((x.1[x.2]?).getD ⟨0, 0, 0⟩).a))
  objs _ := []
  inj a b h := by
    simp only [List.cons.injEq, D.v.injEq, Value.int.injEq, true_and, and_true] at h
    have : a = b := Prod.ext (rowsL_inj h.1) (by omega)
    rw [this]; exact ⟨rfl, rfl⟩
  enter := enter_of Tryd.func25 rfl rfl
  fits x h := by
    have := List.getElem?_eq_getElem h.2
    have h2 := stallsF x.1 x.2 _ this h.1
    rw [this]; exact h2
def ctrRightF : Ctr Tryd.prog where
  f := 23
  A := Int × List Pk
  pre x := x.2.length ≤ 400
  args x := [.v (.int .i64 x.1), rowsL x.2]
  res x := refL Pk 0 (x.2.filter (rightS x.1)).length
  objs x := [.cells (cellsL (x.2.filter (rightS x.1))) false]
  inj a b h := by
    simp only [List.cons.injEq, D.v.injEq, Value.int.injEq, true_and, and_true] at h
    have : a = b := Prod.ext h.1 (rowsL_inj h.2)
    rw [this]; exact ⟨rfl, rfl⟩
  enter := enter_of Tryd.func23 rfl rfl
  fits x h := rightF x.1 x.2 h
noncomputable def E5r : Env := envOf Tryd.prog [ctrRightF, ctrDead, ctrStalls, ctrDeaths] []
theorem E5rok : E5r.ok := envOf_ok _ _
theorem E5rP : E5r.P = Tryd.prog := rfl
section
variable {look : Nat → Option DObj} {base : Nat}
theorem lent_all {id : Nat} {sh : Bool} {l : List Pk} (hl : look id = some (.cells (cellsL l) sh)) : Lent look (refL Pk id l.length) (rowsL l) := by
  have := Lent.refL (n := l.length) hl (Nat.le_refl _); rwa [List.take_length] at this
theorem r23 {s : Int} {l : List Pk} (h : l.length ≤ 400) : opCall E5r look base 23 [.v (.int .i64 s), rowsL l] = some { val := refL Pk base (l.filter (rightS s)).length, news := [.cells (cellsL (l.filter (rightS s))) false] } :=
  call_row (c := ctrRightF) (HasC.here rfl) rfl rfl (s, l) ⟨_, _, rfl, .plain rfl, _, _, rfl, .plain (rowsL_refs l), rfl⟩ h rfl rfl
theorem r24 {id : Nat} {sh : Bool} {l : List Pk} {w : Int} (hl : look id = some (.cells (cellsL l) sh)) (h : l.length ≤ 400) : opCall E5r look base 24 [refL Pk id l.length, .v (.int .i64 w)] = some { val := .v (.bool (isDead l w)) } :=
  call_v (c := ctrDead) (HasC.there rfl (HasC.here rfl)) rfl rfl (l, w) ⟨_, _, rfl, lent_all hl, _, _, rfl, .plain rfl, rfl⟩ h rfl rfl rfl
theorem r25 {id : Nat} {sh : Bool} {l : List Pk} {k : Nat} {p : Pk} (hl : look id = some (.cells (cellsL l) sh)) (h : l.length ≤ 400) (hp : l[k]? = some p) : opCall E5r look base 25 [refL Pk id l.length, .v (.int .i64 k)] = some { val := .v (.bool (stallS l k p.a)) } := by
  have h2 : Lents look [refL Pk id l.length, .v (.int .i64 k)] (ctrStalls.args (l, k)) := ⟨_, _, rfl, lent_all hl, _, _, rfl, .plain rfl, rfl⟩
  have := call_v (c := ctrStalls) (look := look) (base := base) (l := [ctrRightF, ctrDead, ctrStalls, ctrDeaths]) (m := []) (HasC.there rfl (HasC.there rfl (HasC.here rfl))) rfl rfl (l, k) h2 ⟨h, (List.getElem?_eq_some_iff.1 hp).1⟩ rfl rfl rfl
  have e : ctrStalls.res (l, k) = .v (.bool (stallS l k p.a)) := by show D.v (.bool (stallS l k ((l[k]?).getD ⟨0, 0, 0⟩).a)) = _; rw [hp]; rfl
  rw [e] at this; exact this
theorem r26 {id : Nat} {sh : Bool} {l : List Pk} (hl : look id = some (.cells (cellsL l) sh)) (h : l.length ≤ 400) : opCall E5r look base 26 [refL Pk id l.length] = some { val := .v (.int .i64 (dies l)) } :=
  call_v (c := ctrDeaths) (HasC.there rfl (HasC.there rfl (HasC.there rfl (HasC.here rfl)))) rfl rfl l ⟨_, _, rfl, lent_all hl, rfl⟩ h rfl rfl rfl
end
attribute [local go_sem] E5rP
def stepR (seats : Int) (all : List Pk) (k : Nat) (out : List Pk) (p : Pk) : List Pk :=
  if isDead out p.a = true ∨ (p.k == 2) = true then out else if ((p.k == 1) = true ∧ stallS all k p.a = false) ∨ ((p.k == 3) = true ∧ decide ((dies out : Int) + 1 < seats) = true) then out ++ [p] else out
def foldR (seats : Int) (all : List Pk) : Nat → List Pk
  | 0 => []
  | k + 1 => match all[k]? with
    | some p => stepR seats all k (foldR seats all k) p
    | none => foldR seats all k
theorem foldR_length (seats : Int) (all : List Pk) : ∀ k, (foldR seats all k).length ≤ k
  | 0 => Nat.le_refl _
  | k + 1 => by
    have := foldR_length seats all k
    simp only [foldR]
    split
    · unfold stepR; split
      · omega
      · split
        · simp; omega
        · omega
    · omega
theorem dies_le (o : List Pk) : dies o ≤ o.length := List.length_filter_le _ _
theorem refPlain (seats : Int) (l : List Pk) (hl : l.length ≤ 400) : Fits Tryd.prog 16 [.v (.int .i64 seats), rowsL l] (refL Pk 0 (foldR seats (l.filter (rightS seats)) (l.filter (rightS seats)).length).length) [.cells (cellsL (foldR seats (l.filter (rightS seats)) (l.filter (rightS seats)).length)) false] := by
  refine fits_ofT Tryd.func16 rfl rfl (by rw [ren_refL]; rfl) (by simp [renOpts, renO_cellsL]) ?_
  simp only [Tryd.ntmps16, List.length_cons, List.length_nil, Nat.reduceAdd, Nat.reduceSub, argsT]
  refine k_start ?_
  have c23 := fun look base => r23 (look := look) (base := base) (s := seats) hl
  have hal := List.length_filter_le (rightS seats) l
  generalize l.filter (rightS seats) = all at *
  repeat' (first
    | with_reducible refine k_seq ?_
    | ((with_reducible refine k_region' E5rP E5rok ?_); simp only [go_sem, c23])
    | with_reducible refine RunP_some ?_
    | ((with_reducible refine gs_split ?_ ?_) <;> intro hc <;> simp only [go_sem, c23, hc])
    | ((with_reducible refine k_cnd ?_); simp only [go_sem, c23])
    | with_reducible refine cp_t ?_
    | with_reducible refine cp_f ?_
    | ((with_reducible refine cp_s ?_ ?_) <;> intro hc <;> (try simp only [hc]))
    | with_reducible refine k_skip ?_
    | with_reducible refine k_ret ?_
    | with_reducible refine k_block ?_
    | with_reducible refine k_exit ?_
    | with_reducible refine blk_exit ?_
    | ((with_reducible refine blk_other ?_ ?_); (· rfl))
    | with_reducible refine blk_ret ?_
    | with_reducible refine k_label ?_)
  refine k_loopI all.length (fun j => ⟨57, [(0, .v (.int .i64 seats)), (5, refL Pk 0 all.length), (6, refL Pk 1 (foldR seats all j).length), (7, .v (.int .i64 j))], [some (.cells (cellsL all) false), some (.cells (cellsL (foldR seats all j)) false)]⟩) (fun j => True) ?_ trivial ?_ ?_
  · refine (Told.nilL Pk 6 1 rfl).trans (Told.ren [0, 5, 6, 7] [0, 1] rfl ?_ ?_)
    · simp [keepT, lookT, renT, D.ren, posL, ren_refL, foldR]
    · simp [renH, lookH, renO_cellsL, cellsL_nil, foldR]
  · intro j hj hJ
    obtain ⟨p, hx⟩ : ∃ p, all[j]? = some p := ⟨all[j], List.getElem?_eq_getElem hj⟩
    have hdec : decide ((j : Int) < (all.length : Int)) = true := by simpa using hj
    have hw : IntKind.i64.wrap ((j : Int) + 1) = ((j + 1 : Nat) : Int) := by rw [wrap_id] <;> omega
    have hix := idx22r (k := .i64) (id := 0) hj
    have hld := fun look (h : look 0 = some (.cells (cellsL all) false)) => ld26p (look := look) h hx
    have hol := foldR_length seats all j
    have ht : foldR seats all (j + 1) = stepR seats all j (foldR seats all j) p := by simp only [foldR, hx]
    rw [ht]
    generalize foldR seats all j = o at *
    have hdl := dies_le o
    have happ := fun look base id id2 h h2 => app22 (look := look) (base := base) (id := id) (id2 := id2) (l := o) (k := p.k) (a := p.a) (b := p.b) h h2 (by omega)
    have c24 := fun look base (h : look 1 = some (.cells (cellsL o) false)) => r24 (look := look) (base := base) (w := p.a) h (by omega)
    have c25 := fun look base (h : look 0 = some (.cells (cellsL all) false)) => r25 (look := look) (base := base) h (by omega) hx
    have c26 := fun look base (h : look 1 = some (.cells (cellsL o) false)) => r26 (look := look) (base := base) h (by omega)
    have hw2 : IntKind.i64.wrap ((dies o : Int) + 1) = (dies o : Int) + 1 := by rw [wrap_id] <;> omega
    repeat' (first
      | with_reducible refine k_seq ?_
      | ((with_reducible refine k_region' E5rP E5rok ?_); simp only [go_sem, hdec, hw, hix, hld, c24, c25, c26, hw2, happ, bs26, al26])
      | with_reducible refine RunP_some ?_
      | ((with_reducible refine gs_split ?_ ?_) <;> intro hc <;> simp only [go_sem, hdec, hw, hix, hld, c24, c25, c26, hw2, happ, bs26, al26, hc])
      | ((with_reducible refine k_cnd ?_); simp only [go_sem, hdec, hw, hix, hld, c24, c25, c26, hw2, happ, bs26, al26])
      | with_reducible refine cp_t ?_
      | with_reducible refine cp_f ?_
      | ((with_reducible refine cp_s ?_ ?_) <;> intro hc <;> (try simp only [hc]))
      | with_reducible refine k_skip ?_
      | with_reducible refine k_ret ?_
      | with_reducible refine k_block ?_
      | with_reducible refine k_exit ?_
      | with_reducible refine blk_exit ?_
      | ((with_reducible refine blk_other ?_ ?_); (· rfl))
      | with_reducible refine blk_ret ?_
      | with_reducible refine k_label ?_)
    all_goals try (exfalso; clear c24 c25 c26 happ hld hix ht c23 hw2 hw; simp_all; done)
    all_goals try
      (have hst : stepR seats all j o p = o := by
         clear c24 c25 c26 happ hld hix ht c23 hw2 hw; unfold stepR; simp_all
       rw [hst]
       exact ⟨Told.ren [0, 5, 6, 7] [0, 1] rfl (by simp [keepT, lookT, renT, D.ren, posL, ren_refL]) (by simp [renH, lookH, renO_cellsL]), trivial⟩)
    all_goals
      have hst : stepR seats all j o p = o ++ [p] := by
        clear c24 c25 c26 happ hld hix ht c23 hw2 hw; unfold stepR; simp_all
      rw [hst]
      exact ⟨Told.ren [0, 5, 6, 7] [0, 4] rfl (by simp [keepT, lookT, renT, D.ren, posL, ren_refL]) (by simp [renH, lookH, renO_cellsL]), trivial⟩
  · intro hJ
    have hdec : decide ((all.length : Int) < (all.length : Int)) = false := by simp
    repeat' (first
      | with_reducible refine k_seq ?_
      | ((with_reducible refine k_region' E5rP E5rok ?_); simp only [go_sem, hdec])
      | with_reducible refine RunP_some ?_
      | ((with_reducible refine gs_split ?_ ?_) <;> intro hc <;> simp only [go_sem, hdec, hc])
      | ((with_reducible refine k_cnd ?_); simp only [go_sem, hdec])
      | with_reducible refine cp_t ?_
      | with_reducible refine cp_f ?_
      | ((with_reducible refine cp_s ?_ ?_) <;> intro hc <;> (try simp only [hc]))
      | with_reducible refine k_skip ?_
      | with_reducible refine k_ret ?_
      | with_reducible refine k_block ?_
      | with_reducible refine k_exit ?_
      | with_reducible refine blk_exit ?_
      | ((with_reducible refine blk_other ?_ ?_); (· rfl))
      | with_reducible refine blk_ret ?_
      | with_reducible refine k_label ?_)
    refine end_told (.inr rfl) (Told.ren [4] [1] rfl (by simp [keepT, lookT, renT, D.ren, posL, ren_refL]; rfl) (by simp [renH, lookH, renO_cellsL]; rfl)) rfl rfl
end Go.Proofs.YtjmhioacbpgalaaDoor.S
