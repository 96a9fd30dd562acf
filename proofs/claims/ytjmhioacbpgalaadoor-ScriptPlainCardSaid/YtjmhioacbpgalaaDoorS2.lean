import Derived.Test.YtjmhioacbpgalaaDoorS1
namespace Go.Proofs.YtjmhioacbpgalaaDoor.S
open Go Go.Proofs.YtjmhioacbpgalaaDoorV
set_option linter.unusedSimpArgs false
set_option linter.unusedVariables false
structure PS where
  u : List (Int × Int)
  d : List (Int × Bool)
  o : List Pk
  n : Int
def wr (n : Int) : Int := IntKind.i64.wrap n
def stepP (seats : Int) (s : PS) (p : Pk) : PS :=
  if rightS seats p = true then
    if p.k = 2 then { s with n := wr (s.n + 1), u := putM s.u p.a (if wr (wr (s.n + 1) + p.b) > getM 0 s.u p.a then wr (wr (s.n + 1) + p.b) else getM 0 s.u p.a) }
    else if p.k = 3 then
      if getM false s.d p.a = true ∨ ((s.d.length : Nat) : Int) = wr (seats - 1) then { s with n := wr (s.n + 1) }
      else { s with n := wr (s.n + 1), d := putM s.d p.a true, o := s.o ++ [p] }
    else if getM false s.d p.a = false ∧ wr (s.n + 1) > getM 0 s.u p.a then { s with n := wr (s.n + 1), o := s.o ++ [p] }
    else { s with n := wr (s.n + 1) }
  else s
def foldP (seats : Int) (l : List Pk) : PS := l.foldl (stepP seats) ⟨[], [], [], 0⟩
def plainS (seats : Int) (l : List Pk) : List Pk := (foldP seats l).o
def cellsP (o : List Pk) : List D := o.flatMap Pk.cells
theorem cellsP_length (o : List Pk) : (cellsP o).length = o.length * 3 := by
  induction o with
  | nil => rfl
  | cons p o ih => simp [cellsP, Pk.cells] at ih ⊢; omega
theorem cellsP_refs (o : List Pk) : refsAll (cellsP o) = [] := refsAll_nil fun d hd => by
  simp only [cellsP, Pk.cells, List.mem_flatMap] at hd
  obtain ⟨p, _, h⟩ := hd
  simp at h
  rcases h with rfl | rfl | rfl <;> rfl
theorem encP_refs (l : List Pk) : refsAll (l.map Pk.enc) = [] := refsAll_nil fun d hd => by
  simp only [List.mem_map] at hd
  obtain ⟨p, _, rfl⟩ := hd
  rfl
def outD (id : Nat) (o : List Pk) : D := match o with | [] => .v (.slice none 0 0) | _ :: _ => .ref id 0 o.length 3 true
def outH (o : List Pk) : List DObj := match o with | [] => [] | _ :: _ => [.cells (cellsP o) false]
def eI : Int → Value := fun n => .int .i64 n
def eB : Bool → Value := fun b => .bool b
theorem lk43 {m : List (Int × Int)} {a : Int} : lookupK Tryd.prog (some (.map 3 3)) (some (encM eI m)) (.v (.int .i64 a)) false = some { val := .v (.int .i64 (getM 0 m a)) } := lookupK_enc kk3 zv3
theorem lk44 {m : List (Int × Bool)} {a : Int} : lookupK Tryd.prog (some (.map 3 4)) (some (encM eB m)) (.v (.int .i64 a)) false = some { val := .v (.bool (getM false m a)) } := lookupK_enc kk3 zv4
theorem up43 {m : List (Int × Int)} {a b : Int} {id : Nat} : updK Tryd.prog (some (.map 3 3)) id (some (.map (encM eI m))) (.v (.int .i64 a)) (.v (.int .i64 b)) = some { val := .v undef, upd := [(id, some (.map (encM eI (putM m a b))))] } := updK_enc (e := eI) 0 kk3
theorem up44 {m : List (Int × Bool)} {a : Int} {b : Bool} {id : Nat} : updK Tryd.prog (some (.map 3 4)) id (some (.map (encM eB m))) (.v (.int .i64 a)) (.v (.bool b)) = some { val := .v undef, upd := [(id, some (.map (encM eB (putM m a b))))] } := updK_enc (e := eB) false kk3
/-- The state at the loop's head. -/
def stP (seats : Int) (l : List Pk) (j : Nat) (s : PS) : St := ⟨80, [(0, .v (.int .i64 seats)), (5, .map 0), (6, .map 1), (7, outD 2 s.o), (8, .v (.int .i64 s.n)), (13, .sl 3 (l.map Pk.enc)), (14, .v (.int .i64 l.length)), (15, .v (.int .i64 j))],
  [some (.map (encM eI s.u)), some (.map (encM eB s.d))] ++ (outH s.o).map some⟩
def JP (seats : Int) (l : List Pk) (n : Nat) (s : St) : Prop := ∃ j, n + j = l.length ∧ s = stP seats l j (foldP seats (l.take j)) ∧ (foldP seats (l.take j)).o.length ≤ j
theorem cellsP_append {o : List Pk} {p : Pk} : cellsP (o ++ [p]) = cellsP o ++ [.v (.int .i64 p.k), .v (.int .i64 p.a), .v (.int .i64 p.b)] := by simp [cellsP, Pk.cells]
theorem ren_app {f : Nat → Option Nat} {o : List Pk} {x y z : Int} : renAll f (cellsP o ++ [.v (.int .i64 x), .v (.int .i64 y), .v (.int .i64 z)]) = some (cellsP o ++ [.v (.int .i64 x), .v (.int .i64 y), .v (.int .i64 z)]) :=
  renAll_norefs _ (by rw [show cellsP o ++ [.v (.int .i64 x), .v (.int .i64 y), .v (.int .i64 z)] = cellsP (o ++ [⟨x, y, z⟩]) from (cellsP_append (o := o) (p := ⟨x, y, z⟩)).symm]; exact cellsP_refs _)
theorem expD_row {look : Nat → Option DObj} {id n m : Nat} {ag : Bool} {cs : List D} (h : look id = some (.cells cs false)) (hr : refsAll cs = []) : expD look (.ref id 0 n m ag) = some (.ref 0 0 n m ag, [.cells cs false]) := by
  simp [expD, h, DObj.live, lend, D.refs, closeL, hr, dedup, nodupB, D.ren, posL, expObjs, expObj, lendAll_norefs _ hr, DObj.ren, renAll_norefs _ hr]
theorem ren_cells {f : Nat → Option Nat} {cs : List D} {s : Bool} : DObj.ren f (.cells cs s) = (renAll f cs).map fun cs' => .cells cs' s := rfl
theorem wrap_wr {n : Int} : IntKind.i64.wrap n = wr n := rfl
theorem bs26 {base : Nat} {x y z : Int} : opBuildSlice Tryd.prog base 22 1 [(0, .agg [.v (.int .i64 x), .v (.int .i64 y), .v (.int .i64 z)])] = some { val := .ref base 0 1 3 true, news := [.cells [.v (.int .i64 x), .v (.int .i64 y), .v (.int .i64 z)] false] } := by
  simp only [opBuildSlice, Tryd.underlying22, ts26, zr26, agB26]; rfl
theorem al26 {base : Nat} : opAlloc Tryd.prog base 26 = some { val := .ptr base 0, news := [.cells [.v (.int .i64 0), .v (.int .i64 0), .v (.int .i64 0)] false] } := alloc_of zr26
theorem take_cellsP {o : List Pk} : (cellsP o).take (o.length * 3) = cellsP o := by rw [← cellsP_length]; exact List.take_length
theorem outD_ne {id : Nat} {o : List Pk} (h : o ≠ []) : outD id o = .ref id 0 o.length 3 true := by cases o <;> first | exact absurd rfl h | rfl
theorem outH_ne {o : List Pk} (h : o ≠ []) : outH o = [.cells (cellsP o) false] := by cases o <;> first | exact absurd rfl h | rfl
theorem room26 {n : Nat} (h : n ≤ 1000) : roomB 24 n = true := by simp [roomB]; omega
set_option maxRecDepth 100000
set_option maxHeartbeats 4000000
attribute [local go_sem] wrap_wr opIndexAddr Int.toNat_natCast Int.natCast_nonneg true_and and_self al26 opStore over List.take_succ_cons List.take_zero bs26 opAppend srcD Nat.le_refl Nat.one_mul Nat.one_ne_zero opMax opLookup_eq opMapUpdate_eq lk43 lk44 up43 up44 mapD List.length_map encM_length opMakeMap opLen
theorem plain (seats : Int) (l : List Pk) (hl : l.length ≤ 400) : Fits Tryd.prog 15 [.v (.int .i64 seats), .sl 3 (l.map Pk.enc)] (outD 0 (plainS seats l)) (outH (plainS seats l)) := by
  refine fits_of Tryd.func15 rfl ?_
  simp only [Tryd.ntmps15, List.length_cons, List.length_nil, Nat.reduceAdd, Nat.reduceSub, argsT]
  refine k_start ?_
  repeat' (first
    | refine k_seq ?_
    | (refine k_region E1ok ?_; simp only [go_sem])
    | refine RunP_some ?_
    | refine k_block ?_)
  refine k_loopR (JP seats l) l.length (s := stP seats l 0 ⟨[], [], [], 0⟩) ?_ ⟨0, by omega, rfl, Nat.le_refl _⟩ ?_
  · refine Told.ren [0, 5, 6, 7, 8, 13, 14, 15] [0, 1] rfl ?_ ?_
    · simp [keepT, lookT, renT, D.ren, posL, renAll_norefs _ (encP_refs l), outD]
    · simp [renH, lookH, DObj.ren, renAll, outH, encM]
  rintro n s ⟨j, hn, rfl, ho⟩
  by_cases hj : j < l.length
  · obtain ⟨p, hx⟩ : ∃ p, l[j]? = some p := ⟨l[j], List.getElem?_eq_getElem hj⟩
    have hfold : foldP seats (l.take (j + 1)) = stepP seats (foldP seats (l.take j)) p := by
      unfold foldP
      rw [List.take_add_one, hx, Option.toList_some, List.foldl_append]
      rfl
    have hdec : decide ((j : Int) < (l.length : Int)) = true := by simpa using hj
    have hw : wr ((j : Int) + 1) = ((j + 1 : Nat) : Int) := by unfold wr; rw [wrap_id] <;> omega
    have hr1 := room26 (show 1 ≤ 1000 by omega)
    have hx' : (l.map Pk.enc)[j]? = some (.agg [.v (.int .i64 p.k), .v (.int .i64 p.a), .v (.int .i64 p.b)]) := by rw [List.getElem?_map, hx]; rfl
    generalize foldP seats (l.take j) = ps at *
    obtain ⟨u, d, o, at_⟩ := ps
    simp only [stP]
    by_cases ho0 : o = []
    case pos =>
      subst ho0
      simp only [outD, outH, List.map_nil, List.append_nil]
      repeat' (first
        | refine k_seq ?_
        | (refine k_region E1ok ?_; simp only [go_sem, hdec, hw, hx', hr1])
        | refine RunP_some ?_
        | (refine gs_split ?_ ?_ <;> intro hc <;> simp only [go_sem, hdec, hw, hx', hr1, hc])
        | (refine k_cnd ?_; simp only [go_sem, hdec])
        | refine cp_t ?_ | refine cp_f ?_
        | (refine cp_s ?_ ?_ <;> intro hc <;> (try simp only [hc]))
        | refine k_skip ?_ | refine k_ret ?_ | refine k_block ?_ | refine k_exit ?_ | refine blk_exit ?_ | refine blk_other rfl ?_ | refine blk_ret ?_)
      all_goals
        refine ⟨n - 1, stP seats l (j + 1) (foldP seats (l.take (j + 1))), ?_, ⟨j + 1, by omega, rfl, ?_⟩, by omega⟩
        all_goals
          rw [hfold]
          simp only [Bool.not_eq_true', Bool.not_eq_false', beq_iff_eq, beq_eq_false_iff_ne, decide_eq_true_eq, decide_eq_false_iff_not, ne_eq] at *
          simp only [stepP, *, if_true, if_false, Bool.false_eq_true, stP, true_or, or_true, and_true, true_and, or_false, false_or, or_self, and_self, false_and, and_false, reduceIte, List.nil_append, not_false_eq_true, not_true_eq_false]
      all_goals first
        | done
        | (refine Told.ren [0, 5, 6, 7, 8, 13, 14, 15] [0, 1] rfl ?_ ?_ <;> (simp [keepT, lookT, renT, D.ren, posL, renAll_norefs _ (encP_refs l), outD, renH, lookH, encM_ren, outH]; done))
        | (refine Told.ren [0, 5, 6, 7, 8, 13, 14, 15] [0, 1, 4] rfl ?_ ?_ <;> (simp [keepT, lookT, renT, D.ren, posL, renAll_norefs _ (encP_refs l), outD, renH, lookH, encM_ren, outH, ren_cells, renAll, cellsP, Pk.cells, *]; done))
        | (simp; done)
        | (simp [Pk.cells]; done)
        | skip
      all_goals (refine Told.ren [0, 5, 6, 7, 8, 13, 14, 15] [0, 1, 4] rfl ?_ ?_ <;> (simp [keepT, lookT, renT, D.ren, posL, renAll_norefs _ (encP_refs l), outD, renH, lookH, encM_ren, outH, ren_cells, renAll, cellsP, Pk.cells, *]))
    case neg =>
      simp only [outD_ne ho0, outH_ne ho0, List.map_cons, List.map_nil]
      have hr := room26 (show o.length + 1 ≤ 1000 by have : o.length ≤ j := ho; omega)
      have hcl := cellsP_length o
      have htk := @take_cellsP o
      repeat' (first
        | refine k_seq ?_
        | (refine k_region E1ok ?_; simp only [go_sem, hdec, hw, hx', hr, hcl, htk])
        | refine RunP_some ?_
        | (refine gs_split ?_ ?_ <;> intro hc <;> simp only [go_sem, hdec, hw, hx', hr, hcl, htk, hc])
        | (refine k_cnd ?_; simp only [go_sem, hdec])
        | refine cp_t ?_ | refine cp_f ?_
        | (refine cp_s ?_ ?_ <;> intro hc <;> (try simp only [hc]))
        | refine k_skip ?_ | refine k_ret ?_ | refine k_block ?_ | refine k_exit ?_ | refine blk_exit ?_ | refine blk_other rfl ?_ | refine blk_ret ?_)
      all_goals
        refine ⟨n - 1, stP seats l (j + 1) (foldP seats (l.take (j + 1))), ?_, ⟨j + 1, by omega, rfl, ?_⟩, by omega⟩
        all_goals
          rw [hfold]
          simp only [Bool.not_eq_true', Bool.not_eq_false', beq_iff_eq, beq_eq_false_iff_ne, decide_eq_true_eq, decide_eq_false_iff_not, ne_eq] at *
          simp only [stepP, *, if_true, if_false, Bool.false_eq_true, stP, true_or, or_true, and_true, true_and, or_false, false_or, or_self, and_self, false_and, and_false, reduceIte, not_false_eq_true, not_true_eq_false]
      all_goals first
        | done
        | (refine Told.ren [0, 5, 6, 7, 8, 13, 14, 15] [0, 1, 2] rfl ?_ ?_ <;> (simp [keepT, lookT, renT, D.ren, posL, renAll_norefs _ (encP_refs l), outD_ne ho0, renH, lookH, encM_ren, outH_ne ho0, ren_cells, renAll_norefs _ (cellsP_refs o)]; done))
        | (refine Told.ren [0, 5, 6, 7, 8, 13, 14, 15] [0, 1, 5] rfl ?_ ?_ <;> (simp [keepT, lookT, renT, D.ren, posL, renAll_norefs _ (encP_refs l), outD_ne, renH, lookH, encM_ren, outH_ne, ren_cells, ren_app, cellsP_append, *]; done))
        | omega
        | (simp; omega)
        | skip
  · have hj' : j = l.length := by omega
    subst hj'
    have hdec : decide ((l.length : Int) < (l.length : Int)) = false := by simp
    have hall : foldP seats (l.take l.length) = foldP seats l := by rw [List.take_length]
    have hp : plainS seats l = (foldP seats l).o := rfl
    rw [hall]
    rw [hp]
    generalize foldP seats l = ps at *
    obtain ⟨u, d, o, at_⟩ := ps
    simp only [stP]
    repeat' (first
      | refine k_seq ?_
      | (refine k_region E1ok ?_; simp only [go_sem, hdec])
      | refine RunP_some ?_
      | (refine k_cnd ?_; simp only [go_sem, hdec])
      | refine cp_t ?_ | refine cp_f ?_
      | refine k_skip ?_ | refine k_ret ?_ | refine k_block ?_ | refine k_exit ?_ | refine blk_exit ?_ | refine blk_other rfl ?_ | refine blk_ret ?_)
    refine ⟨.inr rfl, outD 2 o, rfl, ?_⟩
    by_cases ho0 : o = []
    · subst ho0; rfl
    · simp only [outD_ne ho0, outH_ne ho0]
      exact expD_row rfl (cellsP_refs o)
end Go.Proofs.YtjmhioacbpgalaaDoor.S
