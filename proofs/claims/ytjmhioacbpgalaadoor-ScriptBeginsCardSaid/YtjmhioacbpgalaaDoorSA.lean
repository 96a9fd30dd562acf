import Derived.Test.YtjmhioacbpgalaaDoorS9
namespace Go.Proofs.YtjmhioacbpgalaaDoor.S
open Go Go.Proofs.YtjmhioacbpgalaaDoorV
set_option linter.unusedSimpArgs false
set_option linter.unusedVariables false
set_option maxRecDepth 100000
set_option maxHeartbeats 4000000
theorem cv38 {look : Nat → Option DObj} {n : Int} : opConvert Tryd.prog look 38 3 (.v (.int .u16 n)) = some { val := .v (.int .i64 (wr n)) } := conv_int Tryd.underlying38 Tryd.underlying3
theorem sl22 {l : List Pk} {k : Nat} (h : k ≤ l.length) : opSlice Tryd.prog 22 (.sl 3 (l.map Pk.enc)) none (some (.v (.int .i64 (k : Int)))) = some { val := .sl 3 ((l.take k).map Pk.enc) } := by
  simp [opSlice, Tryd.underlying22, ts26, boundD, h]
theorem sr22 {id n k : Nat} (h : k ≤ n) : opSlice Tryd.prog 22 (.ref id 0 n 3 true) none (some (.v (.int .i64 (k : Int)))) = some { val := .ref id 0 k 3 true } := by
  simp [opSlice, Tryd.underlying22, ts26, boundD, h]
theorem sn22 : opSlice Tryd.prog 22 (.v (.slice none 0 0)) none (some (.v (.int .i64 0))) = some { val := .v (.slice none 0 0) } := by
  simp [opSlice, Tryd.underlying22, ts26, boundD]
theorem sz22 {id n : Nat} : opSlice Tryd.prog 22 (.ref id 0 n 3 true) none (some (.v (.int .i64 0))) = some { val := .ref id 0 0 3 true } := by
  simp [opSlice, Tryd.underlying22, ts26, boundD]
theorem rowsD_enc : ∀ (p : List Pk) (n : Nat), n ≤ p.length → rowsD true 3 n (cellsP p) = (p.take n).map Pk.enc
  | _, 0, _ => by simp [rowsD]
  | [], n + 1, h => by simp at h
  | x :: p, n + 1, h => by
    have e : cellsP (x :: p) = x.cells ++ cellsP p := by simp [cellsP]
    have hc : x.cells.length = 3 := rfl
    have h1 : (x.cells ++ cellsP p).take 3 = x.cells := by rw [← hc]; exact List.take_left
    have h2 : (x.cells ++ cellsP p).drop 3 = cellsP p := by rw [← hc]; exact List.drop_left
    simp only [rowsD, e, h1, h2, if_true, rowsD_enc p n (by simp at h; omega), List.take_succ_cons, List.map_cons]
    rfl
theorem c14nn {look : Nat → Option DObj} {base : Nat} : opCall E6 look base 14 [.v (.slice none 0 0), .v (.slice none 0 0)] = some { val := .v (.bool true) } := opCall_p rfl (by rw [E6call]; simp [call6, decP]) rfl
theorem c14nr {look : Nat → Option DObj} {base : Nat} {p : List Pk} (h : look 0 = some (.cells (cellsP p) false)) : opCall E6 look base 14 [.v (.slice none 0 0), .ref 0 0 0 3 true] = some { val := .v (.bool true) } := by
  refine opCall_lend (args' := [.v (.slice none 0 0), .sl 3 []]) ?_ (by rw [E6call]; simp [call6, decP, decL]) rfl rfl
  have e : refsAll [.v (.slice none 0 0), .ref 0 0 0 3 true] = [0] := rfl
  rw [e]
  have := lent_ref (L := fun i => (closeL look 6 [0]).contains i) (n := 0) (m := 3) (ag := true) closeL_has h (cellsP_refs p) (by omega) (by omega) (.inl rfl)
  simp only [lendAll, this, Option.bind_some, Option.map_some, lend_norefs (.v (.slice none 0 0)) rfl, rowsD]
theorem c14rr {look : Nat → Option DObj} {base : Nat} {p q : List Pk} (h : look 0 = some (.cells (cellsP p) false)) (h' : look 1 = some (.cells (cellsP q) false)) (hq : q <+: p) (hl : q.length ≤ 400) : opCall E6 look base 14 [.ref 1 0 q.length 3 true, .ref 0 0 q.length 3 true] = some { val := .v (.bool true) } := by
  refine opCall_lend (args' := [.sl 3 (q.map Pk.enc), .sl 3 (q.map Pk.enc)]) ?_ (by rw [E6call]; simp [call6, decP, decL_enc, hl]) rfl rfl
  have e : refsAll [.ref 1 0 q.length 3 true, .ref 0 0 q.length 3 true] = [1, 0] := rfl
  rw [e]
  have hlen := hq.length_le
  have hc1 : (closeL look 6 [1, 0]).contains 1 = true := by simp [closeL]
  have hc0 : (closeL look 6 [1, 0]).contains 0 = true := by simp [closeL]
  have a1 := lent_ref (L := fun i => (closeL look 6 [1, 0]).contains i) (n := q.length) (m := 3) (ag := true) hc1 h' (cellsP_refs q) (by rw [cellsP_length]; omega) (by omega) (.inl rfl)
  have a0 := lent_ref (L := fun i => (closeL look 6 [1, 0]).contains i) (n := q.length) (m := 3) (ag := true) hc0 h (cellsP_refs p) (by rw [cellsP_length]; omega) (by omega) (.inl rfl)
  rw [rowsD_enc q _ (Nat.le_refl _), List.take_length] at a1
  rw [rowsD_enc p _ hlen, ← List.prefix_iff_eq_take.1 hq] at a0
  simp only [lendAll, a1, a0, Option.bind_some, Option.map_some]
theorem wrapw {n : Int} : IntKind.i64.wrap n = wr n := rfl
theorem min_i {k : IntKind} {a b : Int} : opMin [.v (.int k a), .v (.int k b)] = some { val := .v (.int k (if b < a then b else a)) } := rfl
theorem le00 : decide ((0 : Int) ≤ 0) = true := rfl
theorem lt00 : ((0 : Int) < 0) = False := by simp
attribute [local go_sem] min_i le00 lt00 sn22 sz22 c14nn cv38 wrapw c_callT c6a opLen List.length_map
attribute [-go_sem] lookH_zero
theorem lookH_z' {o : Option DObj} {H : List (Option DObj)} : lookH (o :: H) 0 = o := Eq.trans rfl rfl
attribute [local go_sem] lookH_z'
theorem plain_length (s : Int) (l : List Pk) : (plainS s l).length ≤ l.length := by
  have key : ∀ (m : List Pk) (ps : PS), (m.foldl (stepP s) ps).o.length ≤ ps.o.length + m.length := by
    intro m
    induction m with
    | nil => intro ps; exact Nat.le_refl _
    | cons p m ih =>
      intro ps
      refine Nat.le_trans (ih _) ?_
      have : (stepP s ps p).o.length ≤ ps.o.length + 1 := by
        unfold stepP
        repeat' split
        all_goals simp
      simp only [List.length_cons]; omega
  have := key l ⟨[], [], [], 0⟩
  simpa [plainS, foldP] using this
theorem outD_nil {id : Nat} : outD id [] = .v (.slice none 0 0) := rfl
theorem outH_nil : outH [] = [] := rfl
theorem begins (seats : Int) (l : List Pk) (a : Nat) (ha : a < 65536) : Fits Tryd.prog 8 [.v (.int .i64 seats), .sl 3 (l.map Pk.enc), .v (.int .u16 (a : Int))] (.v (.bool true)) [] := by
  refine fits_of Tryd.func8 rfl ?_
  simp only [Tryd.ntmps8, List.length_cons, List.length_nil, Nat.reduceAdd, Nat.reduceSub, argsT]
  refine k_start ?_
  by_cases hl : l.length ≤ 400
  case neg =>
    have hdec : decide ((l.length : Int) > 400) = true := by simp; omega
    repeat' (first
      | refine k_seq ?_
      | (refine k_region E6ok ?_; simp only [go_sem, E6P, hdec])
      | with_reducible refine RunP_some ?_
      | (refine k_cnd ?_; simp only [go_sem, hdec])
      | with_reducible refine cp_t ?_
      | refine k_ret ?_)
    exact fin_v rfl rfl rfl
  have hdec : decide ((l.length : Int) > 400) = false := by simp; omega
  have hk : a % (l.length + 1) ≤ l.length := Nat.le_of_lt_succ (Nat.mod_lt a (Nat.succ_pos l.length))
  have hw1 : wr (a : Int) = (a : Int) := by unfold wr; rw [wrap_id] <;> omega
  have hw2 : wr ((l.length : Int) + 1) = ((l.length + 1 : Nat) : Int) := by unfold wr; rw [wrap_id] <;> omega
  have hrem : opBin Tryd.prog .rem 3 (.v (.int .i64 (a : Int))) (.v (.int .i64 ((l.length + 1 : Nat) : Int))) = some { val := .v (.int .i64 ((a % (l.length + 1) : Nat) : Int)) } := by
    rw [b_rem (by omega)]; rfl
  generalize a % (l.length + 1) = k at *
  have hs := sl22 hk
  have hc1 := fun look base => c6b (look := look) (base := base) (s := seats) hl
  have hc2 := fun look base => c6b (look := look) (base := base) (s := seats) (l := l.take k) (by simp; omega)
  have hpre := plain_begins seats l k
  have hpl := plain_length seats l
  generalize plainS seats l = p at *
  generalize plainS seats (l.take k) = q at *
  by_cases hp : p = []
  · have hq : q = [] := by subst hp; exact List.prefix_nil.1 hpre
    subst hp; subst hq
    simp only [outD, outH] at hc1 hc2
    repeat' (first
      | refine k_seq ?_
      | (refine k_region E6ok ?_; simp only [go_sem, E6P, hdec, hw1, hw2, hrem, hs, hc1, hc2])
      | with_reducible refine RunP_some ?_
      | (refine k_cnd ?_; simp only [go_sem, hdec])
      | with_reducible refine cp_t ?_
      | with_reducible refine cp_f ?_
      | refine k_skip ?_
      | refine k_ret ?_)
    exact fin_v rfl rfl rfl
  have hle := hpre.length_le
  have hq4 : q.length ≤ 400 := by omega
  have hd : decide ((q.length : Int) ≤ (p.length : Int)) = true := by simp; omega
  have hd0 : decide ((0 : Int) ≤ (p.length : Int)) = true := by simp
  have hn : ((p.length : Int) < (q.length : Int)) = False := by simp; omega
  have hn0 : ((p.length : Int) < 0) = False := by simp
  by_cases hq : q = []
  · subst hq
    have c14 := fun look base (h : look 0 = some (.cells (cellsP p) false)) => c14nr (look := look) (base := base) h
    simp only [outD_nil, outH_nil, outD_ne hp, outH_ne hp] at hc1 hc2
    repeat' (first
      | refine k_seq ?_
      | (refine k_region E6ok ?_; simp only [go_sem, E6P, hdec, hw1, hw2, hrem, hs, hc1, hc2, hd0, hn0, c14, List.map_nil, List.append_nil])
      | with_reducible refine RunP_some ?_
      | (refine k_cnd ?_; simp only [go_sem, hdec])
      | with_reducible refine cp_t ?_
      | with_reducible refine cp_f ?_
      | refine k_skip ?_
      | refine k_ret ?_)

    exact fin_v rfl rfl rfl
  · have c14 := fun look base (h : look 0 = some (.cells (cellsP p) false)) (h' : look 1 = some (.cells (cellsP q) false)) => c14rr (look := look) (base := base) h h' hpre hq4
    have hsr := sr22 (id := 0) hle
    simp only [outD_ne hp, outH_ne hp, outD_ne hq, outH_ne hq] at hc1 hc2
    repeat' (first
      | refine k_seq ?_
      | (refine k_region E6ok ?_; simp only [go_sem, E6P, hdec, hw1, hw2, hrem, hs, hc1, hc2, hd, hn, hsr, c14])
      | with_reducible refine RunP_some ?_
      | (refine k_cnd ?_; simp only [go_sem, hdec])
      | with_reducible refine cp_t ?_
      | with_reducible refine cp_f ?_
      | refine k_skip ?_
      | refine k_ret ?_)

    exact fin_v rfl rfl rfl
end Go.Proofs.YtjmhioacbpgalaaDoor.S
