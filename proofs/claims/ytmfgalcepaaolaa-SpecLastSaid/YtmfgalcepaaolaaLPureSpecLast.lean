/- Pops tell what was pushed, last first; receives tell what was sent, first first: the law SpecLast's answer is true, whatever comes in. -/
import Derived.Test.YtmfgalcepaaolaaLQureSpecRight
import Derived.Test.YtmfgalcepaaolaaLPRy9
namespace Go.Proofs.Ytmfgalcepaaolaa.PureSpec
open Go.RowKit Go.Proofs.Ytmfgalcepaaolaa.PureMap Go.Proofs.Ytmfgalcepaaolaa.PR Go.Proofs.YtmfgalcepaaolaaW.PrintWords Go.Proofs.YtmfgalcepaaolaaW.PrintLast Go.Proofs.YtmfgalcepaaolaaW.PrintMore
/-- What operations tell, one behind the other. -/
def tell {α : Type} (f : List Int → S26 → List Int) (t : List Int → S26 → α) : List Int → List S26 → List α
  | _, [] => []
  | vs, o :: l => t vs o :: tell f t (f vs o) l
theorem rd_op2 {l : List S26} {i : Nat} (h : i < l.length) : rd_T26 l (i : Int) = l[i] := by
  unfold rd_T26
  simp [List.getD_eq_getElem?_getD, List.getElem?_eq_getElem h]
theorem all_steps (f : List Int → S26 → List Int) (t : List Int → S26 → Int) (b : List Int → S26 → Bool) (kd : Int) (ops : List S26) (hl : ops.length ≤ 300)
    (hstep : ∀ vs o, o ∈ ops → vs.length ≤ 1000 → ∀ k, spec_Do.f k kd [] vs o.f0 o.f1 o.f2 o.f3 = some (kd, [], f vs o, t vs o, b vs o)) (hlen : ∀ vs o, (f vs o).length ≤ vs.length + 1) (d : Nat) :
    ∀ (k i : Nat) (vs rs : List Int) (bs : List Bool), i ≤ ops.length → ops.length - i = d → d < k → vs.length + d ≤ 1000 → rs.length + d ≤ 1000 → bs.length + d ≤ 1000 →
    spec_All.l0 k rs bs ops ops.length i kd [] vs = some (kd, [], (ops.drop i).foldl f vs, rs ++ tell f t vs (ops.drop i), bs ++ tell f b vs (ops.drop i)) := by
  induction d with
  | zero =>
    intro k i vs rs bs hi hd hk h1 h2 h3
    obtain ⟨k, rfl⟩ : ∃ m, k = m + 1 := ⟨k - 1, by omega⟩
    obtain rfl : i = ops.length := by omega
    simp only [spec_All.l0]
    rw [if_neg (by omega), List.drop_length]
    simp [tell]
  | succ d ih =>
    intro k i vs rs bs hi hd hk h1 h2 h3
    obtain ⟨k, rfl⟩ : ∃ m, k = m + 1 := ⟨k - 1, by omega⟩
    have hlt : i < ops.length := by omega
    have hl1 := hlen vs ops[i]
    have he := ih k (i + 1) (f vs ops[i]) (rs ++ [t vs ops[i]]) (bs ++ [b vs ops[i]]) (by omega) (by omega) (by omega) (by omega) (by simp; omega) (by simp; omega)
    simp only [spec_All.l0]
    rw [if_pos (by omega), if_pos (by omega), if_pos (by omega), rd_op2 hlt, hstep vs _ (List.getElem_mem hlt) (by omega), Option.bind_some, Option.bind_some, if_pos (by simp; omega), Option.bind_some, if_pos (by simp; omega), show wrap64 ((i : Int) + 1) = ((i + 1 : Nat) : Int) by rw [wrap_id (by omega) (by omega)]; omega, he, List.drop_eq_getElem_cons hlt]
    simp only [tell, List.foldl_cons, List.append_assoc, List.singleton_append]
theorem all_run (f : List Int → S26 → List Int) (t : List Int → S26 → Int) (b : List Int → S26 → Bool) (kd : Int) (ops : List S26) (hl : ops.length ≤ 300)
    (hstep : ∀ vs o, o ∈ ops → vs.length ≤ 1000 → ∀ k, spec_Do.f k kd [] vs o.f0 o.f1 o.f2 o.f3 = some (kd, [], f vs o, t vs o, b vs o)) (hlen : ∀ vs o, (f vs o).length ≤ vs.length + 1)
    (k : Nat) (hk : ops.length < k) (vs : List Int) (hv : vs.length ≤ 300) : spec_All.f k kd [] vs ops = some (kd, [], ops.foldl f vs, tell f t vs ops, tell f b vs ops) := by
  have h := all_steps f t b kd ops hl hstep hlen ops.length k 0 vs [] [] (by omega) (by omega) hk (by omega) (by simp; omega) (by simp; omega)
  rw [List.drop_zero] at h
  unfold spec_All.f
  simpa using h
theorem push_all (l vs : List Int) (hl : l.length ≤ 100) (hv : vs.length ≤ 300) (k : Nat) (hk : l.length < k) : ∃ rs bs, spec_All.f k 2 [] vs (l.map fun x => (⟨4, 0, x, 0⟩ : S26)) = some (2, [], l.reverse ++ vs, rs, bs) := by
  have h := all_run (fun vs o => o.f2 :: vs) (fun _ _ => 0) (fun _ _ => true) 2 (l.map fun x => (⟨4, 0, x, 0⟩ : S26)) (by simp; omega) (fun vs o ho hvs k => by
    obtain ⟨x, _, rfl⟩ := List.mem_map.1 ho
    exact do_push k [] vs (by omega) 0 x 0) (fun vs o => by simp) k (by simpa using hk) vs hv
  have e : ∀ (l vs : List Int), (l.map fun x => (⟨4, 0, x, 0⟩ : S26)).foldl (fun vs o => o.f2 :: vs) vs = l.reverse ++ vs := by
    intro l
    induction l with
    | nil => simp
    | cons x l ih => intro vs; simp [ih]
  rw [e] at h
  exact ⟨_, _, h⟩
theorem send_all (l vs : List Int) (hl : l.length ≤ 100) (hv : vs.length ≤ 300) (k : Nat) (hk : l.length < k) : ∃ rs bs, spec_All.f k 3 [] vs (l.map fun x => (⟨6, 0, x, 0⟩ : S26)) = some (3, [], vs ++ l, rs, bs) := by
  have h := all_run (fun vs o => vs ++ [o.f2]) (fun _ _ => 0) (fun _ _ => true) 3 (l.map fun x => (⟨6, 0, x, 0⟩ : S26)) (by simp; omega) (fun vs o ho hvs k => by
    obtain ⟨x, _, rfl⟩ := List.mem_map.1 ho
    exact do_send k [] vs (by omega) 0 x 0) (fun vs o => by simp) k (by simpa using hk) vs hv
  have e : ∀ (l vs : List Int), (l.map fun x => (⟨6, 0, x, 0⟩ : S26)).foldl (fun vs o => vs ++ [o.f2]) vs = vs ++ l := by
    intro l
    induction l with
    | nil => simp
    | cons x l ih => intro vs; simp [ih]
  rw [e] at h
  exact ⟨_, _, h⟩
/-- What is told by as many takes as there are values, and one more. -/
theorem take_tells (o : S26) (vs : List Int) : (List.replicate (vs.length + 1) o).foldl (fun vs _ => vs.tail) vs = [] ∧ tell (fun vs _ => vs.tail) (fun vs _ => vs.headD 0) vs (List.replicate (vs.length + 1) o) = vs ++ [0] ∧ tell (fun vs _ => vs.tail) (fun vs _ => !vs.isEmpty) vs (List.replicate (vs.length + 1) o) = List.replicate vs.length true ++ [false] := by
  induction vs with
  | nil => simp [tell]
  | cons v vs ih =>
    obtain ⟨h1, h2, h3⟩ := ih
    rw [List.length_cons, List.replicate_succ]
    refine ⟨?_, ?_, ?_⟩
    · simpa using h1
    · show (v :: vs).headD 0 :: tell _ _ vs _ = _
      rw [h2]
      rfl
    · show (!(v :: vs).isEmpty) :: tell _ _ vs _ = _
      rw [h3]
      rfl
theorem pop_all (vs : List Int) (hv : vs.length ≤ 200) (k : Nat) (hk : vs.length + 1 < k) : spec_All.f k 2 [] vs (List.replicate (vs.length + 1) (⟨5, 0, 0, 0⟩ : S26)) = some (2, [], [], vs ++ [0], List.replicate vs.length true ++ [false]) := by
  obtain ⟨h1, h2, h3⟩ := take_tells (⟨5, 0, 0, 0⟩ : S26) vs
  rw [all_run (fun vs _ => vs.tail) (fun vs _ => vs.headD 0) (fun vs _ => !vs.isEmpty) 2 _ (by simp; omega) ?_ (fun vs o => by simp; omega) k (by simpa using hk) vs (by omega), h1, h2, h3]
  intro vs o ho hvs k
  obtain rfl := List.eq_of_mem_replicate ho
  exact do_pop k [] vs (by omega) 0 0 0
theorem recv_all (vs : List Int) (hv : vs.length ≤ 200) (k : Nat) (hk : vs.length + 1 < k) : spec_All.f k 3 [] vs (List.replicate (vs.length + 1) (⟨7, 0, 0, 0⟩ : S26)) = some (3, [], [], vs ++ [0], List.replicate vs.length true ++ [false]) := by
  obtain ⟨h1, h2, h3⟩ := take_tells (⟨7, 0, 0, 0⟩ : S26) vs
  rw [all_run (fun vs _ => vs.tail) (fun vs _ => vs.headD 0) (fun vs _ => !vs.isEmpty) 3 _ (by simp; omega) ?_ (fun vs o => by simp; omega) k (by simpa using hk) vs (by omega), h1, h2, h3]
  intro vs o ho hvs k
  obtain rfl := List.eq_of_mem_replicate ho
  exact do_recv k [] vs (by omega) 0 0 0
theorem takes_loop (a : Int) (n : Nat) (hn : n ≤ 1000) (d : Nat) : ∀ (k i : Nat), i ≤ n → n - i = d → d < k → underwoodlaw09_takes.l0 k a n (List.replicate i (⟨a, 0, 0, 0⟩ : S26)) i = some (List.replicate n (⟨a, 0, 0, 0⟩ : S26)) := by
  induction d with
  | zero =>
    intro k i hi hd hk
    obtain ⟨k, rfl⟩ : ∃ m, k = m + 1 := ⟨k - 1, by omega⟩
    obtain rfl : i = n := by omega
    simp only [underwoodlaw09_takes.l0]
    rw [if_neg (by omega)]
  | succ d ih =>
    intro k i hi hd hk
    obtain ⟨k, rfl⟩ : ∃ m, k = m + 1 := ⟨k - 1, by omega⟩
    simp only [underwoodlaw09_takes.l0]
    rw [if_pos (by omega), if_pos (by simp; omega), show wrap64 ((i : Int) + 1) = ((i + 1 : Nat) : Int) by rw [wrap_id (by omega) (by omega)]; omega, ← List.replicate_succ']
    exact ih k (i + 1) (by omega) (by omega) (by omega)
theorem takes_spec (a : Int) (n : Nat) (hn : n ≤ 1000) (k : Nat) (hk : n < k) : underwoodlaw09_takes.f k a n = some (List.replicate n (⟨a, 0, 0, 0⟩ : S26)) := by
  unfold underwoodlaw09_takes.f
  exact takes_loop a n hn n k 0 (by omega) (by omega) hk
theorem end_spec (had l : List Int) (h1 : had.length ≤ 50) (h2 : l.length ≤ 50) (k : Nat) (hk : 200 ≤ k) :
    underwoodlaw09_SpecLast.j2 (k + 2) had l true l.reverse ((had.length + l.length : Nat) : Int) 2 [] (l.reverse ++ had) 3 [] (had ++ l) = some true := by
  have w1 : wrap64 (((had.length + l.length : Nat) : Int) + 1) = (((had.length + l.length) + 1 : Nat) : Int) := by rw [wrap_id (by omega) (by omega)]; omega
  have t1 := takes_spec 5 (had.length + l.length + 1) (by omega) (k + 1) (by omega)
  have t2 := takes_spec 7 (had.length + l.length + 1) (by omega) (k + 1) (by omega)
  have p := pop_all (l.reverse ++ had) (by simp; omega) (k + 1) (by simp; omega)
  have r := recv_all (had ++ l) (by simp; omega) (k + 1) (by simp; omega)
  have e1 : (l.reverse ++ had).length = had.length + l.length := by simp; omega
  have e2 : (had ++ l).length = had.length + l.length := by simp
  rw [e1] at p
  rw [e2] at r
  have f1 : rdOf false (List.replicate (had.length + l.length) true ++ [false]) ((had.length + l.length : Nat) : Int) = false := by
    unfold rdOf
    rw [Int.toNat_natCast, List.getD_eq_getElem?_getD, List.getElem?_append_right (by simp)]
    simp
  have i1 := ints_same (l.reverse ++ had) (by simp; omega) (k := k) (by simp; omega)
  have i2 := ints_same (had ++ l) (by simp; omega) (k := k) (by simp; omega)
  have k1 : (l.reverse ++ had ++ [0]).take (had.length + l.length) = l.reverse ++ had := by rw [← e1, List.take_left' rfl]
  have k2 : (had ++ l ++ [0]).take (had.length + l.length) = had ++ l := by rw [← e2, List.take_left' rfl]
  simp only [underwoodlaw09_SpecLast.j2, w1, t1, t2, Option.bind_some, p, r]
  have n1 : (((l.reverse ++ had ++ [0]).length : Nat) : Int) = ((had.length + l.length + 1 : Nat) : Int) := by simp; omega
  have n2 : (((had ++ l ++ [0]).length : Nat) : Int) = ((had.length + l.length + 1 : Nat) : Int) := by simp; omega
  have n3 : (((List.replicate (had.length + l.length) true ++ [false]).length : Nat) : Int) = ((had.length + l.length + 1 : Nat) : Int) := by simp
  have w0 : ¬ wrap64 (((([] : List Int).length : Nat) : Int) + ((([] : List Int).length : Nat) : Int)) > 0 := by
    rw [wrap_id (by simp) (by simp)]
    simp
  rw [if_pos n1, if_pos n2, if_pos n3, if_pos n3, if_neg w0, if_pos (by omega), if_pos (by omega), f1, if_neg (by simp), if_pos (by omega)]
  simp only [underwoodlaw09_SpecLast.j3, Bool.false_eq_true, if_false, if_true, Option.bind_some, List.nil_append, Int.toNat_natCast, k1, k2]
  rw [if_pos (by omega), if_pos (by omega), if_pos (by simp; omega), if_pos (by simp; omega), i1, Option.bind_some, if_pos rfl, if_pos (by omega), if_pos (by simp; omega), if_pos (by omega), i2]
  rfl
theorem last_loop (had l : List Int) (h1 : had.length ≤ 50) (h2 : l.length ≤ 50) (d : Nat) : ∀ (k i : Nat), i ≤ l.length → l.length - i = d → d + 300 < k →
    underwoodlaw09_SpecLast.l0 k had l true ((l.take i).map fun x => (⟨4, 0, x, 0⟩ : S26)) ((l.take i).map fun x => (⟨6, 0, x, 0⟩ : S26)) (l.reverse.take i) i = some true := by
  induction d with
  | zero =>
    intro k i hi hd hk
    obtain ⟨k, rfl⟩ : ∃ m, k = m + 3 := ⟨k - 3, by omega⟩
    obtain rfl : i = l.length := by omega
    obtain ⟨rs, bs, e1⟩ := push_all l had (by omega) (by omega) (k + 2) (by omega)
    obtain ⟨rs2, bs2, e2⟩ := send_all l had (by omega) (by omega) (k + 2) (by omega)
    rw [List.take_length, List.take_of_length_le (show l.reverse.length ≤ l.length by simp)]
    simp only [underwoodlaw09_SpecLast.l0]
    rw [if_neg (by omega), e1, Option.bind_some, e2, Option.bind_some, show wrap64 ((had.length : Int) + l.length) = ((had.length + l.length : Nat) : Int) by rw [wrap_id (by omega) (by omega)]; omega]
    exact end_spec had l h1 h2 k (by omega)
  | succ d ih =>
    intro k i hi hd hk
    obtain ⟨k, rfl⟩ : ∃ m, k = m + 1 := ⟨k - 1, by omega⟩
    have hlt : i < l.length := by omega
    have w1 : wrap64 ((l.length : Int) - 1) = (l.length : Int) - 1 := wrap_id (by omega) (by omega)
    have w2 : wrap64 ((l.length : Int) - 1 - i) = ((l.length - 1 - i : Nat) : Int) := by rw [wrap_id (by omega) (by omega)]; omega
    have w3 : wrap64 ((i : Int) + 1) = ((i + 1 : Nat) : Int) := by rw [wrap_id (by omega) (by omega)]; omega
    simp only [underwoodlaw09_SpecLast.l0, w1, w2, w3]
    rw [if_pos (by omega), if_pos (by omega), if_pos (by simp; omega), if_pos (by simp; omega), if_pos (by omega), if_pos (by omega), if_pos (by simp; omega), rd_get hlt, rd_get (show l.length - 1 - i < l.length by omega)]
    have e := ih k (i + 1) (by omega) (by omega) (by omega)
    have t1 : l.take (i + 1) = l.take i ++ [l[i]] := (List.take_append_getElem hlt).symm
    have t2 : l.reverse.take (i + 1) = l.reverse.take i ++ [l[l.length - 1 - i]'(by omega)] := by
      rw [← List.take_append_getElem (show i < l.reverse.length by simpa using hlt), List.getElem_reverse]
    rw [t1, t2, List.map_append, List.map_append] at e
    exact e
theorem SpecLast : underwoodlaw09_SpecLast.Pure := by
  intro had l _ _ _ _ _ _
  refine ⟨500, ?_⟩
  unfold underwoodlaw09_SpecLast.f underwoodlaw09_awake.f
  rw [Option.bind_some]
  by_cases h1 : (had.length : Int) > 50
  · rw [if_pos h1]
    simp [underwoodlaw09_SpecLast.j0]
  · rw [if_neg h1]
    by_cases h2 : (l.length : Int) > 50
    · simp [underwoodlaw09_SpecLast.j0, h2]
    · simp only [underwoodlaw09_SpecLast.j0, h2, decide_false, Bool.false_eq_true, if_false]
      have := last_loop had l (by omega) (by omega) l.length 499 0 (by omega) (by omega) (by omega)
      simpa using this
end Go.Proofs.Ytmfgalcepaaolaa.PureSpec
namespace Go.Proofs.Ytmfgalcepaaolaa.Pure
open Go.Proofs.Ytmfgalcepaaolaa.PR
theorem SpecLast : underwoodlaw09_SpecLast.Pure := Go.Proofs.Ytmfgalcepaaolaa.PureSpec.SpecLast
end Go.Proofs.Ytmfgalcepaaolaa.Pure
