/- What doesn't commute is seen: the law SpecSeen's answer is true, whatever comes in. -/
import Derived.Test.YtmfgalcepaaolaaDQureSpecCommutes
import Derived.Test.YtmfgalcepaaolaaDPRx10
namespace Go.Proofs.Ytmfgalcepaaolaa.PureSpec
open Go.RowKit Go.Proofs.Ytmfgalcepaaolaa.PureMap Go.Proofs.Ytmfgalcepaaolaa.PR Go.Proofs.YtmfgalcepaaolaaW.PrintWords Go.Proofs.YtmfgalcepaaolaaW.PrintLast Go.Proofs.YtmfgalcepaaolaaW.PrintMore
set_option linter.unusedSimpArgs false
theorem ints_differ (a b : List Int) (hl : a.length = b.length) (hn : a.length ≤ 1000000) (d : Nat) : ∀ (k i : Nat), i ≤ a.length → a.length - i = d → d < k → underwoodref09_Ints.l0 k a b i = some (decide (a.drop i = b.drop i)) := by
  induction d with
  | zero =>
    intro k i hi hd hk
    obtain ⟨k, rfl⟩ : ∃ m, k = m + 1 := ⟨k - 1, by omega⟩
    simp only [underwoodref09_Ints.l0]
    rw [if_neg (by omega), List.drop_of_length_le (by omega), List.drop_of_length_le (by omega)]
    rfl
  | succ d ih =>
    intro k i hi hd hk
    obtain ⟨k, rfl⟩ : ∃ m, k = m + 1 := ⟨k - 1, by omega⟩
    have e : (a.drop i = b.drop i) ↔ (a[i]'(by omega) = b[i]'(by omega) ∧ a.drop (i + 1) = b.drop (i + 1)) := by
      rw [List.drop_eq_getElem_cons (show i < a.length by omega), List.drop_eq_getElem_cons (show i < b.length by omega)]
      exact List.cons_eq_cons
    simp only [underwoodref09_Ints.l0]
    rw [if_pos (by omega), if_pos (by omega), if_pos (by omega), rd_get (show i < a.length by omega), rd_get (show i < b.length by omega)]
    by_cases h : a[i]'(by omega) = b[i]'(by omega)
    · rw [if_pos h, show wrap64 ((i : Int) + 1) = ((i + 1 : Nat) : Int) by rw [wrap_id (by omega) (by omega)]; omega, ih k (i + 1) (by omega) (by omega) (by omega)]
      exact congrArg some (decide_eq_decide.2 ⟨fun x => e.2 ⟨h, x⟩, fun x => (e.1 x).2⟩)
    · rw [if_neg h]
      exact congrArg some (decide_eq_false (fun x => h (e.1 x).1)).symm
theorem ints_spec (a b : List Int) (hn : a.length ≤ 1000000) {k : Nat} (hk : a.length < k) : underwoodref09_Ints.f k a b = some (decide (a = b)) := by
  unfold underwoodref09_Ints.f
  by_cases hl : a.length = b.length
  · rw [if_pos (by omega)]
    have := ints_differ a b hl hn a.length k 0 (by omega) (by omega) hk
    simpa using this
  · rw [if_neg (by omega)]
    have : a ≠ b := fun e => hl (by rw [e])
    simp [this]
theorem same_spec (kd : Int) (a b c d : List Int) (h1 : a.length ≤ 1000000) (h2 : b.length ≤ 1000000) {k : Nat} (hk : a.length < k) (hk2 : b.length < k) : underwoodref09_Same.f k kd a b kd c d = some (decide (a = c ∧ b = d)) := by
  unfold underwoodref09_Same.f
  rw [ints_spec a c h1 hk, ints_spec b d h2 hk2]
  by_cases ha : a = c <;> by_cases hb : b = d <;> simp [ha, hb]
/-- Is the order of two told apart over a map? -/
def apart (L : Row) (o p : S26) : Bool :=
  !decide ((mDo (mDo L o.f0 o.f2 o.f3).1 p.f0 p.f2 p.f3).1.map (·.1) = (mDo (mDo L p.f0 p.f2 p.f3).1 o.f0 o.f2 o.f3).1.map (·.1) ∧ (mDo (mDo L o.f0 o.f2 o.f3).1 p.f0 p.f2 p.f3).1.map (·.2) = (mDo (mDo L p.f0 p.f2 p.f3).1 o.f0 o.f2 o.f3).1.map (·.2))
  || !decide ((mDo L o.f0 o.f2 o.f3).2.1 = (mDo (mDo L p.f0 p.f2 p.f3).1 o.f0 o.f2 o.f3).2.1) || !decide ((mDo (mDo L o.f0 o.f2 o.f3).1 p.f0 p.f2 p.f3).2.1 = (mDo L p.f0 p.f2 p.f3).2.1)
  || ((mDo L o.f0 o.f2 o.f3).2.2 != (mDo (mDo L p.f0 p.f2 p.f3).1 o.f0 o.f2 o.f3).2.2) || ((mDo (mDo L o.f0 o.f2 o.f3).1 p.f0 p.f2 p.f3).2.2 != (mDo L p.f0 p.f2 p.f3).2.2)
theorem len_do (L : Row) (hL : Asc L) (hn : L.length ≤ 100) (o : S26) (ho : o.f0 = 1 ∨ o.f0 = 2 ∨ o.f0 = 3) : (mDo L o.f0 o.f2 o.f3).1.length ≤ L.length + 1 := by
  obtain ⟨k2, v2, t, s, hd, _, l1, _⟩ := do_right 1 _ _ (.inl ⟨rfl, hL, by simp⟩) (show (L.map (·.2)).length ≤ 1000000 by simp; omega) o.f0 o.f1 o.f2 o.f3 1000 (by simp; omega)
  rw [do_map L hL (by omega) o.f0 o.f1 o.f2 o.f3 ho 1000 (by omega)] at hd
  injection hd with hd
  injection hd with _ hd
  injection hd with _ hd
  injection hd with hd _
  rw [← hd] at l1
  simpa using l1
theorem turn (L : Row) (hL : Asc L) (hn : L.length ≤ 10) (o p : S26) (ho : o.f0 = 1 ∨ o.f0 = 2 ∨ o.f0 = 3) (hp : p.f0 = 1 ∨ p.f0 = 2 ∨ p.f0 = 3) (k : Nat) (hk : 40 ≤ k) (x0 x1 : Int) (seen : Bool) (n : Int) :
    underwoodlaw09_SpecSeen.j1 (k + 2) x0 x1 true seen n o.f0 o.f1 o.f2 o.f3 p.f0 p.f1 p.f2 p.f3 1 (L.map (·.1)) (L.map (·.2)) = underwoodlaw09_SpecSeen.l0 k x0 x1 true (seen || apart L o p) (wrap64 (n + 1)) o.f0 o.f1 o.f2 o.f3 p.f0 p.f1 p.f2 p.f3 := by
  have hLo := asc_mDo hL o.f0 o.f2 o.f3
  have hLp := asc_mDo hL p.f0 p.f2 p.f3
  have lo := len_do L hL (by omega) o ho
  have lp := len_do L hL (by omega) p hp
  have lop := len_do _ hLo (by omega) p hp
  have lpo := len_do _ hLp (by omega) o ho
  have e1 := all_two k (by omega) 1 (L.map (·.1)) (L.map (·.2)) o p 1 _ _ _ _ 1 _ _ _ _ (fun j hj => do_map L hL (by omega) _ _ _ _ ho j (by omega)) (fun j hj => do_map _ hLo (by omega) _ _ _ _ hp j (by omega))
  have e2 := all_two k (by omega) 1 (L.map (·.1)) (L.map (·.2)) p o 1 _ _ _ _ 1 _ _ _ _ (fun j hj => do_map L hL (by omega) _ _ _ _ hp j (by omega)) (fun j hj => do_map _ hLp (by omega) _ _ _ _ ho j (by omega))
  have hs := same_spec 1 ((mDo (mDo L o.f0 o.f2 o.f3).1 p.f0 p.f2 p.f3).1.map (·.1)) ((mDo (mDo L o.f0 o.f2 o.f3).1 p.f0 p.f2 p.f3).1.map (·.2)) ((mDo (mDo L p.f0 p.f2 p.f3).1 o.f0 o.f2 o.f3).1.map (·.1)) ((mDo (mDo L p.f0 p.f2 p.f3).1 o.f0 o.f2 o.f3).1.map (·.2)) (by simp; omega) (by simp; omega) (k := k) (by simp; omega) (by simp; omega)
  simp only [underwoodlaw09_SpecSeen.j1, e1, e2, Option.bind_some]
  simp only [underwoodlaw09_SpecSeen.j2, List.length_cons, List.length_nil, bne_self_eq_false, Bool.false_eq_true, if_false, hs, Option.bind_some]
  unfold apart
  cases seen with
  | true => simp
  | false =>
    by_cases c1 : (mDo (mDo L o.f0 o.f2 o.f3).1 p.f0 p.f2 p.f3).1.map (·.1) = (mDo (mDo L p.f0 p.f2 p.f3).1 o.f0 o.f2 o.f3).1.map (·.1) ∧ (mDo (mDo L o.f0 o.f2 o.f3).1 p.f0 p.f2 p.f3).1.map (·.2) = (mDo (mDo L p.f0 p.f2 p.f3).1 o.f0 o.f2 o.f3).1.map (·.2)
    · by_cases c2 : (mDo L o.f0 o.f2 o.f3).2.1 = (mDo (mDo L p.f0 p.f2 p.f3).1 o.f0 o.f2 o.f3).2.1
      · by_cases c3 : (mDo (mDo L o.f0 o.f2 o.f3).1 p.f0 p.f2 p.f3).2.1 = (mDo L p.f0 p.f2 p.f3).2.1
        · by_cases c4 : ((mDo L o.f0 o.f2 o.f3).2.2 != (mDo (mDo L p.f0 p.f2 p.f3).1 o.f0 o.f2 o.f3).2.2) = true
          · simp [c1, c2, c3, c4, rd, rdOf]
          · simp [c1, c2, c3, c4, rd, rdOf]
        · simp [c1, c2, c3, rd, rdOf]
      · simp [c1, c2, rd, rdOf]
    · simp [c1]
theorem seen_loop (x : Int) (a b : Int) (ha : 0 ≤ a ∧ a < 4294967296) (hx : 0 ≤ x ∧ x < 65536) (p q : Int) (hp : p = 1 ∨ p = 2 ∨ p = 3) (hq : q = 1 ∨ q = 2 ∨ q = 3) (hpq : ¬ (p = 1 ∧ q = 1)) :
    underwoodlaw09_SpecSeen.l0 100 x a true false 0 p 0 x a q 0 x b = some true := by
  have ascN : Asc [] := by simp [Asc]
  have ascO : Asc [(x, 1 + a)] := by simp [Asc]
  have hnew : spec_New.f 1 = some (1, ([] : List Int), ([] : List Int)) := rfl
  have w1 : wrap64 x = x := wrap_id (by omega) (by omega)
  have w2 : wrap64 a = a := wrap_id (by omega) (by omega)
  have w3 : wrap64 (1 + a) = 1 + a := wrap_id (by omega) (by omega)
  have w4 : wrap64 ((0 : Int) + 1) = 1 := by rw [wrap_id (by omega) (by omega)]; rfl
  have w5 : wrap64 ((1 : Int) + 1) = 2 := by rw [wrap_id (by omega) (by omega)]; rfl
  have t0 := turn [] ascN (by simp) ⟨p, 0, x, a⟩ ⟨q, 0, x, b⟩ hp hq 97 (by omega) x a false 0
  have hd := do_map [] ascN (by simp) 2 0 x (1 + a) (.inr (.inl rfl)) 96 (by simp)
  have hm : (mDo [] 2 x (1 + a)) = ([(x, 1 + a)], 0, true) := by simp [mDo, PureMap.look, mput]
  rw [hm] at hd
  simp only [List.map_nil, List.map_cons] at t0 hd
  rw [underwoodlaw09_SpecSeen.l0, if_pos (by omega), hnew, Option.bind_some, if_neg (by omega)]
  simp only []
  rw [t0, w4, underwoodlaw09_SpecSeen.l0, if_pos (by omega), hnew, Option.bind_some, if_pos rfl, w1, w2, w3, hd, Option.bind_some]
  have t1 := turn [(x, 1 + a)] ascO (by simp) ⟨p, 0, x, a⟩ ⟨q, 0, x, b⟩ hp hq 94 (by omega) x a (false || apart [] ⟨p, 0, x, a⟩ ⟨q, 0, x, b⟩) 1
  simp only [List.map_nil, List.map_cons] at t1
  rw [t1, w5, underwoodlaw09_SpecSeen.l0, if_neg (by omega), if_pos rfl]
  congr 1
  rcases hp with rfl | rfl | rfl <;> rcases hq with rfl | rfl | rfl
  · exact absurd ⟨rfl, rfl⟩ hpq
  all_goals simp [apart, mDo, PureMap.look, mput, mdel]
theorem SpecSeen : underwoodlaw09_SpecSeen.Pure := by
  intro x a b i k hx ha hb hi hk
  have hx' : 0 ≤ x ∧ x < 65536 := by
    have h_ := hx
    simp [Lit.wf, IntKind.min, IntKind.max, IntKind.bits, IntKind.signed] at h_
    omega
  have ha' : 0 ≤ a ∧ a < 4294967296 := by
    have h_ := ha
    simp [Lit.wf, IntKind.min, IntKind.max, IntKind.bits, IntKind.signed] at h_
    omega
  have hb' : 0 ≤ b ∧ b < 4294967296 := by
    have h_ := hb
    simp [Lit.wf, IntKind.min, IntKind.max, IntKind.bits, IntKind.signed] at h_
    omega
  have hi' : 0 ≤ i ∧ i < 256 := by
    have h_ := hi
    simp [Lit.wf, IntKind.min, IntKind.max, IntKind.bits, IntKind.signed] at h_
    omega
  have hk' : 0 ≤ k ∧ k < 256 := by
    have h_ := hk
    simp [Lit.wf, IntKind.min, IntKind.max, IntKind.bits, IntKind.signed] at h_
    omega
  refine ⟨100, ?_⟩
  have e : ∀ i : Int, 0 ≤ i ∧ i < 256 → ∃ p, wrap64 (1 + wrap64 (Int.tmod i 3)) = p ∧ (p = 1 ∨ p = 2 ∨ p = 3) := by
    intro i hi
    refine ⟨1 + i % 3, ?_, by omega⟩
    rw [Int.tmod_eq_emod_of_nonneg hi.1, wrap_id (i := i % 3) (by omega) (by omega), wrap_id (by omega) (by omega)]
  obtain ⟨p, ep, hp⟩ := e i hi'
  obtain ⟨q, eq, hq⟩ := e k hk'
  unfold underwoodlaw09_SpecSeen.f underwoodlaw09_awake.f
  rw [Option.bind_some, ep, eq, wrap_id (i := x) (by omega) (by omega), wrap_id (i := a) (by omega) (by omega), wrap_id (i := b) (by omega) (by omega), commute_spec, Option.bind_some]
  have ov : ∀ p : Int, p = 1 ∨ p = 2 ∨ p = 3 → Go.Proofs.Ytmfgalcepaaolaa.GOf.ofV p = 1 := by
    intro p hp
    unfold Go.Proofs.Ytmfgalcepaaolaa.GOf.ofV
    rw [if_pos hp]
  rw [ov p hp, ov q hq]
  by_cases hpq : p = 1 ∧ q = 1
  · obtain ⟨rfl, rfl⟩ := hpq
    simp
  · have hc : (if (1 : Int) = 1 then (if (1 : Int) = 1 then (if x = x then (if p = 1 then (q == 1) else false) else true) else false) else true) = false := by
      simp only [if_true]
      by_cases h1 : p = 1
      · rw [if_pos h1]
        simp
        exact fun h2 => hpq ⟨h1, h2⟩
      · rw [if_neg h1]
    rw [hc]
    simp only [Bool.false_eq_true, if_false]
    exact seen_loop x a b ha' hx' p q hp hq hpq
end Go.Proofs.Ytmfgalcepaaolaa.PureSpec
namespace Go.Proofs.Ytmfgalcepaaolaa.Pure
open Go.Proofs.Ytmfgalcepaaolaa.PR
theorem SpecSeen : underwoodlaw09_SpecSeen.Pure := Go.Proofs.Ytmfgalcepaaolaa.PureSpec.SpecSeen
end Go.Proofs.Ytmfgalcepaaolaa.Pure
