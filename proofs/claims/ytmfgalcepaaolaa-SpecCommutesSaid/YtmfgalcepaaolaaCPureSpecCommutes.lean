/- Two operations that commute may change places: the law SpecCommutes' answer is true, whatever comes in. -/
import Derived.Test.YtmfgalcepaaolaaCPureSpecRight
namespace Go.Proofs.Ytmfgalcepaaolaa.PureSpec
open Go.RowKit Go.Proofs.Ytmfgalcepaaolaa.PureMap Go.Proofs.Ytmfgalcepaaolaa.PS Go.Proofs.YtmfgalcepaaolaaW.PrintWords Go.Proofs.YtmfgalcepaaolaaW.PrintLast Go.Proofs.YtmfgalcepaaolaaW.PrintMore
/-- What an operation of a map makes of what a key has. -/
def eff (op : Int) (o : Option Int) (b : Int) : Option Int := if op = 1 then o else if op = 2 then o.or (some b) else none
theorem look_mDo (L : Row) (op a b x : Int) : PureMap.look (mDo L op a b).1 x = if x = a then eff op (PureMap.look L a) b else PureMap.look L x := by
  unfold mDo eff
  by_cases h1 : op = 1
  · simp only [h1, if_true]
    by_cases hx : x = a
    · rw [if_pos hx, hx]
    · rw [if_neg hx]
  · by_cases h2 : op = 2
    · simp only [h2]
      cases hl : PureMap.look L a with
      | none => simp [look_mput]
      | some y =>
        by_cases hx : x = a
        · subst hx; simp [hl]
        · simp [hx]
    · simp only [h1, h2, if_false]
      cases hl : PureMap.look L a with
      | none =>
        by_cases hx : x = a
        · subst hx; simp [hl]
        · simp [hx]
      | some y => simp [look_mdel]
theorem tell_mDo (L M : Row) (op a b : Int) (h : PureMap.look L a = PureMap.look M a) : (mDo L op a b).2 = (mDo M op a b).2 := by
  unfold mDo
  rw [h]
  split
  · rfl
  split
  · split <;> rfl
  · split <;> rfl
theorem mDo_swap (L : Row) (hL : Asc L) (p a b q c d : Int) (h : a ≠ c ∨ (p = 1 ∧ q = 1)) :
    (mDo (mDo L p a b).1 q c d).1 = (mDo (mDo L q c d).1 p a b).1 ∧ (mDo (mDo L p a b).1 q c d).2 = (mDo L q c d).2 ∧ (mDo (mDo L q c d).1 p a b).2 = (mDo L p a b).2 := by
  rcases h with h | ⟨rfl, rfl⟩
  · refine ⟨PureMap.ext (asc_mDo (asc_mDo hL _ _ _) _ _ _) (asc_mDo (asc_mDo hL _ _ _) _ _ _) fun x => ?_, tell_mDo _ _ _ _ _ ?_, tell_mDo _ _ _ _ _ ?_⟩
    · simp only [look_mDo]
      by_cases hx : x = c
      · subst hx
        rw [if_pos rfl, if_neg (fun e => h e.symm), if_neg (fun e => h e.symm), if_pos rfl]
      · rw [if_neg hx]
        by_cases hy : x = a
        · subst hy
          rw [if_pos rfl, if_pos rfl, if_neg h]
        · rw [if_neg hy, if_neg hy, if_neg hx]
    · rw [look_mDo, if_neg (fun e => h e.symm)]
    · rw [look_mDo, if_neg h]
  · refine ⟨?_, ?_, ?_⟩ <;> simp [mDo]
theorem all_two (k : Nat) (hk : 2 ≤ k) (kd : Int) (ks vs : List Int) (a b : S26) (kd1 : Int) (k1 v1 : List Int) (t0 : Int) (s0 : Bool) (kd2 : Int) (k2 v2 : List Int) (t1 : Int) (s1 : Bool)
    (ha : ∀ j, k ≤ j + 3 → spec_Do.f j kd ks vs a.f0 a.f1 a.f2 a.f3 = some (kd1, k1, v1, t0, s0)) (hb : ∀ j, k ≤ j + 3 → spec_Do.f j kd1 k1 v1 b.f0 b.f1 b.f2 b.f3 = some (kd2, k2, v2, t1, s1)) :
    spec_All.f (k + 1) kd ks vs [a, b] = some (kd2, k2, v2, [t0, t1], [s0, s1]) := by
  obtain ⟨k, rfl⟩ : ∃ m, k = m + 2 := ⟨k - 2, by omega⟩
  have w1 : wrap64 ((0 : Int) + 1) = 1 := by rw [wrap_id (by omega) (by omega)]; rfl
  have w2 : wrap64 ((1 : Int) + 1) = 2 := by rw [wrap_id (by omega) (by omega)]; rfl
  have r0 : rd_T26 [a, b] 0 = a := rfl
  have r1 : rd_T26 [a, b] 1 = b := rfl
  have ln : (([a, b] : List S26).length : Int) = 2 := rfl
  unfold spec_All.f
  simp only [spec_All.l0, ln, r0, ha (k + 2) (by omega), Option.bind_some, w1]
  simp only [r1, hb (k + 1) (by omega), Option.bind_some, w2]
  simp
theorem commute_spec (a b c d p q r s : Int) : spec_Commute.f a b c d p q r s = some (if Go.Proofs.Ytmfgalcepaaolaa.GOf.ofV a = Go.Proofs.Ytmfgalcepaaolaa.GOf.ofV p then (if Go.Proofs.Ytmfgalcepaaolaa.GOf.ofV a = 1 then (if c = r then (if a = 1 then (p == 1) else false) else true) else false) else true) := by
  unfold spec_Commute.f spec_Of.f
  simp only [Option.bind_some]
  split
  · split
    · split
      · split <;> rfl
      · rfl
    · rfl
  · rfl
theorem commute_symm (a b c d p q r s : Int) : spec_Commute.f a b c d p q r s = spec_Commute.f p q r s a b c d := by
  rw [commute_spec, commute_spec]
  congr 1
  by_cases h : Go.Proofs.Ytmfgalcepaaolaa.GOf.ofV a = Go.Proofs.Ytmfgalcepaaolaa.GOf.ofV p
  · rw [if_pos h, if_pos h.symm, h]
    by_cases h1 : Go.Proofs.Ytmfgalcepaaolaa.GOf.ofV p = 1
    · rw [if_pos h1, if_pos h1]
      by_cases h2 : c = r
      · rw [if_pos h2, if_pos h2.symm]
        by_cases ha : a = 1 <;> by_cases hp : p = 1 <;> simp [ha, hp]
      · rw [if_neg h2, if_neg (fun e => h2 e.symm)]
    · rw [if_neg h1, if_neg h1]
  · rw [if_neg h, if_neg (fun e => h e.symm)]
/-- What both orders of two that commute come to. -/
theorem both (kd : Int) (ks vs : List Int) (ho : Ok kd ks vs) (h1 : ks.length ≤ 100) (h2 : vs.length ≤ 100) (a b : S26) (hc : spec_Commute.f a.f0 a.f1 a.f2 a.f3 b.f0 b.f1 b.f2 b.f3 = some true) :
    ∃ (k2 v2 : List Int) (t0 t1 : Int) (s0 s1 : Bool), spec_All.f 199 kd ks vs [a, b] = some (kd, k2, v2, [t0, t1], [s0, s1]) ∧ spec_All.f 199 kd ks vs [b, a] = some (kd, k2, v2, [t1, t0], [s1, s0]) ∧ k2.length ≤ 150 ∧ v2.length ≤ 150 := by
  have idle : ∀ (a b : S26), (Go.Proofs.Ytmfgalcepaaolaa.GOf.ofV a.f0 = 0 ∨ ¬ Go.Proofs.Ytmfgalcepaaolaa.GOf.ofV a.f0 = kd) →
      ∃ (k2 v2 : List Int) (t0 t1 : Int) (s0 s1 : Bool), spec_All.f 199 kd ks vs [a, b] = some (kd, k2, v2, [t0, t1], [s0, s1]) ∧ spec_All.f 199 kd ks vs [b, a] = some (kd, k2, v2, [t1, t0], [s1, s0]) ∧ k2.length ≤ 150 ∧ v2.length ≤ 150 := by
    intro a b ha
    obtain ⟨k2, v2, t, s, _, _, l1, _, l3, _⟩ := do_right kd ks vs ho (by omega) b.f0 b.f1 b.f2 b.f3 190 (by omega)
    have hb : ∀ j, 198 ≤ j + 3 → spec_Do.f j kd ks vs b.f0 b.f1 b.f2 b.f3 = some (kd, k2, v2, t, s) := by
      intro j hj
      obtain ⟨k2', v2', t', s', hd', _⟩ := do_right kd ks vs ho (by omega) b.f0 b.f1 b.f2 b.f3 j (by omega)
      rename_i hd _ _ _ _
      rcases Nat.le_total j 190 with h | h
      · have e := at_rounds (g := fun k => spec_Do.f k kd ks vs b.f0 b.f1 b.f2 b.f3) (fun k => spec_Do.mono _ _ _ _ _ _ _ k) h hd'
        have e2 := e.symm.trans hd
        rw [hd', Option.some.inj e2]
      · exact at_rounds (g := fun k => spec_Do.f k kd ks vs b.f0 b.f1 b.f2 b.f3) (fun k => spec_Do.mono _ _ _ _ _ _ _ k) h hd
    refine ⟨k2, v2, 0, t, false, s, all_two 198 (by omega) kd ks vs a b kd ks vs 0 false kd k2 v2 t s (fun j _ => do_other j kd ks vs _ _ _ _ ha) hb, all_two 198 (by omega) kd ks vs b a kd k2 v2 t s kd k2 v2 0 false hb (fun j _ => do_other j kd k2 v2 _ _ _ _ ha), by omega, by omega⟩
  by_cases ha : Go.Proofs.Ytmfgalcepaaolaa.GOf.ofV a.f0 = 0 ∨ ¬ Go.Proofs.Ytmfgalcepaaolaa.GOf.ofV a.f0 = kd
  · exact idle a b ha
  by_cases hb : Go.Proofs.Ytmfgalcepaaolaa.GOf.ofV b.f0 = 0 ∨ ¬ Go.Proofs.Ytmfgalcepaaolaa.GOf.ofV b.f0 = kd
  · obtain ⟨k2, v2, t0, t1, s0, s1, e1, e2, l1, l2⟩ := idle b a hb
    exact ⟨k2, v2, t1, t0, s1, s0, e2, e1, l1, l2⟩
  have ha2 : Go.Proofs.Ytmfgalcepaaolaa.GOf.ofV a.f0 = kd := by
    by_cases h : Go.Proofs.Ytmfgalcepaaolaa.GOf.ofV a.f0 = kd
    · exact h
    · exact absurd (.inr h) ha
  have hb2 : Go.Proofs.Ytmfgalcepaaolaa.GOf.ofV b.f0 = kd := by
    by_cases h : Go.Proofs.Ytmfgalcepaaolaa.GOf.ofV b.f0 = kd
    · exact h
    · exact absurd (.inr h) hb
  rw [commute_spec, ha2, hb2, if_pos rfl] at hc
  by_cases hkd : kd = 1
  · rw [if_pos hkd] at hc
    subst hkd
    rcases ho with ⟨_, hs, hl⟩ | ⟨hkd, _⟩
    · obtain ⟨L, rfl, rfl⟩ : ∃ L : Row, ks = L.map (·.1) ∧ vs = L.map (·.2) := ⟨ks.zip vs, by rw [List.map_fst_zip (by omega)], by rw [List.map_snd_zip (by omega)]⟩
      have hL : Asc L := hs
      simp only [List.length_map] at h1 h2
      have mk : ∀ x : Int, Go.Proofs.Ytmfgalcepaaolaa.GOf.ofV x = 1 → x = 1 ∨ x = 2 ∨ x = 3 := by
        intro x hx
        unfold Go.Proofs.Ytmfgalcepaaolaa.GOf.ofV at hx
        by_cases h : x = 1 ∨ x = 2 ∨ x = 3
        · exact h
        · rw [if_neg h] at hx
          split at hx
          · omega
          · split at hx <;> omega
      have opa := mk _ ha2
      have opb := mk _ hb2
      have hsw := mDo_swap L hL a.f0 a.f2 a.f3 b.f0 b.f2 b.f3 (by
        by_cases h : a.f2 = b.f2
        · right
          rw [if_pos h] at hc
          by_cases h5 : a.f0 = 1
          · rw [if_pos h5] at hc
            exact ⟨h5, by simpa using hc⟩
          · rw [if_neg h5] at hc
            cases hc
        · exact .inl h)
      have la : (mDo L a.f0 a.f2 a.f3).1.length ≤ L.length + 1 := by
        obtain ⟨k2, v2, t, s, hd, _, l1, _⟩ := do_right 1 _ _ (.inl ⟨rfl, hL, by simp⟩) (show (L.map (·.2)).length ≤ 1000000 by simp; omega) a.f0 a.f1 a.f2 a.f3 1000 (by simp; omega)
        rw [do_map L hL (by omega) a.f0 a.f1 a.f2 a.f3 opa 1000 (by omega)] at hd
        injection hd with hd
        injection hd with _ hd
        injection hd with _ hd
        injection hd with hd _
        rw [← hd] at l1
        simpa using l1
      have lb : (mDo L b.f0 b.f2 b.f3).1.length ≤ L.length + 1 := by
        obtain ⟨k2, v2, t, s, hd, _, l1, _⟩ := do_right 1 _ _ (.inl ⟨rfl, hL, by simp⟩) (show (L.map (·.2)).length ≤ 1000000 by simp; omega) b.f0 b.f1 b.f2 b.f3 1000 (by simp; omega)
        rw [do_map L hL (by omega) b.f0 b.f1 b.f2 b.f3 opb 1000 (by omega)] at hd
        injection hd with hd
        injection hd with _ hd
        injection hd with _ hd
        injection hd with hd _
        rw [← hd] at l1
        simpa using l1
      have lab : (mDo (mDo L a.f0 a.f2 a.f3).1 b.f0 b.f2 b.f3).1.length ≤ L.length + 2 := by
        obtain ⟨k2, v2, t, s, hd, _, l1, _⟩ := do_right 1 _ _ (.inl ⟨rfl, asc_mDo hL a.f0 a.f2 a.f3, by simp⟩) (show ((mDo L a.f0 a.f2 a.f3).1.map (·.2)).length ≤ 1000000 by simp; omega) b.f0 b.f1 b.f2 b.f3 1000 (by simp; omega)
        rw [do_map _ (asc_mDo hL a.f0 a.f2 a.f3) (by omega) b.f0 b.f1 b.f2 b.f3 opb 1000 (by omega)] at hd
        injection hd with hd
        injection hd with _ hd
        injection hd with _ hd
        injection hd with hd _
        rw [← hd] at l1
        simp at l1
        omega
      obtain ⟨e1, e2, e3⟩ := hsw
      refine ⟨(mDo (mDo L a.f0 a.f2 a.f3).1 b.f0 b.f2 b.f3).1.map (·.1), (mDo (mDo L a.f0 a.f2 a.f3).1 b.f0 b.f2 b.f3).1.map (·.2), (mDo L a.f0 a.f2 a.f3).2.1, (mDo L b.f0 b.f2 b.f3).2.1, (mDo L a.f0 a.f2 a.f3).2.2, (mDo L b.f0 b.f2 b.f3).2.2, ?_, ?_, by simp; omega, by simp; omega⟩
      · refine all_two 198 (by omega) 1 _ _ a b 1 _ _ _ _ 1 _ _ _ _ (fun j hj => do_map L hL (by omega) _ _ _ _ opa j (by omega)) (fun j hj => ?_)
        rw [do_map _ (asc_mDo hL _ _ _) (by omega) _ _ _ _ opb j (by omega), e2]
      · refine all_two 198 (by omega) 1 _ _ b a 1 _ _ _ _ 1 _ _ _ _ (fun j hj => do_map L hL (by omega) _ _ _ _ opb j (by omega)) (fun j hj => ?_)
        rw [do_map _ (asc_mDo hL _ _ _) (by omega) _ _ _ _ opa j (by omega), e3, e1]
    · omega
  · rw [if_neg hkd] at hc
    cases hc
theorem specCommutes (kd : Int) (ks vs : List Int) (a b : S26) : ∃ k, underwoodlaw09_SpecCommutes.f k kd ks vs a.f0 a.f1 a.f2 a.f3 b.f0 b.f1 b.f2 b.f3 = some true := by
  refine ⟨200, ?_⟩
  obtain ⟨cm, hcm⟩ : ∃ cm, spec_Commute.f a.f0 a.f1 a.f2 a.f3 b.f0 b.f1 b.f2 b.f3 = some cm := ⟨_, commute_spec _ _ _ _ _ _ _ _⟩
  have hcm2 : spec_Commute.f b.f0 b.f1 b.f2 b.f3 a.f0 a.f1 a.f2 a.f3 = some cm := by rw [← commute_symm, hcm]
  have early : underwoodlaw09_SpecCommutes.j0 200 true true kd ks vs a.f0 a.f1 a.f2 a.f3 b.f0 b.f1 b.f2 b.f3 = some true := by
    simp [underwoodlaw09_SpecCommutes.j0, hcm, hcm2]
  unfold underwoodlaw09_SpecCommutes.f underwoodlaw09_awake.f
  rw [Option.bind_some]
  unfold underwoodlaw09_few.f
  by_cases h1 : ks.length ≤ 100
  · rw [if_pos (by omega), Option.bind_some]
    by_cases h2 : vs.length ≤ 100
    · rw [if_pos (by simp; omega)]
      obtain ⟨bo, hb, hr⟩ := right_spec kd ks vs (by omega)
      rw [hr 200 (by omega), Option.bind_some]
      cases bo with
      | false => simpa using early
      | true =>
        have hok := hb.1 rfl
        rw [if_pos rfl, hcm, hcm2, Option.bind_some, Option.bind_some]
        simp only [underwoodlaw09_SpecCommutes.j0, bne_self_eq_false, Bool.false_eq_true, if_false, hcm, Option.bind_some]
        cases cm with
        | false =>
          have e : Go.Proofs.Ytmfgalcepaaolaa.GOf.ofV a.f0 = Go.Proofs.Ytmfgalcepaaolaa.GOf.ofV b.f0 := by
            rw [commute_spec] at hcm
            by_cases h : Go.Proofs.Ytmfgalcepaaolaa.GOf.ofV a.f0 = Go.Proofs.Ytmfgalcepaaolaa.GOf.ofV b.f0
            · exact h
            · rw [if_neg h] at hcm
              cases hcm
          simp [spec_Of.f, e]
        | true =>
          obtain ⟨k2, v2, t0, t1, s0, s1, e1, e2, l1, l2⟩ := both kd ks vs hok h1 h2 a b hcm
          simp only [if_true]
          rw [e1, Option.bind_some, e2, Option.bind_some]
          have hsame : underwoodref09_Same.f 199 kd k2 v2 kd k2 v2 = some true := by
            exact same_same kd k2 v2 (by omega) (by omega) (by omega) (by omega)
          simp [hsame, rd, rdOf]
    · rw [if_neg (by simp; omega)]
      simpa using early
  · rw [if_neg (by omega), Option.bind_some]
    simpa using early
end Go.Proofs.Ytmfgalcepaaolaa.PureSpec
