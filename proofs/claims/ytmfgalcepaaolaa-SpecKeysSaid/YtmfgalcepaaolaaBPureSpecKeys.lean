/- A key has the value that was put first since it was out: the law SpecKeys' answer is true, whatever comes in. -/
import Derived.Test.YtmfgalcepaaolaaBPureSpec
namespace Go.Proofs.Ytmfgalcepaaolaa.PureSpec
open Go.RowKit Go.Proofs.Ytmfgalcepaaolaa.PureMap Go.Proofs.Ytmfgalcepaaolaa.PS Go.Proofs.YtmfgalcepaaolaaW.PrintWords Go.Proofs.YtmfgalcepaaolaaW.PrintLast Go.Proofs.YtmfgalcepaaolaaW.PrintMore
/-- What any operation makes of a map. -/
def mStep (L : Row) (o : S26) : Row := if o.f0 = 1 ∨ o.f0 = 2 ∨ o.f0 = 3 then (mDo L o.f0 o.f2 o.f3).1 else L
def mAll (L : Row) (l : List S26) : Row := l.foldl mStep L
theorem asc_mStep {L : Row} (h : Asc L) (o : S26) : Asc (mStep L o) := by
  unfold mStep
  split
  · exact asc_mDo h _ _ _
  · exact h
theorem len_mDo (L : Row) (hL : Asc L) (hn : L.length ≤ 1000000) (op a b : Int) : (mDo L op a b).1.length ≤ L.length + 1 := by
  obtain ⟨A, B, f, rfl, _, hA, hB⟩ := place_cut L hL a hn
  rcases hB with ⟨_, hB⟩ | ⟨_, y, B', rfl, hB⟩
  · have hlk := cut_none hA hB
    unfold mDo
    simp only [hlk, Option.isSome_none, Bool.false_eq_true, if_false, cut_put hA hB]
    by_cases h1 : op = 1
    · simp [h1]
    · by_cases h2 : op = 2 <;> simp [h1, h2] <;> omega
  · have hlk := cut_look (B := B') (y := y) hA
    unfold mDo
    simp only [hlk, Option.isSome_some, if_true, cut_del hA hB]
    by_cases h1 : op = 1
    · simp [h1]
    · by_cases h2 : op = 2 <;> simp [h1, h2] <;> omega
theorem len_mStep (L : Row) (hL : Asc L) (hn : L.length ≤ 1000000) (o : S26) : (mStep L o).length ≤ L.length + 1 := by
  unfold mStep
  split
  · exact len_mDo L hL hn _ _ _
  · omega
/-- One operation on a map, by the program's function. -/
theorem do_step (L : Row) (hL : Asc L) (hn : L.length ≤ 1000000) (o : S26) (k : Nat) (hk : L.length < k) :
    ∃ v is, spec_Do.f k 1 (L.map (·.1)) (L.map (·.2)) o.f0 o.f1 o.f2 o.f3 = some (1, (mStep L o).map (·.1), (mStep L o).map (·.2), v, is) := by
  by_cases hop : o.f0 = 1 ∨ o.f0 = 2 ∨ o.f0 = 3
  · refine ⟨(mDo L o.f0 o.f2 o.f3).2.1, (mDo L o.f0 o.f2 o.f3).2.2, (do_map L hL hn o.f0 o.f1 o.f2 o.f3 hop k hk).trans ?_⟩
    unfold mStep
    rw [if_pos hop]
  · refine ⟨0, false, (do_other k 1 _ _ o.f0 o.f1 o.f2 o.f3 (.inr ?_)).trans ?_⟩
    · unfold Go.Proofs.Ytmfgalcepaaolaa.GOf.ofV
      rw [if_neg hop]
      split
      · omega
      · split <;> omega
    · unfold mStep
      rw [if_neg hop]
theorem rd_op {l : List S26} {i : Nat} (h : i < l.length) : rd_T26 l (i : Int) = l[i] := by
  unfold rd_T26
  simp [List.getD_eq_getElem?_getD, List.getElem?_eq_getElem h]
theorem all_loop (l : List S26) (hl : l.length ≤ 1000) (d : Nat) : ∀ (k i : Nat) (L : Row) (vs : List Int) (bs : List Bool), Asc L → i ≤ l.length → l.length - i = d → L.length ≤ i + 1000 → vs.length ≤ i + 1000 → bs.length ≤ i + 1000 → d + 3000 < k →
    ∃ vs' bs', spec_All.l0 k vs bs l l.length i 1 (L.map (·.1)) (L.map (·.2)) = some (1, (mAll L (l.drop i)).map (·.1), (mAll L (l.drop i)).map (·.2), vs', bs') ∧ (mAll L (l.drop i)).length ≤ L.length + d := by
  induction d with
  | zero =>
    intro k i L vs bs hL hi hd h1 h2 h3 hk
    obtain ⟨k, rfl⟩ : ∃ m, k = m + 1 := ⟨k - 1, by omega⟩
    obtain rfl : i = l.length := by omega
    simp only [spec_All.l0]
    rw [if_neg (by omega), List.drop_length]
    exact ⟨vs, bs, rfl, Nat.le_refl _⟩
  | succ d ih =>
    intro k i L vs bs hL hi hd h1 h2 h3 hk
    obtain ⟨k, rfl⟩ : ∃ m, k = m + 1 := ⟨k - 1, by omega⟩
    obtain ⟨v, is, hd'⟩ := do_step L hL (by omega) (l[i]'(by omega)) k (by omega)
    have hls := len_mStep L hL (by omega) (l[i]'(by omega))
    obtain ⟨vs', bs', he, hlen⟩ := ih k (i + 1) (mStep L (l[i]'(by omega))) (vs ++ [v]) (bs ++ [is]) (asc_mStep hL _) (by omega) (by omega) (by omega) (by simp; omega) (by simp; omega) (by omega)
    refine ⟨vs', bs', ?_, ?_⟩
    · simp only [spec_All.l0]
      rw [if_pos (by omega), if_pos (by omega), if_pos (by omega), rd_op (by omega), hd', Option.bind_some, Option.bind_some, if_pos (by simp; omega), Option.bind_some, if_pos (by simp; omega), show wrap64 ((i : Int) + 1) = ((i + 1 : Nat) : Int) by rw [wrap_id (by omega) (by omega)]; omega, he, List.drop_eq_getElem_cons (show i < l.length by omega)]
      rfl
    · rw [List.drop_eq_getElem_cons (show i < l.length by omega)]
      show (mAll (mStep L (l[i]'(by omega))) (l.drop (i + 1))).length ≤ _
      omega
theorem all_map (l : List S26) (hl : l.length ≤ 1000) (L : Row) (hL : Asc L) (h1 : L.length ≤ 1000) (k : Nat) (hk : l.length + 3000 < k) :
    ∃ vs' bs', spec_All.f k 1 (L.map (·.1)) (L.map (·.2)) l = some (1, (mAll L l).map (·.1), (mAll L l).map (·.2), vs', bs') ∧ (mAll L l).length ≤ L.length + l.length := by
  obtain ⟨vs', bs', h, hlen⟩ := all_loop l hl l.length k 0 L [] [] hL (by omega) (by omega) (by omega) (by simp) (by simp) hk
  rw [List.drop_zero] at h hlen
  exact ⟨vs', bs', h, hlen⟩
theorem look_mStep (L : Row) (o : S26) (x : Int) : PureMap.look (mStep L o) x = if o.f2 = x ∧ o.f0 = 2 ∧ PureMap.look L x = none then some o.f3 else if o.f2 = x ∧ o.f0 = 3 then none else PureMap.look L x := by
  unfold mStep mDo
  by_cases h1 : o.f0 = 1
  · simp [h1]
  · by_cases h2 : o.f0 = 2
    · simp only [h2, if_true]
      by_cases hx : o.f2 = x
      · subst hx
        cases hlk : PureMap.look L o.f2 <;> simp [hlk, look_mput]
      · have hx' : ¬ x = o.f2 := fun h => hx h.symm
        cases hlk : PureMap.look L o.f2 <;> simp [hx, look_mput, hx']
    · by_cases h3 : o.f0 = 3
      · simp only [h3]
        by_cases hx : o.f2 = x
        · subst hx
          cases hlk : PureMap.look L o.f2 <;> simp [hlk, look_mdel]
        · have hx' : ¬ x = o.f2 := fun h => hx h.symm
          cases hlk : PureMap.look L o.f2 <;> simp [hx, look_mdel, hx']
      · simp [h1, h2, h3]
theorem keys_loop (l : List S26) (hl : l.length ≤ 40) (key : Int) (d : Nat) : ∀ (k i : Nat) (has : Bool) (val : Int) (L : Row), Asc L → i ≤ l.length → l.length - i = d → 2 * d + 4000 < k → mAll L (l.drop i) = mAll [] l →
    PureMap.look L key = (if has = true then some val else none) → (has = false → val = 0) → underwoodlaw09_SpecKeys.l0 k l key true has val i = some true := by
  induction d with
  | zero =>
    intro k i has val L hL hi hd hk hm hlk hv
    obtain ⟨k, rfl⟩ : ∃ m, k = m + 1 := ⟨k - 1, by omega⟩
    obtain rfl : i = l.length := by omega
    rw [List.drop_length] at hm
    have hm' : L = mAll [] l := hm
    simp only [underwoodlaw09_SpecKeys.l0]
    obtain ⟨vs', bs', ha, hlen⟩ := all_map l (by omega) [] (by simp [Asc]) (by simp) k (by omega)
    rw [if_neg (by omega)]
    have hnew : spec_New.f 1 = some (1, ([] : List Int), ([] : List Int)) := rfl
    simp only [List.map_nil] at ha
    rw [hnew, Option.bind_some, ha, Option.bind_some, ← hm']
    rw [← hm'] at hlen
    simp only [List.length_nil] at hlen
    simp only []
    rw [do_map L hL (by omega) 1 0 key 0 (.inl rfl) k (by omega), Option.bind_some]
    obtain ⟨b, hb, hr⟩ := right_spec 1 (L.map (·.1)) (L.map (·.2)) (by simp; omega)
    have hbt : b = true := hb.2 (.inl ⟨rfl, hL, by simp⟩)
    simp only [mDo, if_true, hr k (by simp; omega), hbt, Option.bind_some]
    cases has with
    | true =>
      simp only [if_true] at hlk
      simp [hlk]
    | false =>
      simp only [Bool.false_eq_true, if_false] at hlk
      simp [hlk, hv rfl]
  | succ d ih =>
    intro k i has val L hL hi hd hk hm hlk hv
    obtain ⟨k, rfl⟩ : ∃ m, k = m + 2 := ⟨k - 2, by omega⟩
    have hw : wrap64 ((i : Int) + 1) = ((i + 1 : Nat) : Int) := by rw [wrap_id (by omega) (by omega)]; omega
    have hm2 : mAll (mStep L (l[i]'(by omega))) (l.drop (i + 1)) = mAll [] l := by
      rw [← hm, List.drop_eq_getElem_cons (show i < l.length by omega)]
      rfl
    have hst := look_mStep L (l[i]'(by omega)) key
    have hnext : ∀ (k : Nat) has' val', 2 * d + 4000 < k → PureMap.look (mStep L (l[i]'(by omega))) key = (if has' = true then some val' else none) → (has' = false → val' = 0) → underwoodlaw09_SpecKeys.l0 k l key true has' val' ((i + 1 : Nat) : Int) = some true := fun k has' val' hk h1 h2 => ih k (i + 1) has' val' _ (asc_mStep hL _) (by omega) (by omega) hk hm2 h1 h2
    have h0 : (i : Int) < (l.length : Int) := by omega
    have h0' : (0 : Int) ≤ i := by omega
    simp only [underwoodlaw09_SpecKeys.l0, underwoodlaw09_SpecKeys.j1, rd_op (show i < l.length by omega), hw, if_pos h0, if_pos h0']
    by_cases hk1 : (l[i]'(by omega)).f2 = key
    · rw [if_pos hk1]
      by_cases h2 : (l[i]'(by omega)).f0 = 2
      · rw [if_pos h2]
        cases has with
        | true =>
          simp only [Bool.not_true, Bool.false_eq_true, if_false, h2]
          simp only [if_true] at hlk
          refine hnext k true val (by omega) ?_ (by simp)
          rw [hst, if_neg (by simp [hlk]), if_neg (by omega), hlk]
          rfl
        | false =>
          simp only [Bool.not_false, if_true, h2]
          simp only [Bool.false_eq_true, if_false] at hlk
          refine hnext k true _ (by omega) ?_ (by simp)
          rw [hst, if_pos ⟨hk1, h2, hlk⟩]
          rfl
      · rw [if_neg h2]
        simp only [Bool.false_eq_true, if_false]
        by_cases h3 : (l[i]'(by omega)).f0 = 3
        · rw [if_pos h3]
          refine hnext k false 0 (by omega) ?_ (fun _ => rfl)
          rw [hst, if_neg (fun h => h2 h.2.1), if_pos ⟨hk1, h3⟩]
          rfl
        · rw [if_neg h3]
          refine hnext k has val (by omega) ?_ hv
          rw [hst, if_neg (fun h => h2 h.2.1), if_neg (fun h => h3 h.2), hlk]
    · rw [if_neg hk1]
      refine hnext (k + 1) has val (by omega) ?_ hv
      rw [hst, if_neg (fun h => hk1 h.1), if_neg (fun h => hk1 h.1), hlk]
theorem specKeys (l : List S26) (key : Int) : ∃ k, underwoodlaw09_SpecKeys.f k l key = some true := by
  refine ⟨5000, ?_⟩
  unfold underwoodlaw09_SpecKeys.f underwoodlaw09_awake.f
  rw [Option.bind_some]
  by_cases h : (l.length : Int) > 40
  · rw [if_pos h]
  · rw [if_neg h]
    exact keys_loop l (by omega) key l.length 5000 0 false 0 [] (by simp [Asc]) (by omega) (by omega) (by omega) (by rw [List.drop_zero]) (by simp [PureMap.look]) (by simp)
end Go.Proofs.Ytmfgalcepaaolaa.PureSpec
