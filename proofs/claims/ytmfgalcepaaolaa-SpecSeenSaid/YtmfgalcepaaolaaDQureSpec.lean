/- What package spec computes, in plain words: right contents; maps as rows of pairs; stacks and channels as lists. -/
import Derived.Test.YtmfgalcepaaolaaDPRx8
import Derived.Test.YtmfgalcepaaolaaDPRx9
import Derived.Test.YtmfgalcepaaolaaDPureMap
namespace Go.Proofs.Ytmfgalcepaaolaa.PureSpec
open Go.RowKit Go.Proofs.Ytmfgalcepaaolaa.PureMap Go.Proofs.Ytmfgalcepaaolaa.PR Go.Proofs.YtmfgalcepaaolaaW.PrintWords Go.Proofs.YtmfgalcepaaolaaW.PrintLast Go.Proofs.YtmfgalcepaaolaaW.PrintMore
theorem wrap_id {i : Int} (h0 : -9223372036854775808 ≤ i) (h1 : i ≤ 9223372036854775807) : wrap64 i = i := by
  unfold wrap64
  omega
theorem rd_nat (l : List Int) (j : Nat) : rd l (j : Int) = l.getD j 0 := by simp [rd]
theorem rd_get {l : List Int} {j : Nat} (h : j < l.length) : rd l (j : Int) = l[j] := by rw [rd_nat, List.getD_eq_getElem?_getD, List.getElem?_eq_getElem h]; rfl
/-- Which contents may be. -/
def Ok (kd : Int) (ks vs : List Int) : Prop := (kd = 1 ∧ ks.Pairwise (· < ·) ∧ ks.length = vs.length) ∨ ((kd = 2 ∨ kd = 3) ∧ ks = [])
theorem less_spec (a b : Int) : cmp_Less_int.f a b = some (decide (a < b)) := by simp [cmp_Less_int.f, cmp_isNaN_int.f]
theorem nan_spec (a : Int) : slices_isNaN_int.f a = some false := by simp [slices_isNaN_int.f]
theorem mid_spec {i j : Nat} (h : i ≤ j) (hj : j ≤ 1099511627776) : wrap64 ((IntKind.u64.wrap (wrap64 ((i : Int) + j))) / 2) = (((i + j) / 2 : Nat) : Int) := by
  rw [wrap_id (i := (i : Int) + j) (by omega) (by omega)]
  have : IntKind.u64.wrap ((i : Int) + j) = (i : Int) + j := by
    unfold IntKind.wrap
    simp [IntKind.bits, IntKind.signed]
    omega
  rw [this, wrap_id (by omega) (by omega)]
  omega
theorem search_loop (ks : List Int) (x : Int) (hs : ks.Pairwise (· < ·)) (hn : ks.length ≤ 1099511627776) (d : Nat) : ∀ (k i j : Nat), i ≤ j → j ≤ ks.length → j - i ≤ d → d < k →
    (∀ t (h : t < ks.length), t < i → ks[t] < x) → (∀ t (h : t < ks.length), j ≤ t → x ≤ ks[t]) →
    ∃ p b, slices_BinarySearch_int_int.l0 k ks x ks.length i j = some (((p : Nat) : Int), b) ∧ p ≤ ks.length ∧ (∀ t (h : t < ks.length), t < p → ks[t] < x) ∧ (∀ t (h : t < ks.length), p ≤ t → x ≤ ks[t]) ∧ (b = true ↔ ∃ h : p < ks.length, ks[p] = x) := by
  induction d with
  | zero =>
    intro k i j hij hj hd hk ha hb
    obtain ⟨k, rfl⟩ : ∃ m, k = m + 1 := ⟨k - 1, by omega⟩
    obtain rfl : i = j := by omega
    simp only [slices_BinarySearch_int_int.l0]
    rw [if_neg (by omega)]
    by_cases hlt : i < ks.length
    · rw [if_pos (by omega), if_pos (by omega), if_pos (by omega), rd_get hlt]
      by_cases he : ks[i] = x
      · rw [if_pos he]
        exact ⟨i, true, rfl, hj, ha, hb, by simp [hlt, he]⟩
      · rw [if_neg he, nan_spec]
        simp only [Option.bind_some, Bool.false_eq_true, if_false]
        exact ⟨i, false, rfl, hj, ha, hb, by simp [he]⟩
    · rw [if_neg (by omega)]
      exact ⟨i, false, rfl, hj, ha, hb, by simp [hlt]⟩
  | succ d ih =>
    intro k i j hij hj hd hk ha hb
    rcases Nat.eq_or_lt_of_le hij with rfl | hlt
    · exact (by
        obtain ⟨k', rfl⟩ : ∃ m, k = m + 1 := ⟨k - 1, by omega⟩
        simp only [slices_BinarySearch_int_int.l0]
        rw [if_neg (by omega)]
        by_cases hlt : i < ks.length
        · rw [if_pos (by omega), if_pos (by omega), if_pos (by omega), rd_get hlt]
          by_cases he : ks[i] = x
          · rw [if_pos he]
            exact ⟨i, true, rfl, hj, ha, hb, by simp [hlt, he]⟩
          · rw [if_neg he, nan_spec]
            simp only [Option.bind_some, Bool.false_eq_true, if_false]
            exact ⟨i, false, rfl, hj, ha, hb, by simp [he]⟩
        · rw [if_neg (by omega)]
          exact ⟨i, false, rfl, hj, ha, hb, by simp [hlt]⟩)
    · obtain ⟨k, rfl⟩ : ∃ m, k = m + 1 := ⟨k - 1, by omega⟩
      have hm : (i + j) / 2 < ks.length := by omega
      rw [List.pairwise_iff_getElem] at hs
      simp only [slices_BinarySearch_int_int.l0]
      rw [if_pos (by omega), mid_spec (by omega) (by omega), if_pos (by omega), if_pos (by omega), less_spec, rd_get hm]
      simp only [Option.bind_some, decide_eq_true_eq]
      by_cases hl : ks[(i + j) / 2] < x
      · rw [if_pos hl, show wrap64 ((((i + j) / 2 : Nat) : Int) + 1) = (((i + j) / 2 + 1 : Nat) : Int) by rw [wrap_id (by omega) (by omega)]; omega]
        refine ih k _ j (by omega) hj (by omega) (by omega) (fun t ht hti => ?_) hb
        rcases Nat.lt_or_ge t ((i + j) / 2) with h1 | h1
        · exact Int.lt_trans (hs t _ ht hm h1) hl
        · obtain rfl : t = (i + j) / 2 := by omega
          exact hl
      · rw [if_neg hl]
        refine ih k i _ (by omega) (by omega) (by omega) (by omega) ha (fun t ht hti => ?_)
        rcases Nat.eq_or_lt_of_le hti with h1 | h1
        · subst h1; omega
        · have := hs _ t hm ht h1
          omega
theorem place_spec (ks : List Int) (x : Int) (hs : ks.Pairwise (· < ·)) (hn : ks.length ≤ 1099511627776) :
    ∃ (p : Nat) (b : Bool), (∀ k, ks.length < k → spec_place_int.f k ks x = some ((p : Int), b)) ∧ p ≤ ks.length ∧ (∀ a ∈ ks.take p, a < x) ∧ (∀ a ∈ ks.drop p, x ≤ a) ∧ (b = true ↔ ∃ h : p < ks.length, ks[p] = x) := by
  obtain ⟨p, b, h, hp, h1, h2, h3⟩ := search_loop ks x hs hn ks.length (ks.length + 1) 0 ks.length (by omega) (by omega) (by omega) (by omega) (by omega) (by omega)
  refine ⟨p, b, fun k hk => ?_, hp, ?_, ?_, h3⟩
  · unfold spec_place_int.f slices_BinarySearch_int_int.f
    rw [show (0 : Int) = ((0 : Nat) : Int) from rfl, at_rounds (g := fun k => slices_BinarySearch_int_int.l0 k ks x ks.length (0 : Nat) ks.length) (fun k => slices_BinarySearch_int_int.mono_l k _ _ _ _ _) (show ks.length + 1 ≤ k by omega) h]
    rfl
  · intro a ha
    obtain ⟨t, ht, rfl⟩ := List.getElem_of_mem ha
    rw [List.getElem_take]
    simp at ht
    exact h1 t (by omega) (by omega)
  · intro a ha
    obtain ⟨t, ht, rfl⟩ := List.getElem_of_mem ha
    rw [List.getElem_drop]
    simp at ht
    exact h2 _ (by omega) (by omega)
theorem clone_spec {l : List Int} (h : l.length ≤ 1000000) : slices_Clone_int_int.f l = some l := by
  unfold slices_Clone_int_int.f
  rw [if_pos (by omega)]
theorem insert_spec {l : List Int} {p : Nat} (x : Int) (hp : p ≤ l.length) (h : l.length ≤ 1000000) : slices_Insert_int_int.f l p [x] = some (l.take p ++ x :: l.drop p) := by
  unfold slices_Insert_int_int.f
  rw [if_pos ⟨by omega, by omega, by simp, by simp; omega⟩]
  simp
theorem delete_spec {l : List Int} {p : Nat} (hp : p < l.length) (h : l.length ≤ 1000000) : slices_Delete_int_int.f l p (wrap64 ((p : Int) + 1)) = some (l.take p ++ l.drop (p + 1)) := by
  rw [wrap_id (by omega) (by omega)]
  unfold slices_Delete_int_int.f
  rw [if_pos ⟨by omega, by omega, by omega⟩]
  congr 3
theorem place_cut (L : Row) (hL : Asc L) (x : Int) (hn : L.length ≤ 1000000) : ∃ (A B : Row) (b : Bool), L = A ++ B ∧ (∀ k, L.length < k → spec_place_int.f k (L.map (·.1)) x = some ((A.length : Int), b)) ∧ (∀ p ∈ A, p.1 < x) ∧
    ((b = false ∧ ∀ p ∈ B, x < p.1) ∨ (b = true ∧ ∃ y B', B = (x, y) :: B' ∧ ∀ p ∈ B', x < p.1)) := by
  obtain ⟨p, b, h, hp, h1, h2, h3⟩ := place_spec (L.map (fun (q : Int × Int) => q.1)) x hL (by simp; omega)
  simp only [List.length_map] at hp h
  have e : L.take p ++ L.drop p = L := List.take_append_drop p L
  have hA : ∀ q ∈ L.take p, q.1 < x := fun q hq => h1 q.1 (by rw [← List.map_take]; exact List.mem_map_of_mem hq)
  have hB : ∀ q ∈ L.drop p, x ≤ q.1 := fun q hq => h2 q.1 (by rw [← List.map_drop]; exact List.mem_map_of_mem hq)
  refine ⟨L.take p, L.drop p, b, e.symm, fun k hk => ?_, hA, ?_⟩
  · rw [h k hk, List.length_take, Nat.min_eq_left hp]
  · have hs : Asc (L.drop p) := by rw [← e] at hL; exact (asc_append.1 hL).2.1
    cases hd : L.drop p with
    | nil =>
      left
      refine ⟨?_, fun q hq => by cases hq⟩
      rw [← Bool.not_eq_true, h3]
      rintro ⟨hlt, _⟩
      simp at hlt
      have := congrArg List.length hd
      simp at this
      omega
    | cons q B' =>
      have hlt : p < L.length := by
        have := congrArg List.length hd
        simp at this
        omega
      have hq : L[p] = q := by
        have h5 : (L.drop p)[0]? = some q := by rw [hd]; rfl
        rw [List.getElem?_drop, Nat.add_zero, List.getElem?_eq_getElem hlt] at h5
        injection h5
      rw [hd] at hs hB
      obtain ⟨c, y⟩ := q
      rw [asc_cons] at hs
      by_cases hc : c = x
      · right
        subst hc
        exact ⟨h3.2 ⟨by simpa using hlt, by simp [hq]⟩, y, B', rfl, hs.1⟩
      · left
        have hc' : x ≤ c := hB (c, y) (by simp)
        refine ⟨?_, fun r hr => ?_⟩
        · rw [← Bool.not_eq_true, h3]
          rintro ⟨_, h6⟩
          rw [List.getElem_map, hq] at h6
          exact hc h6
        · rcases List.mem_cons.1 hr with rfl | hr
          · show x < c
            omega
          · have := hs.1 r hr
            omega
theorem do_map (L : Row) (hL : Asc L) (hn : L.length ≤ 1000000) (op o1 a b : Int) (hop : op = 1 ∨ op = 2 ∨ op = 3) (k : Nat) (hk : L.length < k) :
    spec_Do.f k 1 (L.map (·.1)) (L.map (·.2)) op o1 a b = some (1, (mDo L op a b).1.map (·.1), (mDo L op a b).1.map (·.2), (mDo L op a b).2.1, (mDo L op a b).2.2) := by
  obtain ⟨A, B, f, rfl, hpl, hA, hB⟩ := place_cut L hL a hn
  have hplk := hpl k hk
  simp only [List.map_append] at hplk
  have hlen : ((A ++ B).map (·.1)).length ≤ 1000000 := by simpa using hn
  have hlen2 : ((A ++ B).map (·.2)).length ≤ 1000000 := by simpa using hn
  have hof : Go.Proofs.Ytmfgalcepaaolaa.GOf.ofV op = 1 := by unfold Go.Proofs.Ytmfgalcepaaolaa.GOf.ofV; rw [if_pos hop]
  unfold spec_Do.f
  rw [hof, if_neg (by decide)]
  have tA : (A.map (·.1) ++ B.map (·.1)).take A.length = A.map (·.1) := by rw [List.take_left' (by simp)]
  have dA : (A.map (·.1) ++ B.map (·.1)).drop A.length = B.map (·.1) := by rw [List.drop_left' (by simp)]
  have tA2 : (A.map (·.2) ++ B.map (·.2)).take A.length = A.map (·.2) := by rw [List.take_left' (by simp)]
  have dA2 : (A.map (·.2) ++ B.map (·.2)).drop A.length = B.map (·.2) := by rw [List.drop_left' (by simp)]
  simp only [List.map_append] at hlen hlen2 ⊢
  rcases hB with ⟨rfl, hB⟩ | ⟨rfl, y, B', rfl, hB⟩
  · have hlk := cut_none hA hB
    rcases hop with rfl | rfl | rfl
    · rw [if_pos rfl]
      simp [spec_get.f, hplk, mDo, hlk]
    · rw [if_neg (by decide), if_pos rfl]
      simp only [spec_put.f, hplk, Option.bind_some, Bool.false_eq_true, if_false]
      rw [clone_spec hlen, Option.bind_some, insert_spec a (by simp) hlen, Option.bind_some, clone_spec hlen2, Option.bind_some, insert_spec b (by simp) hlen2, Option.bind_some, tA, dA, tA2, dA2]
      simp [mDo, hlk, cut_put hA hB]
    · rw [if_neg (by decide), if_neg (by decide), if_pos rfl]
      simp [spec_del.f, hplk, mDo, hlk]
  · have hlk := cut_look (B := B') (y := y) hA
    rcases hop with rfl | rfl | rfl
    · rw [if_pos rfl]
      simp only [spec_get.f, hplk, Option.bind_some, if_true]
      rw [if_pos (by omega), if_pos (by simp; omega)]
      simp [mDo, hlk, rd]
    · rw [if_neg (by decide), if_pos rfl]
      simp only [spec_put.f, hplk, Option.bind_some, if_true]
      simp [mDo, hlk]
    · rw [if_neg (by decide), if_neg (by decide), if_pos rfl]
      simp only [spec_del.f, hplk, Option.bind_some, if_true]
      rw [clone_spec hlen, Option.bind_some, delete_spec (by simp) hlen, Option.bind_some, clone_spec hlen2, Option.bind_some, delete_spec (by simp) hlen2, Option.bind_some, tA, tA2, ← List.drop_drop, ← List.drop_drop, dA, dA2]
      simp [mDo, hlk, cut_del hA hB]
theorem do_push (k : Nat) (ks vs : List Int) (hn : vs.length ≤ 1000000) (o1 a b : Int) : spec_Do.f k 2 ks vs 4 o1 a b = some (2, ks, a :: vs, 0, true) := by
  unfold spec_Do.f
  rw [if_neg (by decide), if_neg (by decide), if_neg (by decide), if_neg (by decide), if_pos rfl]
  unfold spec_push.f
  rw [clone_spec hn, Option.bind_some, show (0 : Int) = ((0 : Nat) : Int) from rfl, insert_spec a (Nat.zero_le _) hn]
  rfl
theorem first_spec (kd : Int) (ks vs : List Int) (hn : vs.length ≤ 1000000) (op o1 a b : Int) : spec_first.f kd ks vs op o1 a b = some (kd, ks, vs.tail, vs.headD 0, !vs.isEmpty) := by
  unfold spec_first.f
  cases vs with
  | nil => rfl
  | cons v vs =>
    rw [if_neg (by simp; omega), if_pos (by simp), if_pos (by simp; omega)]
    simp only [List.drop_succ_cons, List.drop_zero]
    rw [clone_spec (by simp at hn; omega)]
    rfl
theorem do_pop (k : Nat) (ks vs : List Int) (hn : vs.length ≤ 1000000) (o1 a b : Int) : spec_Do.f k 2 ks vs 5 o1 a b = some (2, ks, vs.tail, vs.headD 0, !vs.isEmpty) := by
  unfold spec_Do.f
  rw [if_neg (by decide), if_neg (by decide), if_neg (by decide), if_neg (by decide), if_neg (by decide), if_pos rfl]
  exact first_spec _ _ _ hn _ _ _ _
theorem do_recv (k : Nat) (ks vs : List Int) (hn : vs.length ≤ 1000000) (o1 a b : Int) : spec_Do.f k 3 ks vs 7 o1 a b = some (3, ks, vs.tail, vs.headD 0, !vs.isEmpty) := by
  unfold spec_Do.f
  rw [if_neg (by decide), if_neg (by decide), if_neg (by decide), if_neg (by decide), if_neg (by decide), if_neg (by decide), if_neg (by decide)]
  exact first_spec _ _ _ hn _ _ _ _
theorem do_send (k : Nat) (ks vs : List Int) (hn : vs.length ≤ 1000000) (o1 a b : Int) : spec_Do.f k 3 ks vs 6 o1 a b = some (3, ks, vs ++ [a], 0, true) := by
  unfold spec_Do.f
  rw [if_neg (by decide), if_neg (by decide), if_neg (by decide), if_neg (by decide), if_neg (by decide), if_neg (by decide), if_pos rfl]
  unfold spec_send.f
  rw [clone_spec hn, Option.bind_some, Option.bind_some, if_pos (by simp; omega)]
theorem do_other (k : Nat) (kd : Int) (ks vs : List Int) (op o1 a b : Int) (h : Go.Proofs.Ytmfgalcepaaolaa.GOf.ofV op = 0 ∨ ¬ Go.Proofs.Ytmfgalcepaaolaa.GOf.ofV op = kd) : spec_Do.f k kd ks vs op o1 a b = some (kd, ks, vs, 0, false) := by
  unfold spec_Do.f
  rw [if_pos h]
end Go.Proofs.Ytmfgalcepaaolaa.PureSpec
