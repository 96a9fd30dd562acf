/- Regions that draw their order: whichever order, the state behind it is one. -/
import Derived.Test.YtjmhioacbpgalaaDoorVH
namespace Go.Proofs.YtjmhioacbpgalaaDoorV
open Go Go.RowKit
set_option linter.unusedVariables false
set_option linter.unusedSimpArgs false

def lookL (H : List (Option DObj)) (recs : List Rec) (L : Nat → Bool) : Nat → Option DObj := fun id =>
  if id < H.length then lookH H id else if killedB L recs 0 id = true then none else objOf recs 0 L id

/-! ### temporaries -/
theorem TLs_none {n : Nat} {L : Nat → Bool} {t : Nat} : ∀ (rs : List Rec) (k : Nat) (T : List (Nat × D)), (∀ r ∈ rs, r.dst ≠ some t) → lookT (TLs n L k T rs) t = lookT T t
  | [], k, T, _ => rfl
  | r :: rs, k, T, h => by
    simp only [TLs]
    rw [TLs_none rs (k + 1) _ fun r' hr' => h r' (List.mem_cons_of_mem _ hr')]
    have hr := h r List.mem_cons_self
    split
    · cases hd : r.dst with
      | none => rfl
      | some u =>
        simp only [putT]
        split
        · simp only [lookT]; rw [if_neg (fun e => hr (by rw [hd, e]))]
        · rfl
    · rfl
theorem TLs_one {n : Nat} {L : Nat → Bool} {t : Nat} (ht : t < n) : ∀ (rs : List Rec) (k i : Nat) (r : Rec) (T : List (Nat × D)), rs[i]? = some r → r.dst = some t → (∀ (j : Nat) (r' : Rec), rs[j]? = some r' → r'.dst = some t → j = i) →
    lookT (TLs n L k T rs) t = if L (k + i) then some r.val else lookT T t
  | [], k, i, r, T, e, _, _ => by simp at e
  | r0 :: rs, k, 0, r, T, e, hd, hu => by
    simp at e; subst e
    simp only [TLs]
    rw [TLs_none rs (k + 1) _ fun r' hr' hd' => by
      obtain ⟨j, hj⟩ := List.mem_iff_getElem?.1 hr'
      have := hu (j + 1) r' (by simpa using hj) hd'
      omega]
    rw [Nat.add_zero]
    split
    · simp [putT, hd, ht, lookT]
    · rfl
  | r0 :: rs, k, i + 1, r, T, e, hd, hu => by
    simp only [TLs]
    rw [TLs_one ht rs (k + 1) i r _ (by simpa using e) hd fun j r' hj hd' => by
      have := hu (j + 1) r' (by simpa using hj) hd'
      omega]
    rw [show k + 1 + i = k + (i + 1) by omega]
    split
    · rfl
    · split
      · cases hd0 : r0.dst with
        | none => rfl
        | some u =>
          simp only [putT]
          split
          · simp only [lookT]
            rw [if_neg fun e => by
              have := hu 0 r0 rfl (by rw [hd0, e])
              omega]
          · rfl
      · rfl

/-! ### objects -/
theorem objOf_ext {ok ok' : Nat → Bool} {id : Nat} {o : DObj} : ∀ (pre rest : List Rec) (j : Nat), (∀ m, ok m = true → ok' m = true) → objOf pre j ok id = some o → objOf (pre ++ rest) j ok' id = some o
  | [], rest, j, _, h => by cases h
  | r :: pre, rest, j, hok, h => by
    simp only [List.cons_append, objOf] at h ⊢
    split at h
    · rename_i hc
      rw [if_pos hc]
      split at h
      · rename_i hj; rw [if_pos (hok j hj)]; exact h
      · cases h
    · rename_i hc
      rw [if_neg hc]
      exact objOf_ext pre rest (j + 1) hok h
theorem ownR_ext {id j' : Nat} : ∀ (pre rest : List Rec) (j : Nat), ownR pre j id = some j' → ownR (pre ++ rest) j id = some j'
  | [], rest, j, h => by cases h
  | r :: pre, rest, j, h => by
    simp only [List.cons_append, ownR] at h ⊢
    split at h
    · rename_i hc; rw [if_pos hc]; exact h
    · rename_i hc; rw [if_neg hc]; exact ownR_ext pre rest (j + 1) h
theorem objOf_own {ok : Nat → Bool} {id : Nat} {o : DObj} : ∀ (rs : List Rec) (j : Nat), objOf rs j ok id = some o → ∃ j', ownR rs j id = some j' ∧ ok j' = true
  | [], j, h => by cases h
  | r :: rs, j, h => by
    simp only [objOf] at h
    simp only [ownR]
    split at h
    · rename_i hc
      rw [if_pos hc]
      split at h
      · rename_i hj; exact ⟨j, rfl, hj⟩
      · cases h
    · rename_i hc
      rw [if_neg hc]
      exact objOf_own rs (j + 1) h
/-- The owner of a number, where the numbers lie one behind the other. -/
theorem own_range {id i : Nat} {r : Rec} : ∀ (rs : List Rec) (k b : Nat), (∀ (m : Nat) (q : Rec), rs[m]? = some q → q.base = baseOf b (rs.take m)) → rs[i]? = some r → r.base ≤ id → id < r.base + r.news.length →
    ownR rs k id = some (k + i) ∧ ∀ ok, objOf rs k ok id = if ok (k + i) then r.news[id - r.base]? else none
  | [], k, b, _, e, _, _ => by simp at e
  | r0 :: rs, k, b, hb, e, h1, h2 => by
    have hb0 : r0.base = b := hb 0 r0 rfl
    cases i with
    | zero =>
      simp at e; subst e
      simp only [ownR, objOf]
      rw [if_pos ⟨h1, h2⟩]
      exact ⟨by simp, fun ok => by rw [if_pos ⟨h1, h2⟩, Nat.add_zero]⟩
    | succ i =>
      have e' : rs[i]? = some r := by simpa using e
      have hb' : ∀ (m : Nat) (q : Rec), rs[m]? = some q → q.base = baseOf (b + r0.news.length) (rs.take m) := fun m q hq => hb (m + 1) q (by simpa using hq)
      have hge : ∀ (x : Nat) (l : List Rec), x ≤ baseOf x l := by
        intro x l
        induction l generalizing x with
        | nil => exact Nat.le_refl _
        | cons q l ih => exact Nat.le_trans (Nat.le_add_right _ _) (ih _)
      have hrb : b + r0.news.length ≤ r.base := by rw [hb' i r e']; exact hge _ _
      obtain ⟨k1, k2⟩ := own_range rs (k + 1) (b + r0.news.length) hb' e' h1 h2
      simp only [ownR, objOf]
      rw [if_neg (by omega)]
      refine ⟨by rw [k1]; congr 1; omega, fun ok => ?_⟩
      rw [if_neg (by omega), k2 ok, show k + 1 + i = k + (i + 1) by omega]
theorem own_get {id j' : Nat} : ∀ (rs : List Rec) (k : Nat), ownR rs k id = some j' → ∃ r, k ≤ j' ∧ rs[j' - k]? = some r ∧ r.base ≤ id ∧ id < r.base + r.news.length
  | [], k, h => by cases h
  | r :: rs, k, h => by
    simp only [ownR] at h
    split at h
    · rename_i hc; cases h; exact ⟨r, Nat.le_refl _, by simp, hc.1, hc.2⟩
    · obtain ⟨q, q1, q2, q3, q4⟩ := own_get rs (k + 1) h
      refine ⟨q, by omega, ?_, q3, q4⟩
      obtain ⟨m, hm⟩ : ∃ m, j' - k = m + 1 := ⟨j' - k - 1, by omega⟩
      rw [hm, List.getElem?_cons_succ, show m = j' - (k + 1) by omega]; exact q2
theorem objOf_none {ok : Nat → Bool} {id : Nat} : ∀ (rs : List Rec) (k : Nat), ownR rs k id = none → objOf rs k ok id = none
  | [], k, h => rfl
  | r :: rs, k, h => by
    simp only [ownR] at h
    simp only [objOf]
    split at h
    · cases h
    · rename_i hc; rw [if_neg hc]; exact objOf_none rs (k + 1) h
theorem killedB_iff {L : Nat → Bool} {id : Nat} : ∀ (rs : List Rec) (k : Nat), killedB L rs k id = true ↔ ∃ (c : Nat) (r : Rec), rs[c]? = some r ∧ L (k + c) = true ∧ id ∈ r.kills
  | [], k => by simp [killedB]
  | r :: rs, k => by
    simp only [killedB, Bool.or_eq_true, Bool.and_eq_true, killedB_iff rs (k + 1)]
    constructor
    · rintro (⟨h1, h2⟩ | ⟨c, q, h1, h2, h3⟩)
      · exact ⟨0, r, rfl, h1, by simpa using h2⟩
      · exact ⟨c + 1, q, by simpa using h1, by rwa [show k + (c + 1) = k + 1 + c by omega], h3⟩
    · rintro ⟨c, q, h1, h2, h3⟩
      cases c with
      | zero => simp at h1; subst h1; exact .inl ⟨h2, by simpa using h3⟩
      | succ c => exact .inr ⟨c, q, by simpa using h1, by rwa [show k + 1 + c = k + (c + 1) by omega], h3⟩

theorem putUpd_none : ∀ (u : List (Nat × Option DObj)) (cur : Nat → Option DObj) (id : Nat), (∀ p ∈ u, p.2 = none) → putUpd cur u id = if id ∈ u.map (·.1) then none else cur id
  | [], cur, id, _ => by simp [putUpd]
  | p :: u, cur, id, h => by
    have hp := h p List.mem_cons_self
    obtain ⟨i, o⟩ := p
    cases hp
    show putUpd (fun j => if j = i then none else cur j) u id = _
    rw [putUpd_none u _ id fun q hq => h q (List.mem_cons_of_mem _ hq)]
    by_cases hm : id ∈ u.map (·.1)
    · rw [if_pos hm, if_pos (by simp only [List.map_cons, List.mem_cons]; exact .inr hm)]
    · rw [if_neg hm]
      by_cases hi : id = i
      · rw [if_pos hi, if_pos (by simp [hi])]
      · rw [if_neg hi, if_neg (by simp only [List.map_cons, List.mem_cons, not_or]; exact ⟨hi, hm⟩)]

/-! ### the static check -/
def getP (PL : List (List Nat)) (i : Nat) : List Nat := match PL[i]? with | some p => p | none => []
def getR (RL : List (Option Nat)) (i : Nat) : Option Nat := match RL[i]? with | some p => p | none => none
def pairOk (ops : Array Oper) (PL : List (List Nat)) (x y : Oper) (i j : Nat) : Bool :=
  ((getP PL j).contains i || x.apart ops y) && (match x.dst, y.dst with | some a, some b => !(a == b) | _, _ => true)
def drawOk (ops : List Oper) (PL : List (List Nat)) (n k : Nat) : Bool :=
  (ops.zipIdx.all fun p => (immOf p.1).all (fun j => Nat.blt j p.2) && (getP PL p.2).all (fun j => (immOf p.1).contains j || (immOf p.1).any fun m => (getP PL m).contains j) &&
    (if p.2 < k then (match p.1.dst with | some t => Nat.blt t n | none => true) && (ops.zipIdx.all fun q => !(decide (q.2 < p.2)) || pairOk ops.toArray PL q.1 p.1 q.2 p.2)
     else (List.range p.2).all fun j => (getP PL p.2).contains j)) && Nat.ble k ops.length

theorem drawOk_spec {ops : List Oper} {PL : List (List Nat)} {n k : Nat} (h : drawOk ops PL n k = true) :
    k ≤ ops.length ∧ ∀ (i : Nat) (o : Oper), ops[i]? = some o → (∀ j ∈ immOf o, j < i) ∧ (∀ j ∈ getP PL i, j ∈ immOf o ∨ ∃ m ∈ immOf o, j ∈ getP PL m) ∧
      (i < k → (∀ t, o.dst = some t → t < n) ∧ ∀ (j : Nat) (x : Oper), ops[j]? = some x → j < i → pairOk ops.toArray PL x o j i = true) ∧
      (k ≤ i → ∀ j, j < i → j ∈ getP PL i) := by
  unfold drawOk at h
  simp only [Bool.and_eq_true, List.all_eq_true] at h
  obtain ⟨h, hk⟩ := h
  refine ⟨by simpa using hk, fun i o ho => ?_⟩
  have hm : (o, i) ∈ ops.zipIdx := by
    rw [List.mem_zipIdx_iff_getElem?]; exact ho
  obtain ⟨⟨h1, h2⟩, h3⟩ := h _ hm
  refine ⟨fun j hj => by simpa using h1 j hj, fun j hj => ?_, fun hik => ?_, fun hki j hj => ?_⟩
  · have := h2 j hj
    simp only [Bool.or_eq_true, List.any_eq_true] at this
    rcases this with this | ⟨m, hm, this⟩
    · exact .inl (by simpa using this)
    · exact .inr ⟨m, hm, by simpa using this⟩
  · rw [if_pos hik] at h3
    simp only [Bool.and_eq_true, List.all_eq_true] at h3
    refine ⟨fun t ht => ?_, fun j x hx hji => ?_⟩
    · have := h3.1
      simp only [ht] at this
      simpa using this
    · have hmx : (x, j) ∈ ops.zipIdx := by rw [List.mem_zipIdx_iff_getElem?]; exact hx
      have := h3.2 _ hmx
      simp only [Bool.or_eq_true] at this
      rcases this with this | this
      · simp only [Bool.not_eq_true', decide_eq_false_iff_not] at this; exact absurd hji this
      · exact this
  · rw [if_neg (by omega)] at h3
    simp only [List.all_eq_true] at h3
    simpa using h3 j (by simpa using hj)
end Go.Proofs.YtjmhioacbpgalaaDoorV
