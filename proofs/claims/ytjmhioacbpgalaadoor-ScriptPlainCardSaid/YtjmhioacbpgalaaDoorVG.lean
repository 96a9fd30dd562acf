/- Regions that draw their order: operations that only read, or make what is new, in whichever order; what writes stands behind them all. First: an operation under more objects, and under other operands. -/
import Derived.Test.YtjmhioacbpgalaaDoorVF
namespace Go.Proofs.YtjmhioacbpgalaaDoorV
open Go Go.RowKit
set_option linter.unusedVariables false
set_option linter.unusedSimpArgs false

section
variable {look look' : Nat → Option DObj} (hlk : ∀ id o, look id = some o → look' id = some o)
include hlk
theorem rowAt_mono {d : D} {cs : List D} (h : rowAt look d = some cs) : rowAt look' d = some cs := by
  unfold rowAt at *
  split at h
  · split at h
    · rename_i hl; rw [hlk _ _ hl]; exact h
    · cases h
  · exact h
  · cases h
theorem srcD_mono {n : Nat} {d : D} {r : Nat × List D} (h : srcD look n d = some r) : srcD look' n d = some r := by
  unfold srcD at *
  split at h
  · exact h
  · exact h
  · split at h
    · rename_i hl; simp only [hlk _ _ hl]; exact h
    · cases h
  · cases h
theorem mapD_mono {d : D} {r : List (Value × D)} (h : mapD look d = some r) : mapD look' d = some r := by
  unfold mapD at *
  split at h
  · exact h
  · split at h
    · rename_i hl; simp only [hlk _ _ hl]; exact h
    · cases h
  · cases h
theorem closeL_mono : ∀ (k : Nat) (l : List Nat) (id : Nat), id ∈ closeL look k l → ∀ l', (∀ x ∈ l, x ∈ l') → id ∈ closeL look' k l'
  | 0, l, id, h, l', hl => hl id h
  | k + 1, [], id, h, l', hl => by simp [closeL] at h
  | k + 1, a :: l, id, h, l', hl => by
    cases l' with
    | nil => exact absurd (hl a List.mem_cons_self) (by simp)
    | cons b l' =>
      simp only [closeL, List.mem_append] at h ⊢
      rcases h with h | h
      · exact .inl (hl id h)
      · refine .inr (closeL_mono k _ id h _ fun x hx => ?_)
        simp only [List.mem_flatMap] at hx ⊢
        obtain ⟨y, hy, hx⟩ := hx
        refine ⟨y, hl y hy, ?_⟩
        split at hx
        · rename_i cs s hc; rw [hlk _ _ hc]; exact hx
        · simp at hx
end
section
variable {C C' : Nat → Option (List D)} {κ : Nat → Bool}
mutual
theorem lend_mono (hC : ∀ id cs, C id = some cs → C' id = some cs) : ∀ (d d' : D), lend C κ d = some d' → lend C' κ d = some d'
  | .any, d', h => h
  | .v x, d', h => h
  | .sl n xs, d', h => by
    simp only [lend] at h ⊢; obtain ⟨_, h1, h2⟩ := opt_map h; rw [lendAll_mono hC _ _ h1]; exact congrArg some h2
  | .agg cs, d', h => by
    simp only [lend] at h ⊢; obtain ⟨_, h1, h2⟩ := opt_map h; rw [lendAll_mono hC _ _ h1]; exact congrArg some h2
  | .eaddr cs, d', h => by
    simp only [lend] at h ⊢; obtain ⟨_, h1, h2⟩ := opt_map h; rw [lendAll_mono hC _ _ h1]; exact congrArg some h2
  | .ref id off len n ag, d', h => by
    simp only [lend] at h ⊢
    split at h
    · rename_i hk; rw [if_pos hk]; exact h
    · rename_i hk
      rw [if_neg hk]
      split at h
      · rename_i cs hc; rw [hC _ _ hc]; exact h
      · cases h
  | .ptr id off, d', h => by
    simp only [lend] at h ⊢
    split at h
    · rename_i hk; rw [if_pos hk]; exact h
    · rename_i hk
      rw [if_neg hk]
      split at h
      · rename_i cs hc; rw [hC _ _ hc]; exact h
      · cases h
  | .map id, d', h => h
  | .clo c a b, d', h => by
    simp only [lend] at h ⊢
    obtain ⟨_, h1, h⟩ := opt_bind h
    obtain ⟨_, h2, h3⟩ := opt_map h
    rw [lendAll_mono hC _ _ h1, lendAll_mono hC _ _ h2]; exact congrArg some h3
  | .tup xs, d', h => by
    simp only [lend] at h ⊢; obtain ⟨_, h1, h2⟩ := opt_map h; rw [lendAll_mono hC _ _ h1]; exact congrArg some h2
theorem lendAll_mono (hC : ∀ id cs, C id = some cs → C' id = some cs) : ∀ (ds ds' : List D), lendAll C κ ds = some ds' → lendAll C' κ ds = some ds'
  | [], ds', h => h
  | d :: ds, ds', h => by
    simp only [lendAll] at h ⊢
    obtain ⟨_, h1, h⟩ := opt_bind h
    obtain ⟨_, h2, h3⟩ := opt_map h
    rw [lend_mono hC _ _ h1, lendAll_mono hC _ _ h2]; exact congrArg some h3
end
end
theorem lentC_mono {look look' : Nat → Option DObj} {al al' : Nat → Bool} (hlk : ∀ id o, look id = some o → look' id = some o) (hal : ∀ id, al id = true → al' id = true) : ∀ (k id : Nat) (cs : List D), lentC look al k id = some cs → lentC look' al' k id = some cs
  | 0, id, cs, h => h
  | k + 1, id, cs, h => by
    simp only [lentC] at h ⊢
    split at h
    · rename_i ha
      rw [if_pos (hal id ha)]
      split at h
      · rename_i cs' s hl
        rw [hlk _ _ hl]
        exact lendAll_mono (fun i c hc => lentC_mono hlk hal k i c hc) _ _ h
      · cases h
    · cases h
theorem opCall_mono {E : Env} {look look' : Nat → Option DObj} (hlk : ∀ id o, look id = some o → look' id = some o) {base : Nat} {f : FuncId} {args : List D} {r : Res} (h : opCall E look base f args = some r) (hu : r.upd = []) : opCall E look' base f args = some r := by
  unfold opCall at h ⊢
  split at h
  · rename_i hw
    rw [if_pos hw]
    obtain ⟨ids, oi, args', d, oo, news, d', oo', news', h1, h2, h3, h4, h5, h6, h7, h8, h9, rfl⟩ := opCallW_spec h
    have hid : ids = [] := by
      have : (ids.zip oo').length = 0 := by rw [show ids.zip oo' = [] from hu]; rfl
      have hl1 : oo'.length = oo.length := renOpts_length h8
      have hl2 : oi.length = ids.length := presObjs_length h3
      rw [List.length_zip, hl1, h6, hl2] at this
      exact List.length_eq_zero_iff.1 (by omega)
    rw [hid] at h1
    have hr : refsAll args = [] := by
      have := (dedup_nil _ _ h1).2
      cases hx : refsAll args with
      | nil => rfl
      | cons a l => rw [hx] at this; simp [closeL] at this
    unfold opCallW at h ⊢
    have e : ∀ lk : Nat → Option DObj, closeL lk 6 (refsAll args) = [] := fun lk => by rw [hr]; rfl
    rw [e] at h ⊢
    exact h
  rename_i hw
  rw [if_neg hw]
  unfold opCallR at h ⊢
  dsimp only at h ⊢
  split at h
  · cases h
  · rename_i args' hargs
    have hargs' : lendAll (lentC look' (fun i => (closeL look' 6 (refsAll args)).contains i) 6) (fun _ => false) args = some args' :=
      lendAll_mono (fun i c hc => lentC_mono hlk (fun id hid => by
        have : id ∈ closeL look 6 (refsAll args) := by simpa using hid
        simpa using closeL_mono hlk 6 _ id this _ (fun _ hx => hx)) 6 i c hc) _ _ hargs
    rw [hargs']
    dsimp only
    split at h
    · cases h
    · rename_i d objs hcall
      split at h
      · rename_i d' objs' h1 h2
        cases h
        dsimp only at hu
        split at hu
        · rename_i hc
          have : ((d.flat && objs.all (·.flat)) || (closeL look' 6 (refsAll args)).isEmpty) = true := by
            simp only [Bool.or_eq_true, List.isEmpty_iff] at hc ⊢
            refine hc.imp id fun hc => ?_
            cases hr : refsAll args with
            | nil => rfl
            | cons a l => rw [hr] at hc; simp [closeL] at hc
          rw [if_pos this, if_pos hc]
        · rename_i hc
          simp only [Bool.or_eq_true, List.isEmpty_iff, not_or] at hc
          unfold shutU at hu
          exact absurd (by simpa using hu) hc.2
      · cases h

def isAppend : Op → Bool
  | .call c => match c.callee with | .builtin .append => true | _ => false
  | _ => false
/-- An operation that writes nothing does the same where there are more objects. -/
theorem coreD_mono {E : Env} {ρ : Operand → D} {look look' : Nat → Option DObj} (hlk : ∀ id o, look id = some o → look' id = some o) {base : Nat} {op : Op} {r : Res} (h : coreD E ρ look base op = some r) (hu : r.upd = [] ∨ isAppend op = true) : coreD E ρ look' base op = some r := by
  unfold coreD at h ⊢
  split at h
  case h_8 =>
    unfold opLoad at h ⊢
    split at h
    · rename_i cs hc; rw [rowAt_mono hlk hc]; exact h
    · cases h
  case h_9 =>
    have hu := hu.resolve_right (by simp [isAppend])
    unfold opStore at h
    split at h
    · split at h
      · split at h
        · split at h
          · cases h; simp at hu
          · cases h
        · cases h
      · cases h
    · cases h
  case h_13 =>
    unfold opConvert at h ⊢
    split at h
    · exact h
    · split at h
      · rename_i h1 h2; simp only [h1, srcD_mono hlk h2]; exact h
      · cases h
    · exact h
    · cases h
  case h_22 =>
    unfold opLookup at h ⊢
    split at h
    · split at h
      · rename_i h1 h2 h3 h4; simp only [h1, h2, mapD_mono hlk h3, h4]; exact h
      · cases h
    · cases h
  case h_23 =>
    have hu := hu.resolve_right (by simp [isAppend])
    unfold opMapUpdate at h
    split at h
    · split at h
      · split at h
        · split at h
          · cases h; simp at hu
          · cases h; simp at hu
          · cases h
        · cases h
      · cases h
    · cases h
  case h_24 =>
    have hu := hu.resolve_right (by simp [isAppend])
    unfold opMapUpdate at h
    split at h
    · split at h
      · split at h
        · split at h
          · cases h; simp at hu
          · cases h; simp at hu
          · cases h
        · cases h
      · cases h
    · cases h
  case h_26 =>
    unfold opNext at h ⊢
    split at h
    · split at h
      · rename_i hl; simp only [hlk _ _ hl]; exact h
      · cases h
    · cases h
  case h_28 c =>
    unfold coreCall at h ⊢
    split at h
    · split at h
      · unfold opAppend at h ⊢
        split at h
        · split at h
          · split at h
            · rename_i hc
              rw [if_pos hc]
              split at h
              · rename_i k cs hs
                rw [srcD_mono hlk hs]
                dsimp only
                split at h
                · exact h
                · split at h
                  · rename_i hl; simp only [hlk _ _ hl]; exact h
                  · cases h
                · cases h
              · cases h
            · cases h
          · cases h
        · cases h
      · cases h
    · split at h
      · unfold opLen at h ⊢
        split at h
        · exact h
        · exact h
        · exact h
        · exact h
        · split at h
          · rename_i h1 h2; simp only [h1, hlk _ _ h2]; exact h
          · cases h
        · exact h
        · cases h
      · cases h
    · exact h
    · exact h
    · rename_i f hcal
      have hu := hu.resolve_right (by simp [isAppend, hcal])
      split at h
      · split at h
        · rename_i hz; rw [if_pos hz]; exact opCall_mono hlk h hu
        · cases h
      · exact opCall_mono hlk h hu
      · cases h
    · cases h
  all_goals exact h
end Go.Proofs.YtjmhioacbpgalaaDoorV
