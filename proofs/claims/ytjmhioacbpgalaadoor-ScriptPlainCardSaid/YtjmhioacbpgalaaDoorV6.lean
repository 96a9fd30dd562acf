/- Operations on abstract values, more: places in slices, slices of slices, lengths, what grows. -/
import Derived.Test.YtjmhioacbpgalaaDoorV5
namespace Go.Proofs.YtjmhioacbpgalaaDoorV
open Go Go.RowKit
set_option linter.unusedVariables false
set_option linter.unusedSimpArgs false
section
variable {P : Program} {ev : Operand → Value} {g : G} {w : World} {look : Nat → Option DObj} {base : Nat}

def opFieldAddr (P : Program) (t : TypeId) (x : D) (f : Nat) : Option Res :=
  match P.underlying t with
  | some (.struct fs) =>
    match fs[f]? with
    | some fd =>
      match tsize P fd.type with
      | some (n + 1) =>
        match x with
        | .ptr id off => some { val := .ptr id (off + fd.offset) }
        | .eaddr cs => if fd.offset ≤ cs.length then some { val := .eaddr (cs.drop fd.offset) } else none
        | _ => none
      | _ => none
    | none => none
  | _ => none
theorem opFieldAddr_sound {o : Oper} {t : TypeId} {x : Operand} {f : Nat} {d : D} {r : Res} (hop : o.op = .fieldAddr t x f) (hx : Rep g w d (ev x)) (h : opFieldAddr P t d f = some r) (H : HeapRel g w look) : Ran P ev o g w look base r := by
  unfold opFieldAddr at h
  split at h
  · rename_i fs hu
    split at h
    · rename_i fd hf
      split at h
      · rename_i n hn
        have key : ∀ b p, ev x = .pointer (some ⟨b, p, none⟩) → (execOp ev o).run P w = .ok (.value (.pointer (some ⟨b, p + fd.offset, none⟩))) w := fun b p e => by
          simp only [execOp, hop, Instr.fieldAt, Sem.run_bind, run_underlying hu, Result.andThen, hf, e, Instr.sureAddr, Sem.run_pure, fieldPlace, run_sizeOf hn]
          rw [if_neg (by omega)]
          simp [add_none]
        split at h
        · cases h
          obtain ⟨b, p, sz, h1, h2⟩ := hx
          exact .pure_value (key b _ h2) H ⟨b, p, sz, h1, by simp [Nat.add_assoc]⟩
        · split at h <;> cases h
          rename_i hle
          obtain ⟨b, p, vs, h2, h3, h4, h5⟩ := hx
          exact .pure_value (key b _ h2) H ⟨b, _, vs.drop fd.offset, rfl, h3, h4.drop _, h5.drop _⟩
        · cases h
      · cases h
    · cases h
  · cases h

def opIndexAddr (P : Program) (t : TypeId) (x y : D) : Option Res :=
  match y with
  | .v (.int _ i) =>
    match P.underlying t with
    | some (.slice e) =>
      match tsize P e with
      | some n =>
        match x with
        | .sl m xs => if m = n ∧ 0 ≤ i then (match xs[i.toNat]? with | some d => (dcells d).map fun cs => { val := .eaddr cs } | none => none) else none
        | .ref id off len m ag => if m = n ∧ 0 ≤ i ∧ i < len then some { val := .ptr id (off + i.toNat * n) } else none
        | _ => none
      | none => none
    | some (.array len e) =>
      match tsize P e with
      | some n =>
        match x with
        | .ptr id off => if 0 ≤ i ∧ i < len then some { val := .ptr id (off + i.toNat * n) } else none
        | .eaddr cs => if 0 ≤ i ∧ i < len then some { val := .eaddr (cs.drop (i.toNat * n)) } else none
        | _ => none
      | none => none
    | _ => none
  | _ => none
theorem opIndexAddr_sound {o : Oper} {t : TypeId} {x y : Operand} {d e : D} {r : Res} (hop : o.op = .indexAddr t x y) (hx : Rep g w d (ev x)) (hy : Rep g w e (ev y)) (h : opIndexAddr P t d e = some r) (H : HeapRel g w look) : Ran P ev o g w look base r := by
  unfold opIndexAddr at h
  split at h
  · rename_i k i
    have ey : ev y = .int k i := hy
    split at h
    · rename_i el hu
      split at h
      · rename_i n hn
        have key : ∀ b p len cap, ev x = .slice (some ⟨b, p, none⟩) len cap → 0 ≤ i → i < len → (execOp ev o).run P w = .ok (.value (.pointer (some ⟨b, p + i.toNat * n, none⟩))) w := fun b p len cap e h0 h1 => by
          simp only [execOp, hop, Instr.indexAt, ey, asIntOf, Sem.run_bind, Sem.run_pure, run_underlying hu, Result.andThen, e, run_sizeOf hn]
          rw [if_pos ⟨h0, h1⟩]
          simp [add_none, run_sizeOf hn]
        split at h
        · rename_i m xs
          split at h
          · rename_i hm
            obtain ⟨rfl, h0⟩ := hm
            split at h
            · rename_i d' hd
              cases hc : dcells d' with
              | none => rw [hc] at h; cases h
              | some cs =>
                rw [hc] at h; cases h
                have hlt : i.toNat < xs.length := (List.getElem?_eq_some_iff.1 hd).1
                rcases hx with ⟨b, p, cap, h1, h2, h3, h4⟩ | ⟨_, rfl⟩
                · obtain ⟨u, u1, u2, u3⟩ := h4.get hd
                  obtain ⟨u4, _⟩ := dcells_sound hc u1
                  exact .pure_value (key b p _ _ h1 h0 (by omega)) H ⟨b, _, _, rfl, h3, u3, u4⟩
                · simp at hlt
            · cases h
          · cases h
        · rename_i id off len m ag
          split at h
          · rename_i hm
            obtain ⟨rfl, h0, h1⟩ := hm
            cases h
            obtain ⟨b, p, sz, cap, q, k1, k2, k3, k4, k5⟩ := hx.resolve_right (fun h => by have := h.1; omega)
            have hq : q = p + off := k4.resolve_left (by omega)
            subst hq
            exact .pure_value (key b _ _ _ k2 h0 h1) H ⟨b, p, sz, k1, by simp [Nat.add_assoc]⟩
          · cases h
        · cases h
      · cases h
    · rename_i len el hu
      split at h
      · rename_i n hn
        have key : ∀ b p, ev x = .pointer (some ⟨b, p, none⟩) → 0 ≤ i → i < len → (execOp ev o).run P w = .ok (.value (.pointer (some ⟨b, p + i.toNat * n, none⟩))) w := fun b p e h0 h1 => by
          simp only [execOp, hop, Instr.indexAt, ey, asIntOf, Sem.run_bind, Sem.run_pure, run_underlying hu, Result.andThen, e, Instr.sureAddr, run_sizeOf hn]
          rw [if_pos ⟨h0, h1⟩]
          simp [add_none, run_sizeOf hn]
        split at h
        · split at h <;> cases h
          rename_i hi
          obtain ⟨b, p, sz, h1, h2⟩ := hx
          exact .pure_value (key b _ h2 hi.1 hi.2) H ⟨b, p, sz, h1, by simp [Nat.add_assoc]⟩
        · split at h <;> cases h
          rename_i hi
          obtain ⟨b, p, vs, h2, h3, h4, h5⟩ := hx
          exact .pure_value (key b _ h2 hi.1 hi.2) H ⟨b, _, _, rfl, h3, h4.drop _, h5.drop _⟩
        · cases h
      · cases h
    · cases h
  · cases h

/-! ### slices -/
/-- The bounds of a slice expression: nothing, or a whole number from 0 to a bound. -/
def boundD (top : Nat) (dflt : Nat) : Option D → Option Nat
  | none => some dflt
  | some (.v (.int _ i)) => if 0 ≤ i ∧ i ≤ top then some i.toNat else none
  | _ => none
def opSlice (P : Program) (t : TypeId) (x : D) (lo hi : Option D) : Option Res :=
  match P.underlying t with
  | some .string =>
    match x with
    | .v (.string s) =>
      match boundD s.size s.size hi with
      | some h => match boundD h 0 lo with
        | some l => some { val := .v (.string (s.extract l h)) }
        | none => none
      | none => none
    | _ => none
  | some (.slice e) =>
    match tsize P e with
    | some n =>
      match x with
      | .v (.slice none 0 0) =>
        match boundD 0 0 hi with
        | some h => match boundD h 0 lo with
          | some _ => some { val := .v (.slice none 0 0) }
          | none => none
        | none => none
      | .sl m xs =>
        if m = n then
          match boundD xs.length xs.length hi with
          | some h => match boundD h 0 lo with
            | some l => some { val := .sl n ((xs.take h).drop l) }
            | none => none
          | none => none
        else none
      | .ref id off len m ag =>
        if m = n then
          match boundD len len hi with
          | some h => match boundD h 0 lo with
            | some l => some { val := .ref id (off + l * n) (h - l) n ag }
            | none => none
          | none => none
        else none
      | _ => none
    | none => none
  | _ => none
theorem bounds_run {is : Bool} {len cap h l : Nat} {ρ : Operand → D} {lo hi : Option Operand} (hlo : ∀ x, lo = some x → Rep g w (ρ x) (ev x)) (hhi : ∀ x, hi = some x → Rep g w (ρ x) (ev x))
    (h1 : boundD len len (hi.map ρ) = some h) (h2 : boundD h 0 (lo.map ρ) = some l) (hc : len ≤ cap) : (Instr.sliceBounds is len cap (lo.map ev) (hi.map ev) none).run P w = .ok (l, h, cap) w ∧ h ≤ len ∧ l ≤ h := by
  have hh : h ≤ len := by
    cases hi with
    | none => cases h1; exact Nat.le_refl _
    | some x =>
      simp only [Option.map_some, boundD] at h1
      split at h1
      · cases h1; rename_i e; cases e
      · split at h1 <;> cases h1
        omega
      · cases h1
  have hl : l ≤ h := by
    cases lo with
    | none => cases h2; exact Nat.zero_le _
    | some x =>
      simp only [Option.map_some, boundD] at h2
      split at h2
      · cases h2; rename_i e; cases e
      · split at h2 <;> cases h2
        omega
      · cases h2
  refine ⟨?_, hh, hl⟩
  have e1 : ∀ c, (match hi.map ev with | some v => Instr.sliceBound v cap c | none => pure len : Sem Nat).run P w = .ok h w := by
    intro c
    cases hi with
    | none => cases h1; rfl
    | some x =>
      have hx := hhi x rfl
      simp only [Option.map_some, boundD] at h1 ⊢
      split at h1
      · rename_i e; cases e
      · rename_i k i e
        have e : ρ x = .v (.int k i) := by simpa using e
        split at h1 <;> cases h1
        rename_i hi
        rw [e] at hx
        have ex : ev x = .int k i := hx
        simp only [Instr.sliceBound, ex, asIntOf, Sem.run_bind, Sem.run_pure, Result.andThen]
        rw [if_pos ⟨hi.1, by omega⟩]; rfl
      · cases h1
  have e2 : ∀ c, (match lo.map ev with | some v => Instr.sliceBound v h c | none => pure 0 : Sem Nat).run P w = .ok l w := by
    intro c
    cases lo with
    | none => cases h2; rfl
    | some x =>
      have hx := hlo x rfl
      simp only [Option.map_some, boundD] at h2 ⊢
      split at h2
      · rename_i e; cases e
      · rename_i k i e
        have e : ρ x = .v (.int k i) := by simpa using e
        split at h2 <;> cases h2
        rename_i hi
        rw [e] at hx
        have ex : ev x = .int k i := hx
        simp only [Instr.sliceBound, ex, asIntOf, Sem.run_bind, Sem.run_pure, Result.andThen]
        rw [if_pos ⟨hi.1, by omega⟩]; rfl
      · cases h2
  simp only [Instr.sliceBounds, Sem.run_bind, Sem.run_pure, Result.andThen]
  cases hi with
  | none =>
    have h1' := e1 .sliceB
    simp only [Option.map_none, Sem.run_pure] at h1'
    injection h1' with h1'; subst h1'
    cases lo with
    | none =>
      have h2' := e2 .sliceB
      simp only [Option.map_none, Sem.run_pure] at h2'; injection h2' with h2'; subst h2'
      simp only [Option.map_none, Sem.run_bind, Sem.run_pure, Result.andThen]
    | some x =>
      have h2' := e2 .sliceB
      simp only [Option.map_some] at h2'
      simp only [Option.map_some, Option.map_none, Option.isSome_none, Bool.false_eq_true, if_false, Sem.run_bind, Sem.run_pure, Result.andThen, h2']
  | some y =>
    have h1' := e1 (if is = true then .sliceAcap else .sliceAlen)
    simp only [Option.map_some] at h1'
    cases lo with
    | none =>
      have h2' := e2 .sliceB
      simp only [Option.map_none, Sem.run_pure] at h2'; injection h2' with h2'; subst h2'
      simp only [Option.map_some, Option.map_none, Sem.run_bind, Sem.run_pure, Result.andThen, h1']
    | some x =>
      have h2' := e2 .sliceB
      simp only [Option.map_some] at h2'
      simp only [Option.map_some, Option.isSome_none, Bool.false_eq_true, if_false, Sem.run_bind, Sem.run_pure, Result.andThen, h1', h2']
theorem opSlice_sound {o : Oper} {t : TypeId} {x : Operand} {lo hi : Option Operand} {ρ : Operand → D} {r : Res} (hop : o.op = .slice t x lo hi none) (hx : Rep g w (ρ x) (ev x)) (hlo : ∀ x, lo = some x → Rep g w (ρ x) (ev x)) (hhi : ∀ x, hi = some x → Rep g w (ρ x) (ev x))
    (h : opSlice P t (ρ x) (lo.map ρ) (hi.map ρ) = some r) (H : HeapRel g w look) : Ran P ev o g w look base r := by
  generalize hd : ρ x = d at h hx
  unfold opSlice at h
  split at h
  · rename_i hu
    split at h
    · rename_i s
      split at h
      · rename_i hh h1
        split at h
        · rename_i l h2
          cases h
          have ex : ev x = .string s := hx
          obtain ⟨b1, _, _⟩ := bounds_run (P := P) (is := false) hlo hhi h1 h2 (Nat.le_refl _)
          refine .pure_value (v := .string (s.extract l hh)) ?_ H rfl
          simp only [execOp, hop, Instr.sliceAt, Option.map_none, Sem.run_bind, run_underlying hu, Result.andThen, Instr.slice, ex, Option.isSome_none, Bool.false_eq_true, if_false, b1, Sem.run_pure]
        · cases h
      · cases h
    · cases h
  · rename_i el hu
    split at h
    · rename_i n hn
      have key : ∀ a len cap hh l, ev x = .slice a len cap → (Instr.sliceBounds true len cap (lo.map ev) (hi.map ev) none).run P w = .ok (l, hh, cap) w →
          (execOp ev o).run P w = .ok (.value (.slice (if cap = l then a else a.map (·.add (l * n))) (hh - l) (cap - l))) w := by
        intro a len cap hh l e b1
        simp only [execOp, hop, Instr.sliceAt, Option.map_none, Sem.run_bind, run_underlying hu, Result.andThen, Instr.slice, e, b1, run_sizeOf hn, Sem.run_pure]
      split at h
      · split at h
        · rename_i hh h1
          split at h
          · rename_i l h2
            cases h
            obtain ⟨b1, b2, b3⟩ := bounds_run (P := P) (is := true) hlo hhi h1 h2 (Nat.le_refl _)
            have hh0 : hh = 0 := by omega
            have hl0 : l = 0 := by omega
            subst hh0; subst hl0
            exact .pure_value (v := .slice none 0 0) (by simpa using key none 0 0 0 0 hx b1) H rfl
          · cases h
        · cases h
      · rename_i m xs
        split at h
        · rename_i hm; subst hm
          split at h
          · rename_i hh h1
            split at h
            · rename_i l h2
              cases h
              rcases hx with ⟨b, p, cap, k1, k2, k3, k4⟩ | ⟨k1, rfl⟩
              · obtain ⟨b1, b2, b3⟩ := bounds_run (P := P) (is := true) hlo hhi h1 h2 k2
                refine .pure_value (key _ _ _ _ _ k1 b1) H (.inl ?_)
                have hlen : ((xs.take hh).drop l).length = hh - l := by simp; omega
                by_cases hcl : cap = l
                · rw [if_pos hcl]
                  have : (xs.take hh).drop l = [] := List.eq_nil_of_length_eq_zero (by rw [hlen]; omega)
                  refine ⟨b, p, cap - l, by rw [hlen], by rw [hlen]; omega, k3, ?_⟩
                  rw [this]; trivial
                · rw [if_neg hcl]
                  refine ⟨b, p + l * m, cap - l, by rw [hlen]; simp [add_none], by rw [hlen]; omega, k3, ?_⟩
                  exact (k4.take hh).drop l (by simp; omega)
              · obtain ⟨a, cap, k1, k2⟩ := k1
                obtain ⟨b1, b2, b3⟩ := bounds_run (P := P) (is := true) (cap := cap) hlo hhi h1 h2 (Nat.zero_le _)
                simp at b2
                have hl0 : l = 0 := by omega
                subst b2; subst hl0
                refine .pure_value (key a 0 cap 0 0 k1 b1) H (.inr ⟨⟨_, _, rfl, fun ha => ?_⟩, by simp⟩)
                split at ha
                · rename_i hc; rw [hc]
                · rename_i hc
                  cases a with
                  | none => exact absurd (k2 rfl) hc
                  | some a => cases ha
            · cases h
          · cases h
        · cases h
      · rename_i id off len m ag
        split at h
        · rename_i hm; subst hm
          split at h
          · rename_i hh h1
            split at h
            · rename_i l h2
              cases h
              rcases hx with ⟨b, p, sz, cap, q, k1, k2, k3, k4, k5⟩ | ⟨k1, a0, k2⟩
              case inr =>
                subst k1
                obtain ⟨b1, b2, b3⟩ := bounds_run (P := P) (is := true) hlo hhi h1 h2 (Nat.le_refl _)
                have hh0 : hh = 0 := by omega
                have hl0 : l = 0 := by omega
                subst hh0; subst hl0
                exact .pure_value (v := .slice a0 0 0) (by simpa using key a0 0 0 0 0 k2 b1) H (.inr ⟨by simp, a0, rfl⟩)
              obtain ⟨b1, b2, b3⟩ := bounds_run (P := P) (is := true) hlo hhi h1 h2 k3
              refine .pure_value (key _ _ _ _ _ k2 b1) H ?_
              by_cases hcl : cap = l
              · rw [if_pos hcl]
                exact .inl ⟨b, p, sz, cap - l, q, k1, rfl, by omega, .inl (by omega), by rw [hcl, Nat.sub_self, Nat.zero_mul]; omega⟩
              · rw [if_neg hcl]
                have hq : q = p + off := k4.resolve_left (by omega)
                subst hq
                refine .inl ⟨b, p, sz, cap - l, p + off + l * m, k1, by simp [add_none], by omega, .inr (by omega), ?_⟩
                have : (cap - l) * m + l * m = cap * m := by rw [← Nat.add_mul]; congr 1; omega
                omega
            · cases h
          · cases h
        · cases h
      · cases h
    · cases h
  · cases h
end
end Go.Proofs.YtjmhioacbpgalaaDoorV
