/- Abstract values under other numbers; values lent to a call that only reads them. -/
import Derived.Test.YtjmhioacbpgalaaDoorVA
namespace Go.Proofs.YtjmhioacbpgalaaDoorV
open Go Go.RowKit
set_option linter.unusedVariables false
set_option linter.unusedSimpArgs false

/-! ### other numbers -/
mutual
def D.ren (f : Nat → Option Nat) : D → Option D
  | .any => some .any
  | .v x => some (.v x)
  | .sl n xs => (renAll f xs).map (.sl n)
  | .agg cs => (renAll f cs).map .agg
  | .eaddr cs => (renAll f cs).map .eaddr
  | .ref id off len n ag => (f id).map fun i => .ref i off len n ag
  | .ptr id off => (f id).map fun i => .ptr i off
  | .map id => (f id).map fun i => .map i
  | .clo c a b => (renAll f a).bind fun a' => (renAll f b).map fun b' => .clo c a' b'
  | .tup xs => (renAll f xs).map .tup
def renAll (f : Nat → Option Nat) : List D → Option (List D)
  | [] => some []
  | d :: ds => (d.ren f).bind fun d' => (renAll f ds).map fun ds' => d' :: ds'
end
def DObj.ren (f : Nat → Option Nat) : DObj → Option DObj
  | .cells cs s => (renAll f cs).map fun cs' => .cells cs' s
  | .map es => (renAll f (es.map (·.2))).map fun ds => .map ((es.map (·.1)).zip ds)
  | .siter s p => some (.siter s p)

theorem opt_map {α β : Type} {o : Option α} {f : α → β} {b : β} (h : o.map f = some b) : ∃ a, o = some a ∧ f a = b := by
  cases o with
  | none => cases h
  | some a => exact ⟨a, rfl, Option.some.inj h⟩
theorem opt_bind {α β : Type} {o : Option α} {f : α → Option β} {b : β} (h : o.bind f = some b) : ∃ a, o = some a ∧ f a = some b := by
  cases o with
  | none => cases h
  | some a => exact ⟨a, rfl, h⟩

section
variable {g g' : G} {w : World} {f : Nat → Option Nat}
theorem renAll_length : ∀ {ds ds' : List D}, renAll f ds = some ds' → ds'.length = ds.length
  | [], _, h => by simp only [renAll] at h; cases h; rfl
  | d :: ds, _, h => by
    simp only [renAll] at h
    obtain ⟨d', h1, h⟩ := opt_bind h
    obtain ⟨ds', h2, rfl⟩ := opt_map h
    simp [renAll_length h2]
mutual
theorem Rep.ren (hm : ∀ i j x, f i = some j → g.m i = some x → g'.m j = some x) (hF : ∀ b, g.F b → g'.F b) : ∀ (d d' : D) (y : Value), d.ren f = some d' → Rep g w d y → Rep g' w d' y
  | .any, d', y, h, r => by cases h; trivial
  | .v x, d', y, h, r => by cases h; exact r
  | .sl n xs, d', y, h, r => by
    simp only [D.ren] at h
    obtain ⟨xs', h1, rfl⟩ := opt_map h
    have hl := renAll_length h1
    rcases r with ⟨b, o, cap, r1, r2, r3, r4⟩ | ⟨r1, rfl⟩
    · exact .inl ⟨b, o, cap, by rw [hl]; exact r1, by rw [hl]; exact r2, hF b r3, RepRows.ren hm hF _ _ _ h1 r4⟩
    · simp only [renAll] at h1; cases h1; exact .inr ⟨r1, rfl⟩
  | .agg cs, d', y, h, ⟨vs, r1, r2⟩ => by
    simp only [D.ren] at h
    obtain ⟨xs', h1, rfl⟩ := opt_map h
    exact ⟨vs, r1, RepAll.ren hm hF _ _ _ h1 r2⟩
  | .eaddr cs, d', y, h, ⟨b, o, vs, r1, r2, r3, r4⟩ => by
    simp only [D.ren] at h
    obtain ⟨xs', h1, rfl⟩ := opt_map h
    exact ⟨b, o, vs, r1, hF b r2, r3, RepAll.ren hm hF _ _ _ h1 r4⟩
  | .ref id off len n ag, d', y, h, .inl ⟨b, o, sz, cap, p, r1, r⟩ => by
    simp only [D.ren] at h
    obtain ⟨i, h1, rfl⟩ := opt_map h
    exact .inl ⟨b, o, sz, cap, p, hm _ _ _ h1 r1, r⟩
  | .ref id off len n ag, d', y, h, .inr r => by
    simp only [D.ren] at h
    obtain ⟨i, h1, rfl⟩ := opt_map h
    exact .inr r
  | .ptr id off, d', y, h, ⟨b, o, sz, r1, r⟩ => by
    simp only [D.ren] at h
    obtain ⟨i, h1, rfl⟩ := opt_map h
    exact ⟨b, o, sz, hm _ _ _ h1 r1, r⟩
  | .map id, d', y, h, ⟨b, o, sz, r1, r⟩ => by
    simp only [D.ren] at h
    obtain ⟨i, h1, rfl⟩ := opt_map h
    exact ⟨b, o, sz, hm _ _ _ h1 r1, r⟩
  | .clo c as bs, d', y, h, ⟨vf, vc, r1, r2, r3⟩ => by
    simp only [D.ren] at h
    obtain ⟨a', h1, h⟩ := opt_bind h
    obtain ⟨b', h2, rfl⟩ := opt_map h
    exact ⟨vf, vc, r1, RepAll.ren hm hF _ _ _ h1 r2, RepAll.ren hm hF _ _ _ h2 r3⟩
  | .tup xs, d', y, h, ⟨vs, r1, r2⟩ => by
    simp only [D.ren] at h
    obtain ⟨xs', h1, rfl⟩ := opt_map h
    exact ⟨vs, r1, RepAll.ren hm hF _ _ _ h1 r2⟩
theorem RepAll.ren (hm : ∀ i j x, f i = some j → g.m i = some x → g'.m j = some x) (hF : ∀ b, g.F b → g'.F b) : ∀ (ds ds' : List D) (vs : List Value), renAll f ds = some ds' → RepAll g w ds vs → RepAll g' w ds' vs
  | [], ds', vs, h, r => by simp only [renAll] at h; cases h; exact r
  | d :: ds, _, _, h, ⟨y, ys, r1, r2, r3⟩ => by
    simp only [renAll] at h
    obtain ⟨d', h1, h⟩ := opt_bind h
    obtain ⟨ds', h2, rfl⟩ := opt_map h
    exact ⟨y, ys, r1, Rep.ren hm hF _ _ _ h1 r2, RepAll.ren hm hF _ _ _ h2 r3⟩
theorem RepRows.ren (hm : ∀ i j x, f i = some j → g.m i = some x → g'.m j = some x) (hF : ∀ b, g.F b → g'.F b) {b n : Nat} : ∀ (xs xs' : List D) (o : Nat), renAll f xs = some xs' → RepRows g w b n xs o → RepRows g' w b n xs' o
  | [], _, o, h, r => by simp only [renAll] at h; cases h; trivial
  | x :: xs, _, o, h, ⟨⟨y, r1, r2, r3⟩, r4⟩ => by
    simp only [renAll] at h
    obtain ⟨d', h1, h⟩ := opt_bind h
    obtain ⟨ds', h2, rfl⟩ := opt_map h
    exact ⟨⟨y, Rep.ren hm hF _ _ _ h1 r1, r2, r3⟩, RepRows.ren hm hF _ _ _ h2 r4⟩
end
end

/-! ### lent -/
def rowsD (ag : Bool) (n : Nat) : Nat → List D → List D
  | 0, _ => []
  | k + 1, cs => (if ag then .agg (cs.take n) else cs.headD .any) :: rowsD ag n k (cs.drop n)
mutual
def lend (C : Nat → Option (List D)) (κ : Nat → Bool) : D → Option D
  | .any => some .any
  | .v x => some (.v x)
  | .sl n xs => (lendAll C κ xs).map (.sl n)
  | .agg cs => (lendAll C κ cs).map .agg
  | .eaddr cs => (lendAll C κ cs).map .eaddr
  | .ref id off len n ag =>
    if κ id then some (.ref id off len n ag) else
    match C id with
    | some cs => if off + len * n ≤ cs.length ∧ 0 < n ∧ (ag = true ∨ n = 1) then some (.sl n (rowsD ag n len (cs.drop off))) else none
    | none => none
  | .ptr id off =>
    if κ id then some (.ptr id off) else
    match C id with
    | some cs => some (.eaddr (cs.drop off))
    | none => none
  | .map id => if κ id then some (.map id) else none
  | .clo c a b => (lendAll C κ a).bind fun a' => (lendAll C κ b).map fun b' => .clo c a' b'
  | .tup xs => (lendAll C κ xs).map .tup
def lendAll (C : Nat → Option (List D)) (κ : Nat → Bool) : List D → Option (List D)
  | [] => some []
  | d :: ds => (lend C κ d).bind fun d' => (lendAll C κ ds).map fun ds' => d' :: ds'
end
/-- The cells of objects, lent, to some depth; of some objects alone. -/
def lentC (look : Nat → Option DObj) (al : Nat → Bool) : Nat → Nat → Option (List D)
  | 0, _ => none
  | k + 1, id => if al id then (match look id with | some (.cells cs _) => lendAll (lentC look al k) (fun _ => false) cs | _ => none) else none

theorem lendAll_length {C : Nat → Option (List D)} {κ : Nat → Bool} : ∀ {ds ds' : List D}, lendAll C κ ds = some ds' → ds'.length = ds.length
  | [], _, h => by simp only [lendAll] at h; cases h; rfl
  | d :: ds, _, h => by
    simp only [lendAll] at h
    obtain ⟨d', h1, h⟩ := opt_bind h
    obtain ⟨ds', h2, rfl⟩ := opt_map h
    simp [lendAll_length h2]
theorem lend_cell {C : Nat → Option (List D)} {κ : Nat → Bool} {d d' : D} (h : lend C κ d = some d') (hc : d.cell = true) : d'.cell = true := by
  cases d with
  | any => cases hc
  | v x => simp only [lend] at h; cases h; exact hc
  | sl n xs => simp only [lend] at h; obtain ⟨_, _, rfl⟩ := opt_map h; rfl
  | agg cs => cases hc
  | eaddr cs => simp only [lend] at h; obtain ⟨_, _, rfl⟩ := opt_map h; rfl
  | ref id off len n ag =>
    simp only [lend] at h
    split at h
    · cases h; rfl
    · split at h
      · split at h
        · cases h; rfl
        · cases h
      · cases h
  | ptr id off =>
    simp only [lend] at h
    split at h
    · cases h; rfl
    · split at h <;> cases h; rfl
  | map id => simp only [lend] at h; split at h <;> cases h; rfl
  | clo c a b => simp only [lend] at h; obtain ⟨_, _, h⟩ := opt_bind h; obtain ⟨_, _, rfl⟩ := opt_map h; rfl
  | tup xs => cases hc
theorem lendAll_cell {C : Nat → Option (List D)} {κ : Nat → Bool} : ∀ {ds ds' : List D}, lendAll C κ ds = some ds' → ds.all (·.cell) = true → ds'.all (·.cell) = true
  | [], _, h, _ => by simp only [lendAll] at h; cases h; rfl
  | d :: ds, _, h, hc => by
    simp only [lendAll] at h
    obtain ⟨d', h1, h⟩ := opt_bind h
    obtain ⟨ds', h2, rfl⟩ := opt_map h
    simp only [List.all_cons, Bool.and_eq_true] at hc ⊢
    exact ⟨lend_cell h1 hc.1, lendAll_cell h2 hc.2⟩

section
variable {g g' : G} {w : World} {C : Nat → Option (List D)} {κ : Nat → Bool}
theorem rows_rep {b n : Nat} {ag : Bool} (hn : 0 < n) (hag : ag = true ∨ n = 1) : ∀ (k : Nat) (cs : List D) (vs : List Value) (o : Nat), At w b o vs → RepAll g w cs vs → cs.all (·.cell) = true → k * n ≤ cs.length → RepRows g w b n (rowsD ag n k cs) o
  | 0, cs, vs, o, _, _, _, _ => trivial
  | k + 1, cs, vs, o, ha, hr, hc, hl => by
    have hl' : n + k * n ≤ cs.length := by rw [Nat.add_mul, Nat.one_mul, Nat.add_comm] at hl; exact hl
    refine ⟨?_, rows_rep hn hag k (cs.drop n) (vs.drop n) (o + n) (ha.drop n) (hr.drop n) (by rw [List.all_eq_true] at hc ⊢; exact fun x hx => hc x (List.mem_of_mem_drop hx)) (by simp; omega)⟩
    cases ag with
    | true =>
      refine ⟨.agg (vs.take n).toArray, ⟨vs.take n, rfl, hr.take n⟩, ?_, ?_⟩
      · show (vs.take n).toArray.size = n
        simp [hr.length]; omega
      · show At w b o (vs.take n).toArray.toList
        simpa using ha.take n
    | false =>
      have hn1 : n = 1 := hag.resolve_left (by simp)
      subst hn1
      cases cs with
      | nil => simp at hl
      | cons c cs =>
        obtain ⟨y, ys, rfl, r1, r2⟩ := hr
        simp only [List.all_cons, Bool.and_eq_true] at hc
        have hne := (D.cell_ne hc.1 r1).1
        have hy : y.cells = #[y] := by cases y <;> first | rfl | exact absurd rfl (hne _)
        refine ⟨y, r1, by rw [hy]; rfl, ?_⟩
        rw [hy]
        simpa using ha.take 1
mutual
theorem Rep.lend (hF : ∀ b, g.F b → g'.F b) (hκ : ∀ id x, κ id = true → g.m id = some x → g'.m id = some x) (hC : ∀ id cs, C id = some cs → ∀ x, g.m id = some x → ∃ b o sz vs, g.m id = some (b, o, sz) ∧ g'.F b ∧ At w b o vs ∧ RepAll g' w cs vs ∧ cs.all (·.cell) = true) :
    ∀ (d d' : D) (y : Value), lend C κ d = some d' → Rep g w d y → Rep g' w d' y
  | .any, d', y, h, r => by simp only [YtjmhioacbpgalaaDoorV.lend] at h; cases h; trivial
  | .v x, d', y, h, r => by simp only [YtjmhioacbpgalaaDoorV.lend] at h; cases h; exact r
  | .sl n xs, d', y, h, r => by
    simp only [YtjmhioacbpgalaaDoorV.lend] at h
    obtain ⟨xs', h1, rfl⟩ := opt_map h
    have hl := lendAll_length h1
    rcases r with ⟨b, o, cap, r1, r2, r3, r4⟩ | ⟨r1, rfl⟩
    · exact .inl ⟨b, o, cap, by rw [hl]; exact r1, by rw [hl]; exact r2, hF b r3, RepRows.lend hF hκ hC _ _ _ h1 r4⟩
    · simp only [YtjmhioacbpgalaaDoorV.lendAll] at h1; cases h1; exact .inr ⟨r1, rfl⟩
  | .agg cs, d', y, h, ⟨vs, r1, r2⟩ => by
    simp only [YtjmhioacbpgalaaDoorV.lend] at h
    obtain ⟨xs', h1, rfl⟩ := opt_map h
    exact ⟨vs, r1, RepAll.lend hF hκ hC _ _ _ h1 r2⟩
  | .eaddr cs, d', y, h, ⟨b, o, vs, r1, r2, r3, r4⟩ => by
    simp only [YtjmhioacbpgalaaDoorV.lend] at h
    obtain ⟨xs', h1, rfl⟩ := opt_map h
    exact ⟨b, o, vs, r1, hF b r2, r3, RepAll.lend hF hκ hC _ _ _ h1 r4⟩
  | .ref id off len n ag, d', y, h, .inr ⟨r1, r2⟩ => by
    simp only [YtjmhioacbpgalaaDoorV.lend] at h
    split at h
    · cases h; exact .inr ⟨r1, r2⟩
    split at h
    · split at h
      · cases h; subst r1; obtain ⟨a0, r2⟩ := r2; exact .inr ⟨⟨a0, 0, r2, fun _ => rfl⟩, rfl⟩
      · cases h
    · cases h
  | .ref id off len n ag, d', y, h, .inl ⟨b, o, sz, cap, p, r1, rv, r2, r3, r4⟩ => by
    simp only [YtjmhioacbpgalaaDoorV.lend] at h
    split at h
    · rename_i hk; cases h; exact .inl ⟨b, o, sz, cap, p, hκ _ _ hk r1, rv, r2, r3, r4⟩
    split at h
    · rename_i cs hcs
      split at h
      · rename_i hc
        obtain ⟨c1, c2, c3⟩ := hc
        cases h
        obtain ⟨b', o', sz', vs, k1, k2, k3, k4, k5⟩ := hC id cs hcs _ r1
        rw [r1] at k1; cases k1
        have hrl : ∀ k cs, (rowsD ag n k cs).length = k := by
          intro k
          induction k with
          | zero => intro cs; rfl
          | succ k ih => intro cs; simp [rowsD, ih]
        refine .inl ⟨b, p, cap, by rw [hrl]; exact rv, by rw [hrl]; exact r2, k2, ?_⟩
        rcases r3 with r3 | r3
        · have : len = 0 := by omega
          subst this; trivial
        · subst r3
          exact rows_rep c2 c3 len _ _ _ (k3.drop off) (k4.drop off) (by rw [List.all_eq_true] at k5 ⊢; exact fun x hx => k5 x (List.mem_of_mem_drop hx)) (by simp; omega)
      · cases h
    · cases h
  | .ptr id off, d', y, h, ⟨b, o, sz, r1, r⟩ => by
    simp only [YtjmhioacbpgalaaDoorV.lend] at h
    split at h
    · rename_i hk; cases h; exact ⟨b, o, sz, hκ _ _ hk r1, r⟩
    split at h
    · rename_i cs hcs
      cases h
      obtain ⟨b', o', sz', vs, k1, k2, k3, k4, k5⟩ := hC id cs hcs _ r1
      rw [r1] at k1; cases k1
      exact ⟨b, o + off, vs.drop off, r, k2, k3.drop off, k4.drop off⟩
    · cases h
  | .map id, d', y, h, ⟨b, o, sz, r1, r⟩ => by
    simp only [YtjmhioacbpgalaaDoorV.lend] at h
    split at h <;> cases h
    rename_i hk; exact ⟨b, o, sz, hκ _ _ hk r1, r⟩
  | .clo c as bs, d', y, h, ⟨vf, vc, r1, r2, r3⟩ => by
    simp only [YtjmhioacbpgalaaDoorV.lend] at h
    obtain ⟨a', h1, h⟩ := opt_bind h
    obtain ⟨b', h2, rfl⟩ := opt_map h
    exact ⟨vf, vc, r1, RepAll.lend hF hκ hC _ _ _ h1 r2, RepAll.lend hF hκ hC _ _ _ h2 r3⟩
  | .tup xs, d', y, h, ⟨vs, r1, r2⟩ => by
    simp only [YtjmhioacbpgalaaDoorV.lend] at h
    obtain ⟨xs', h1, rfl⟩ := opt_map h
    exact ⟨vs, r1, RepAll.lend hF hκ hC _ _ _ h1 r2⟩
theorem RepAll.lend (hF : ∀ b, g.F b → g'.F b) (hκ : ∀ id x, κ id = true → g.m id = some x → g'.m id = some x) (hC : ∀ id cs, C id = some cs → ∀ x, g.m id = some x → ∃ b o sz vs, g.m id = some (b, o, sz) ∧ g'.F b ∧ At w b o vs ∧ RepAll g' w cs vs ∧ cs.all (·.cell) = true) :
    ∀ (ds ds' : List D) (vs : List Value), lendAll C κ ds = some ds' → RepAll g w ds vs → RepAll g' w ds' vs
  | [], ds', vs, h, r => by simp only [YtjmhioacbpgalaaDoorV.lendAll] at h; cases h; exact r
  | d :: ds, _, _, h, ⟨y, ys, r1, r2, r3⟩ => by
    simp only [YtjmhioacbpgalaaDoorV.lendAll] at h
    obtain ⟨d', h1, h⟩ := opt_bind h
    obtain ⟨ds', h2, rfl⟩ := opt_map h
    exact ⟨y, ys, r1, Rep.lend hF hκ hC _ _ _ h1 r2, RepAll.lend hF hκ hC _ _ _ h2 r3⟩
theorem RepRows.lend (hF : ∀ b, g.F b → g'.F b) (hκ : ∀ id x, κ id = true → g.m id = some x → g'.m id = some x) (hC : ∀ id cs, C id = some cs → ∀ x, g.m id = some x → ∃ b o sz vs, g.m id = some (b, o, sz) ∧ g'.F b ∧ At w b o vs ∧ RepAll g' w cs vs ∧ cs.all (·.cell) = true) {b n : Nat} :
    ∀ (xs xs' : List D) (o : Nat), lendAll C κ xs = some xs' → RepRows g w b n xs o → RepRows g' w b n xs' o
  | [], _, o, h, r => by simp only [YtjmhioacbpgalaaDoorV.lendAll] at h; cases h; trivial
  | x :: xs, _, o, h, ⟨⟨y, r1, r2, r3⟩, r4⟩ => by
    simp only [YtjmhioacbpgalaaDoorV.lendAll] at h
    obtain ⟨d', h1, h⟩ := opt_bind h
    obtain ⟨ds', h2, rfl⟩ := opt_map h
    exact ⟨⟨y, Rep.lend hF hκ hC _ _ _ h1 r1, r2, r3⟩, RepRows.lend hF hκ hC _ _ _ h2 r4⟩
end
/-- What is lent to a depth stands for what it stood for, where all of it is read and never written. -/
theorem lentC_sound {look : Nat → Option DObj} {al : Nat → Bool} {m' : Nat → Option (Nat × Nat × Nat)} {F K : Nat → Prop} (H : HeapRel g w look) (hF : ∀ b, g.F b → F b) (hL : ∀ id, al id = true → ∀ cs s, look id = some (.cells cs s) → ∀ b p, g.m id = some (b, p) → F b) : ∀ (k id : Nat) (cs : List D), lentC look al k id = some cs → ∀ x, g.m id = some x →
    ∃ b o sz vs, g.m id = some (b, o, sz) ∧ F b ∧ At w b o vs ∧ RepAll ⟨m', F, K⟩ w cs vs ∧ cs.all (·.cell) = true
  | 0, id, cs, h, _, _ => by cases h
  | k + 1, id, cs, h, x, hx => by
    simp only [lentC] at h
    split at h
    · rename_i hin
      split at h
      · rename_i cs0 s hl
        obtain ⟨b, o, sz, c, el, fr, vs, h1, h2, h3, h4, h5, h6, h7⟩ := (H.obj id _ hl).real hx
        refine ⟨b, o, sz, vs, h1, hL id hin _ _ hl b _ h1, fun j v e => by simp [World.cell?, h2, h5 j v e], ?_, lendAll_cell h (H.cell _ _ _ hl)⟩
        exact RepAll.lend (g' := ⟨m', F, K⟩) hF (fun _ _ hh => by cases hh) (fun id cs hc => lentC_sound H hF hL k id cs hc) _ _ _ h h6
      · cases h
    · cases h
end
end Go.Proofs.YtjmhioacbpgalaaDoorV
