/- Operations on abstract values, more: append, make. -/
import Derived.Test.YtjmhioacbpgalaaDoorV6
namespace Go.Proofs.YtjmhioacbpgalaaDoorV
open Go Go.RowKit
set_option linter.unusedVariables false
set_option linter.unusedSimpArgs false
section
variable {P : Program} {ev : Operand → Value} {g : G} {w : World} {look : Nat → Option DObj} {base : Nat}

/-- The cells of a slice, one behind the other, and how many values. -/
def srcD (look : Nat → Option DObj) (n : Nat) : D → Option (Nat × List D)
  | .v (.slice none 0 0) => some (0, [])
  | .sl m xs => if m = n ∧ (xs.all fun d => (dcells d).isSome) = true then some (xs.length, xs.flatMap D.cells) else none
  | .ref id off len m ag =>
    match look id with
    | some (.cells cs _) => if m = n ∧ off + len * n ≤ cs.length then some (len, (cs.drop off).take (len * n)) else none
    | _ => none
  | _ => none

theorem dcells_cells {d : D} {cs : List D} (h : dcells d = some cs) : d.cells = cs := by
  unfold dcells at h
  split at h
  · split at h <;> cases h; rfl
  · rename_i hne
    split at h <;> cases h
    cases d <;> first | rfl | exact absurd rfl (hne _)

theorem RepRows.flat {b n : Nat} : ∀ {xs : List D} {o : Nat}, RepRows g w b n xs o → (xs.all fun d => (dcells d).isSome) = true → ∃ vs : List Value, vs.length = xs.length * n ∧ At w b o vs ∧ RepAll g w (xs.flatMap D.cells) vs
  | [], o, _, _ => ⟨[], by simp, fun j v e => by simp at e, rfl⟩
  | x :: xs, o, ⟨⟨y, h1, h2, h3⟩, r⟩, ha => by
    simp only [List.all_cons, Bool.and_eq_true] at ha
    obtain ⟨cs, hc⟩ := Option.isSome_iff_exists.1 ha.1
    obtain ⟨vs, k1, k2, k3⟩ := RepRows.flat r ha.2
    have hcs := (dcells_sound hc h1).1
    rw [← dcells_cells hc] at hcs
    refine ⟨y.cells.toList ++ vs, by simp [k1, h2, Nat.add_mul]; omega, fun j v e => ?_, by simpa using hcs.append k3⟩
    rw [List.getElem?_append] at e
    split at e
    · exact h3 j v e
    · rename_i hj
      have hl : y.cells.toList.length = n := by simpa using h2
      rw [hl] at e hj
      have := k2 _ _ e
      rwa [show o + n + (j - n) = o + j by omega] at this

theorem cells_all {xs : List D} (h : (xs.all fun d => (dcells d).isSome) = true) : (xs.flatMap D.cells).all (·.cell) = true := by
  rw [List.all_eq_true] at h ⊢
  intro x hx
  obtain ⟨d, hd, hx⟩ := List.mem_flatMap.1 hx
  obtain ⟨cs, hc⟩ := Option.isSome_iff_exists.1 (h d hd)
  rw [dcells_cells hc] at hx
  unfold dcells at hc
  split at hc
  · split at hc
    · rename_i hh; cases hc; exact List.all_eq_true.1 hh x hx
    · cases hc
  · split at hc
    · rename_i hh; cases hc; simp at hx; subst hx; exact hh
    · cases hc
theorem srcD_sound {n k : Nat} {d : D} {y : Value} {cs : List D} (H : HeapRel g w look) (h : srcD look n d = some (k, cs)) (r : Rep g w d y) :
    ∃ vs : List Value, RepAll g w cs vs ∧ vs.length = k * n ∧ (∀ w' : World, (∀ v, w.cell? = v → True) → w'.heap = w.heap → (Builtin.firstCells n k y).run P w' = .ok vs.toArray w') ∧ (∀ w' : World, (Builtin.lenOf y).run P w' = .ok k w') ∧ cs.length = k * n ∧ cs.all (·.cell) = true := by
  have load : ∀ (b o : Nat) (vs : List Value), At w b o vs → ∀ w' : World, w'.heap = w.heap → (loadCells ⟨b, o, none⟩ vs.length).run P w' = .ok vs.toArray w' := fun b o vs ha w' hw => by
    have ha' : At w' b o vs := fun j v e => by
      have := ha j v e
      unfold World.cell? at this ⊢
      rw [hw]; exact this
    have := run_loadCells (P := P) ha' vs.length (Nat.le_refl _)
    rwa [List.take_length] at this
  unfold srcD at h
  split at h
  · cases h
    cases r
    exact ⟨[], rfl, by simp, fun w' _ _ => by simp [Builtin.firstCells], fun w' => by simp [Builtin.lenOf], by simp, rfl⟩
  · rename_i m xs
    split at h
    · rename_i hc
      obtain ⟨rfl, ha⟩ := hc
      cases h
      rcases r with ⟨b, o, cap, r1, r2, r3, r4⟩ | ⟨r1, rfl⟩
      · obtain ⟨vs, k1, k2, k3⟩ := r4.flat ha
        refine ⟨vs, k3, k1, fun w' _ hw => ?_, fun w' => by subst r1; simp [Builtin.lenOf], by rw [← k1, k3.length], cells_all ha⟩
        subst r1
        simp only [Builtin.firstCells]
        rw [← k1]
        exact load b o vs k2 w' hw
      · obtain ⟨a, cap, r1, _⟩ := r1
        subst r1
        exact ⟨[], rfl, by simp, fun w' _ _ => by cases a <;> simp [Builtin.firstCells, loadCells, loadCellsFrom], fun w' => by simp [Builtin.lenOf], by simp, rfl⟩
    · cases h
  · rename_i id off len m ag
    split at h
    · rename_i cs' s hl
      split at h
      · rename_i hc
        obtain ⟨rfl, hlen⟩ := hc
        cases h
        rcases r with ⟨b, o, sz, cap, q, q1, rfl, q3, q4, q5⟩ | ⟨q1, a0, rfl⟩
        case inr =>
          subst q1
          exact ⟨[], by rw [Nat.zero_mul, List.take_zero]; rfl, by simp, fun w' _ _ => by cases a0 <;> simp [Builtin.firstCells, loadCells, loadCellsFrom], fun w' => by simp [Builtin.lenOf], by simp, by simp⟩
        obtain ⟨b', o', sz', c, el, fr, vs, m1, m2, m3, m4, m5, m6, m7⟩ := (H.obj id _ hl).real q1
        rw [m1] at q1; cases q1
        have hat : At w b o vs := fun j v e => by simp [World.cell?, m2, m5 j v e]
        have hl' : ((vs.drop off).take (k * m)).length = k * m := by simp [m6.length]; omega
        refine ⟨(vs.drop off).take (k * m), (m6.drop off).take _, hl', fun w' _ hw => ?_, fun w' => by simp [Builtin.lenOf], by simp; omega, by
          have := H.cell _ _ _ hl
          rw [List.all_eq_true] at this ⊢
          exact fun x hx => this x (List.mem_of_mem_drop (List.mem_of_mem_take hx))⟩
        simp only [Builtin.firstCells]
        rcases q4 with q4 | q4
        · subst q4
          have : k = 0 := by omega
          subst this
          simp [loadCells, loadCellsFrom]
        · subst q4
          have := load b (o + off) _ ((hat.drop off).take (k * m)) w' hw
          rwa [hl'] at this
      · cases h
    · cases h
  · cases h

theorem growBy_le (n : Nat) : ∀ (r c : Nat), Builtin.growBy n r c ≤ max c (n + (n + 768) / 4)
  | 0, c => Nat.le_max_left _ _
  | r + 1, c => by
    unfold Builtin.growBy
    split
    · exact Nat.le_max_left _ _
    · rename_i h
      have := growBy_le n r (c + (c + 768) / 4)
      omega
theorem nextslicecap_le (n c : Nat) (h : c < n) : Builtin.nextslicecap n c ≤ 2 * n + 192 := by
  unfold Builtin.nextslicecap
  split
  · omega
  · split
    · omega
    · have := growBy_le n 4 c
      omega

def tbytes (P : Program) (t : TypeId) : Option Nat := (P.info? t).map (·.bytes)
def roomB (bytes need : Nat) : Bool := decide (0 < bytes ∧ (2 * need + 192) * bytes ≤ 281474976710656)
/-- append(s, x...) -/
def opAppend (P : Program) (look : Nat → Option DObj) (base : Nat) (ts tx : TypeId) (s x : D) : Option Res :=
  match P.underlying ts, P.underlying tx with
  | some (.slice e), some (.slice _) =>
    match tsize P e, tbytes P e, zeroD P e with
    | some n, some bytes, some zs =>
      if 0 < n ∧ zs.length = n then
        match srcD look n x with
        | some (k, cs) =>
          match s with
          | .v (.slice none 0 0) =>
            if k = 0 then some { val := s }
            else if roomB bytes k then some { val := .ref base 0 k n (isAggB P e), news := [.cells cs false] } else none
          | .ref id off len m ag =>
            match look id with
            | some (.cells old false) =>
              if m = n ∧ off + len * n ≤ old.length then
                if k = 0 then some { val := s }
                else if roomB bytes (len + k) then some { val := .ref base 0 (len + k) n ag, news := [.cells ((old.drop off).take (len * n) ++ cs) false], upd := [(id, none)] } else none
              else none
            | _ => none
          | _ => none
        | none => none
      else none
    | _, _, _ => none
  | _, _ => none

theorem HeapRel.drew {g : G} {w : World} {look : Nat → Option DObj} (H : HeapRel g w look) (n : Nat) : HeapRel g { w with drawn := n } look ∧ Le g w g { w with drawn := n } := by
  have le : Le g w g { w with drawn := n } := ⟨fun _ _ e => e, fun _ e => e, fun _ => Iff.rfl, fun _ _ => rfl, Nat.le_refl _, rfl, rfl, rfl, fun _ e => .inl e⟩
  exact ⟨⟨H.cell, fun id o e => (H.obj id o e).mono le (fun h => h) (fun _ _ _ => rfl) (fun hl b p hb => (((H.obj id o e).at hb).2 hl).1), H.inj, H.frz, H.keep⟩, le⟩

/-- Fewer objects. -/
theorem HeapRel.less {g : G} {w : World} {look look' : Nat → Option DObj} (H : HeapRel g w look) (h : ∀ id o, look' id = some o → look id = some o) : HeapRel g w look' :=
  ⟨fun id cs s e => H.cell id cs s (h id _ e), fun id o e => H.obj id o (h id o e), fun id id' o o' b p q e e' => H.inj id id' o o' b p q (h id o e) (h id' o' e'), H.frz, H.keep⟩

theorem Out.trans_le {g g1 g' : G} {w w1 w' : World} {look : Nat → Option DObj} {base : Nat} {r : Res} {v' : Value} (l : Le g w g1 w1) (hm : g1.m = g.m) (h : Out g1 w1 look base r g' w' v') : Out g w look base r g' w' v' :=
  ⟨l.trans h.le, h.rep, h.heap, fun id hid => by rw [h.m id hid, hm]⟩

theorem zeroCells_size (z : Array Value) (n : Nat) : (Builtin.zeroCells z n).size = n * z.size := by simp [Builtin.zeroCells]

theorem putNews_get {look : Nat → Option DObj} {base : Nat} {o : DObj} : putNews look base [o] base = some o := by
  unfold putNews; rw [if_pos ⟨Nat.le_refl _, by simp⟩]; simp
theorem putNews_ne {look : Nat → Option DObj} {base : Nat} {o : DObj} {id : Nat} (h : id ≠ base) : putNews look base [o] id = look id := by
  unfold putNews; rw [if_neg (by rintro ⟨h1, h2⟩; simp at h2; omega)]

/-- What is grown in place: the old number goes, a new one takes its block. -/
theorem heap_grow {id b p sz off : Nat} {c c' : Array Value} {el : TypeId} {old cs' : List D} {vs' : List Value} (H : HeapRel g w look)
    (hl : look id = some (.cells old false)) (hm : g.m id = some (b, p, sz)) (hb : w.heap[b]? = some (.cells c el (0, 0))) (hsz : c'.size = c.size) (hbm : g.m base = none) (hbl : look base = none)
    (hcl : cs'.all (·.cell) = true) (hlen : p + off + cs'.length ≤ c.size) (hv : ∀ j v, vs'[j]? = some v → c'[p + off + j]? = some v) (hr : RepAll g w cs' vs') :
    Le g w (g.put base (b, p + off, sz)) { w with heap := w.heap.setIfInBounds b (.cells c' el (0, 0)) } ∧
    HeapRel (g.put base (b, p + off, sz)) { w with heap := w.heap.setIfInBounds b (.cells c' el (0, 0)) } (putUpd (putNews look base [.cells cs' false]) [(id, none)]) := by
  have hbs : b < w.heap.size := (Array.getElem?_eq_some_iff.1 hb).1
  have hne : id ≠ base := fun e => by subst e; rw [hbl] at hl; cases hl
  have own : ¬ g.F b ∧ ¬ g.K b := ((H.obj id _ hl).at hm).2 rfl
  have hsz' : c.size = sz := by
    obtain ⟨_, _, _, _, _, _, _, q1, q2, q3, _⟩ := (H.obj id _ hl).real hm
    rw [hm] at q1; cases q1; rw [hb] at q2; cases q2; exact q3
  have le : Le g w (g.put base (b, p + off, sz)) { w with heap := w.heap.setIfInBounds b (.cells c' el (0, 0)) } :=
    .put hbm (fun b' hb' => by
      show (w.heap.setIfInBounds b _)[b']? = _
      rw [Array.getElem?_setIfInBounds, if_neg]
      intro e; subst e; exact hb'.elim own.1 own.2) (by simp) rfl rfl rfl
  have hlook : ∀ i o', putUpd (putNews look base [.cells cs' false]) [(id, none)] i = some o' → (i = base ∧ o' = .cells cs' false) ∨ (i ≠ base ∧ i ≠ id ∧ look i = some o') := by
    intro i o' e
    have e : (if i = id then none else putNews look base [.cells cs' false] i) = some o' := e
    by_cases hi : i = id
    · rw [if_pos hi] at e; cases e
    · rw [if_neg hi] at e
      by_cases hib : i = base
      · subst hib; rw [putNews_get] at e; cases e; exact .inl ⟨rfl, rfl⟩
      · rw [putNews_ne hib] at e; exact .inr ⟨hib, hi, e⟩
  have hother : ∀ i o', i ≠ id → look i = some o' → ∀ q, g.m i = some (b, q) → o'.live = true → False := fun i o' hi e q hq hlv => hi (H.inj i id o' _ b q _ e hl hlv rfl hq hm)
  refine ⟨le, fun i cs2 s2 e => (hlook i _ e).elim (fun h1 => by cases h1.2; exact hcl) (fun h1 => H.cell _ _ _ h1.2.2), fun i o' e => ?_, fun i i' o1 o2 b1 q1 q2 e1 e2 l1 l2 m1 m2 => ?_, fun b' hb' => by simpa using H.frz b' hb', fun b' hb' => by simpa using H.keep b' hb'⟩
  · rcases hlook i o' e with ⟨rfl, rfl⟩ | ⟨hib, hi, e⟩
    · refine .inl ⟨b, p + off, sz, c', el, (0, 0), vs', put_m, by simp [Array.getElem?_setIfInBounds, hbs], hsz.trans hsz', by omega, hv, RepAll.mono le _ _ hr, ?_⟩
      rw [if_neg (by simp)]; exact ⟨own.1, own.2, rfl⟩
    · refine (H.obj i o' e).mono le (fun hn => by rw [put_m_ne hib]; exact hn) (fun b' q hb' => ?_) (fun hlv b' q hb' => ?_)
      · show (w.heap.setIfInBounds b _)[b']? = _
        rw [Array.getElem?_setIfInBounds, if_neg]
        intro e'; subst e'
        cases hlv : o'.live with
        | true => exact hother i o' hi e q hb' hlv
        | false =>
          cases o' <;> simp [DObj.live] at hlv
          subst hlv
          obtain ⟨_, _, _, _, _, _, _, q1, _, _, _, _, _, q7⟩ := (H.obj i _ e).real hb'
          rw [hb'] at q1; cases q1
          exact own.1 (by simpa using q7)
      · exact (((H.obj i o' e).at hb').2 hlv).1
  · have old' : ∀ i, i ≠ base → ∀ x, (g.put base (b, p + off, sz)).m i = some x → g.m i = some x := fun i hne x e => by rwa [put_m_ne hne] at e
    have new' : ∀ x, (g.put base (b, p + off, sz)).m base = some x → x = (b, p + off, sz) := fun x e => by rw [put_m] at e; cases e; rfl
    rcases hlook i o1 e1 with ⟨hi, _⟩ | ⟨hib, hi, e1⟩ <;> rcases hlook i' o2 e2 with ⟨hi', _⟩ | ⟨hib', hi', e2⟩
    · rw [hi, hi']
    · rw [hi] at m1
      have := new' _ m1; cases this
      exact (hother i' o2 hi' e2 _ (old' _ hib' _ m2) l2).elim
    · rw [hi'] at m2
      have := new' _ m2; cases this
      exact (hother i o1 hi e1 _ (old' _ hib _ m1) l1).elim
    · exact H.inj i i' o1 o2 b1 q1 q2 e1 e2 l1 l2 (old' _ hib _ m1) (old' _ hib' _ m2)
end
end Go.Proofs.YtjmhioacbpgalaaDoorV
