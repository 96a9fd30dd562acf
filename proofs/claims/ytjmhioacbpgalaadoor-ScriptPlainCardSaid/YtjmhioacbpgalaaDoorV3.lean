/- Operations on abstract values, one by one: what they tell, and that the model's operation does just that. -/
import Derived.Test.YtjmhioacbpgalaaDoorV2
import Derived.Laws.StructEq
namespace Go.Proofs.YtjmhioacbpgalaaDoorV
open Go Go.RowKit
set_option linter.unusedVariables false
set_option linter.unusedSimpArgs false

/-- The model's operation does it. -/
def Ran (P : Program) (ev : Operand → Value) (o : Oper) (g : G) (w : World) (look : Nat → Option DObj) (base : Nat) (r : Res) : Prop :=
  ∃ v' w' g', ((execOp ev o).run P w = .ok (.value v') w' ∨ ((execOp ev o).run P w = .ok .skip w' ∧ v' = undef)) ∧ Out g w look base r g' w' v'

section
variable {P : Program} {ev : Operand → Value} {g : G} {w : World} {look : Nat → Option DObj} {base : Nat}

theorem Ran.of_value {o : Oper} {s : Sem Value} {r : Res} (he : execOp ev o = (do pure (.value (← s)))) (h : ∃ v' w' g', s.run P w = .ok v' w' ∧ Out g w look base r g' w' v') : Ran P ev o g w look base r := by
  obtain ⟨v', w', g', h1, h2⟩ := h
  exact ⟨v', w', g', .inl (by rw [he]; simp [h1]), h2⟩

/-! ### memory -/
def zeroD (P : Program) (t : TypeId) : Option (List D) := ((P.info? t).bind (·.zero)).bind fun z => if (z.cells.toList.map D.v).all (·.cell) = true then some (z.cells.toList.map .v) else none
theorem run_zero {t : TypeId} {cs : List D} (h : zeroD P t = some cs) : ∃ z, (∀ w, (zeroValue t).run P w = .ok z w) ∧ cs = z.cells.toList.map .v ∧ cs.all (·.cell) = true := by
  unfold zeroD at h
  cases hi : P.info? t with
  | none => rw [hi] at h; cases h
  | some i =>
    rw [hi] at h
    cases hz : i.zero with
    | none => rw [Option.bind_some, hz] at h; cases h
    | some z =>
      rw [Option.bind_some, hz] at h
      simp only [Option.bind_some] at h
      split at h
      · rename_i hc; cases h; exact ⟨z, fun w => by simp [zeroValue, typeInfo, hi, hz], rfl, hc⟩
      · cases h

def opAlloc (P : Program) (base : Nat) (t : TypeId) : Option Res := (zeroD P t).map fun cs => { val := .ptr base 0, news := [.cells cs false] }
theorem opAlloc_sound {o : Oper} {t : TypeId} {r : Res} (hop : o.op = .alloc t) (h : opAlloc P base t = some r) (H : HeapRel g w look) (hm : r.news ≠ [] → g.m base = none) (hl : r.news ≠ [] → look base = none) :
    Ran P ev o g w look base r := by
  unfold opAlloc at h
  cases hz : zeroD P t with
  | none => rw [hz] at h; cases h
  | some cs =>
    rw [hz] at h; cases h
    obtain ⟨z, h1, rfl, hcl⟩ := run_zero hz
    obtain ⟨g', h2⟩ := out_row (cs := z.cells.toList.map .v) (vs := z.cells.toList) (el := t) (d := .ptr base 0) (v := .pointer (some ⟨w.heap.size, 0, none⟩)) H (hm (by simp)) (hl (by simp)) hcl
      (by rw [List.length_map, List.take_length]; exact RepAll.ofV _) (by simp) (fun g' w' e => ⟨_, _, _, e, rfl⟩)
    refine .of_value (s := Instr.alloc t true (.tuple #[])) (by simp [execOp, hop]) ⟨_, _, g', ?_, h2⟩
    simp [Instr.alloc, h1, newVar, newRow, newObj, Sem.run]

def opBox (base : Nat) (x : D) : Option Res := (dcells x).map fun cs => { val := .ptr base 0, news := [.cells cs false] }
theorem opBox_sound {o : Oper} {t : TypeId} {x : Operand} {d : D} {r : Res} (hop : o.op = .box t x) (hd : Rep g w d (ev x)) (h : opBox base d = some r) (H : HeapRel g w look) (hm : r.news ≠ [] → g.m base = none) (hl : r.news ≠ [] → look base = none) :
    Ran P ev o g w look base r := by
  unfold opBox at h
  cases hz : dcells d with
  | none => rw [hz] at h; cases h
  | some cs =>
    rw [hz] at h; cases h
    obtain ⟨h1, hcl⟩ := dcells_sound hz hd
    obtain ⟨g', h2⟩ := out_row (cs := cs) (vs := (ev x).cells.toList) (el := t) (d := .ptr base 0) (v := .pointer (some ⟨w.heap.size, 0, none⟩)) H (hm (by simp)) (hl (by simp)) hcl
      (by rw [← h1.length, List.take_length]; exact h1) (by rw [h1.length]; exact Nat.le_refl _) (fun g' w' e => ⟨_, _, _, e, rfl⟩)
    refine .of_value (s := Instr.box t (ev x)) (by simp [execOp, hop]) ⟨_, _, g', ?_, h2⟩
    simp [Instr.box, newVar, newRow, newObj, Sem.run]

def opLoad (P : Program) (look : Nat → Option DObj) (t : TypeId) (x : D) : Option Res :=
  match rowAt look x with
  | some cs => (loadD P t cs).map fun d => { val := d }
  | none => none
theorem opLoad_sound {o : Oper} {t : TypeId} {x : Operand} {d : D} {r : Res} (hop : o.op = .load t x) (hd : Rep g w d (ev x)) (h : opLoad P look t d = some r) (H : HeapRel g w look) :
    Ran P ev o g w look base r := by
  unfold opLoad at h
  split at h
  · rename_i cs hc
    cases hz : loadD P t cs with
    | none => rw [hz] at h; cases h
    | some d' =>
      rw [hz] at h; cases h
      obtain ⟨b, p, vs, h1, h2, h3⟩ := rowAt_sound H hd hc
      obtain ⟨v, h4, h5⟩ := run_loadVar hz h2 h3
      refine .of_value (s := Instr.loadAt t (ev x)) (by simp [execOp, hop]) ⟨v, w, g, ?_, out_pure H h5⟩
      simp [Instr.loadAt, Instr.sureAddr, h1, h4]
  · cases h

def opStore (P : Program) (look : Nat → Option DObj) (t : TypeId) (x y : D) : Option Res :=
  match x with
  | .ptr id off =>
    match look id with
    | some (.cells cs false) =>
      match dcells y, tsize P t with
      | some ds, some n => if ds.length = n ∧ off + n ≤ cs.length then some { val := .v undef, upd := [(id, some (.cells (over cs off ds) false))] } else none
      | _, _ => none
    | _ => none
  | _ => none
theorem over_get (cs : List D) (off : Nat) (ds : List D) (h : off + ds.length ≤ cs.length) (j : Nat) : (over cs off ds)[j]? = if off ≤ j ∧ j < off + ds.length then ds[j - off]? else cs[j]? := by
  unfold over
  by_cases h1 : j < off
  · rw [if_neg (by omega), List.append_assoc, List.getElem?_append_left (by simp; omega), List.getElem?_take, if_pos h1]
  · by_cases h2 : j < off + ds.length
    · rw [if_pos (by omega), List.append_assoc, List.getElem?_append_right (by simp; omega), List.getElem?_append_left (by simp; omega)]
      congr 1; simp; omega
    · rw [if_neg (by omega), List.getElem?_append_right (by simp; omega), List.getElem?_drop]
      congr 1; simp; omega
theorem over_length (cs : List D) (off : Nat) (ds : List D) (h : off + ds.length ≤ cs.length) : (over cs off ds).length = cs.length := by
  unfold over; simp; omega
theorem over_all {cs ds : List D} (off : Nat) (h1 : cs.all (·.cell) = true) (h2 : ds.all (·.cell) = true) : (over cs off ds).all (·.cell) = true := by
  unfold over
  rw [List.all_eq_true] at h1 h2 ⊢
  intro x hx
  simp only [List.mem_append] at hx
  rcases hx with (hx | hx) | hx
  · exact h1 x (List.mem_of_mem_take hx)
  · exact h2 x hx
  · exact h1 x (List.mem_of_mem_drop hx)
theorem opStore_sound {o : Oper} {t : TypeId} {x y : Operand} {d e : D} {r : Res} (hop : o.op = .store t x y) (hd : Rep g w d (ev x)) (he : Rep g w e (ev y)) (h : opStore P look t d e = some r) (H : HeapRel g w look) :
    Ran P ev o g w look base r := by
  unfold opStore at h
  split at h
  · rename_i id off
    split at h
    · rename_i cs hl
      split at h
      · rename_i ds n hds hn
        split at h
        · rename_i hlen
          obtain ⟨rfl, hlen⟩ := hlen
          cases h
          obtain ⟨h1, hcell⟩ := dcells_sound hds he
          obtain ⟨b, p, sz, m, hv⟩ := hd
          obtain ⟨b', p', sz', c, el, fr, vs, m1, m2, m3, m4, m5, m6, m7⟩ := (H.obj id _ hl).real m
          rw [if_neg (by simp)] at m7
          obtain ⟨f1, f2, rfl⟩ := m7
          rw [m1] at m; cases m
          have hne : ∀ v ∈ (ev y).cells.toList, (∀ cs, v ≠ .agg cs) ∧ (∀ cs, v ≠ .tuple cs) := fun v hv => by
            obtain ⟨j, hj⟩ := List.mem_iff_getElem?.1 hv
            obtain ⟨d', hd', r'⟩ := h1.get' hj
            exact D.cell_ne (List.all_eq_true.1 hcell d' (List.mem_of_getElem? hd')) r'
          obtain ⟨c', r1, r2, r3⟩ := run_storeCells (P := P) (b := b) (o := p + off) (el := el) (ev y).cells.toList 0 w c m2 (by rw [h1.length]; omega) hne
          obtain ⟨le, hh⟩ := heap_write (c' := c') (cs' := over cs off ds) (vs' := (List.range cs.length).map fun j => if off ≤ j ∧ j < off + ds.length then ((ev y).cells.toList[j - off]?).getD undef else (vs[j]?).getD undef) H hl m1 m2 r2 (over_all off (H.cell _ _ _ hl) hcell)
            (by rw [over_length _ _ _ hlen]; omega)
            (fun j v e => by
              rw [List.getElem?_map] at e
              cases hj : (List.range cs.length)[j]? with
              | none => rw [hj] at e; cases e
              | some k =>
                rw [hj] at e
                obtain ⟨hjl, rfl⟩ := List.getElem?_eq_some_iff.1 hj
                simp only [List.length_range] at hjl
                simp only [List.getElem_range, Option.map_some, Option.some.injEq] at e
                rw [r3]
                by_cases hc : off ≤ j ∧ j < off + ds.length
                · rw [if_pos hc] at e
                  rw [if_pos (by rw [h1.length]; omega)]
                  have : j - off < (ev y).cells.toList.length := by rw [h1.length]; omega
                  rw [show p + j - (p + off + 0) = j - off by omega, List.getElem?_eq_getElem this]
                  rw [List.getElem?_eq_getElem this] at e
                  simpa using e
                · rw [if_neg hc] at e
                  rw [if_neg (by rw [h1.length]; omega)]
                  have : j < vs.length := by rw [m6.length]; exact hjl
                  rw [List.getElem?_eq_getElem this] at e
                  exact m5 j v (by rw [List.getElem?_eq_getElem this]; simpa using e))
            (.of (by simp [over_length _ _ _ hlen]) fun j d' v e1 e2 => by
              rw [over_get _ _ _ hlen] at e1
              rw [List.getElem?_map] at e2
              cases hj : (List.range cs.length)[j]? with
              | none => rw [hj] at e2; cases e2
              | some k =>
                rw [hj] at e2
                obtain ⟨hjl, rfl⟩ := List.getElem?_eq_some_iff.1 hj
                simp only [List.length_range] at hjl
                simp only [List.getElem_range, Option.map_some, Option.some.injEq] at e2
                by_cases hc : off ≤ j ∧ j < off + ds.length
                · rw [if_pos hc] at e1 e2
                  obtain ⟨u, hu, ru⟩ := h1.get e1
                  rw [hu] at e2; cases e2; exact ru
                · rw [if_neg hc] at e1 e2
                  obtain ⟨u, hu, ru⟩ := m6.get e1
                  rw [hu] at e2; cases e2; exact ru)
          refine ⟨undef, _, g, .inr ⟨?_, rfl⟩, le, rfl, by simpa [Res.heap, putUpd, putNews_nil] using hh, fun _ _ => rfl⟩
          have hs : (storeVar t ⟨b, p + off, none⟩ (ev y)).run P w = .ok () { w with heap := w.heap.setIfInBounds b (.cells c' el (0, 0)) } := by
            have hsz : (ev y).cells.size = ds.length := by rw [← h1.length]; simp
            simp [storeVar, run_sizeOf hn, hsz, r1]
          simp [execOp, hop, Instr.storeAt, Instr.sureAddr, hv, hs]
        · cases h
      · cases h
    · cases h
  · cases h
end
end Go.Proofs.YtjmhioacbpgalaaDoorV
