/- Operations on abstract values, more: what is built, places in rows, numbers and strings. -/
import Derived.Test.YtjmhioacbpgalaaDoorV3
namespace Go.Proofs.YtjmhioacbpgalaaDoorV
open Go Go.RowKit
set_option linter.unusedVariables false
set_option linter.unusedSimpArgs false
section
variable {P : Program} {ev : Operand → Value} {g : G} {w : World} {look : Nat → Option DObj} {base : Nat}

/-! ### what is built -/
def fillD (place : Nat → Option (Nat × Nat)) (cs : List D) : List (Nat × D) → Option (List D)
  | [] => some cs
  | (i, d) :: r =>
    match place i, dcells d with
    | some (off, size), some ds => if ds.length = size ∧ off + size ≤ cs.length then fillD place (over cs off ds) r else none
    | _, _ => none

theorem foldl_set (off : Nat) : ∀ (l : List Value) (i : Nat) (cs : Array Value), off + i + l.length ≤ cs.size →
    ((l.zipIdx i).foldl (fun cs (c, j) => cs.setIfInBounds (off + j) c) cs).size = cs.size ∧
    ∀ k, ((l.zipIdx i).foldl (fun cs (c, j) => cs.setIfInBounds (off + j) c) cs)[k]? = if off + i ≤ k ∧ k < off + i + l.length then l[k - (off + i)]? else cs[k]?
  | [], i, cs, _ => ⟨rfl, fun k => by rw [if_neg (by rintro ⟨h1, h2⟩; simp at h2; omega)]; rfl⟩
  | c :: l, i, cs, h => by
    obtain ⟨h1, h2⟩ := foldl_set off l (i + 1) (cs.setIfInBounds (off + i) c) (by simp at h ⊢; omega)
    refine ⟨by simp only [List.zipIdx_cons, List.foldl_cons]; rw [h1]; simp, fun k => ?_⟩
    simp only [List.zipIdx_cons, List.foldl_cons]
    rw [h2 k]
    by_cases h0 : k = off + i
    · subst h0
      rw [if_neg (by omega), if_pos (by simp)]
      have : off + i < cs.size := by simp at h; omega
      simp [Array.getElem?_setIfInBounds, this]
    · by_cases hk : off + (i + 1) ≤ k ∧ k < off + (i + 1) + l.length
      · rw [if_pos hk, if_pos (by simp; omega)]
        obtain ⟨m, hm⟩ : ∃ m, k - (off + i) = m + 1 := ⟨k - (off + i) - 1, by omega⟩
        rw [hm, show k - (off + (i + 1)) = m by omega]; rfl
      · rw [if_neg hk, if_neg (by simp at hk ⊢; omega), Array.getElem?_setIfInBounds, if_neg (by omega)]

theorem fillD_sound (place : Nat → Option (Nat × Nat)) : ∀ (l : List (Nat × D)) (l' : List (Nat × Value)) (cs : List D) (vs : Array Value) (cs' : List D), fillD place cs l = some cs' →
    RepAll g w cs vs.toList → l.map (·.1) = l'.map (·.1) → RepAll g w (l.map (·.2)) (l'.map (·.2)) → ∃ vs', Instr.fill place vs l' = some vs' ∧ RepAll g w cs' vs'.toList
  | [], l', cs, vs, cs', h, hr, h1, h2 => by
    cases l' with
    | nil => cases h; exact ⟨vs, rfl, hr⟩
    | cons => simp at h1
  | (i, d) :: r, [], cs, vs, cs', h, hr, h1, h2 => by simp at h1
  | (i, d) :: r, (i', v) :: r', cs, vs, cs', h, hr, h1, h2 => by
    simp only [List.map_cons, List.cons.injEq] at h1
    obtain ⟨rfl, h1⟩ := h1
    obtain ⟨y, ys, hy, hd, h2⟩ := h2
    simp only [List.map_cons, List.cons.injEq] at hy
    obtain ⟨rfl, rfl⟩ := hy
    simp only [fillD] at h
    split at h
    · rename_i off size ds hp hds
      split at h
      · rename_i hc
        obtain ⟨rfl, hlen⟩ := hc
        obtain ⟨hv, _⟩ := dcells_sound hds hd
        have hvs : v.cells.size = ds.length := by rw [← hv.length]; simp
        have hsz : vs.size = cs.length := by rw [← hr.length]; simp
        obtain ⟨f1, f2⟩ := foldl_set off v.cells.toList 0 vs (by simp [hvs, hsz]; exact hlen)
        have hfold : v.cells.zipIdx.foldl (fun cs (c, j) => cs.setIfInBounds (off + j) c) vs = (v.cells.toList.zipIdx 0).foldl (fun cs (c, j) => cs.setIfInBounds (off + j) c) vs := by
          rw [← Array.foldl_toList]; simp
        obtain ⟨vs', k1, k2⟩ := fillD_sound place r r' (over cs off ds) ((v.cells.toList.zipIdx 0).foldl (fun cs (c, j) => cs.setIfInBounds (off + j) c) vs) cs' h
          (RepAll.of (by rw [over_length _ _ _ hlen]; simpa [hsz] using f1) fun j d' y e1 e2 => by
            rw [over_get _ _ _ hlen] at e1
            rw [Array.getElem?_toList, f2] at e2
            by_cases hc : off ≤ j ∧ j < off + ds.length
            · rw [if_pos hc] at e1
              rw [if_pos (by simp [hvs]; omega), Nat.add_zero] at e2
              obtain ⟨u, hu, ru⟩ := hv.get e1
              rw [hu] at e2; cases e2; exact ru
            · rw [if_neg hc] at e1
              rw [if_neg (by simp [hvs]; omega)] at e2
              obtain ⟨u, hu, ru⟩ := hr.get e1
              rw [Array.getElem?_toList] at hu
              rw [hu] at e2; cases e2; exact ru) h1 h2
        refine ⟨vs', ?_, k2⟩
        simp only [Instr.fill, hp]
        rw [if_neg (by simp [hvs, hsz]; omega), hfold]
        exact k1
      · cases h
    · cases h

theorem fillD_all (place : Nat → Option (Nat × Nat)) : ∀ (l : List (Nat × D)) (cs cs' : List D), fillD place cs l = some cs' → cs.all (·.cell) = true → cs'.all (·.cell) = true
  | [], cs, cs', h, hc => by cases h; exact hc
  | (i, d) :: r, cs, cs', h, hc => by
    simp only [fillD] at h
    split at h
    · rename_i off size ds hp hds
      split at h
      · refine fillD_all place r _ cs' h (over_all off hc ?_)
        unfold dcells at hds
        split at hds
        · split at hds
          · rename_i hh; cases hds; exact hh
          · cases hds
        · split at hds
          · rename_i hh; cases hds; simp [hh]
          · cases hds
      · cases h
    · cases h
theorem repl_all (k : Nat) (zs : List D) (h : zs.all (·.cell) = true) : (List.replicate k zs).flatten.all (·.cell) = true := by
  rw [List.all_eq_true] at h ⊢
  intro x hx
  obtain ⟨l, hl, hx⟩ := List.mem_flatten.1 hx
  exact h x ((List.eq_of_mem_replicate hl) ▸ hx)
def placesD (P : Program) : List Field → Option (List (Nat × Nat))
  | [] => some []
  | f :: fs => match tsize P f.type, placesD P fs with | some n, some r => some ((f.offset, n) :: r) | _, _ => none
theorem placesD_run : ∀ (fs : List Field) (pl : List (Nat × Nat)), placesD P fs = some pl → ∀ w, (fs.mapM fun f => (do pure (f.offset, ← sizeOf f.type) : Sem (Nat × Nat))).run P w = .ok pl w
  | [], pl, h, w => by cases h; simp
  | f :: fs, pl, h, w => by
    simp only [placesD] at h
    split at h
    · rename_i n r h1 h2
      cases h
      rw [List.mapM_cons]
      simp only [Sem.run_bind, run_sizeOf h1, Result.andThen, placesD_run fs r h2, Sem.run_pure]
    · cases h

def opBuild (P : Program) (t : TypeId) (parts : List (Nat × D)) : Option Res :=
  match zeroD P t, P.underlying t with
  | some zs, some (.struct fs) => match placesD P fs.toList with
    | some pl => (fillD (pl[·]?) zs parts).map fun cs => { val := .agg cs }
    | none => none
  | some zs, some (.array _ e) => match tsize P e with
    | some n => (fillD (fun i => some (i * n, n)) zs parts).map fun cs => { val := .agg cs }
    | none => none
  | _, _ => none
theorem opBuild_sound {o : Oper} {t : TypeId} {ps : Array (Nat × Operand)} {ρ : Operand → D} {r : Res} (hop : o.op = .build t ps) (hd : ∀ x ∈ o.op.operands, Rep g w (ρ x) (ev x))
    (h : opBuild P t (ps.toList.map fun p => (p.1, ρ p.2)) = some r) (H : HeapRel g w look) : Ran P ev o g w look base r := by
  have hparts : RepAll g w ((ps.toList.map fun p => (p.1, ρ p.2)).map (·.2)) ((ps.toList.map fun p => (p.1, ev p.2)).map (·.2)) :=
    .of (by simp) fun j d y e1 e2 => by
      simp only [List.map_map, List.getElem?_map] at e1 e2
      cases hj : ps.toList[j]? with
      | none => rw [hj] at e1; cases e1
      | some p =>
        rw [hj] at e1 e2; cases e1; cases e2
        exact hd _ (by rw [hop]; simp only [Op.operands, List.mem_toArray, List.mem_map]; exact ⟨p, List.mem_of_getElem? hj, rfl⟩)
  have hkeys : (ps.toList.map fun p => (p.1, ρ p.2)).map (·.1) = (ps.toList.map fun p => (p.1, ev p.2)).map (·.1) := by simp
  have hmap : (ps.map fun x => (x.1, ev x.2)).toList = ps.toList.map fun p => (p.1, ev p.2) := by simp
  have hex : execOp ev o = (do pure (.value (← Instr.build t (ps.map fun x => (x.1, ev x.2))))) := by simp [execOp, hop]
  unfold opBuild at h
  split at h
  · rename_i zs fs hz hu
    split at h
    · rename_i pl hpl
      cases hf : fillD (pl[·]?) zs (ps.toList.map fun p => (p.1, ρ p.2)) with
      | none => rw [hf] at h; cases h
      | some cs =>
        rw [hf] at h; cases h
        obtain ⟨z, hz1, rfl, hzc⟩ := run_zero hz
        obtain ⟨vs', k1, k2⟩ := fillD_sound (g := g) (w := w) _ _ _ _ z.cells _ hf (RepAll.ofV _) hkeys hparts
        refine .of_value hex ⟨.agg vs', w, g, ?_, out_pure H ⟨vs'.toList, by simp, k2⟩⟩
        have hm : (fs.mapM fun f => (do pure (f.offset, ← sizeOf f.type) : Sem (Nat × Nat))).run P w = .ok pl.toArray w := by
          have := placesD_run _ _ hpl w
          rw [Array.mapM_eq_mapM_toList]
          simp only [map_eq_pure_bind, Sem.run_bind, this, Result.andThen, Sem.run_pure]
        have k1' : Instr.fill (fun i => pl.toArray[i]?) z.cells (ps.map fun x => (x.1, ev x.2)).toList = some vs' := by
          rw [hmap]; simpa using k1
        simp only [Instr.build, Sem.run_bind, hz1, Result.andThen, run_underlying hu, hm, k1', Sem.run_pure]
    · cases h
  · rename_i zs n' e hz hu
    split at h
    · rename_i n hn
      cases hf : fillD (fun i => some (i * n, n)) zs (ps.toList.map fun p => (p.1, ρ p.2)) with
      | none => rw [hf] at h; cases h
      | some cs =>
        rw [hf] at h; cases h
        obtain ⟨z, hz1, rfl, hzc⟩ := run_zero hz
        obtain ⟨vs', k1, k2⟩ := fillD_sound (g := g) (w := w) _ _ _ _ z.cells _ hf (RepAll.ofV _) hkeys hparts
        refine .of_value hex ⟨.agg vs', w, g, ?_, out_pure H ⟨vs'.toList, by simp, k2⟩⟩
        rw [← hmap] at k1
        simp only [Instr.build, Sem.run_bind, hz1, Result.andThen, run_underlying hu, run_sizeOf hn, k1, Sem.run_pure]
    · cases h
  · cases h

def isAggB (P : Program) (t : TypeId) : Bool := (isAggT P t).getD false
def opBuildSlice (P : Program) (base : Nat) (t : TypeId) (len : Nat) (parts : List (Nat × D)) : Option Res :=
  match P.underlying t with
  | some (.slice e) =>
    match tsize P e, zeroD P e with
    | some n, some zs =>
      if 0 < n ∧ zs.length = n ∧ len * n ≤ 2 ^ 24 then
        (fillD (fun i => some (i * n, n)) ((List.replicate len zs).flatten) parts).map fun cs => { val := .ref base 0 len n (isAggB P e), news := [.cells cs false] }
      else none
    | _, _ => none
  | _ => none
theorem repl_flat (z : Array Value) (n : Nat) (hz : z.size = n) (hn : 0 < n) : ∀ k : Nat, ((List.range (k * n)).map (fun i => z[i % z.size]!)) = (List.replicate k z.toList).flatten
  | 0 => by simp
  | k + 1 => by
    rw [List.replicate_succ', List.flatten_append, ← repl_flat z n hz hn k, Nat.add_mul, Nat.one_mul, List.range_add, List.map_append]
    congr 1
    apply List.ext_getElem (by simp [hz])
    intro j h1 h2
    simp at h1 h2
    simp [hz, Nat.add_comm (k * n), Nat.mod_eq_of_lt h1, h2]
    exact getElem!_pos z j h2
theorem map_flat (k : Nat) (vs : List Value) : (List.replicate k (vs.map D.v)).flatten = ((List.replicate k vs).flatten).map D.v := by
  induction k with
  | zero => simp
  | succ k ih => rw [List.replicate_succ, List.flatten_cons, ih, List.replicate_succ, List.flatten_cons, List.map_append]
theorem opBuildSlice_sound {o : Oper} {t : TypeId} {len : Nat} {ps : Array (Nat × Operand)} {ρ : Operand → D} {r : Res} (hop : o.op = .buildSlice t len ps) (hd : ∀ x ∈ o.op.operands, Rep g w (ρ x) (ev x))
    (h : opBuildSlice P base t len (ps.toList.map fun p => (p.1, ρ p.2)) = some r) (H : HeapRel g w look) (hm : r.news ≠ [] → g.m base = none) (hl : r.news ≠ [] → look base = none) : Ran P ev o g w look base r := by
  have hparts : RepAll g w ((ps.toList.map fun p => (p.1, ρ p.2)).map (·.2)) ((ps.toList.map fun p => (p.1, ev p.2)).map (·.2)) :=
    .of (by simp) fun j d y e1 e2 => by
      simp only [List.map_map, List.getElem?_map] at e1 e2
      cases hj : ps.toList[j]? with
      | none => rw [hj] at e1; cases e1
      | some p =>
        rw [hj] at e1 e2; cases e1; cases e2
        exact hd _ (by rw [hop]; simp only [Op.operands, List.mem_toArray, List.mem_map]; exact ⟨p, List.mem_of_getElem? hj, rfl⟩)
  have hkeys : (ps.toList.map fun p => (p.1, ρ p.2)).map (·.1) = (ps.toList.map fun p => (p.1, ev p.2)).map (·.1) := by simp
  have hmap : (ps.map fun x => (x.1, ev x.2)).toList = ps.toList.map fun p => (p.1, ev p.2) := by simp
  unfold opBuildSlice at h
  split at h
  · rename_i e hu
    split at h
    · rename_i n zs hn hz
      split at h
      · rename_i hc
        obtain ⟨hn0, hzl, hmax⟩ := hc
        cases hf : fillD (fun i => some (i * n, n)) ((List.replicate len zs).flatten) (ps.toList.map fun p => (p.1, ρ p.2)) with
        | none => rw [hf] at h; cases h
        | some cs =>
          rw [hf] at h; cases h
          obtain ⟨z, hz1, rfl, hzc⟩ := run_zero hz
          have hzs : z.cells.size = n := by simpa using hzl
          obtain ⟨vs', k1, k2⟩ := fillD_sound (g := g) (w := w) _ _ _ _ ((List.replicate len z.cells.toList).flatten).toArray _ hf (by rw [map_flat]; exact RepAll.ofV _) hkeys hparts
          rw [← hmap] at k1
          have hvl : vs'.toList.length = cs.length := k2.length
          have hlen : len * n ≤ vs'.size := by
            have hfs : ∀ (l : List (Nat × D)) (c c' : List D), fillD (fun i => some (i * n, n)) c l = some c' → c'.length = c.length := by
              intro l
              induction l with
              | nil => intro c c' h; cases h; rfl
              | cons a l ih =>
                intro c c' h
                obtain ⟨i, d⟩ := a
                simp only [fillD] at h
                split at h
                · rename_i off size ds hp hds
                  split at h
                  · rename_i hc
                    obtain ⟨rfl, hlen⟩ := hc
                    rw [ih _ _ h, over_length _ _ _ hlen]
                  · cases h
                · cases h
            have := hfs _ _ _ hf
            rw [← Array.length_toList, hvl, this, map_flat]
            simp [hzs]
          obtain ⟨g', h2⟩ := out_row (cs := cs) (vs := vs'.toList) (el := e) (d := .ref base 0 len n (isAggB P e)) (v := .slice (some ⟨w.heap.size, 0, none⟩) len len) H (hm (by simp)) (hl (by simp)) (fillD_all _ _ _ _ hf (repl_all _ _ hzc))
            (by rw [← hvl, List.take_length]; exact k2) (by rw [hvl]; exact Nat.le_refl _) (fun g' w' e => .inl ⟨_, _, _, _, _, e, rfl, Nat.le_refl _, .inr rfl, by simpa using hlen⟩)
          refine .of_value (s := Instr.buildSlice t len (ps.map fun x => (x.1, ev x.2))) (by simp [execOp, hop]) ⟨_, _, g', ?_, h2⟩
          have hnew : ((Array.range (len * n)).map (fun i => z.cells[i % z.cells.size]!)) = ((List.replicate len z.cells.toList).flatten).toArray := by
            apply Array.toList_inj.1; rw [Array.toList_map, Array.toList_range]; exact repl_flat z.cells n hzs hn0 len
          simp only [Instr.buildSlice, Sem.run_bind, run_underlying hu, Result.andThen, run_sizeOf hn]
          rw [if_neg (by omega)]
          by_cases hl0 : len * n = 0
          · have hl0' : len = 0 := by rcases Nat.mul_eq_zero.1 hl0 with h | h <;> omega
            subst hl0'
            simp only [Nat.zero_mul, if_true, Sem.run_bind, Sem.run_pure, Result.andThen]
            have e0 : ∀ f : Nat → Value, (Array.range 0).map f = #[] := fun f => by apply Array.toList_inj.1; rw [Array.toList_map, Array.toList_range]; rfl
            rw [e0]
            have : Instr.fill (fun i => some (i * n, n)) #[] (ps.map fun x => (x.1, ev x.2)).toList = some vs' := k1
            simp only [this, Sem.run_bind, newRow, newObj, Sem.run, Result.andThen, Sem.run_pure]
          · simp only [if_neg hl0, Sem.run_bind, hz1, Result.andThen, Sem.run_pure, hnew, k1, newRow, newObj, Sem.run]
      · cases h
    · cases h
  · cases h
end
end Go.Proofs.YtjmhioacbpgalaaDoorV
