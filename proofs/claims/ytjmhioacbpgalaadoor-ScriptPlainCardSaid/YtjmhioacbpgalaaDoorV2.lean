/- Operations on abstract values, one by one: what they tell, and that the model's operation does just that. First: new objects, stores, reading of cells. -/
import Derived.Test.YtjmhioacbpgalaaDoorV1
import Derived.Laws.Append
namespace Go.Proofs.YtjmhioacbpgalaaDoorV
open Go Go.RowKit
set_option linter.unusedVariables false
set_option linter.unusedSimpArgs false

/-- What an operation does: its value, new objects (numbered from a base on), objects that turn, or go. -/
structure Res where
  val : D
  news : List DObj := []
  upd : List (Nat × Option DObj) := []

def putNews (look : Nat → Option DObj) (base : Nat) (news : List DObj) : Nat → Option DObj :=
  fun id => if base ≤ id ∧ id < base + news.length then news[id - base]? else look id
def putUpd (look : Nat → Option DObj) : List (Nat × Option DObj) → Nat → Option DObj
  | [] => look
  | (i, o) :: r => putUpd (fun id => if id = i then o else look id) r
def Res.heap (r : Res) (look : Nat → Option DObj) (base : Nat) : Nat → Option DObj := putUpd (putNews look base r.news) r.upd

structure Out (g : G) (w : World) (look : Nat → Option DObj) (base : Nat) (r : Res) (g' : G) (w' : World) (v' : Value) : Prop where
  le : Le g w g' w'
  rep : Rep g' w' r.val v'
  heap : HeapRel g' w' (r.heap look base)
  m : ∀ id, (id < base ∨ base + r.news.length ≤ id) → g'.m id = g.m id

theorem putNews_nil (look : Nat → Option DObj) (base : Nat) : putNews look base [] = look := by
  funext id; unfold putNews; rw [if_neg (by rintro ⟨h1, h2⟩; simp at h2; omega)]

theorem out_pure {g : G} {w : World} {look : Nat → Option DObj} {base : Nat} {d : D} {v : Value} (h : HeapRel g w look) (r : Rep g w d v) : Out g w look base { val := d } g w v :=
  ⟨.refl g w, r, by simpa [Res.heap, putUpd, putNews_nil] using h, fun _ _ => rfl⟩

def G.put (g : G) (id : Nat) (x : Nat × Nat × Nat) : G := { g with m := fun i => if i = id then some x else g.m i }

theorem Le.put {g : G} {w w' : World} {id : Nat} {x : Nat × Nat × Nat} (hn : g.m id = none) (hh : ∀ b, (g.F b ∨ g.K b) → w'.heap[b]? = w.heap[b]?) (hs : w.heap.size ≤ w'.heap.size)
    (h1 : w'.os = w.os) (h2 : w'.tape = w.tape) (h3 : w'.output = w.output) : Le g w (g.put id x) w' :=
  ⟨fun i y e => by
    show (if i = id then some x else g.m i) = some y
    by_cases hi : i = id
    · subst hi; rw [hn] at e; cases e
    · rw [if_neg hi]; exact e, fun _ e => e, fun _ => Iff.rfl, hh, hs, h1, h2, h3, fun _ e => .inl e⟩

/-- A new block, an object more. -/
theorem heap_new {g : G} {w : World} {look : Nat → Option DObj} {base : Nat} {ob : Obj} {o : DObj} {p sz : Nat} (h : HeapRel g w look) (hm : g.m base = none) (hl : look base = none) (hcl : ∀ cs s, o = .cells cs s → cs.all (·.cell) = true)
    (ho : Le g w (g.put base (w.heap.size, p, sz)) { w with heap := w.heap.push ob } → ObjRel (g.put base (w.heap.size, p, sz)) { w with heap := w.heap.push ob } base o) :
    Le g w (g.put base (w.heap.size, p, sz)) { w with heap := w.heap.push ob } ∧
    HeapRel (g.put base (w.heap.size, p, sz)) { w with heap := w.heap.push ob } (putNews look base [o]) := by
  have le : Le g w (g.put base (w.heap.size, p, sz)) { w with heap := w.heap.push ob } :=
    .put hm (fun b hb => by
      have : b < w.heap.size := hb.elim (h.frz b) (h.keep b)
      show (w.heap.push ob)[b]? = _
      rw [Array.getElem?_push, if_neg (by omega)]) (by simp) rfl rfl rfl
  refine ⟨le, ?_⟩
  have hput : ∀ id o', putNews look base [o] id = some o' → (id = base ∧ o' = o) ∨ (id ≠ base ∧ look id = some o') := by
    intro id o' e
    unfold putNews at e
    split at e
    · rename_i hc
      have : id = base := by simp at hc; omega
      subst this; simp at e; exact .inl ⟨rfl, e.symm⟩
    · rename_i hc
      refine .inr ⟨fun hh => ?_, e⟩
      subst hh; rw [hl] at e; cases e
  have hblk : ∀ id o', look id = some o' → ∀ b q, g.m id = some (b, q) → b < w.heap.size := fun id o' e b q e2 => by
    exact ((h.obj id o' e).at e2).1
  refine ⟨fun id cs s e => (hput id _ e).elim (fun h1 => hcl _ _ h1.2.symm) (fun h1 => h.cell id cs s h1.2), fun id o' e => ?_, fun id id' o1 o2 b q1 q2 e1 e2 l1 l2 m1 m2 => ?_, fun b hb => ?_, fun b hb => ?_⟩
  · rcases hput id o' e with ⟨rfl, rfl⟩ | ⟨hne, e⟩
    · exact ho le
    · refine (h.obj id o' e).mono le (fun hn => (show (if id = base then some (w.heap.size, p, sz) else g.m id) = none by rw [if_neg hne]; exact hn)) (fun b q hb => ?_) (fun hl b q hb => ?_)
      · have := hblk id o' e b q hb
        show (w.heap.push ob)[b]? = _
        rw [Array.getElem?_push, if_neg (by omega)]
      · exact (((h.obj id o' e).at hb).2 hl).1
  · have old : ∀ id, id ≠ base → ∀ x, (g.put base (w.heap.size, p, sz)).m id = some x → g.m id = some x := fun id hne x e => by
      have e' : (if id = base then some (w.heap.size, p, sz) else g.m id) = some x := e
      rwa [if_neg hne] at e'
    have new : ∀ x, (g.put base (w.heap.size, p, sz)).m base = some x → x = (w.heap.size, p, sz) := fun x e => by
      have e' : (if base = base then some (w.heap.size, p, sz) else g.m base) = some x := e
      rw [if_pos rfl] at e'; cases e'; rfl
    rcases hput id o1 e1 with ⟨hb1, _⟩ | ⟨hne, e1⟩ <;> rcases hput id' o2 e2 with ⟨hb2, _⟩ | ⟨hne', e2⟩
    · rw [hb1, hb2]
    · have := hblk id' o2 e2 b _ (old _ hne' _ m2)
      rw [hb1] at m1
      have e3 := new _ m1; cases e3; omega
    · have := hblk id o1 e1 b _ (old _ hne _ m1)
      rw [hb2] at m2
      have e3 := new _ m2; cases e3; omega
    · exact h.inj id id' o1 o2 b q1 q2 e1 e2 l1 l2 (old _ hne _ m1) (old _ hne' _ m2)
  · have := h.frz b hb
    show b < (w.heap.push ob).size
    simp; omega
  · have := h.keep b hb
    show b < (w.heap.push ob).size
    simp; omega

theorem put_m {g : G} {id : Nat} {x : Nat × Nat × Nat} : (g.put id x).m id = some x := by show (if id = id then some x else g.m id) = some x; rw [if_pos rfl]
theorem put_m_ne {g : G} {id j : Nat} {x : Nat × Nat × Nat} (h : j ≠ id) : (g.put id x).m j = g.m j := by show (if j = id then some x else g.m j) = _; rw [if_neg h]

theorem push_get (a : Array Obj) (o : Obj) : (a.push o)[a.size]? = some o := by simp

/-- A new row of cells. -/
theorem out_row {g : G} {w : World} {look : Nat → Option DObj} {base : Nat} {cs : List D} {vs : List Value} {el : TypeId} {d : D} {v : Value} (h : HeapRel g w look) (hm : g.m base = none) (hl : look base = none)
    (hcl : cs.all (·.cell) = true) (hr : RepAll g w cs (vs.take cs.length)) (hlen : cs.length ≤ vs.length) (hd : ∀ g' w', g'.m base = some (w.heap.size, 0, vs.length) → Rep g' w' d v) :
    ∃ g', Out g w look base { val := d, news := [.cells cs false] } g' { w with heap := w.heap.push (.cells vs.toArray el) } v := by
  obtain ⟨le, hh⟩ := heap_new (ob := .cells vs.toArray el) (o := .cells cs false) (p := 0) (sz := vs.length) h hm hl (fun cs' s' e => by cases e; exact hcl) fun le =>
    .inl ⟨w.heap.size, 0, vs.length, vs.toArray, el, (0, 0), vs.take cs.length, put_m, push_get _ _, (by simp), (by simpa using hlen), (fun j v e => by
      rw [List.getElem?_take] at e
      split at e
      · simpa using e
      · cases e), (RepAll.mono le _ _ hr), (by
      rw [if_neg (by simp)]
      exact ⟨fun hf => Nat.lt_irrefl _ (h.frz _ hf), fun hf => Nat.lt_irrefl _ (h.keep _ hf), rfl⟩)⟩
  exact ⟨_, le, hd _ _ put_m, by simpa [Res.heap, putUpd] using hh, fun id hid => put_m_ne (by simp at hid; omega)⟩

/-! ### cells, read and written -/
theorem add_none (b o n : Nat) : (⟨b, o, none⟩ : Addr).add n = ⟨b, o + n, none⟩ := by
  unfold Addr.add; split
  · rename_i h; subst h; rfl
  · rfl

theorem run_loadCellsFrom {P : Program} {w : World} {b o : Nat} {vs : List Value} (h : At w b o vs) : ∀ (n i : Nat) (acc : Array Value), i + n ≤ vs.length →
    (loadCellsFrom ⟨b, o, none⟩ i n acc).run P w = .ok (acc ++ ((vs.drop i).take n).toArray) w
  | 0, i, acc, _ => by simp [loadCellsFrom]
  | n + 1, i, acc, hn => by
    have hi : i < vs.length := by omega
    have hc : w.cell? ⟨b, o + i, none⟩ = some vs[i] := h i _ (List.getElem?_eq_getElem hi)
    have hd : (vs.drop i).take (n + 1) = vs[i] :: (vs.drop (i + 1)).take n := by rw [List.drop_eq_getElem_cons hi]; rfl
    simp only [loadCellsFrom, load, add_none, Sem.run_bind, Sem.run, hc, Result.andThen]
    rw [run_loadCellsFrom h n (i + 1) (acc.push vs[i]) (by omega), hd]
    simp
theorem run_loadCells {P : Program} {w : World} {b o : Nat} {vs : List Value} (h : At w b o vs) (n : Nat) (hn : n ≤ vs.length) :
    (loadCells ⟨b, o, none⟩ n).run P w = .ok (vs.take n).toArray w := by
  unfold loadCells
  rw [run_loadCellsFrom h n 0 #[] (by omega)]
  simp

def isAggT (P : Program) (t : TypeId) : Option Bool :=
  match P.underlying t with
  | some (.struct _) | some (.array _ _) => some true
  | some _ => some false
  | none => none
def tsize (P : Program) (t : TypeId) : Option Nat := (P.info? t).map (·.size)
theorem run_isAgg {P : Program} {t : TypeId} {b : Bool} (h : isAggT P t = some b) (w : World) : (isAgg t).run P w = .ok b w := by
  unfold isAggT at h
  unfold isAgg
  cases hu : P.underlying t with
  | none => rw [hu] at h; cases h
  | some d => rw [hu] at h; simp only [Sem.run_bind, run_underlying hu, Result.andThen]; cases d <;> simp_all
theorem run_sizeOf {P : Program} {t : TypeId} {n : Nat} (h : tsize P t = some n) (w : World) : (sizeOf t).run P w = .ok n w := by
  unfold tsize at h
  cases hi : P.info? t with
  | none => rw [hi] at h; cases h
  | some i => rw [hi] at h; cases h; simp [sizeOf, typeInfo, hi]

/-- A value out of a row of cells. -/
def loadD (P : Program) (t : TypeId) (cs : List D) : Option D :=
  match isAggT P t, tsize P t with
  | some true, some n => if n ≤ cs.length then some (.agg (cs.take n)) else none
  | some false, some _ => cs[0]?
  | _, _ => none
theorem run_loadVar {P : Program} {g : G} {w : World} {t : TypeId} {b o : Nat} {cs : List D} {vs : List Value} {d : D} (h : loadD P t cs = some d) (ha : At w b o vs) (hr : RepAll g w cs vs) :
    ∃ v, (loadVar t ⟨b, o, none⟩).run P w = .ok v w ∧ Rep g w d v := by
  unfold loadD at h
  split at h
  · rename_i n h1 h2
    split at h
    · rename_i hn
      cases h
      refine ⟨.agg (vs.take n).toArray, ?_, _, rfl, hr.take n⟩
      simp only [loadVar, Sem.run_bind, run_isAgg h1, Result.andThen, if_true, run_sizeOf h2, run_loadCells ha n (by rw [hr.length]; exact hn), Sem.run_pure]
    · cases h
  · rename_i n h1 h2
    obtain ⟨y, hy, r⟩ := hr.get h
    refine ⟨y, ?_, r⟩
    have hc := ha 0 y hy
    rw [Nat.add_zero] at hc
    simp [loadVar, run_isAgg h1, load, Sem.run, hc, Result.andThen]
  · cases h

/-- The cells that an address tells. -/
def rowAt (look : Nat → Option DObj) : D → Option (List D)
  | .ptr id off => match look id with | some (.cells cs _) => some (cs.drop off) | _ => none
  | .eaddr cs => some cs
  | _ => none
theorem rowAt_sound {g : G} {w : World} {look : Nat → Option DObj} (h : HeapRel g w look) {d : D} {y : Value} {cs : List D} (r : Rep g w d y) (e : rowAt look d = some cs) :
    ∃ b o vs, y = .pointer (some ⟨b, o, none⟩) ∧ At w b o vs ∧ RepAll g w cs vs := by
  cases d <;> simp only [rowAt] at e <;> try (cases e; done)
  case eaddr cs' =>
    cases e
    obtain ⟨b, o, vs, h1, _, h3, h4⟩ := r
    exact ⟨b, o, vs, h1, h3, h4⟩
  case ptr id off =>
    split at e
    · rename_i cs' s hl
      cases e
      obtain ⟨b', p', sz', m, rfl⟩ := r
      obtain ⟨b, o, sz, c, el, fr, vs, h1, h2, h3, h4, h5, h6, h7⟩ := (h.obj id _ hl).real m
      rw [h1] at m; cases m
      refine ⟨b', p' + off, vs.drop off, rfl, ?_, h6.drop off⟩
      have : At w b' p' vs := fun j v e => by
        have := h5 j v e
        simp [World.cell?, h2, this]
      exact this.drop off
    · cases e

def dcells : D → Option (List D)
  | .agg cs => if cs.all (·.cell) then some cs else none
  | d => if d.cell then some [d] else none
theorem D.cell_ne {d : D} {g : G} {w : World} {y : Value} (h : d.cell = true) (r : Rep g w d y) : (∀ cs, y ≠ .agg cs) ∧ (∀ cs, y ≠ .tuple cs) := by
  cases d with
  | any => cases h
  | v x => cases r; cases y <;> first | (cases h; done) | (refine ⟨fun _ => ?_, fun _ => ?_⟩ <;> intro hh <;> cases hh)
  | agg => cases h
  | tup => cases h
  | sl n xs => rcases r with ⟨_, _, _, h, _⟩ | ⟨⟨_, _, h, _⟩, _⟩ <;> subst h <;> (refine ⟨fun _ => ?_, fun _ => ?_⟩ <;> intro hh <;> cases hh)
  | eaddr => obtain ⟨_, _, _, h, _⟩ := r; subst h; (refine ⟨fun _ => ?_, fun _ => ?_⟩ <;> intro hh <;> cases hh)
  | ref => rcases r with ⟨_, _, _, _, _, _, h, _⟩ | ⟨_, _, h⟩ <;> subst h <;> (refine ⟨fun _ => ?_, fun _ => ?_⟩ <;> intro hh <;> cases hh)
  | ptr => obtain ⟨_, _, _, _, h⟩ := r; subst h; (refine ⟨fun _ => ?_, fun _ => ?_⟩ <;> intro hh <;> cases hh)
  | map => obtain ⟨_, _, _, _, h⟩ := r; subst h; (refine ⟨fun _ => ?_, fun _ => ?_⟩ <;> intro hh <;> cases hh)
  | clo => obtain ⟨_, _, h, _⟩ := r; subst h; (refine ⟨fun _ => ?_, fun _ => ?_⟩ <;> intro hh <;> cases hh)
theorem dcells_sound {d : D} {g : G} {w : World} {y : Value} {cs : List D} (h : dcells d = some cs) (r : Rep g w d y) : RepAll g w cs y.cells.toList ∧ cs.all (·.cell) = true := by
  unfold dcells at h
  split at h
  · rename_i cs'
    split at h
    · rename_i hc; cases h
      obtain ⟨vs, rfl, h2⟩ := r
      exact ⟨h2, hc⟩
    · cases h
  · split at h
    · rename_i hc; cases h
      have hne := (D.cell_ne hc r).1
      have : y.cells = #[y] := by cases y <;> first | rfl | exact absurd rfl (hne _)
      rw [this]
      exact ⟨⟨y, [], rfl, r, rfl⟩, by simp [hc]⟩
    · cases h

theorem run_storeCells {P : Program} {b o : Nat} {el : TypeId} : ∀ (vs : List Value) (i : Nat) (w : World) (c : Array Value), w.heap[b]? = some (.cells c el (0, 0)) → o + i + vs.length ≤ c.size →
    (∀ v ∈ vs, (∀ cs, v ≠ .agg cs) ∧ (∀ cs, v ≠ .tuple cs)) →
    ∃ c', (storeCells ⟨b, o, none⟩ vs i).run P w = .ok () { w with heap := w.heap.setIfInBounds b (.cells c' el (0, 0)) } ∧ c'.size = c.size ∧
      (∀ j, c'[j]? = if o + i ≤ j ∧ j < o + i + vs.length then vs[j - (o + i)]? else c[j]?)
  | [], i, w, c, hb, hl, _ => by
    refine ⟨c, ?_, rfl, fun j => by rw [if_neg (by rintro ⟨h1, h2⟩; simp at h2; omega)]⟩
    have : w.heap.setIfInBounds b (.cells c el (0, 0)) = w.heap := by
      apply Array.ext_getElem?
      intro k
      rw [Array.getElem?_setIfInBounds]
      split
      · rename_i hk; subst hk
        rw [hb]
        have : b < w.heap.size := (Array.getElem?_eq_some_iff.1 hb).1
        rw [if_pos this]
      · rfl
    simp [storeCells, this]
  | v :: vs, i, w, c, hb, hl, hc => by
    have hbs : b < w.heap.size := (Array.getElem?_eq_some_iff.1 hb).1
    have hcell : w.cell? ⟨b, o + i, none⟩ = some c[o + i]! := by
      have : o + i < c.size := by simp at hl; omega
      simp [World.cell?, hb, Array.getElem?_eq_getElem this, this]
    have hfr : w.frozen? ⟨b, o + i, none⟩ = false := by simp [World.frozen?, hb]
    have hset : w.setCell ⟨b, o + i, none⟩ v = { w with heap := w.heap.setIfInBounds b (.cells (c.setIfInBounds (o + i) v) el (0, 0)) } := by
      simp only [World.setCell]
      congr 1
      apply Array.ext_getElem?
      intro k
      rw [Array.getElem?_modify, Array.getElem?_setIfInBounds]
      by_cases hk : b = k
      · subst hk; rw [if_pos rfl, if_pos rfl, if_pos hbs, hb]; rfl
      · rw [if_neg hk, if_neg hk]
    obtain ⟨c', h1, h2, h3⟩ := run_storeCells (P := P) (b := b) (o := o) (el := el) vs (i + 1) { w with heap := w.heap.setIfInBounds b (.cells (c.setIfInBounds (o + i) v) el (0, 0)) } (c.setIfInBounds (o + i) v)
      (by simp [Array.getElem?_setIfInBounds, hbs]) (by simp at hl ⊢; omega) (fun u hu => hc u (List.mem_cons_of_mem _ hu))
    refine ⟨c', ?_, by rw [h2]; simp, fun j => ?_⟩
    · have hst : (store ⟨b, o + i, none⟩ v).run P w = .ok () (w.setCell ⟨b, o + i, none⟩ v) := by
        obtain ⟨n1, n2⟩ := hc v (by simp)
        cases v <;> first | exact absurd rfl (n1 _) | exact absurd rfl (n2 _) | simp [store, Sem.run, hcell, hfr]
      simp only [storeCells, add_none, Sem.run_bind, hst, Result.andThen, hset]
      rw [h1]
      simp [Array.setIfInBounds_setIfInBounds]
    · rw [h3 j]
      by_cases h0 : j = o + i
      · subst h0
        rw [if_neg (by omega), if_pos (by simp)]
        have : o + i < c.size := by simp at hl; omega
        simp [Array.getElem?_setIfInBounds, this]
      · by_cases hj : o + (i + 1) ≤ j ∧ j < o + (i + 1) + vs.length
        · rw [if_pos hj, if_pos (by simp; omega)]
          obtain ⟨k, hk⟩ : ∃ k, j - (o + i) = k + 1 := ⟨j - (o + i) - 1, by omega⟩
          rw [hk, show j - (o + (i + 1)) = k by omega]
          rfl
        · rw [if_neg hj, if_neg (by simp at hj ⊢; omega), Array.getElem?_setIfInBounds, if_neg (by omega)]

/-- What is laid over a row from a place on. -/
def over (cs : List D) (off : Nat) (ds : List D) : List D := cs.take off ++ ds ++ cs.drop (off + ds.length)

/-- A row of the call's own, written. -/
theorem heap_write {g : G} {w : World} {look : Nat → Option DObj} {id b o sz : Nat} {c c' : Array Value} {el : TypeId} {cs cs' : List D} {vs' : List Value} (h : HeapRel g w look)
    (hl : look id = some (.cells cs false)) (hm : g.m id = some (b, o, sz)) (hb : w.heap[b]? = some (.cells c el (0, 0))) (hsz : c'.size = c.size)
    (hcl : cs'.all (·.cell) = true) (hlen : o + cs'.length ≤ c.size) (hv : ∀ j v, vs'[j]? = some v → c'[o + j]? = some v) (hr : RepAll g w cs' vs') :
    Le g w g { w with heap := w.heap.setIfInBounds b (.cells c' el (0, 0)) } ∧
    HeapRel g { w with heap := w.heap.setIfInBounds b (.cells c' el (0, 0)) } (fun i => if i = id then some (.cells cs' false) else look i) := by
  have hbs : b < w.heap.size := (Array.getElem?_eq_some_iff.1 hb).1
  have own : ¬ g.F b ∧ ¬ g.K b := ((h.obj id _ hl).at hm).2 rfl
  have le : Le g w g { w with heap := w.heap.setIfInBounds b (.cells c' el (0, 0)) } :=
    ⟨fun _ _ e => e, fun _ e => e, fun _ => Iff.rfl, fun b' hb' => by
      show (w.heap.setIfInBounds b _)[b']? = _
      rw [Array.getElem?_setIfInBounds, if_neg]
      intro e; subst e; exact hb'.elim own.1 own.2, by simp, rfl, rfl, rfl, fun _ e => .inl e⟩
  refine ⟨le, fun i cs2 s2 e => (by
    split at e
    · cases e; exact hcl
    · exact h.cell _ _ _ e), fun i o' e => ?_, fun i i' o1 o2 b1 q1 q2 e1 e2 l1 l2 m1 m2 => ?_, fun b' hb' => by simpa using h.frz b' hb', fun b' hb' => by simpa using h.keep b' hb'⟩
  · split at e
    · rename_i hi; subst hi; cases e
      have hsz' : c.size = sz := by
        obtain ⟨_, _, _, _, _, _, _, q1, q2, q3, _⟩ := (h.obj i _ hl).real hm
        rw [hm] at q1; cases q1; rw [hb] at q2; cases q2; exact q3
      refine .inl ⟨b, o, sz, c', el, (0, 0), vs', hm, by simp [Array.getElem?_setIfInBounds, hbs], hsz.trans hsz', by omega, hv, RepAll.mono le _ _ hr, ?_⟩
      rw [if_neg (by simp)]; exact ⟨own.1, own.2, rfl⟩
    · rename_i hi
      refine (h.obj i o' e).mono le (fun hn => hn) (fun b' q hb' => ?_) (fun hl b' q hb' => ?_)
      · show (w.heap.setIfInBounds b _)[b']? = _
        rw [Array.getElem?_setIfInBounds, if_neg]
        intro e'; subst e'
        cases hlv : o'.live with
        | true => exact hi (h.inj i id o' _ b q _ e hl hlv rfl hb' hm)
        | false =>
          cases o' <;> simp [DObj.live] at hlv
          subst hlv
          obtain ⟨_, _, _, _, _, _, _, q1, _, _, _, _, _, q7⟩ := (h.obj i _ e).real hb'
          rw [hb'] at q1; cases q1
          exact own.1 (by simpa using q7)
      · exact (((h.obj i o' e).at hb').2 hl).1
  · have orig : ∀ i o', (if i = id then some (DObj.cells cs' false) else look i) = some o' → o'.live = true → ∃ o'', look i = some o'' ∧ o''.live = true := fun i o' e l => by
      by_cases hi : i = id
      · subst hi; exact ⟨_, hl, rfl⟩
      · rw [if_neg hi] at e; exact ⟨o', e, l⟩
    obtain ⟨p1, k1, k1'⟩ := orig i o1 e1 l1
    obtain ⟨p2, k2, k2'⟩ := orig i' o2 e2 l2
    exact h.inj i i' p1 p2 b1 q1 q2 k1 k2 k1' k2' m1 m2
end Go.Proofs.YtjmhioacbpgalaaDoorV
