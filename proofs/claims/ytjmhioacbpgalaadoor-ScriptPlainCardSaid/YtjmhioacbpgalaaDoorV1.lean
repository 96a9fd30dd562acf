/- Words for a walk on abstract values: what a value stands for, what may not turn, what a heap of a call's own holds. No program of its own is spoken of. -/
import Derived.Below
import Derived.Orders
namespace Go.Proofs.YtjmhioacbpgalaaDoorV
open Go Go.RowKit
set_option linter.unusedVariables false
set_option linter.unusedSimpArgs false

/-- What a value stands for. 'sl': a list that nobody writes; 'ref', 'ptr', 'map': of an object of the call's own, by its number; 'eaddr': the address of cells that nobody writes. -/
inductive D where
  | any
  | v (x : Value)
  | sl (n : Nat) (xs : List D)
  | agg (cs : List D)
  | eaddr (cs : List D)
  | ref (id off len n : Nat) (ag : Bool)
  | ptr (id off : Nat)
  | map (id : Nat)
  | clo (fn : FuncId) (first caps : List D)
  | tup (xs : List D)

instance : Inhabited D := ⟨.any⟩

/-- An object of the call's own. -/
inductive DObj where
  | cells (cs : List D) (shut : Bool)
  | map (es : List (Value × D))
  | siter (s : ByteArray) (pos : Nat)

def D.cells : D → List D
  | .agg cs => cs
  | d => [d]

/-- Where objects lie (block, first cell, cells of the block); which blocks are read and never written; which blocks are to be kept. -/
structure G where
  m : Nat → Option (Nat × Nat × Nat)
  F : Nat → Prop
  K : Nat → Prop

def At (w : World) (b o : Nat) (vs : List Value) : Prop := ∀ j v, vs[j]? = some v → w.cell? ⟨b, o + j, none⟩ = some v

mutual
def Rep (g : G) (w : World) : D → Value → Prop
  | .any, _ => True
  | .v x, y => y = x
  | .sl n xs, y => (∃ b o cap, y = .slice (some ⟨b, o, none⟩) xs.length cap ∧ xs.length ≤ cap ∧ g.F b ∧ RepRows g w b n xs o) ∨ ((∃ a cap, y = .slice a 0 cap ∧ (a = none → cap = 0)) ∧ xs = [])
  | .agg cs, y => ∃ vs : List Value, y = .agg vs.toArray ∧ RepAll g w cs vs
  | .eaddr cs, y => ∃ b o vs, y = .pointer (some ⟨b, o, none⟩) ∧ g.F b ∧ At w b o vs ∧ RepAll g w cs vs
  | .ref id off len n ag, y => (∃ b o sz cap p, g.m id = some (b, o, sz) ∧ y = .slice (some ⟨b, p, none⟩) len cap ∧ len ≤ cap ∧ (cap = 0 ∨ p = o + off) ∧ p + cap * n ≤ sz) ∨ (len = 0 ∧ ∃ a, y = .slice a 0 0)
  | .ptr id off, y => ∃ b o sz, g.m id = some (b, o, sz) ∧ y = .pointer (some ⟨b, o + off, none⟩)
  | .map id, y => ∃ b o sz, g.m id = some (b, o, sz) ∧ y = .map (some b)
  | .clo f fs cs, y => ∃ vf vc : List Value, y = .func (.func f) vf.toArray vc.toArray ∧ RepAll g w fs vf ∧ RepAll g w cs vc
  | .tup xs, y => ∃ vs : List Value, y = .tuple vs.toArray ∧ RepAll g w xs vs
def RepAll (g : G) (w : World) : List D → List Value → Prop
  | [], vs => vs = []
  | d :: ds, vs => ∃ y ys, vs = y :: ys ∧ Rep g w d y ∧ RepAll g w ds ys
def RepRows (g : G) (w : World) (b n : Nat) : List D → Nat → Prop
  | [], _ => True
  | x :: xs, o => (∃ y, Rep g w x y ∧ y.cells.size = n ∧ At w b o y.cells.toList) ∧ RepRows g w b n xs (o + n)
end

structure Le (g : G) (w : World) (g' : G) (w' : World) : Prop where
  m : ∀ id x, g.m id = some x → g'.m id = some x
  F : ∀ b, g.F b → g'.F b
  K : ∀ b, g.K b ↔ g'.K b
  heap : ∀ b, (g.F b ∨ g.K b) → w'.heap[b]? = w.heap[b]?
  size : w.heap.size ≤ w'.heap.size
  os : w'.os = w.os
  tape : w'.tape = w.tape
  output : w'.output = w.output
  Fn : ∀ b, g'.F b → g.F b ∨ ¬ g.K b

theorem Le.refl (g : G) (w : World) : Le g w g w := ⟨fun _ _ h => h, fun _ h => h, fun _ => Iff.rfl, fun _ _ => rfl, Nat.le_refl _, rfl, rfl, rfl, fun _ h => .inl h⟩
theorem Le.trans {a b c : G} {u v w : World} (h : Le a u b v) (k : Le b v c w) : Le a u c w :=
  ⟨fun i x e => k.m i x (h.m i x e), fun x e => k.F x (h.F x e), fun x => (h.K x).trans (k.K x),
   fun x e => (k.heap x (e.imp (h.F x) (h.K x).1)).trans (h.heap x e), Nat.le_trans h.size k.size, k.os.trans h.os, k.tape.trans h.tape, k.output.trans h.output,
   fun b hb => (k.Fn b hb).elim (h.Fn b) (fun hk => .inr (fun hk' => hk ((h.K b).1 hk')))⟩

theorem Le.cell {g g' : G} {w w' : World} (h : Le g w g' w') {b : Nat} (hb : g.F b) (o : Nat) : w'.cell? ⟨b, o, none⟩ = w.cell? ⟨b, o, none⟩ :=
  World.cell?_of_block (w := w) (a := ⟨b, o, none⟩) (h.heap b (.inl hb))

theorem At.mono {g g' : G} {w w' : World} (h : Le g w g' w') {b o : Nat} {vs : List Value} (hb : g.F b) (a : At w b o vs) : At w' b o vs :=
  fun j v e => (h.cell hb _).trans (a j v e)

mutual
theorem Rep.mono {g g' : G} {w w' : World} (h : Le g w g' w') : ∀ (d : D) (y : Value), Rep g w d y → Rep g' w' d y
  | .any, _, _ => trivial
  | .v x, y, r => r
  | .sl n xs, y, r => by
    rcases r with ⟨b, o, cap, h1, h2, h3, h5⟩ | r
    · exact .inl ⟨b, o, cap, h1, h2, h.F b h3, RepRows.mono h h3 xs o h5⟩
    · exact .inr r
  | .agg cs, y, ⟨vs, h1, h2⟩ => ⟨vs, h1, RepAll.mono h cs vs h2⟩
  | .eaddr cs, y, ⟨b, o, vs, h1, h2, h3, h4⟩ => ⟨b, o, vs, h1, h.F b h2, h3.mono h h2, RepAll.mono h cs vs h4⟩
  | .ref id off len n ag, y, .inl ⟨b, o, sz, cap, p, h1, r⟩ => .inl ⟨b, o, sz, cap, p, h.m id _ h1, r⟩
  | .ref id off len n ag, y, .inr r => .inr r
  | .ptr id off, y, ⟨b, o, sz, h1, r⟩ => ⟨b, o, sz, h.m id _ h1, r⟩
  | .map id, y, ⟨b, o, sz, h1, r⟩ => ⟨b, o, sz, h.m id _ h1, r⟩
  | .clo f fs cs, y, ⟨vf, vc, h1, h2, h3⟩ => ⟨vf, vc, h1, RepAll.mono h fs vf h2, RepAll.mono h cs vc h3⟩
  | .tup xs, y, ⟨vs, h1, h2⟩ => ⟨vs, h1, RepAll.mono h xs vs h2⟩
theorem RepAll.mono {g g' : G} {w w' : World} (h : Le g w g' w') : ∀ (ds : List D) (vs : List Value), RepAll g w ds vs → RepAll g' w' ds vs
  | [], _, r => r
  | d :: ds, _, ⟨y, ys, h1, h2, h3⟩ => ⟨y, ys, h1, Rep.mono h d y h2, RepAll.mono h ds ys h3⟩
theorem RepRows.mono {g g' : G} {w w' : World} (h : Le g w g' w') {b n : Nat} (hb : g.F b) : ∀ (xs : List D) (o : Nat), RepRows g w b n xs o → RepRows g' w' b n xs o
  | [], _, _ => trivial
  | x :: xs, o, ⟨⟨y, h1, h2, h3⟩, r⟩ => ⟨⟨y, Rep.mono h x y h1, h2, h3.mono h hb⟩, RepRows.mono h hb xs _ r⟩
end

/-! ### lists of them -/
theorem RepAll.length {g : G} {w : World} : ∀ {ds : List D} {vs : List Value}, RepAll g w ds vs → vs.length = ds.length
  | [], _, h => by cases h; rfl
  | d :: ds, _, ⟨y, ys, rfl, _, h⟩ => by simp [RepAll.length h]

theorem RepAll.get {g : G} {w : World} : ∀ {ds : List D} {vs : List Value}, RepAll g w ds vs → ∀ {j : Nat} {d : D}, ds[j]? = some d → ∃ y, vs[j]? = some y ∧ Rep g w d y
  | [], _, _, j, d, e => by simp at e
  | d :: ds, _, ⟨y, ys, rfl, hy, h⟩, 0, x, e => by simp at e; subst e; exact ⟨y, rfl, hy⟩
  | d :: ds, _, ⟨y, ys, rfl, hy, h⟩, j + 1, x, e => by simp at e; simpa using RepAll.get h e

theorem RepAll.get' {g : G} {w : World} : ∀ {ds : List D} {vs : List Value}, RepAll g w ds vs → ∀ {j : Nat} {y : Value}, vs[j]? = some y → ∃ d, ds[j]? = some d ∧ Rep g w d y
  | [], _, h, j, y, e => by cases h; simp at e
  | d :: ds, _, ⟨y, ys, rfl, hy, h⟩, 0, x, e => by simp at e; subst e; exact ⟨d, rfl, hy⟩
  | d :: ds, _, ⟨y, ys, rfl, hy, h⟩, j + 1, x, e => by simp at e; simpa using RepAll.get' h e

theorem RepAll.of {g : G} {w : World} : ∀ {ds : List D} {vs : List Value}, vs.length = ds.length → (∀ (j : Nat) (d : D) (y : Value), ds[j]? = some d → vs[j]? = some y → Rep g w d y) → RepAll g w ds vs
  | [], [], _, _ => rfl
  | [], _ :: _, h, _ => by simp at h
  | d :: ds, [], h, _ => by simp at h
  | d :: ds, y :: ys, h, f => ⟨y, ys, rfl, f 0 d y rfl rfl, RepAll.of (by simpa using h) fun j d' y' e e' => f (j + 1) d' y' (by simpa using e) (by simpa using e')⟩

theorem RepAll.drop {g : G} {w : World} {ds : List D} {vs : List Value} (h : RepAll g w ds vs) (n : Nat) : RepAll g w (ds.drop n) (vs.drop n) :=
  .of (by simp [h.length]) fun j d y e e' => by
    rw [List.getElem?_drop] at e e'
    obtain ⟨z, hz, r⟩ := h.get e
    rw [hz] at e'; cases e'; exact r
theorem RepAll.take {g : G} {w : World} {ds : List D} {vs : List Value} (h : RepAll g w ds vs) (n : Nat) : RepAll g w (ds.take n) (vs.take n) :=
  .of (by simp [h.length]) fun j d y e e' => by
    rw [List.getElem?_take] at e e'
    split at e
    · rename_i hj
      rw [if_pos hj] at e'
      obtain ⟨z, hz, r⟩ := h.get e
      rw [hz] at e'; cases e'; exact r
    · cases e
theorem RepAll.append {g : G} {w : World} : ∀ {ds es : List D} {vs us : List Value}, RepAll g w ds vs → RepAll g w es us → RepAll g w (ds ++ es) (vs ++ us)
  | [], _, _, _, h, k => by cases h; exact k
  | d :: ds, _, _, _, ⟨y, ys, rfl, hy, h⟩, k => ⟨y, ys ++ _, rfl, hy, RepAll.append h k⟩
theorem RepAll.set {g : G} {w : World} {ds : List D} {vs : List Value} (h : RepAll g w ds vs) (t : Nat) {d : D} {y : Value} (r : Rep g w d y) : RepAll g w (ds.set t d) (vs.set t y) :=
  .of (by simp [h.length]) fun j d' y' e e' => by
    rw [List.getElem?_set] at e e'
    split at e
    · rename_i hj
      rw [if_pos hj] at e'
      split at e
      · rename_i hl
        rw [if_pos (by rw [h.length]; exact hl)] at e'
        cases e; cases e'; exact r
      · cases e
    · rename_i hj
      rw [if_neg hj] at e'
      obtain ⟨z, hz, rr⟩ := h.get e
      rw [hz] at e'; cases e'; exact rr
theorem RepAll.ofV {g : G} {w : World} (vs : List Value) : RepAll g w (vs.map .v) vs :=
  .of (by simp) fun j d y e e' => by
    rw [List.getElem?_map, e'] at e
    cases e; exact rfl
theorem At.drop {w : World} {b o : Nat} {vs : List Value} (h : At w b o vs) (n : Nat) : At w b (o + n) (vs.drop n) := fun j v e => by
  rw [List.getElem?_drop] at e
  have := h _ _ e
  rwa [← Nat.add_assoc] at this
theorem At.take {w : World} {b o : Nat} {vs : List Value} (h : At w b o vs) (n : Nat) : At w b o (vs.take n) := fun j v e => by
  rw [List.getElem?_take] at e
  split at e
  · exact h j v e
  · cases e

theorem RepRows.get {g : G} {w : World} {b n : Nat} : ∀ {xs : List D} {o : Nat}, RepRows g w b n xs o → ∀ {i : Nat} {x : D}, xs[i]? = some x →
    ∃ y, Rep g w x y ∧ y.cells.size = n ∧ At w b (o + i * n) y.cells.toList
  | [], _, _, i, x, e => by simp at e
  | x :: xs, o, ⟨⟨y, h1, h2, h3⟩, r⟩, 0, z, e => by simp at e; subst e; exact ⟨y, h1, h2, by simpa using h3⟩
  | x :: xs, o, ⟨_, r⟩, i + 1, z, e => by
    simp at e
    obtain ⟨y, h1, h2, h3⟩ := RepRows.get r e
    exact ⟨y, h1, h2, by rw [Nat.add_mul, Nat.one_mul]; rwa [Nat.add_assoc, Nat.add_comm n] at h3⟩
theorem RepRows.drop {g : G} {w : World} {b n : Nat} : ∀ {xs : List D} {o : Nat}, RepRows g w b n xs o → ∀ (k : Nat), k ≤ xs.length → RepRows g w b n (xs.drop k) (o + k * n)
  | xs, o, h, 0, _ => by simpa using h
  | [], o, h, k + 1, hk => by simp at hk
  | x :: xs, o, ⟨_, r⟩, k + 1, hk => by
    have := RepRows.drop r k (by simpa using hk)
    rw [Nat.add_mul, Nat.one_mul]
    rwa [Nat.add_assoc, Nat.add_comm n] at this
theorem RepRows.take {g : G} {w : World} {b n : Nat} : ∀ {xs : List D} {o : Nat}, RepRows g w b n xs o → ∀ (k : Nat), RepRows g w b n (xs.take k) o
  | xs, o, h, 0 => by simp [RepRows]
  | [], o, h, k + 1 => by simpa using h
  | x :: xs, o, ⟨h, r⟩, k + 1 => ⟨h, RepRows.take r k⟩

theorem Rep.cells {g : G} {w : World} {d : D} {y : Value} (h : Rep g w d y) (hn : (∀ x, d ≠ .v x) ∧ d ≠ .any ∨ ∀ cs, y ≠ .agg cs) : RepAll g w d.cells y.cells.toList := by
  cases d with
  | any =>
    have hy : y.cells = #[y] := by
      rcases hn with hn | hn
      · exact absurd rfl hn.2
      · cases y <;> first | rfl | exact absurd rfl (hn _)
    rw [hy]; exact ⟨y, [], rfl, h, rfl⟩
  | v x =>
    have hy : y.cells = #[y] := by
      rcases hn with hn | hn
      · exact absurd rfl (hn.1 x)
      · cases y <;> first | rfl | exact absurd rfl (hn _)
    rw [hy]; exact ⟨y, [], rfl, h, rfl⟩
  | agg cs => obtain ⟨vs, rfl, h2⟩ := h; exact h2
  | sl n xs =>
    have hy : y.cells = #[y] := by rcases h with ⟨_, _, _, h, _⟩ | ⟨⟨_, _, h, _⟩, _⟩ <;> subst h <;> rfl
    rw [hy]; exact ⟨y, [], rfl, h, rfl⟩
  | eaddr cs => have hy : y.cells = #[y] := by obtain ⟨_, _, _, h, _⟩ := h; subst h; rfl
                rw [hy]; exact ⟨y, [], rfl, h, rfl⟩
  | ref => have hy : y.cells = #[y] := by rcases h with ⟨_, _, _, _, _, _, h, _⟩ | ⟨_, _, h⟩ <;> subst h <;> rfl
           rw [hy]; exact ⟨y, [], rfl, h, rfl⟩
  | ptr => have hy : y.cells = #[y] := by obtain ⟨_, _, _, _, h⟩ := h; subst h; rfl
           rw [hy]; exact ⟨y, [], rfl, h, rfl⟩
  | map => have hy : y.cells = #[y] := by obtain ⟨_, _, _, _, h⟩ := h; subst h; rfl
           rw [hy]; exact ⟨y, [], rfl, h, rfl⟩
  | clo => have hy : y.cells = #[y] := by obtain ⟨_, _, h, _⟩ := h; subst h; rfl
           rw [hy]; exact ⟨y, [], rfl, h, rfl⟩
  | tup => have hy : y.cells = #[y] := by obtain ⟨_, h, _⟩ := h; subst h; rfl
           rw [hy]; exact ⟨y, [], rfl, h, rfl⟩

/-! ### the heap -/
def ObjRel (g : G) (w : World) (id : Nat) : DObj → Prop
  | .cells cs s => (∃ b o sz c el fr vs, g.m id = some (b, o, sz) ∧ w.heap[b]? = some (.cells c el fr) ∧ c.size = sz ∧ o + cs.length ≤ sz ∧
      (∀ j v, vs[j]? = some v → c[o + j]? = some v) ∧ RepAll g w cs vs ∧ (if s then g.F b else ¬ g.F b ∧ ¬ g.K b ∧ fr = (0, 0))) ∨ (cs = [] ∧ g.m id = none)
  | .map es => ∃ b o sz ents clock vs, g.m id = some (b, o, sz) ∧ w.heap[b]? = some (.map ents clock) ∧ ents.toList.map (·.key) = es.map (·.1) ∧ ents.toList.map (·.val) = vs ∧
      RepAll g w (es.map (·.2)) vs ∧ ¬ g.F b ∧ ¬ g.K b
  | .siter s pos => ∃ b sz, g.m id = some (b, 0, sz) ∧ w.heap[b]? = some (.stringIter s pos) ∧ ¬ g.F b ∧ ¬ g.K b

/-- Is an object one that may be written? -/
def DObj.live : DObj → Bool
  | .cells _ s => !s
  | _ => true

/-- Is a value one that a cell may hold? -/
def D.cell : D → Bool
  | .any | .agg _ | .tup _ => false
  | .v (.agg _) | .v (.tuple _) => false
  | _ => true

structure HeapRel (g : G) (w : World) (look : Nat → Option DObj) : Prop where
  cell : ∀ id cs s, look id = some (.cells cs s) → cs.all (·.cell) = true
  obj : ∀ id o, look id = some o → ObjRel g w id o
  inj : ∀ id id' o o' b p q, look id = some o → look id' = some o' → o.live = true → o'.live = true → g.m id = some (b, p) → g.m id' = some (b, q) → id = id'
  frz : ∀ b, g.F b → b < w.heap.size
  keep : ∀ b, g.K b → b < w.heap.size

theorem ObjRel.at {g : G} {w : World} {id : Nat} {o : DObj} (h : ObjRel g w id o) {b : Nat} {p : Nat × Nat} (e : g.m id = some (b, p)) : b < w.heap.size ∧ (o.live = true → ¬ g.F b ∧ ¬ g.K b) := by
  have key : ∀ b x, w.heap[b]? = some x → b < w.heap.size := fun b x h => (Array.getElem?_eq_some_iff.1 h).1
  cases o with
  | cells cs s =>
    rcases h with ⟨b', o, sz, c, el, fr, vs, h1, h2, h3, h4, h5, h6, h7⟩ | ⟨_, h⟩
    · rw [e] at h1; cases h1
      refine ⟨key _ _ h2, fun hl => ?_⟩
      cases s
      · simp at h7; exact ⟨h7.1, h7.2.1⟩
      · simp [DObj.live] at hl
    · rw [e] at h; cases h
  | map es => obtain ⟨b', o, sz, ents, clock, vs, h1, h2, h3, h4, h5, h6, h7⟩ := h; rw [e] at h1; cases h1; exact ⟨key _ _ h2, fun _ => ⟨h6, h7⟩⟩
  | siter s pos => obtain ⟨b', sz, h1, h2, h3, h4⟩ := h; rw [e] at h1; cases h1; exact ⟨key _ _ h2, fun _ => ⟨h3, h4⟩⟩
/-- An object that lies somewhere. -/
theorem ObjRel.real {g : G} {w : World} {id : Nat} {cs : List D} {s : Bool} (h : ObjRel g w id (.cells cs s)) {x : Nat × Nat × Nat} (e : g.m id = some x) :
    ∃ b o sz c el fr vs, g.m id = some (b, o, sz) ∧ w.heap[b]? = some (.cells c el fr) ∧ c.size = sz ∧ o + cs.length ≤ sz ∧
      (∀ j v, vs[j]? = some v → c[o + j]? = some v) ∧ RepAll g w cs vs ∧ (if s then g.F b else ¬ g.F b ∧ ¬ g.K b ∧ fr = (0, 0)) :=
  h.elim (fun h => h) fun h => by rw [e] at h; cases h.2

/-- An object whose block reads as it did stands as it did. -/
theorem ObjRel.mono {g g' : G} {w w' : World} (h : Le g w g' w') {id : Nat} {o : DObj} (r : ObjRel g w id o) (hn : g.m id = none → g'.m id = none)
    (hb : ∀ b p, g.m id = some (b, p) → w'.heap[b]? = w.heap[b]?) (hf : o.live = true → ∀ b p, g.m id = some (b, p) → ¬ g'.F b) : ObjRel g' w' id o := by
  cases o with
  | cells cs s =>
    rcases r with ⟨b, o, sz, c, el, fr, vs, h1, h2, h3, h4, h5, h6, h7⟩ | ⟨h1, h2⟩
    · refine .inl ⟨b, o, sz, c, el, fr, vs, h.m _ _ h1, (hb _ _ h1).trans h2, h3, h4, h5, RepAll.mono h _ _ h6, ?_⟩
      cases s
      · simp at h7 ⊢; exact ⟨hf rfl _ _ h1, fun k => h7.2.1 ((h.K b).2 k), h7.2.2⟩
      · simp at h7 ⊢; exact h.F _ h7
    · exact .inr ⟨h1, hn h2⟩
  | map es =>
    obtain ⟨b, o, sz, ents, clock, vs, h1, h2, h3, h4, h5, h6, h7⟩ := r
    exact ⟨b, o, sz, ents, clock, vs, h.m _ _ h1, (hb _ _ h1).trans h2, h3, h4, RepAll.mono h _ _ h5, hf rfl _ _ h1, fun k => h7 ((h.K b).2 k)⟩
  | siter s pos =>
    obtain ⟨b, sz, h1, h2, h3, h4⟩ := r
    exact ⟨b, sz, h.m _ _ h1, (hb _ _ h1).trans h2, hf rfl _ _ h1, fun k => h4 ((h.K b).2 k)⟩
end Go.Proofs.YtjmhioacbpgalaaDoorV
