/- Calls: what a function's contract says over abstract values, and the step of a call. -/
import Derived.Test.YtjmhioacbpgalaaDoorVB
namespace Go.Proofs.YtjmhioacbpgalaaDoorV
open Go Go.RowKit
set_option linter.unusedVariables false
set_option linter.unusedSimpArgs false

/-- What holds between two worlds of one call, whatever the numbers of objects. -/
structure Lw (p : Nat) (g : G) (w : World) (g' : G) (w' : World) : Prop where
  pin : ∀ id, id < p → g'.m id = g.m id
  F : ∀ b, g.F b → g'.F b
  K : ∀ b, g.K b ↔ g'.K b
  heap : ∀ b, (g.F b ∨ g.K b) → w'.heap[b]? = w.heap[b]?
  size : w.heap.size ≤ w'.heap.size
  os : w'.os = w.os
  tape : w'.tape = w.tape
  output : w'.output = w.output
  Fn : ∀ b, g'.F b → g.F b ∨ ¬ g.K b
theorem Le.lw {p : Nat} {g g' : G} {w w' : World} (h : Le g w g' w') (hp : ∀ id, id < p → g'.m id = g.m id) : Lw p g w g' w' := ⟨hp, h.F, h.K, h.heap, h.size, h.os, h.tape, h.output, h.Fn⟩
theorem Lw.refl {p : Nat} (g : G) (w : World) : Lw p g w g w := (Le.refl g w).lw fun _ _ => rfl
theorem Lw.weak {p q : Nat} (hp : p ≤ q) {g g' : G} {w w' : World} (h : Lw q g w g' w') : Lw p g w g' w' := ⟨fun id hi => h.pin id (Nat.lt_of_lt_of_le hi hp), h.F, h.K, h.heap, h.size, h.os, h.tape, h.output, h.Fn⟩
theorem Lw.trans {p : Nat} {a b c : G} {u v w : World} (h : Lw p a u b v) (k : Lw p b v c w) : Lw p a u c w :=
  ⟨fun id hi => (k.pin id hi).trans (h.pin id hi), fun x e => k.F x (h.F x e), fun x => (h.K x).trans (k.K x),
   fun x e => (k.heap x (e.imp (h.F x) (h.K x).1)).trans (h.heap x e), Nat.le_trans h.size k.size, k.os.trans h.os, k.tape.trans h.tape, k.output.trans h.output,
   fun b hb => (k.Fn b hb).elim (h.Fn b) (fun hk => .inr (fun hk' => hk ((h.K b).1 hk')))⟩

/-- CALLED WITH VALUES THAT STAND FOR 'args' (all of it only read), the function returns what stands for 'res', whose own objects are 'objs', in new memory; nothing that was there has turned. -/
def Fits (P : Program) (f : FuncId) (args : List D) (res : D) (objs : List DObj) : Prop :=
  ∀ (F : Nat → Prop) (w : World) (vals : List Value), (∀ b, F b → b < w.heap.size) → RepAll ⟨fun _ => none, F, fun b => b < w.heap.size⟩ w args vals →
    Calls P f vals.toArray w fun e w' => ∃ v g1, e = .returned v ∧ Below w.heap.size w w' ∧ (∀ b, F b → g1.F b) ∧ (∀ b, g1.F b → F b ∨ w.heap.size ≤ b) ∧
      (∀ id b p, g1.m id = some (b, p) → w.heap.size ≤ b) ∧ Rep g1 w' res v ∧ HeapRel g1 w' (fun id => objs[id]?)
def Enter (P : Program) (f : FuncId) : Prop := ∀ args w, (callFunc f args).run P w = .ok (.enter f args) w

/-- The objects that stand in a list. -/
def lookH (H : List (Option DObj)) (id : Nat) : Option DObj := match H[id]? with | some o => o | none => none
/-- CALLED WITH VALUES THAT STAND FOR 'args', among them objects 'oi', the function returns what stands for 'd'; the objects are 'oo' then, new ones 'news'; nothing else that was there has turned. -/
def FitsW (P : Program) (f : FuncId) (oi : List DObj) (args : List D) (d : D) (oo : List (Option DObj)) (news : List DObj) : Prop :=
  oo.length = oi.length ∧ ∀ (g : G) (w : World) (vals : List Value), HeapRel g w (fun id => oi[id]?) → (∀ id, oi.length ≤ id → g.m id = none) → RepAll g w args vals →
    Calls P f vals.toArray w fun e w' => ∃ v g', e = .returned v ∧ Lw oi.length g w g' w' ∧ Rep g' w' d v ∧ HeapRel g' w' (lookH (oo ++ news.map some)) ∧ (∀ id, (oo ++ news.map some).length ≤ id → g'.m id = none)

structure Env where
  P : Program
  call : FuncId → List D → Option (D × List DObj)
  callW : FuncId → List DObj → List D → Option (D × List (Option DObj) × List DObj) := fun _ _ _ => none
  isW : FuncId → Bool := fun _ => false
structure Env.ok (E : Env) : Prop where
  r : ∀ f args d objs, E.call f args = some (d, objs) → Enter E.P f ∧ Fits E.P f args d objs
  w : ∀ f oi args d oo news, E.callW f oi args = some (d, oo, news) → Enter E.P f ∧ FitsW E.P f oi args d oo news
theorem Env.ok_of {E : Env} (h : ∀ f args d objs, E.call f args = some (d, objs) → Enter E.P f ∧ Fits E.P f args d objs) (hw : E.callW = fun _ _ _ => none) : E.ok :=
  ⟨h, fun f oi args d oo news e => by rw [hw] at e; cases e⟩

mutual
/-- Nothing in it is read in memory that is kept. -/
def D.flat : D → Bool
  | .sl _ _ | .eaddr _ => false
  | .agg cs => flatAll cs
  | .clo _ a b => flatAll a && flatAll b
  | .tup xs => flatAll xs
  | _ => true
def flatAll : List D → Bool
  | [] => true
  | d :: ds => d.flat && flatAll ds
end
def DObj.flat : DObj → Bool
  | .cells cs s => !s && flatAll cs
  | .map es => flatAll (es.map (·.2))
  | .siter _ _ => true
mutual
def D.refs : D → List Nat
  | .any | .v _ => []
  | .sl _ xs | .agg xs | .eaddr xs | .tup xs => refsAll xs
  | .ref id _ _ _ _ | .ptr id _ | .map id => [id]
  | .clo _ a b => refsAll a ++ refsAll b
def refsAll : List D → List Nat
  | [] => []
  | d :: ds => d.refs ++ refsAll ds
end
def closeL (look : Nat → Option DObj) : Nat → List Nat → List Nat
  | 0, l => l
  | _ + 1, [] => []
  | k + 1, l => l ++ closeL look k (l.flatMap fun id => match look id with | some (.cells cs _) => refsAll cs | _ => [])

mutual
theorem renSome : ∀ d : D, D.ren some d = some d
  | .any => rfl
  | .v x => rfl
  | .sl n xs => by simp only [D.ren, renAllSome xs, Option.map_some]
  | .agg cs => by simp only [D.ren, renAllSome cs, Option.map_some]
  | .eaddr cs => by simp only [D.ren, renAllSome cs, Option.map_some]
  | .ref id off len n ag => rfl
  | .ptr id off => rfl
  | .map id => rfl
  | .clo c a b => by simp only [D.ren, renAllSome a, renAllSome b, Option.map_some, Option.bind_some]
  | .tup xs => by simp only [D.ren, renAllSome xs, Option.map_some]
theorem renAllSome : ∀ ds : List D, renAll some ds = some ds
  | [] => rfl
  | d :: ds => by simp only [renAll, renSome d, renAllSome ds, Option.map_some, Option.bind_some]
end
section
variable {g g' : G} {w : World}
mutual
theorem Rep.flat (hm : g'.m = g.m) : ∀ (d : D) (y : Value), d.flat = true → Rep g w d y → Rep g' w d y
  | .any, y, h, r => trivial
  | .v x, y, h, r => r
  | .sl n xs, y, h, r => by cases h
  | .agg cs, y, h, ⟨vs, r1, r2⟩ => ⟨vs, r1, RepAll.flat hm _ _ h r2⟩
  | .eaddr cs, y, h, r => by cases h
  | .ref id off len n ag, y, h, .inl ⟨b, o, sz, cap, p, r1, r⟩ => .inl ⟨b, o, sz, cap, p, by rw [hm]; exact r1, r⟩
  | .ref id off len n ag, y, h, .inr r => .inr r
  | .ptr id off, y, h, ⟨b, o, sz, r1, r⟩ => ⟨b, o, sz, by rw [hm]; exact r1, r⟩
  | .map id, y, h, ⟨b, o, sz, r1, r⟩ => ⟨b, o, sz, by rw [hm]; exact r1, r⟩
  | .clo c as bs, y, h, ⟨vf, vc, r1, r2, r3⟩ => by
    simp only [D.flat, Bool.and_eq_true] at h
    exact ⟨vf, vc, r1, RepAll.flat hm _ _ h.1 r2, RepAll.flat hm _ _ h.2 r3⟩
  | .tup xs, y, h, ⟨vs, r1, r2⟩ => ⟨vs, r1, RepAll.flat hm _ _ h r2⟩
theorem RepAll.flat (hm : g'.m = g.m) : ∀ (ds : List D) (vs : List Value), flatAll ds = true → RepAll g w ds vs → RepAll g' w ds vs
  | [], vs, h, r => r
  | d :: ds, _, h, ⟨y, ys, r1, r2, r3⟩ => by
    simp only [flatAll, Bool.and_eq_true] at h
    exact ⟨y, ys, r1, Rep.flat hm _ _ h.1 r2, RepAll.flat hm _ _ h.2 r3⟩
end
/-- Where what is kept grows, or plays no part. -/
theorem Rep.wider (hm : g'.m = g.m) {d : D} {y : Value} (h : d.flat = true ∨ ∀ b, g.F b → g'.F b) (r : Rep g w d y) : Rep g' w d y := by
  rcases h with h | h
  · exact Rep.flat hm _ _ h r
  · exact Rep.ren (g := g) (f := some) (fun i j x e e2 => by cases e; rw [hm]; exact e2) h _ _ _ (renSome d) r
theorem RepAll.wider (hm : g'.m = g.m) {ds : List D} {vs : List Value} (h : flatAll ds = true ∨ ∀ b, g.F b → g'.F b) (r : RepAll g w ds vs) : RepAll g' w ds vs := by
  rcases h with h | h
  · exact RepAll.flat hm _ _ h r
  · exact RepAll.ren (g := g) (f := some) (fun i j x e e2 => by cases e; rw [hm]; exact e2) h _ _ _ (renAllSome ds) r
end

theorem ObjRel.wider {g g' : G} {w : World} (hm : g'.m = g.m) {id : Nat} {o : DObj} (h : o.flat = true ∨ ∀ b, g.F b → g'.F b) (hl : o.live = true → ∀ b p, g.m id = some (b, p) → ¬ g'.F b ∧ ¬ g'.K b) (r : ObjRel g w id o) : ObjRel g' w id o := by
  cases o with
  | cells cs s =>
    rcases r with ⟨b, o, sz, c, el, fr, vs, h1, h2, h3, h4, h5, h6, h7⟩ | ⟨r1, r2⟩
    case inr => exact .inr ⟨r1, by rw [hm]; exact r2⟩
    refine .inl ⟨b, o, sz, c, el, fr, vs, by rw [hm]; exact h1, h2, h3, h4, h5, RepAll.wider hm (h.imp (fun h => by simp only [DObj.flat, Bool.and_eq_true] at h; exact h.2) (fun h => h)) h6, ?_⟩
    cases s
    · rw [if_neg (by simp)] at h7 ⊢
      obtain ⟨k1, k2⟩ := hl rfl b _ h1
      exact ⟨k1, k2, h7.2.2⟩
    · rw [if_pos rfl] at h7 ⊢
      rcases h with h | h
      · simp [DObj.flat] at h
      · exact h b h7
  | map es =>
    obtain ⟨b, o, sz, ents, clock, vs, h1, h2, h3, h4, h5, h6, h7⟩ := r
    obtain ⟨k1, k2⟩ := hl rfl b _ h1
    exact ⟨b, o, sz, ents, clock, vs, by rw [hm]; exact h1, h2, h3, h4, RepAll.wider hm (h.imp (fun h => h) (fun h => h)) h5, k1, k2⟩
  | siter s pos =>
    obtain ⟨b, sz, h1, h2, h3, h4⟩ := r
    obtain ⟨k1, k2⟩ := hl rfl b _ h1
    exact ⟨b, sz, by rw [hm]; exact h1, h2, k1, k2⟩

theorem zip_fst {α β : Type} : ∀ (l : List α) (m : List β), m.length = l.length → (l.zip m).map (·.1) = l
  | [], [], _ => rfl
  | a :: l, b :: m, h => by simp [zip_fst l m (by simpa using h)]
  | [], _ :: _, h => by simp at h
  | _ :: _, [], h => by simp at h
theorem zip_snd {α β : Type} : ∀ (l : List α) (m : List β), m.length = l.length → (l.zip m).map (·.2) = m
  | [], [], _ => rfl
  | a :: l, b :: m, h => by simp [zip_snd l m (by simpa using h)]
  | [], _ :: _, h => by simp at h
  | _ :: _, [], h => by simp at h

theorem ObjRel.ren {g g' : G} {w : World} {f : Nat → Option Nat} (hm : ∀ i j x, f i = some j → g.m i = some x → g'.m j = some x) (hF : ∀ b, g.F b → g'.F b) {id id' : Nat} {o o' : DObj} (hid : f id = some id') (hn : g.m id = none → g'.m id' = none) (h : o.ren f = some o')
    (hl : o.live = true → ∀ b p, g.m id = some (b, p) → ¬ g'.F b ∧ ¬ g'.K b) (r : ObjRel g w id o) : ObjRel g' w id' o' := by
  cases o with
  | cells cs s =>
    simp only [DObj.ren] at h
    obtain ⟨cs', h', rfl⟩ := opt_map h
    rcases r with ⟨b, o, sz, c, el, fr, vs, h1, h2, h3, h4, h5, h6, h7⟩ | ⟨r1, r2⟩
    case inr => subst r1; simp only [renAll] at h'; cases h'; exact .inr ⟨rfl, hn r2⟩
    refine .inl ⟨b, o, sz, c, el, fr, vs, hm _ _ _ hid h1, h2, h3, by rw [renAll_length h']; exact h4, h5, RepAll.ren hm hF _ _ _ h' h6, ?_⟩
    cases s
    · rw [if_neg (by simp)] at h7 ⊢
      obtain ⟨k1, k2⟩ := hl rfl b _ h1
      exact ⟨k1, k2, h7.2.2⟩
    · rw [if_pos rfl] at h7 ⊢
      exact hF b h7
  | map es =>
    simp only [DObj.ren] at h
    obtain ⟨ds, h', rfl⟩ := opt_map h
    obtain ⟨b, o, sz, ents, clock, vs, h1, h2, h3, h4, h5, h6, h7⟩ := r
    obtain ⟨k1, k2⟩ := hl rfl b _ h1
    have hlen : ds.length = (es.map (·.1)).length := by rw [renAll_length h']; simp
    refine ⟨b, o, sz, ents, clock, vs, hm _ _ _ hid h1, h2, by rw [zip_fst _ _ hlen]; exact h3, h4, ?_, k1, k2⟩
    rw [zip_snd _ _ hlen]
    exact RepAll.ren hm hF _ _ _ h' h5
  | siter s pos =>
    cases h
    obtain ⟨b, sz, h1, h2, h3, h4⟩ := r
    obtain ⟨k1, k2⟩ := hl rfl b _ h1
    exact ⟨b, sz, hm _ _ _ hid h1, h2, k1, k2⟩
theorem DObj.ren_live {f : Nat → Option Nat} {o o' : DObj} (h : o.ren f = some o') : o'.live = o.live := by
  cases o with
  | cells cs s => simp only [DObj.ren] at h; obtain ⟨cs', h', rfl⟩ := opt_map h; rfl
  | map es => simp only [DObj.ren] at h; obtain ⟨cs', h', rfl⟩ := opt_map h; rfl
  | siter s pos => cases h; rfl
theorem ren_cell {f : Nat → Option Nat} {d d' : D} (h : d.ren f = some d') (hc : d.cell = true) : d'.cell = true := by
  cases d with
  | any => cases hc
  | v x => simp only [D.ren] at h; cases h; exact hc
  | sl n xs => simp only [D.ren] at h; obtain ⟨_, _, rfl⟩ := opt_map h; rfl
  | agg cs => cases hc
  | eaddr cs => simp only [D.ren] at h; obtain ⟨_, _, rfl⟩ := opt_map h; rfl
  | ref id off len n ag => simp only [D.ren] at h; obtain ⟨_, _, rfl⟩ := opt_map h; rfl
  | ptr id off => simp only [D.ren] at h; obtain ⟨_, _, rfl⟩ := opt_map h; rfl
  | map id => simp only [D.ren] at h; obtain ⟨_, _, rfl⟩ := opt_map h; rfl
  | clo c a b => simp only [D.ren] at h; obtain ⟨_, _, h⟩ := opt_bind h; obtain ⟨_, _, rfl⟩ := opt_map h; rfl
  | tup xs => cases hc
theorem renAll_cell {f : Nat → Option Nat} : ∀ {ds ds' : List D}, renAll f ds = some ds' → ds.all (·.cell) = true → ds'.all (·.cell) = true
  | [], _, h, _ => by simp only [renAll] at h; cases h; rfl
  | d :: ds, _, h, hc => by
    simp only [renAll] at h
    obtain ⟨d', h1, h⟩ := opt_bind h
    obtain ⟨ds', h2, rfl⟩ := opt_map h
    simp only [List.all_cons, Bool.and_eq_true] at hc ⊢
    exact ⟨ren_cell h1 hc.1, renAll_cell h2 hc.2⟩
def renObjs (f : Nat → Option Nat) : List DObj → Option (List DObj)
  | [] => some []
  | o :: os => (o.ren f).bind fun o' => (renObjs f os).map fun os' => o' :: os'
theorem renObjs_length {f : Nat → Option Nat} : ∀ {os os' : List DObj}, renObjs f os = some os' → os'.length = os.length
  | [], _, h => by cases h; rfl
  | o :: os, _, h => by
    simp only [renObjs] at h
    obtain ⟨d', h1, h⟩ := opt_bind h
    obtain ⟨ds', h2, rfl⟩ := opt_map h
    simp [renObjs_length h2]
theorem renObjs_get {f : Nat → Option Nat} : ∀ {os os' : List DObj}, renObjs f os = some os' → ∀ {i : Nat} {o' : DObj}, os'[i]? = some o' → ∃ o, os[i]? = some o ∧ o.ren f = some o'
  | [], _, h, i, o', e => by cases h; simp at e
  | o :: os, _, h, i, o', e => by
    simp only [renObjs] at h
    obtain ⟨d', h1, h⟩ := opt_bind h
    obtain ⟨ds', h2, rfl⟩ := opt_map h
    cases i with
    | zero => simp at e; subst e; exact ⟨o, rfl, h1⟩
    | succ i => simpa using renObjs_get h2 (by simpa using e)

def shutU (look : Nat → Option DObj) (L : List Nat) : List (Nat × Option DObj) :=
  L.map fun id => (id, match look id with | some (.cells cs _) => some (.cells cs true) | o => o)
def shiftBy (n base : Nat) (i : Nat) : Option Nat := if i < n then some (i + base) else none
def opCallR (E : Env) (look : Nat → Option DObj) (base : Nat) (f : FuncId) (args : List D) : Option Res :=
  let L := closeL look 6 (refsAll args)
  match lendAll (lentC look (fun i => L.contains i) 6) (fun _ => false) args with
  | none => none
  | some args' =>
    match E.call f args' with
    | none => none
    | some (d, objs) =>
      match d.ren (shiftBy objs.length base), renObjs (shiftBy objs.length base) objs with
      | some d', some objs' => some { val := d', news := objs', upd := if (d.flat && objs.all (·.flat)) || L.isEmpty then [] else shutU look L }
      | _, _ => none

theorem shutU_look {look : Nat → Option DObj} : ∀ (L : List Nat) (cur : Nat → Option DObj) (id : Nat) (o : DObj), putUpd cur (shutU look L) id = some o →
    (∃ cs s, id ∈ L ∧ look id = some (.cells cs s) ∧ o = .cells cs true) ∨ (id ∈ L ∧ look id = some o ∧ ∀ cs s, o ≠ .cells cs s) ∨ (cur id = some o ∧ id ∉ L)
  | [], cur, id, o, h => .inr (.inr ⟨h, by simp⟩)
  | i :: L, cur, id, o, h => by
    have h : putUpd (fun j => if j = i then (match look i with | some (.cells cs _) => some (.cells cs true) | o => o) else cur j) (shutU look L) id = some o := h
    rcases shutU_look L _ id o h with ⟨cs, s, h1, h2⟩ | ⟨h1, h2⟩ | ⟨h1, h2⟩
    · exact .inl ⟨cs, s, List.mem_cons_of_mem _ h1, h2⟩
    · exact .inr (.inl ⟨List.mem_cons_of_mem _ h1, h2⟩)
    · split at h1
      · rename_i hid; subst hid
        split at h1
        · rename_i cs s hcs; cases h1
          exact .inl ⟨cs, s, List.mem_cons_self, hcs, rfl⟩
        · rename_i hne
          exact .inr (.inl ⟨List.mem_cons_self, h1, fun cs s e => by subst e; exact hne cs s h1⟩)
      · rename_i hid
        exact .inr (.inr ⟨h1, fun hm => (List.mem_cons.1 hm).elim hid h2⟩)

theorem opCallR_sound {E : Env} (hE : E.ok) {g : G} {w : World} {look : Nat → Option DObj} {base : Nat} {f : FuncId} {args : List D} {vals : List Value} {r : Res} (h : opCallR E look base f args = some r) (H : HeapRel g w look)
    (hfresh : ∀ id, base ≤ id → id < base + r.news.length → g.m id = none ∧ look id = none) (ha : RepAll g w args vals) :
    Enter E.P f ∧ Calls E.P f vals.toArray w fun e w' => ∃ v g', e = .returned v ∧ Out g w look base r g' w' v := by
  unfold opCallR at h
  dsimp only at h
  generalize hL : closeL look 6 (refsAll args) = L at h
  split at h
  · cases h
  · rename_i args' hargs
    split at h
    · cases h
    · rename_i d objs hcall
      split at h
      · rename_i d' objs' hd' hobjs'
        cases h
        obtain ⟨hen, hfit⟩ := hE.r _ _ _ _ hcall
        refine ⟨hen, ?_⟩
        -- what is read and never written while the call runs
        let F1 : Nat → Prop := fun b => g.F b ∨ ∃ id ∈ L, ∃ cs s p, look id = some (.cells cs s) ∧ g.m id = some (b, p)
        have hF1 : ∀ b, F1 b → b < w.heap.size := fun b hb => by
          rcases hb with hb | ⟨id, _, cs, s, p, h1, h2⟩
          · exact H.frz b hb
          · exact ((H.obj id _ h1).at h2).1
        have hlend : RepAll ⟨fun _ => none, F1, fun b => b < w.heap.size⟩ w args' vals :=
          RepAll.lend (g' := ⟨fun _ => none, F1, fun b => b < w.heap.size⟩) (fun b hb => .inl hb) (fun _ _ hh => by cases hh) (fun id cs hc => lentC_sound (F := F1) H (fun b hb => .inl hb) (fun id hid cs s hl b p hm => .inr ⟨id, by simpa using hid, cs, s, p, hl, hm⟩) 6 id cs hc) _ _ _ hargs ha
        refine (hfit F1 w vals hF1 hlend).mono fun e w' ⟨v, g1, he, hbel, k1, k2, k3, k4, k5⟩ => ?_
        have hol : objs'.length = objs.length := renObjs_length hobjs'
        generalize hs : ((d.flat && objs.all (·.flat)) || L.isEmpty) = s at hfresh ⊢
        let F' : Nat → Prop := fun b => g.F b ∨ (g1.F b ∧ w.heap.size ≤ b) ∨ (s = false ∧ F1 b)
        let g' : G := ⟨fun id => if base ≤ id ∧ id < base + objs.length then g1.m (id - base) else g.m id, F', g.K⟩
        have hwide : (d.flat = true ∧ objs.all (·.flat) = true) ∨ ∀ b, g1.F b → F' b := by
          cases s with
          | false => exact .inr fun b hb => (k2 b hb).elim (fun hb => .inr (.inr ⟨rfl, hb⟩)) (fun hb' => .inr (.inl ⟨hb, hb'⟩))
          | true =>
            simp only [Bool.or_eq_true, Bool.and_eq_true] at hs
            rcases hs with hs | hs
            · exact .inl hs
            · refine .inr fun b hb => (k2 b hb).elim (fun hb => ?_) (fun hb' => .inr (.inl ⟨hb, hb'⟩))
              rcases hb with hb | ⟨id, hid, _⟩
              · exact .inl hb
              · rw [List.isEmpty_iff.1 hs] at hid; simp at hid
        let g2 : G := { g1 with F := F', K := g.K }
        have hsh : ∀ i j x, shiftBy objs.length base i = some j → g2.m i = some x → g'.m j = some x := fun i j x e1 e2 => by
          unfold shiftBy at e1
          split at e1
          · cases e1
            show (if _ then _ else _) = _
            rw [if_pos (by omega), Nat.add_sub_cancel]; exact e2
          · cases e1
        have hrep : Rep g' w' d' v := Rep.ren (g := g2) hsh (fun b hb => hb) _ _ _ hd' (Rep.wider (g := g1) (g' := g2) rfl (hwide.imp (fun h => h.1) (fun h => h)) k4)
        have hmold : ∀ id, ¬ (base ≤ id ∧ id < base + objs.length) → g'.m id = g.m id := fun id hid => by
          show (if _ then _ else _) = _
          rw [if_neg hid]
        have le : Le g w g' w' := ⟨fun id x hx => by
            rw [hmold id (fun hid => by have := (hfresh id hid.1 (by rw [hol]; exact hid.2)).1; rw [hx] at this; cases this)]; exact hx,
          fun b hb => .inl hb, fun _ => Iff.rfl, fun b hb => hbel.block b (hb.elim (H.frz b) (H.keep b)), hbel.size, hbel.os, hbel.tape, hbel.output,
          fun b hb => by
            rcases hb with hb | hb | ⟨_, hb | ⟨id, _, cs, s0, p, q1, q2⟩⟩
            · exact .inl hb
            · exact .inr fun hk => by have := H.keep b hk; omega
            · exact .inl hb
            · cases s0 with
              | false => exact .inr (((H.obj id _ q1).at q2).2 rfl).2
              | true =>
                obtain ⟨_, _, _, _, _, _, _, z1, _, _, _, _, _, z7⟩ := (H.obj id _ q1).real q2
                rw [q2] at z1; cases z1
                rw [if_pos rfl] at z7
                exact .inl z7⟩
        -- the objects, afterwards
        have hlook : ∀ id o, putUpd (putNews look base objs') (if s = true then [] else shutU look L) id = some o →
            (∃ i, id = i + base ∧ i < objs.length ∧ objs'[i]? = some o) ∨ (∃ cs s0, s = false ∧ id ∈ L ∧ look id = some (.cells cs s0) ∧ o = .cells cs true ∧ ¬ (base ≤ id ∧ id < base + objs.length)) ∨
            (look id = some o ∧ ¬ (base ≤ id ∧ id < base + objs.length) ∧ (s = true ∨ ∀ cs s0, id ∈ L → look id ≠ some (.cells cs s0))) := by
          intro id o e
          have base_case : putNews look base objs' id = some o → (s = true ∨ ∀ cs s0, id ∈ L → look id ≠ some (.cells cs s0)) → (∃ i, id = i + base ∧ i < objs.length ∧ objs'[i]? = some o) ∨ (look id = some o ∧ ¬ (base ≤ id ∧ id < base + objs.length) ∧ (s = true ∨ ∀ cs s0, id ∈ L → look id ≠ some (.cells cs s0))) := fun e hh => by
            unfold putNews at e
            split at e
            · rename_i hc
              exact .inl ⟨id - base, by omega, by omega, e⟩
            · rename_i hc
              exact .inr ⟨e, by rw [← hol]; exact hc, hh⟩
          cases s with
          | true => rw [if_pos rfl] at e; exact (base_case e (.inl rfl)).imp (fun h => h) (fun h => .inr h)
          | false =>
            rw [if_neg (by simp)] at e
            rcases shutU_look L _ id o e with ⟨cs, s0, q1, q2, q3⟩ | ⟨q1, q2, q3⟩ | ⟨q1, q2⟩
            · refine .inr (.inl ⟨cs, s0, rfl, q1, q2, q3, fun hid => ?_⟩)
              have := (hfresh id hid.1 (by rw [hol]; exact hid.2)).2
              rw [q2] at this; cases this
            · refine .inr (.inr ⟨q2, fun hid => ?_, .inr fun cs s0 _ e => ?_⟩)
              · have := (hfresh id hid.1 (by rw [hol]; exact hid.2)).2
                rw [q2] at this; cases this
              · rw [q2] at e; cases e; exact q3 cs s0 rfl
            · exact (base_case q1 (.inr fun _ _ hm => absurd hm q2)).imp (fun h => h) (fun h => .inr h)
        have hnewm : ∀ i b p, i < objs.length → g'.m (i + base) = some (b, p) → g1.m i = some (b, p) ∧ w.heap.size ≤ b := fun i b p hi e => by
          have e : (if base ≤ i + base ∧ i + base < base + objs.length then g1.m (i + base - base) else g.m (i + base)) = some (b, p) := e
          rw [if_pos (by omega), Nat.add_sub_cancel] at e
          exact ⟨e, k3 i b p e⟩
        have hold : ∀ id o b p, look id = some o → g.m id = some (b, p) → b < w.heap.size := fun id o b p e1 e2 => ((H.obj id _ e1).at e2).1
        refine ⟨v, g', he, le, hrep, ?_, fun id hid => hmold id (by rw [hol] at hid; omega)⟩
        show HeapRel g' w' (putUpd (putNews look base objs') (if s = true then [] else shutU look L))
        refine ⟨fun id cs sh e => ?_, fun id o e => ?_, fun id id' o1 o2 b q1 q2 e1 e2 l1 l2 m1 m2 => ?_, fun b hb => ?_, fun b hb => Nat.lt_of_lt_of_le (H.keep b hb) hbel.size⟩
        · rcases hlook id _ e with ⟨i, rfl, hi, e⟩ | ⟨cs', _, _, _, e1, e2, _⟩ | ⟨e, _⟩
          · obtain ⟨o, e1, e2⟩ := renObjs_get hobjs' e
            cases o with
            | cells cs0 s0 =>
              simp only [DObj.ren] at e2
              obtain ⟨cs1, e3, e4⟩ := opt_map e2
              cases e4
              exact renAll_cell e3 (k5.cell i _ _ e1)
            | map es => simp only [DObj.ren] at e2; obtain ⟨_, _, e4⟩ := opt_map e2; cases e4
            | siter => cases e2
          · cases e2; exact H.cell id _ _ e1
          · exact H.cell id _ _ e
        · rcases hlook id o e with ⟨i, rfl, hi, e⟩ | ⟨cs', _, hs', hidL, e1, rfl, hnb⟩ | ⟨e, hnb, hnl⟩
          · obtain ⟨o1, e1, e2⟩ := renObjs_get hobjs' e
            have r1 := k5.obj i o1 e1
            have hlive : o1.live = true → ∀ b p, g1.m i = some (b, p) → ¬ F' b ∧ ¬ g.K b := fun hl b p hb => by
              have hf := (r1.at hb).2
              have hge := k3 i b p hb
              refine ⟨fun hF => ?_, fun hK => by have := H.keep b hK; omega⟩
              rcases hF with hF | hF | hF
              · have := H.frz b hF; omega
              · exact (hf hl).1 hF.1
              · have := hF1 b hF.2; omega
            have hw : o1.flat = true ∨ ∀ b, g1.F b → F' b := hwide.imp (fun h => List.all_eq_true.1 h.2 o1 (List.mem_of_getElem? e1)) (fun h => h)
            have r2 : ObjRel g2 w' i o1 := ObjRel.wider (g := g1) (g' := g2) rfl hw hlive r1
            exact ObjRel.ren (g := g2) hsh (fun b hb => hb) (by unfold shiftBy; rw [if_pos hi]) (fun hn => (show (if base ≤ i + base ∧ i + base < base + objs.length then g1.m (i + base - base) else g.m (i + base)) = none by rw [if_pos (by omega), Nat.add_sub_cancel]; exact hn)) e2 hlive r2
          · rcases H.obj id _ e1 with ⟨b, p, sz, c, el, fr, vs, h1, h2, h3, h4, h5, h6, h7⟩ | ⟨r1, r2⟩
            case inr => exact .inr ⟨r1, by rw [hmold id hnb]; exact r2⟩
            have hlt := hold id _ _ _ e1 h1
            refine .inl ⟨b, p, sz, c, el, fr, vs, by rw [hmold id hnb]; exact h1, (hbel.block b hlt).trans h2, h3, h4, h5, RepAll.mono le _ _ h6, ?_⟩
            rw [if_pos rfl]
            exact .inr (.inr ⟨hs', .inr ⟨id, hidL, _, _, _, e1, h1⟩⟩)
          · refine (H.obj id o e).mono le (fun hn => by rw [hmold id hnb]; exact hn) (fun b p hb => hbel.block b (hold id o b p e hb)) (fun hl b p hb hF => ?_)
            obtain ⟨hlt, hf⟩ := (H.obj id o e).at hb
            rcases hF with hF | hF | ⟨hs', hF⟩
            · exact (hf hl).1 hF
            · omega
            · rcases hF with hF | ⟨id2, hid2, cs2, s2, p2, q1, q2⟩
              · exact (hf hl).1 hF
              · rcases hnl with hnl | hnl
                · rw [hs'] at hnl; cases hnl
                · cases s2 with
                  | true =>
                    obtain ⟨_, _, _, _, _, _, _, z1, _, _, _, _, _, z7⟩ := (H.obj id2 _ q1).real q2
                    rw [q2] at z1; cases z1
                    rw [if_pos rfl] at z7
                    exact (hf hl).1 z7
                  | false =>
                    have : id = id2 := H.inj id id2 o _ b p p2 e q1 hl rfl hb q2
                    subst this
                    exact hnl _ _ hid2 q1
        · have key : ∀ id o b p, putUpd (putNews look base objs') (if s = true then [] else shutU look L) id = some o → o.live = true → g'.m id = some (b, p) →
              (∃ i o1, id = i + base ∧ i < objs.length ∧ objs[i]? = some o1 ∧ o1.live = true ∧ g1.m i = some (b, p) ∧ w.heap.size ≤ b) ∨ (look id = some o ∧ g.m id = some (b, p) ∧ b < w.heap.size) := by
            intro id o b p e hl hb
            rcases hlook id o e with ⟨i, rfl, hi, e⟩ | ⟨cs', _, _, _, _, rfl, _⟩ | ⟨e, hnb, _⟩
            · obtain ⟨o1, e1, e2⟩ := renObjs_get hobjs' e
              obtain ⟨n1, n2⟩ := hnewm i b p hi hb
              exact .inl ⟨i, o1, rfl, hi, e1, by rw [← DObj.ren_live e2]; exact hl, n1, n2⟩
            · cases hl
            · rw [hmold id hnb] at hb
              exact .inr ⟨e, hb, hold id o b p e hb⟩
          rcases key id o1 b q1 e1 l1 m1 with ⟨i, p1, rfl, a1, a2, a3, a4, a5⟩ | ⟨a1, a2, a3⟩ <;> rcases key id' o2 b q2 e2 l2 m2 with ⟨i', p1', rfl, c1, c2, c3, c4, c5⟩ | ⟨c1, c2, c3⟩
          · rw [k5.inj i i' _ _ b q1 q2 a2 c2 a3 c3 a4 c4]
          · omega
          · omega
          · exact H.inj id id' o1 o2 b q1 q2 a1 c1 l1 l2 a2 c2
        · rcases hb with hb | hb | hb
          · exact Nat.lt_of_lt_of_le (H.frz b hb) hbel.size
          · exact k5.frz b hb.1
          · exact Nat.lt_of_lt_of_le (hF1 b hb.2) hbel.size
      · cases h
end Go.Proofs.YtjmhioacbpgalaaDoorV
