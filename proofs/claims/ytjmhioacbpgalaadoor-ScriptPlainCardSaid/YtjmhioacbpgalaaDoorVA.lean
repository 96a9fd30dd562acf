/- Operations on abstract values, more: maps; walks over a text. -/
import Derived.Test.YtjmhioacbpgalaaDoorV9
namespace Go.Proofs.YtjmhioacbpgalaaDoorV
open Go Go.RowKit
set_option linter.unusedVariables false
set_option linter.unusedSimpArgs false
section
variable {P : Program} {ev : Operand → Value} {g : G} {w : World} {look : Nat → Option DObj} {base : Nat}

def ofV : Value → D
  | .agg vs => .agg (vs.toList.map .v)
  | x => .v x
theorem ofV_rep (v : Value) : Rep g w (ofV v) v := by
  cases v <;> first | exact rfl | exact ⟨_, by simp, RepAll.ofV _⟩
def zeroVal (P : Program) (t : TypeId) : Option D := ((P.info? t).bind (·.zero)).map ofV
theorem run_zeroVal {t : TypeId} {d : D} (h : zeroVal P t = some d) : ∃ z, (∀ w, (zeroValue t).run P w = .ok z w) ∧ d = ofV z := by
  unfold zeroVal at h
  cases hi : P.info? t with
  | none => rw [hi] at h; cases h
  | some i =>
    rw [hi, Option.bind_some] at h
    cases hz : i.zero with
    | none => rw [hz] at h; cases h
    | some z => rw [hz] at h; cases h; exact ⟨z, fun w => by simp [zeroValue, typeInfo, hi, hz], rfl⟩

def findD (kind : TypeDesc) (k : Value) : List (Value × D) → Nat → Option (Option (Nat × D))
  | [], _ => some none
  | e :: es, i =>
    match Instr.sameNow kind k e.1 with
    | some true => some (some (i, e.2))
    | some false => findD kind k es (i + 1)
    | none => none
def keyKind (P : Program) (t : TypeId) : Option TypeDesc :=
  match P.underlying t with
  | some (.int k) => some (.int k)
  | some .string => some .string
  | some .bool => some .bool
  | _ => none
theorem keyKind_eq {t : TypeId} {k : TypeDesc} (h : keyKind P t = some k) : P.underlying t = some k ∧ (∀ e x w, (Instr.checkKey e 10000 t x).run P w = .ok () w) := by
  unfold keyKind at h
  split at h <;> cases h <;> (rename_i hu; refine ⟨hu, fun e x w => ?_⟩; unfold Instr.checkKey; simp only [Sem.run_bind, run_underlying hu, Result.andThen]; cases x <;> rfl)

theorem findD_run {kind : TypeDesc} {kt : TypeId} {k : Value} : ∀ (es : List (Value × D)) (ents : List MapEntry) (i : Nat) (r : Option (Nat × D)), findD kind k es i = some r → ents.map (·.key) = es.map (·.1) → RepAll g w (es.map (·.2)) (ents.map (·.val)) →
    ∃ r', Instr.findNow kind k ents i = some r' ∧ (match r, r' with
      | none, none => True
      | some (j, d), some (j', v) => j = j' ∧ Rep g w d v ∧ i ≤ j ∧ (∃ e, ents[j - i]? = some e ∧ Instr.sameNow kind k e.key = some true) ∧ j - i < es.length
      | _, _ => False)
  | [], ents, i, r, h, h1, h2 => by
    cases ents with
    | nil => cases h; exact ⟨none, rfl, trivial⟩
    | cons => cases h1
  | e :: es, [], i, r, h, h1, h2 => by cases h1
  | e :: es, x :: ents, i, r, h, h1, h2 => by
    simp only [List.map_cons, List.cons.injEq] at h1
    obtain ⟨hk, h1⟩ := h1
    obtain ⟨y, ys, hy, hr, h2⟩ := h2
    simp only [List.map_cons, List.cons.injEq] at hy
    obtain ⟨rfl, rfl⟩ := hy
    simp only [findD] at h
    simp only [Instr.findNow, hk]
    split at h
    · rename_i hs; cases h
      rw [hs]; exact ⟨_, rfl, rfl, hr, Nat.le_refl _, ⟨x, by simp, by rw [hk]; exact hs⟩, by simp⟩
    · rename_i hs
      rw [hs]
      obtain ⟨r', k1, k2⟩ := findD_run (kt := kt) es ents (i + 1) r h h1 h2
      refine ⟨r', k1, ?_⟩
      split at k2
      · exact trivial
      · obtain ⟨q1, q2, q3, ⟨e', q4, q5⟩, q6⟩ := k2
        rename_i j d j' v
        refine ⟨q1, q2, by omega, ⟨e', ?_, q5⟩, by simp; omega⟩
        obtain ⟨m, hm⟩ : ∃ m, j - i = m + 1 := ⟨j - i - 1, by omega⟩
        rw [hm, List.getElem?_cons_succ, show m = j - (i + 1) by omega]; exact q4
      · exact k2.elim
    · cases h

def mapD (look : Nat → Option DObj) : D → Option (List (Value × D))
  | .v (.map none) => some []
  | .map id => match look id with | some (.map es) => some es | _ => none
  | _ => none
def opLookup (P : Program) (look : Nat → Option DObj) (t : TypeId) (x k : D) (ok : Bool) : Option Res :=
  match P.underlying t with
  | some (.map kt et) =>
    match keyKind P kt, zeroVal P et, mapD look x, k with
    | some kd, some z, some es, .v kv =>
      match findD kd kv es 0 with
      | some (some (_, d)) => some { val := if ok then .tup [d, .v (.bool true)] else d }
      | some none => some { val := if ok then .tup [z, .v (.bool false)] else z }
      | none => none
    | _, _, _, _ => none
  | _ => none
theorem run_findKey {kt : TypeId} {kd : TypeDesc} {k : Value} {es : List MapEntry} {r : Option (Nat × Value)} (hu : P.underlying kt = some kd) (h : Instr.findNow kd k es 0 = some r) (w : World) : (Instr.findKey kt k es).run P w = .ok r w := by
  simp only [Instr.findKey, Sem.run_bind, run_underlying hu, Result.andThen, h, Sem.run_pure]
theorem mapD_sound {d : D} {y : Value} {es : List (Value × D)} (H : HeapRel g w look) (h : mapD look d = some es) (r : Rep g w d y) : ∃ ents : Array MapEntry, ents.toList.map (·.key) = es.map (·.1) ∧ RepAll g w (es.map (·.2)) (ents.toList.map (·.val)) ∧
    ((y = .map none ∧ ents = #[]) ∨ ∃ b clock, y = .map (some b) ∧ w.heap[b]? = some (.map ents clock)) := by
  unfold mapD at h
  split at h
  · cases h; exact ⟨#[], rfl, rfl, .inl ⟨r, rfl⟩⟩
  · rename_i id
    split at h
    · rename_i es' hl
      cases h
      obtain ⟨b, p, sz, m1, ex⟩ := r
      obtain ⟨b', p', sz', ents, clock, vs, k1, k2, k3, k4, k5, k6, k7⟩ := H.obj id _ hl
      rw [m1] at k1; cases k1
      exact ⟨ents, k3, by rw [k4]; exact k5, .inr ⟨b, clock, ex, k2⟩⟩
    · cases h
  · cases h
theorem opLookup_sound {o : Oper} {t : TypeId} {x y : Operand} {ok : Bool} {dx dy : D} {r : Res} (hop : o.op = .lookup t x y ok) (hx : Rep g w dx (ev x)) (hy : Rep g w dy (ev y)) (h : opLookup P look t dx dy ok = some r) (H : HeapRel g w look) : Ran P ev o g w look base r := by
  unfold opLookup at h
  split at h
  · rename_i kt et hu
    split at h
    · rename_i kd z es kv hk hz hm
      have ey : ev y = kv := hy
      obtain ⟨hku, hck⟩ := keyKind_eq hk
      obtain ⟨zv, hz1, rfl⟩ := run_zeroVal hz
      obtain ⟨ents, e1, e2, e3⟩ := mapD_sound H hm hx
      have fin : ∀ v b d r', Instr.findNow kd kv ents.toList 0 = some r' → (match r' with | some (_, u) => (u, true) | none => (zv, false)) = (v, b) → Rep g w d v → r = { val := if ok then .tup [d, .v (.bool b)] else d } → Ran P ev o g w look base r := by
        intro v b d r' hf hv hr hres
        subst hres
        refine .pure_value (v := if ok then .tuple #[v, .bool b] else v) ?_ H (by cases ok; · exact hr
                                                                                  · exact ⟨[v, .bool b], rfl, v, [.bool b], rfl, hr, _, [], rfl, rfl, rfl⟩)
        have hfk := run_findKey hku hf w
        have hl : (Instr.lookup t (ev x) (ev y) ok).run P w = .ok (if ok then .tuple #[v, .bool b] else v) w := by
          rcases e3 with ⟨ex, rfl⟩ | ⟨b', clock, ex, hb⟩
          · simp only [Instr.lookup, Sem.run_bind, run_underlying hu, Result.andThen, ex, Sem.run_pure, hck, ey, hfk]
            cases r' with
            | none => cases hv; simp only [Sem.run_bind, hz1, Result.andThen, Sem.run_pure]
            | some q => obtain ⟨q1, q2⟩ := q; cases hv; simp only [Sem.run_pure, Sem.run_bind, Result.andThen]
          · have hg := run_getObj (P := P) hb (by intro _ _ _ hh; cases hh)
            simp only [Instr.lookup, Sem.run_bind, run_underlying hu, Result.andThen, ex, hg, Sem.run_pure, hck, ey, hfk]
            cases r' with
            | none => cases hv; simp only [Sem.run_bind, hz1, Result.andThen, Sem.run_pure]
            | some q => obtain ⟨q1, q2⟩ := q; cases hv; simp only [Sem.run_pure, Sem.run_bind, Result.andThen]
        simp [execOp, hop, hl]
      split at h
      · rename_i j d hf
        cases h
        obtain ⟨r', q1, q2⟩ := findD_run (kt := kt) es ents.toList 0 _ hf e1 e2
        cases r' with
        | none => exact q2.elim
        | some q => obtain ⟨j', v⟩ := q; exact fin v true d _ q1 rfl q2.2.1 rfl
      · rename_i hf
        cases h
        obtain ⟨r', q1, q2⟩ := findD_run (kt := kt) es ents.toList 0 _ hf e1 e2
        cases r' with
        | none => exact fin zv false (ofV zv) _ q1 rfl (ofV_rep zv) rfl
        | some q => exact q2.elim
      · cases h
    · cases h
  · cases h

/-- A map, or a walk, of the call's own, turned. -/
theorem heap_obj {id b p sz : Nat} {ob ob' : Obj} {o o' : DObj} (h : HeapRel g w look) (hl : look id = some o) (hlive : o.live = true) (hlive' : o'.live = true) (hm : g.m id = some (b, p, sz)) (hb : w.heap[b]? = some ob)
    (hnc : ∀ cs s, o' ≠ .cells cs s)
    (ho : Le g w g { w with heap := w.heap.setIfInBounds b ob' } → ({ w with heap := w.heap.setIfInBounds b ob' } : World).heap[b]? = some ob' → ¬ g.F b ∧ ¬ g.K b → ObjRel g { w with heap := w.heap.setIfInBounds b ob' } id o') :
    Le g w g { w with heap := w.heap.setIfInBounds b ob' } ∧ HeapRel g { w with heap := w.heap.setIfInBounds b ob' } (putUpd look [(id, some o')]) := by
  have hbs : b < w.heap.size := (Array.getElem?_eq_some_iff.1 hb).1
  have own : ¬ g.F b ∧ ¬ g.K b := ((h.obj id _ hl).at hm).2 hlive
  have le : Le g w g { w with heap := w.heap.setIfInBounds b ob' } :=
    ⟨fun _ _ e => e, fun _ e => e, fun _ => Iff.rfl, fun b' hb' => by
      show (w.heap.setIfInBounds b _)[b']? = _
      rw [Array.getElem?_setIfInBounds, if_neg]
      intro e; subst e; exact hb'.elim own.1 own.2, by simp, rfl, rfl, rfl, fun _ e => .inl e⟩
  have hlook : ∀ i o1, putUpd look [(id, some o')] i = some o1 → (i = id ∧ o1 = o') ∨ (i ≠ id ∧ look i = some o1) := by
    intro i o1 e
    have e : (if i = id then some o' else look i) = some o1 := e
    by_cases hi : i = id
    · rw [if_pos hi] at e; cases e; exact .inl ⟨hi, rfl⟩
    · rw [if_neg hi] at e; exact .inr ⟨hi, e⟩
  refine ⟨le, fun i cs s e => ?_, fun i o1 e => ?_, fun i i' o1 o2 b1 q1 q2 e1 e2 l1 l2 m1 m2 => ?_, fun b' hb' => by simpa using h.frz b' hb', fun b' hb' => by simpa using h.keep b' hb'⟩
  · rcases hlook i _ e with ⟨_, e⟩ | ⟨_, e⟩
    · exact absurd e.symm (hnc _ _)
    · exact h.cell _ _ _ e
  · rcases hlook i o1 e with ⟨rfl, rfl⟩ | ⟨hi, e⟩
    · exact ho le (by simp [Array.getElem?_setIfInBounds, hbs]) own
    · refine (h.obj i o1 e).mono le (fun hn => hn) (fun b' q hb' => ?_) (fun hl b' q hb' => ?_)
      · show (w.heap.setIfInBounds b _)[b']? = _
        rw [Array.getElem?_setIfInBounds, if_neg]
        intro e'; subst e'
        cases hlv : o1.live with
        | true => exact hi (h.inj i id o1 _ b q _ e hl hlv hlive hb' hm)
        | false =>
          cases o1 <;> simp [DObj.live] at hlv
          subst hlv
          obtain ⟨_, _, _, _, _, _, _, q1, _, _, _, _, _, q7⟩ := (h.obj i _ e).real hb'
          rw [hb'] at q1; cases q1
          exact own.1 (by simpa using q7)
      · exact (((h.obj i o1 e).at hb').2 hl).1
  · have orig : ∀ i o1, putUpd look [(id, some o')] i = some o1 → o1.live = true → ∃ o2, look i = some o2 ∧ o2.live = true := fun i o1 e l => by
      rcases hlook i o1 e with ⟨rfl, rfl⟩ | ⟨_, e⟩
      · exact ⟨_, hl, hlive⟩
      · exact ⟨_, e, l⟩
    obtain ⟨p1, k1, k1'⟩ := orig i o1 e1 l1
    obtain ⟨p2, k2, k2'⟩ := orig i' o2 e2 l2
    exact h.inj i i' p1 p2 b1 q1 q2 k1 k2 k1' k2' m1 m2

def opMapUpdate (P : Program) (look : Nat → Option DObj) (t : TypeId) (x k v : D) : Option Res :=
  match P.underlying t with
  | some (.map kt et) =>
    match keyKind P kt, x, k with
    | some kd, .map id, .v kv =>
      match look id with
      | some (.map es) =>
        match findD kd kv es 0 with
        | some (some (j, _)) => some { val := .v undef, upd := [(id, some (.map (es.set j (kv, v))))] }
        | some none => some { val := .v undef, upd := [(id, some (.map (es ++ [(kv, v)])))] }
        | none => none
      | _ => none
    | _, _, _ => none
  | _ => none
theorem sameNow_same {kd : TypeDesc} {a b : Value} (h : Instr.sameNow kd a b = some true) : a = b ∧ Instr.sameBits 10000 b a = true := by
  unfold Instr.sameNow at h
  split at h
  · split at h
    · rename_i hk; subst hk; simp at h; subst h; exact ⟨rfl, by simp [Instr.sameBits]⟩
    · cases h
  · rename_i a b
    have h : (a == b) = true := Option.some.inj h
    have : a = b := by
      rw [beq_toListBytes] at h
      have h := eq_of_beq h
      rw [ByteArray.toList_eq, ByteArray.toList_eq] at h
      obtain ⟨⟨x⟩⟩ := a
      obtain ⟨⟨y⟩⟩ := b
      simp at h; subst h; rfl
    subst this
    exact ⟨rfl, by simp only [Instr.sameBits]; exact h⟩
  · simp at h; subst h; exact ⟨rfl, by simp [Instr.sameBits]⟩
  · cases h
theorem opMapUpdate_sound {o : Oper} {t : TypeId} {x y z : Operand} {dx dy dz : D} {r : Res} (hop : o.op = .mapUpdate t x y z ∨ o.op = .insert t x y z) (hx : Rep g w dx (ev x)) (hy : Rep g w dy (ev y)) (hz : Rep g w dz (ev z))
    (h : opMapUpdate P look t dx dy dz = some r) (H : HeapRel g w look) : Ran P ev o g w look base r := by
  have hex : ∀ w', (Instr.mapUpdate t (ev x) (ev y) (ev z)).run P w = .ok () w' → (execOp ev o).run P w = .ok .skip w' := fun w' he => by
    rcases hop with hop | hop <;> simp [execOp, hop, he]
  unfold opMapUpdate at h
  split at h
  · rename_i kt et hu
    split at h
    · rename_i kd id kv hk
      have ey : ev y = kv := hy
      obtain ⟨hku, hck⟩ := keyKind_eq hk
      split at h
      · rename_i es hl
        obtain ⟨b, p, sz, m1, ex⟩ := hx
        obtain ⟨b', p', sz', ents, clock, vs, k1, k2, k3, k4, k5, k6, k7⟩ := H.obj id _ hl
        rw [m1] at k1; cases k1
        have hg := run_getObj (P := P) k2 (by intro _ _ _ hh; cases hh)
        have hs := fun ob' => run_setObj (P := P) (ob' := ob') k2 (by intro _ _ _ hh; cases hh)
        rw [← k4] at k5
        split at h
        · rename_i j d hf
          cases h
          obtain ⟨r', q1, q2⟩ := findD_run (kt := kt) es ents.toList 0 _ hf k3 k5
          cases r' with
          | none => exact q2.elim
          | some q =>
            obtain ⟨j', v'⟩ := q
            obtain ⟨rfl, q3, _, ⟨e, q5, q6⟩, q7⟩ := q2
            obtain ⟨rfl, q8⟩ := sameNow_same q6
            have hje : ents[j]? = some e := by simpa using q5
            have hfk := run_findKey hku q1 w
            have hjs : j < ents.size := (Array.getElem?_eq_some_iff.1 hje).1
            obtain ⟨le, hh⟩ := heap_obj (o' := .map (es.set j (e.key, dz))) (ob' := .map (ents.modify j fun x => { x with key := e.key, val := ev z }) clock) H hl rfl rfl m1 k2 (fun _ _ hh => by cases hh) (fun le hb hn =>
              ⟨b, p, sz, _, clock, _, m1, hb, by
                rw [List.map_set, ← k3]
                apply List.ext_getElem?
                intro i
                simp only [List.getElem?_map, Array.getElem?_toList, Array.getElem?_modify, List.getElem?_set]
                by_cases hij : j = i
                · subst hij; simp [hje, hjs]
                · rw [if_neg hij, if_neg hij], rfl, by
                refine .of (by have := congrArg List.length k3; simp at this ⊢; exact this) fun i d' u e1 e2 => ?_
                rw [List.map_set, List.getElem?_set] at e1
                simp only [List.getElem?_map, Array.getElem?_toList, Array.getElem?_modify] at e2
                by_cases hij : j = i
                · subst hij
                  simp [hje] at e1 e2
                  obtain ⟨_, e1⟩ := e1
                  subst e1; subst e2
                  exact Rep.mono le _ _ hz
                · rw [if_neg hij] at e1 e2
                  obtain ⟨u', hu', ru⟩ := k5.get e1
                  simp only [List.getElem?_map, Array.getElem?_toList] at hu'
                  rw [hu'] at e2; cases e2
                  exact Rep.mono le _ _ ru, hn.1, hn.2⟩)
            refine ⟨undef, _, g, .inr ⟨hex _ ?_, rfl⟩, le, rfl, by simpa [Res.heap, putNews_nil] using hh, fun _ _ => rfl⟩
            simp only [Instr.mapUpdate, Sem.run_bind, run_underlying hu, Result.andThen, ex, hg, hck, ey, hfk, hje, Option.map_some, Option.getD_some, Instr.keyThatStays, q8, if_true, Sem.run_pure, hs]
        · rename_i hf
          cases h
          obtain ⟨r', q1, q2⟩ := findD_run (kt := kt) es ents.toList 0 _ hf k3 k5
          cases r' with
          | some q => exact q2.elim
          | none =>
            have hfk := run_findKey hku q1 w
            obtain ⟨le, hh⟩ := heap_obj (o' := .map (es ++ [(kv, dz)])) (ob' := .map (ents.push { key := kv, val := ev z, born := clock }) (clock + 1)) H hl rfl rfl m1 k2 (fun _ _ hh => by cases hh) (fun le hb hn =>
              ⟨b, p, sz, _, _, _, m1, hb, by simp [← k3], rfl, by
                simp only [Array.toList_push, List.map_append, List.map_cons, List.map_nil]
                exact (RepAll.mono le _ _ k5).append ⟨ev z, [], rfl, Rep.mono le _ _ hz, rfl⟩, hn.1, hn.2⟩)
            refine ⟨undef, _, g, .inr ⟨hex _ ?_, rfl⟩, le, rfl, by simpa [Res.heap, putNews_nil] using hh, fun _ _ => rfl⟩
            simp only [Instr.mapUpdate, Sem.run_bind, run_underlying hu, Result.andThen, ex, hg, hck, ey, hfk, hs]
        · cases h
      · cases h
    · cases h
  · cases h

def opMakeMap (base : Nat) (r : Option Operand) : Option Res :=
  match r with
  | none => some { val := .map base, news := [.map []] }
  | some _ => none
theorem opMakeMap_sound {o : Oper} {t : TypeId} {x : Option Operand} {r : Res} (hop : o.op = .makeMap t x) (h : opMakeMap base x = some r) (H : HeapRel g w look) (hm : r.news ≠ [] → g.m base = none) (hl : r.news ≠ [] → look base = none) : Ran P ev o g w look base r := by
  unfold opMakeMap at h
  split at h <;> cases h
  obtain ⟨le, hh⟩ := heap_new (ob := .map #[] 0) (o := .map []) (p := 0) (sz := 0) H (hm (by simp)) (hl (by simp)) (fun _ _ hh => by cases hh) fun le =>
    ⟨w.heap.size, 0, 0, #[], 0, [], put_m, push_get _ _, rfl, rfl, rfl, fun hf => Nat.lt_irrefl _ (H.frz _ hf), fun hf => Nat.lt_irrefl _ (H.keep _ hf)⟩
  refine ⟨.map (some w.heap.size), _, _, .inl ?_, le, ⟨w.heap.size, 0, 0, put_m, rfl⟩, by simpa [Res.heap, putUpd] using hh, fun id hid => put_m_ne (by simp at hid; omega)⟩
  simp [execOp, hop, Instr.makeMap, newObj, Sem.run]

/-! ### a walk over a text -/
def opRange (P : Program) (base : Nat) (t : TypeId) (x : D) : Option Res :=
  match P.underlying t, x with
  | some .string, .v (.string s) => some { val := .ptr base 0, news := [.siter s 0] }
  | _, _ => none
theorem opRange_sound {o : Oper} {t : TypeId} {x : Operand} {d : D} {r : Res} (hop : o.op = .range t x) (hx : Rep g w d (ev x)) (h : opRange P base t d = some r) (H : HeapRel g w look) (hm : r.news ≠ [] → g.m base = none) (hl : r.news ≠ [] → look base = none) : Ran P ev o g w look base r := by
  unfold opRange at h
  split at h <;> cases h
  rename_i s hu
  have ex : ev x = .string s := hx
  obtain ⟨le, hh⟩ := heap_new (ob := .stringIter s 0) (o := .siter s 0) (p := 0) (sz := 0) H (hm (by simp)) (hl (by simp)) (fun _ _ hh => by cases hh) fun le =>
    ⟨w.heap.size, 0, put_m, push_get _ _, fun hf => Nat.lt_irrefl _ (H.frz _ hf), fun hf => Nat.lt_irrefl _ (H.keep _ hf)⟩
  refine ⟨.pointer (some ⟨w.heap.size, 0, none⟩), _, _, .inl ?_, le, ⟨w.heap.size, 0, 0, put_m, rfl⟩, by simpa [Res.heap, putUpd] using hh, fun id hid => put_m_ne (by simp at hid; omega)⟩
  simp [execOp, hop, Instr.range, run_underlying hu, ex, newObj, Sem.run]
def opNext (look : Nat → Option DObj) (x : D) (is : Bool) : Option Res :=
  match x, is with
  | .ptr id 0, true =>
    match look id with
    | some (.siter s pos) =>
      if pos < s.size then some { val := .tup [.v (.bool true), .v (.int .i64 pos), .v (.int .i32 (Utf8.decode s pos).1)], upd := [(id, some (.siter s (pos + (Utf8.decode s pos).2)))] }
      else some { val := .tup [.v (.bool false)] }
    | _ => none
  | _, _ => none
theorem opNext_sound {o : Oper} {x : Operand} {is : Bool} {d : D} {r : Res} (hop : o.op = .next x is) (hx : Rep g w d (ev x)) (h : opNext look d is = some r) (H : HeapRel g w look) : Ran P ev o g w look base r := by
  unfold opNext at h
  split at h
  · rename_i id
    split at h
    · rename_i s pos hl
      obtain ⟨b, p, sz, m1, ex⟩ := hx
      obtain ⟨b', sz', k1, k2, k3, k4⟩ := H.obj id _ hl
      rw [m1] at k1; cases k1
      have hg := run_getObj (P := P) k2 (by intro _ _ _ hh; cases hh)
      have hs := fun ob' => run_setObj (P := P) (ob' := ob') k2 (by intro _ _ _ hh; cases hh)
      split at h <;> cases h
      · rename_i hp
        obtain ⟨le, hh⟩ := heap_obj (o' := .siter s (pos + (Utf8.decode s pos).2)) (ob' := .stringIter s (pos + (Utf8.decode s pos).2)) H hl rfl rfl m1 k2 (fun _ _ hh => by cases hh) (fun le hb hn => ⟨b, sz, m1, hb, hn.1, hn.2⟩)
        refine ⟨.tuple #[.bool true, .int .i64 pos, .int .i32 (Utf8.decode s pos).1], _, g, .inl ?_, le, ⟨_, rfl, _, _, rfl, rfl, _, _, rfl, rfl, _, _, rfl, rfl, rfl⟩, by simpa [Res.heap, putNews_nil] using hh, fun _ _ => rfl⟩
        simp [execOp, hop, Instr.next, ex, hg, hs, hp, goInt]
      · rename_i hp
        refine .pure_value (v := .tuple #[.bool false]) ?_ H ⟨_, rfl, _, _, rfl, rfl, rfl⟩
        simp [execOp, hop, Instr.next, ex, hg, hp]
    · cases h
  · cases h
end
end Go.Proofs.YtjmhioacbpgalaaDoorV
