/- Objects under new numbers: at a loop's head, and handed back; a function's contract out of its body. -/
import Derived.Test.YtjmhioacbpgalaaDoorVE
namespace Go.Proofs.YtjmhioacbpgalaaDoorV
open Go Go.RowKit
set_option linter.unusedVariables false
set_option linter.unusedSimpArgs false

/-! ### at a loop's head -/
def keepT (live : List Nat) (T : List (Nat × D)) : List (Nat × D) := live.filterMap fun t => (lookT T t).map fun d => (t, d)
theorem keepT_look {T : List (Nat × D)} : ∀ {live : List Nat} {t : Nat} {d : D}, lookT (keepT live T) t = some d → lookT T t = some d
  | [], t, d, h => by simp [keepT, lookT] at h
  | u :: live, t, d, h => by
    unfold keepT at h
    rw [List.filterMap_cons] at h
    split at h
    · exact keepT_look h
    · rename_i p hp
      obtain ⟨d', h1, rfl⟩ := opt_map hp
      simp only [lookT] at h
      split at h
      · rename_i htu; subst htu; cases h; exact h1
      · exact keepT_look h
def renT (f : Nat → Option Nat) : List (Nat × D) → Option (List (Nat × D))
  | [] => some []
  | p :: r => match p.2.ren f, renT f r with | some d, some r' => some ((p.1, d) :: r') | _, _ => none
theorem renT_look {f : Nat → Option Nat} : ∀ {T T' : List (Nat × D)}, renT f T = some T' → ∀ t d', lookT T' t = some d' → ∃ d, lookT T t = some d ∧ d.ren f = some d'
  | [], T', h, t, d', e => by cases h; cases e
  | p :: r, T', h, t, d', e => by
    simp only [renT] at h
    split at h
    · rename_i d r' h1 h2
      cases h
      simp only [lookT] at e ⊢
      split at e
      · rename_i htu; rw [if_pos htu]; cases e; exact ⟨_, rfl, h1⟩
      · rename_i htu; rw [if_neg htu]; exact renT_look h2 t d' e
    · cases h
def renH (f : Nat → Option Nat) (H : List (Option DObj)) : List Nat → Option (List (Option DObj))
  | [] => some []
  | id :: r =>
    match lookH H id with
    | some o => match o.ren f, renH f H r with | some o', some r' => some (some o' :: r') | _, _ => none
    | none => match renH f H r with | some r' => some ((if H.length ≤ id then some (.cells [] false) else none) :: r') | none => none
theorem renH_get {f : Nat → Option Nat} {H : List (Option DObj)} : ∀ {l : List Nat} {H' : List (Option DObj)}, renH f H l = some H' → H'.length = l.length ∧ ∀ (j : Nat) (o' : DObj), lookH H' j = some o' → ∃ i, l[j]? = some i ∧ ((∃ o, lookH H i = some o ∧ o.ren f = some o') ∨ (H.length ≤ i ∧ o' = .cells [] false))
  | [], H', h => by cases h; exact ⟨rfl, fun j o' e => by simp [lookH] at e⟩
  | id :: r, H', h => by
    simp only [renH] at h
    split at h
    · rename_i o ho
      split at h
      · rename_i o' r' h1 h2
        cases h
        obtain ⟨k1, k2⟩ := renH_get h2
        refine ⟨by simp [k1], fun j o2 e => ?_⟩
        cases j with
        | zero => simp [lookH] at e; subst e; exact ⟨id, rfl, .inl ⟨o, ho, h1⟩⟩
        | succ j => exact k2 j o2 (by simpa [lookH] using e)
      · cases h
    · split at h
      · rename_i r' h2
        cases h
        obtain ⟨k1, k2⟩ := renH_get h2
        refine ⟨by simp [k1], fun j o2 e => ?_⟩
        cases j with
        | zero =>
          by_cases hl : H.length ≤ id
          · rw [if_pos hl] at e
            simp [lookH] at e; subst e; exact ⟨id, rfl, .inr ⟨hl, rfl⟩⟩
          · rw [if_neg hl] at e; simp [lookH] at e
        | succ j => exact k2 j o2 (by simpa [lookH] using e)
      · cases h
def norm (live : List Nat) (st : St) : Option St :=
  let T := keepT live st.T
  let ids := dedup [] (closeL (lookH st.H) 6 (refsAll (T.map (·.2))))
  if nodupB ids then
    match renT (posL ids) T, renH (posL ids) st.H ids with
    | some T', some H' => some ⟨st.n, T', H'⟩
    | _, _ => none
  else none
theorem norm_sound {g : G} {w : World} {a : Act} {live : List Nat} {st st' : St} (R : StRel 0 g w st a) (h : norm live st = some st') : ∃ g', Lw 0 g w g' w ∧ StRel 0 g' w st' a := by
  unfold norm at h
  dsimp only at h
  generalize dedup [] (closeL (lookH st.H) 6 (refsAll ((keepT live st.T).map (·.2)))) = ids at h
  split at h
  · rename_i hnd
    split at h
    · rename_i T' H' hT hH
      cases h
      obtain ⟨hlen, hget⟩ := renH_get hH
      let g' : G := ⟨fun j => (ids[j]?).bind g.m, g.F, g.K⟩
      have hm : ∀ i j x, posL ids i = some j → g.m i = some x → g'.m j = some x := fun i j x e1 e2 => by
        show (ids[j]?).bind g.m = _
        rw [posL_get e1]; exact e2
      have hm2 : ∀ i j, ids[j]? = some i → ∀ x, g'.m j = some x → g.m i = some x := fun i j e x e2 => by
        have e2 : (ids[j]?).bind g.m = some x := e2
        rw [e] at e2; exact e2
      have hm3 : ∀ i j x, ids[j]? = some i → g.m i = some x → g'.m j = some x := fun i j x e1 e2 => by
        show (ids[j]?).bind g.m = _
        rw [e1]; exact e2
      refine ⟨g', ⟨fun _ h => absurd h (Nat.not_lt_zero _), fun _ h => h, fun _ => Iff.rfl, fun _ _ => rfl, Nat.le_refl _, rfl, rfl, rfl, fun _ h => .inl h⟩, R.n, fun t d' e => by
        obtain ⟨d, e1, e2⟩ := renT_look hT t d' e
        obtain ⟨y, e3, e4⟩ := R.T t d (keepT_look e1)
        exact ⟨y, e3, Rep.ren hm (fun _ h => h) _ _ _ e2 e4⟩, ⟨fun j cs s e => ?_, fun j o' e => ?_, fun j j' o1 o2 b p q e1 e2 l1 l2 m1 m2 => ?_, R.H.frz, R.H.keep⟩, fun j hj => ?_, R.defers, Nat.zero_le _⟩
      · rcases hget j _ e with ⟨i, k1, ⟨o, k2, k3⟩ | ⟨k2, k3⟩⟩
        case inr => cases k3; rfl
        cases o with
        | cells cs0 s0 =>
          simp only [DObj.ren] at k3
          obtain ⟨cs1, e3, e4⟩ := opt_map k3
          cases e4
          exact renAll_cell e3 (R.H.cell i _ _ k2)
        | map es => simp only [DObj.ren] at k3; obtain ⟨_, _, e4⟩ := opt_map k3; cases e4
        | siter => cases k3
      · rcases hget j _ e with ⟨i, k1, ⟨o, k2, k3⟩ | ⟨k2, k3⟩⟩
        case inr => subst k3; exact .inr ⟨rfl, (by show (ids[j]?).bind g.m = none; rw [k1]; exact R.m i k2)⟩
        have r := R.H.obj i o k2
        have hlive : o.live = true → ∀ b p, g.m i = some (b, p) → ¬ g'.F b ∧ ¬ g'.K b := fun hl b p hb => by
          exact (r.at hb).2 hl
        -- its own number may not be the one that 'posL' gives: it is, for no number stands twice
        have hp : posL ids i = some j := by
          have : ∀ (l : List Nat) (j : Nat), nodupB l = true → l[j]? = some i → posL l i = some j := by
            intro l
            induction l with
            | nil => intro j _ e; simp at e
            | cons a l ih =>
              intro j hn e
              have hn' := hn
              simp only [nodupB, Bool.and_eq_true, Bool.not_eq_true'] at hn'
              cases j with
              | zero => simp at e; subst e; simp [posL]
              | succ j =>
                simp at e
                have hne : i ≠ a := fun he => by
                  subst he
                  have : l.contains i = true := by simpa using List.mem_of_getElem? e
                  rw [this] at hn'; exact absurd hn'.1 (by simp)
                simp only [posL, if_neg hne, ih j hn'.2 e, Option.map_some]
          exact this ids j hnd k1
        exact ObjRel.ren hm (fun _ h => h) hp (fun hn => (show (ids[j]?).bind g.m = none by rw [k1]; exact hn)) k3 hlive r
      · rcases hget j _ e1 with ⟨i, k1, ⟨o, k2, k3⟩ | ⟨k2, k3⟩⟩
        case inr => have m1 : (ids[j]?).bind g.m = _ := m1; rw [k1] at m1; have m1 : g.m i = _ := m1; rw [R.m i k2] at m1; cases m1
        rcases hget j' _ e2 with ⟨i', k1', ⟨o', k2', k3'⟩ | ⟨k2', k3'⟩⟩
        case inr => have m2 : (ids[j']?).bind g.m = _ := m2; rw [k1'] at m2; have m2 : g.m i' = _ := m2; rw [R.m i' k2'] at m2; cases m2
        have : i = i' := R.H.inj i i' o o' b p q k2 k2' (by rw [← DObj.ren_live k3]; exact l1) (by rw [← DObj.ren_live k3']; exact l2) (hm2 _ _ k1 _ m1) (hm2 _ _ k1' _ m2)
        subst this
        exact nodupB_inj hnd k1 k1'
      · have : ids[j]? = none := List.getElem?_eq_none (by have hj : H'.length ≤ j := hj; omega)
        show (ids[j]?).bind g.m = none
        rw [this]; rfl
    · cases h
  · cases h
theorem WpD.norm {P : Program} {c : Code} {st st' : St} {Q : Exit → St → Prop} (live : List Nat) (h : norm live st = some st') (hc : WpD 0 P c st' Q) : WpD 0 P c st Q := by
  intro g w a R
  obtain ⟨g', l, R'⟩ := norm_sound R h
  exact wp_mono (hc g' w a R') fun e a' w' ⟨st2, g2, q, l2, R2⟩ => ⟨st2, g2, q, l.trans l2, R2⟩

/-! ### handed back -/
def expObj (C : Nat → Option (List D)) (κ : Nat → Bool) (f : Nat → Option Nat) : DObj → Option DObj
  | .cells cs false => match lendAll C κ cs with | some cs' => (DObj.cells cs' false).ren f | none => none
  | .map es => match lendAll C κ (es.map (·.2)) with | some ds => (DObj.map ((es.map (·.1)).zip ds)).ren f | none => none
  | _ => none
def expObjs (C : Nat → Option (List D)) (κ : Nat → Bool) (f : Nat → Option Nat) (look : Nat → Option DObj) : List Nat → Option (List DObj)
  | [] => some []
  | id :: r => match look id with
    | some o => match expObj C κ f o, expObjs C κ f look r with | some o', some r' => some (o' :: r') | _, _ => none
    | none => none
theorem expObjs_get {C : Nat → Option (List D)} {κ : Nat → Bool} {f : Nat → Option Nat} {look : Nat → Option DObj} : ∀ {l : List Nat} {os : List DObj}, expObjs C κ f look l = some os → ∀ (j : Nat) (o' : DObj), os[j]? = some o' → ∃ (i : Nat) (o : DObj), l[j]? = some i ∧ look i = some o ∧ expObj C κ f o = some o'
  | [], os, h, j, o', e => by cases h; simp at e
  | id :: r, os, h, j, o', e => by
    simp only [expObjs] at h
    split at h
    · rename_i o ho
      split at h
      · rename_i o1 r' h1 h2
        cases h
        cases j with
        | zero => simp at e; subst e; exact ⟨id, o, rfl, ho, h1⟩
        | succ j => exact expObjs_get h2 j o' (by simpa using e)
      · cases h
    · cases h
theorem expObjs_length {C : Nat → Option (List D)} {κ : Nat → Bool} {f : Nat → Option Nat} {look : Nat → Option DObj} : ∀ {l : List Nat} {os : List DObj}, expObjs C κ f look l = some os → os.length = l.length
  | [], os, h => by cases h; rfl
  | id :: r, os, h => by
    simp only [expObjs] at h
    split at h
    · split at h
      · rename_i o1 r' h1 h2
        cases h
        simp [expObjs_length h2]
      · cases h
    · cases h
def expD (look : Nat → Option DObj) (d : D) : Option (D × List DObj) :=
  let κ : Nat → Bool := fun id => match look id with | some o => o.live | none => false
  let C := lentC look (fun id => match look id with | some o => !o.live | none => false) 6
  match lend C κ d with
  | some d1 =>
    let ids := dedup [] ((closeL look 6 d1.refs).filter κ)
    if nodupB ids then
      match d1.ren (posL ids), expObjs C κ (posL ids) look ids with
      | some d', some os => some (d', os)
      | _, _ => none
    else none
  | none => none
theorem expD_sound {g : G} {w : World} {look : Nat → Option DObj} {d d' : D} {os : List DObj} {y : Value} (H : HeapRel g w look) (r : Rep g w d y) (h : expD look d = some (d', os)) :
    ∃ g1 : G, g1.F = g.F ∧ g1.K = g.K ∧ (∀ id b p, g1.m id = some (b, p) → ¬ g.K b) ∧ Rep g1 w d' y ∧ HeapRel g1 w (fun id => os[id]?) := by
  unfold expD at h
  dsimp only at h
  generalize hκ : (fun id => match look id with | some o => o.live | none => false : Nat → Bool) = κ at h
  generalize hC : lentC look (fun id => match look id with | some o => !o.live | none => false) 6 = C at h
  have kκ : ∀ id, κ id = true → ∃ o, look id = some o ∧ o.live = true := fun id hk => by
    rw [← hκ] at hk
    have hk : (match look id with | some o => o.live | none => false) = true := hk
    split at hk
    · rename_i o ho; exact ⟨o, ho, hk⟩
    · cases hk
  have hCs : ∀ id cs, C id = some cs → ∀ x, g.m id = some x → ∃ b o sz vs, g.m id = some (b, o, sz) ∧ g.F b ∧ At w b o vs ∧ RepAll g w cs vs ∧ cs.all (·.cell) = true := fun id cs hc => by
    rw [← hC] at hc
    exact lentC_sound (m' := g.m) (F := g.F) (K := g.K) H (fun _ h => h) (fun id hid cs s hl b p hm => by
      rw [hl] at hid
      cases s with
      | false => simp [DObj.live] at hid
      | true =>
        obtain ⟨_, _, _, _, _, _, _, z1, _, _, _, _, _, z7⟩ := (H.obj id _ hl).real hm
        rw [hm] at z1; cases z1
        rw [if_pos rfl] at z7
        exact z7) 6 id cs hc
  split at h
  · rename_i d1 hd1
    generalize dedup [] ((closeL look 6 d1.refs).filter κ) = ids at h
    split at h
    · rename_i hnd
      split at h
      · rename_i d2 os' hd2 hos
        cases h
        have r1 : Rep g w d1 y := Rep.lend (g' := g) (fun _ h => h) (fun _ _ _ h => h) hCs _ _ _ hd1 r
        let g1 : G := ⟨fun j => (ids[j]?).bind g.m, g.F, g.K⟩
        -- only what may be written is handed back
        have hobj : ∀ (j : Nat) (o' : DObj), os[j]? = some o' → ∃ (i : Nat) (o o1 : DObj), ids[j]? = some i ∧ look i = some o ∧ o.live = true ∧ o1.live = true ∧ o1.ren (posL ids) = some o' ∧ ObjRel g w i o1 ∧ (∀ cs s, o1 = .cells cs s → cs.all (·.cell) = true) := by
          intro j o' e
          obtain ⟨i, o, k1, k2, k3⟩ := expObjs_get hos j o' e
          have ro := H.obj i o k2
          cases o with
          | cells cs s =>
            cases s with
            | true => cases k3
            | false =>
              simp only [expObj] at k3
              split at k3
              · rename_i cs' hcs'
                refine ⟨i, _, .cells cs' false, k1, k2, rfl, rfl, k3, ?_, fun cs2 s2 e2 => by cases e2; exact lendAll_cell hcs' (H.cell _ _ _ k2)⟩
                rcases ro with ⟨b, o, sz, c, el, fr, vs, h1, h2, h3, h4, h5, h6, h7⟩ | ⟨r1, r2⟩
                case inr => subst r1; simp only [lendAll] at hcs'; cases hcs'; exact .inr ⟨rfl, r2⟩
                exact .inl ⟨b, o, sz, c, el, fr, vs, h1, h2, h3, by rw [lendAll_length hcs']; exact h4, h5, RepAll.lend (g' := g) (fun _ h => h) (fun _ _ _ h => h) hCs _ _ _ hcs' h6, h7⟩
              · cases k3
          | map es =>
            simp only [expObj] at k3
            split at k3
            · rename_i ds hds
              refine ⟨i, _, .map ((es.map (·.1)).zip ds), k1, k2, rfl, rfl, k3, ?_, fun cs2 s2 e2 => by cases e2⟩
              obtain ⟨b, o, sz, ents, clock, vs, h1, h2, h3, h4, h5, h6, h7⟩ := ro
              have hlen : ds.length = (es.map (·.1)).length := by rw [lendAll_length hds]; simp
              refine ⟨b, o, sz, ents, clock, vs, h1, h2, by rw [zip_fst _ _ hlen]; exact h3, h4, ?_, h6, h7⟩
              rw [zip_snd _ _ hlen]
              exact RepAll.lend (g' := g) (fun _ h => h) (fun _ _ _ h => h) hCs _ _ _ hds h5
            · cases k3
          | siter => cases k3
        have hol := expObjs_length hos
        have hm2 : ∀ i j, ids[j]? = some i → ∀ x, g1.m j = some x → g.m i = some x := fun i j e x e2 => by
          have e2 : (ids[j]?).bind g.m = some x := e2
          rw [e] at e2; exact e2
        have hm3 : ∀ i j x, posL ids i = some j → g.m i = some x → g1.m j = some x := fun i j x e1 e2 => by
          show (ids[j]?).bind g.m = _
          rw [posL_get e1]; exact e2
        have hp : ∀ i j, ids[j]? = some i → posL ids i = some j := by
          have : ∀ (l : List Nat) (i j : Nat), nodupB l = true → l[j]? = some i → posL l i = some j := by
            intro l
            induction l with
            | nil => intro i j _ e; simp at e
            | cons a l ih =>
              intro i j hn e
              have hn' := hn
              simp only [nodupB, Bool.and_eq_true, Bool.not_eq_true'] at hn'
              cases j with
              | zero => simp at e; subst e; simp [posL]
              | succ j =>
                simp at e
                have hne : i ≠ a := fun he => by
                  subst he
                  have : l.contains i = true := by simpa using List.mem_of_getElem? e
                  rw [this] at hn'; exact absurd hn'.1 (by simp)
                simp only [posL, if_neg hne, ih i j hn'.2 e, Option.map_some]
          exact fun i j e => this ids i j hnd e
        have hown : ∀ (j : Nat) b p, g1.m j = some (b, p) → ¬ g.F b ∧ ¬ g.K b := fun j b p e => by
          cases hj : ids[j]? with
          | none =>
            have e : (ids[j]?).bind g.m = some (b, p) := e
            rw [hj] at e; cases e
          | some i =>
            have hjl : j < os.length := by rw [hol]; exact (List.getElem?_eq_some_iff.1 hj).1
            obtain ⟨i', o, o1, k1, k2, k3, _⟩ := hobj j _ (List.getElem?_eq_getElem hjl)
            rw [hj] at k1; cases k1
            exact ((H.obj i o k2).at (hm2 i j hj _ e)).2 k3
        refine ⟨g1, rfl, rfl, fun j b p e => (hown j b p e).2, Rep.ren hm3 (fun _ h => h) _ _ _ hd2 r1, fun j cs s e => ?_, fun j o' e => ?_, fun j j' o1 o2 b p q e1 e2 l1 l2 m1 m2 => ?_, H.frz, H.keep⟩
        · obtain ⟨i, o, o1, k1, k2, k3, k4, k5, k6, k7⟩ := hobj j _ e
          cases o1 with
          | cells cs0 s0 =>
            simp only [DObj.ren] at k5
            obtain ⟨cs1, e3, e4⟩ := opt_map k5
            cases e4
            exact renAll_cell e3 (k7 _ _ rfl)
          | map es => simp only [DObj.ren] at k5; obtain ⟨_, _, e4⟩ := opt_map k5; cases e4
          | siter => cases k5
        · obtain ⟨i, o, o1, k1, k2, k3, k4, k5, k6, k7⟩ := hobj j _ e
          exact ObjRel.ren hm3 (fun _ h => h) (hp i j k1) (fun hn => (show (ids[j]?).bind g.m = none by rw [k1]; exact hn)) k5 (fun _ b p hb => hown j b p (hm3 i j _ (hp i j k1) hb)) k6
        · obtain ⟨i, o, _, k1, k2, k3, _⟩ := hobj j _ e1
          obtain ⟨i', o', _, k1', k2', k3', _⟩ := hobj j' _ e2
          have : i = i' := H.inj i i' o o' b p q k2 k2' k3 k3' (hm2 _ _ k1 _ m1) (hm2 _ _ k1' _ m2)
          subst this
          exact nodupB_inj hnd k1 k1'
      · cases h
    · cases h
  · cases h

/-! ### a function's contract -/
def resOne (P : Program) (st : St) : ResultVar → Option D
  | .tmp t => some (evalD st.T (.tmp t))
  | .cell a t => match rowAt (lookH st.H) (evalD st.T (.tmp a)) with
    | some cs => loadD P t cs
    | none => none
def resList (P : Program) (st : St) : List ResultVar → Option (List D)
  | [] => some []
  | r :: rs => match resOne P st r, resList P st rs with
    | some d, some ds => some (d :: ds)
    | _, _ => none
def resD (P : Program) (rs : List ResultVar) (st : St) : Option D :=
  match resList P st rs with
  | some [d] => some d
  | some ds => some (.tup ds)
  | none => none
def resSem (tmps : Array Value) : ResultVar → Sem Value
  | .tmp t => pure (tmps.getD t undef)
  | .cell a t => do loadVar t (← asAddr (tmps.getD a undef))
theorem results_eq (fn : Func) (tmps : Array Value) : results fn tmps = (do let vs ← fn.results.mapM (resSem tmps); pure (if h : vs.size = 1 then vs[0] else .tuple vs)) := by
  unfold results
  congr
section
variable {p : Nat}
theorem resOne_sound {P : Program} {g : G} {w : World} {a : Act} {st : St} (R : StRel p g w st a) {rv : ResultVar} {d : D} (h : resOne P st rv = some d) :
    ∃ v, (resSem a.tmps rv).run P w = .ok v w ∧ Rep g w d v := by
  cases rv with
  | tmp t =>
    cases h
    exact ⟨_, rfl, evalD_rep R.T (.tmp t)⟩
  | cell c t =>
    simp only [resOne] at h
    split at h
    · rename_i cs hcs
      obtain ⟨b, o, vs, h1, h2, h3⟩ := rowAt_sound R.H (evalD_rep R.T (.tmp c)) hcs
      obtain ⟨v, h4, h5⟩ := run_loadVar h h2 h3
      have h1 : a.tmps.getD c undef = .pointer (some ⟨b, o, none⟩) := h1
      refine ⟨v, ?_, h5⟩
      simp only [resSem]
      rw [h1]
      simp [asAddr, h4]
    · cases h
theorem resList_sound {P : Program} {g : G} {w : World} {a : Act} {st : St} (R : StRel p g w st a) : ∀ (rs : List ResultVar) (ds : List D), resList P st rs = some ds →
    ∃ vs : List Value, (rs.mapM (resSem a.tmps)).run P w = .ok vs w ∧ RepAll g w ds vs
  | [], ds, h => by cases h; exact ⟨[], by simp, rfl⟩
  | r :: rs, ds, h => by
    simp only [resList] at h
    split at h
    · rename_i d ds' h1 h2
      cases h
      obtain ⟨v, k1, k2⟩ := resOne_sound R h1
      obtain ⟨vs, k3, k4⟩ := resList_sound R rs ds' h2
      refine ⟨v :: vs, ?_, v, vs, rfl, k2, k4⟩
      rw [List.mapM_cons]
      simp only [Sem.run_bind, k1, k3, Result.andThen, Sem.run_pure]
    · cases h
theorem resD_sound {P : Program} {g : G} {w : World} {a : Act} {st : St} (R : StRel p g w st a) {fn : Func} {d : D} (h : resD P fn.results.toList st = some d) : ∃ v, (results fn a.tmps).run P w = .ok v w ∧ Rep g w d v := by
  unfold resD at h
  have key : ∀ ds, resList P st fn.results.toList = some ds → ∃ vs : List Value, RepAll g w ds vs ∧ (results fn a.tmps).run P w = .ok (if h : vs.toArray.size = 1 then vs.toArray[0] else .tuple vs.toArray) w := fun ds hds => by
    obtain ⟨vs, k1, k2⟩ := resList_sound R _ _ hds
    refine ⟨vs, k2, ?_⟩
    rw [results_eq, Array.mapM_eq_mapM_toList]
    simp only [map_eq_pure_bind, Sem.run_bind, k1, Result.andThen, Sem.run_pure]
  split at h
  · rename_i d' hds
    cases h
    obtain ⟨vs, k1, k2⟩ := key _ hds
    obtain ⟨y, rfl, r⟩ := repAll1 k1
    exact ⟨y, by simpa using k2, r⟩
  · rename_i ds hne hds
    cases h
    obtain ⟨vs, k1, k2⟩ := key _ hds
    refine ⟨.tuple vs.toArray, ?_, vs, rfl, k1⟩
    rw [k2]
    have : ¬ vs.toArray.size = 1 := fun e => by
      have := k1.length
      simp at e
      rw [e] at this
      match ds, this with
      | [d], _ => exact hne d rfl
    rw [dif_neg this]
  · cases h
end
def argsT : Nat → List D → List (Nat × D)
  | _, [] => []
  | i, d :: r => (i, d) :: argsT (i + 1) r
theorem argsT_rep {g : G} {w : World} : ∀ (i : Nat) (ds : List D) (vs : List Value), RepAll g w ds vs → ∀ t d, lookT (argsT i ds) t = some d → ∃ y, i ≤ t ∧ vs[t - i]? = some y ∧ Rep g w d y
  | i, [], vs, h, t, d, e => by cases e
  | i, d :: ds, _, ⟨y, ys, rfl, h2, h3⟩, t, d', e => by
    simp only [argsT, lookT] at e
    split at e
    · rename_i hti; subst hti; cases e; exact ⟨y, Nat.le_refl _, by simp, h2⟩
    · obtain ⟨z, k1, k2, k3⟩ := argsT_rep (i + 1) ds ys h3 t d' e
      refine ⟨z, by omega, ?_, k3⟩
      obtain ⟨m, hm⟩ : ∃ m, t - i = m + 1 := ⟨t - i - 1, by omega⟩
      rw [hm, List.getElem?_cons_succ, show m = t - (i + 1) by omega]; exact k2
theorem fits_of {P : Program} {f : FuncId} {fn : Func} {c : Code} {args : List D} {d : D} {os : List DObj} (hf : P.funcs[f]? = some fn) (hb : fn.body = some c)
    (h : WpD 0 P c ⟨args.length + (fn.ntmps - args.length), argsT 0 args, []⟩ fun e st => (e = .normal ∨ e = .ret) ∧ ∃ r, resD P fn.results.toList st = some r ∧ expD (lookH st.H) r = some (d, os)) : Fits P f args d os := by
  intro F w vals hF ha
  have hl := ha.length
  refine calls_of_wp hf hb ?_
  have R : StRel 0 ⟨fun _ => none, F, fun b => b < w.heap.size⟩ w ⟨args.length + (fn.ntmps - args.length), argsT 0 args, []⟩ { tmps := vals.toArray ++ Array.replicate (fn.ntmps - vals.toArray.size) undef, defers := [] } :=
    ⟨by simp [hl], fun t d e => (by
      obtain ⟨y, h1, h2, h3⟩ := argsT_rep 0 args vals ha t d e
      refine ⟨y, ?_, h3⟩
      have : t < vals.length := (List.getElem?_eq_some_iff.1 (by simpa using h2)).1
      rw [Array.getElem?_append_left (by simpa using this)]
      simpa using h2),
    ⟨fun id cs s e => by simp [lookH] at e, fun id o e => by simp [lookH] at e, fun id id' o o' b p q e => by simp [lookH] at e, hF, fun b hb => hb⟩, fun _ _ => rfl, rfl, Nat.zero_le _⟩
  refine wp_mono (h _ w _ R) fun e a' w' ⟨st', g', ⟨he, r, hr, hx⟩, l, R'⟩ => ?_
  obtain ⟨v, k1, k2⟩ := resD_sound R' hr
  obtain ⟨g1, q1, q2, q3, q4, q5⟩ := expD_sound R'.H k2 hx
  have hpost : a'.defers = [] ∧ ∃ v, (results fn a'.tmps).run P w' = .ok v w' ∧ (∃ v' g1, Ending.returned v = .returned v' ∧ Below w.heap.size w w' ∧ (∀ b, F b → g1.F b) ∧ (∀ b, g1.F b → F b ∨ w.heap.size ≤ b) ∧
      (∀ id b p, g1.m id = some (b, p) → w.heap.size ≤ b) ∧ Rep g1 w' d v' ∧ HeapRel g1 w' (fun id => os[id]?)) :=
    ⟨R'.defers, v, k1, v, g1, rfl, ⟨l.os, l.tape, l.output, l.size, fun k hk => l.heap k (.inr hk)⟩, fun b hb => by rw [q1]; exact l.F b hb,
      fun b hb => by rw [q1] at hb; exact (l.Fn b hb).imp id (fun h => Nat.le_of_not_lt h),
      fun id b p e => Nat.le_of_not_lt fun hlt => q3 id b p e ((l.K b).1 hlt), q4, q5⟩
  rcases he with rfl | rfl <;> exact hpost
end Go.Proofs.YtjmhioacbpgalaaDoorV
