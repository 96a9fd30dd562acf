/- Calls that write what they are given: the step of such a call. -/
import Derived.Test.YtjmhioacbpgalaaDoorVC
namespace Go.Proofs.YtjmhioacbpgalaaDoorV
open Go Go.RowKit
set_option linter.unusedVariables false
set_option linter.unusedSimpArgs false

def posL : List Nat → Nat → Option Nat
  | [], _ => none
  | j :: r, i => if i = j then some 0 else (posL r i).map (· + 1)
theorem posL_get : ∀ {l : List Nat} {i j : Nat}, posL l i = some j → l[j]? = some i
  | [], i, j, h => by cases h
  | k :: r, i, j, h => by
    simp only [posL] at h
    split at h
    · rename_i hk; cases h; subst hk; rfl
    · obtain ⟨m, h1, rfl⟩ := opt_map h
      simpa using posL_get h1
def nodupB : List Nat → Bool
  | [] => true
  | i :: r => !r.contains i && nodupB r
theorem nodupB_inj : ∀ {l : List Nat}, nodupB l = true → ∀ {i j k : Nat}, l[i]? = some k → l[j]? = some k → i = j
  | [], _, i, j, k, h, _ => by simp at h
  | a :: r, hn, i, j, k, hi, hj => by
    simp only [nodupB, Bool.and_eq_true, Bool.not_eq_true'] at hn
    have hc : ∀ m, r[m]? ≠ some a := fun m e => by
      have : r.contains a = true := by simpa using List.mem_of_getElem? e
      rw [this] at hn; exact absurd hn.1 (by simp)
    cases i with
    | zero =>
      cases j with
      | zero => rfl
      | succ j => simp at hi hj; subst hi; exact absurd hj (hc j)
    | succ i =>
      cases j with
      | zero => simp at hi hj; subst hj; exact absurd hi (hc i)
      | succ j => simp at hi hj; rw [nodupB_inj hn.2 hi hj]
def dedup : List Nat → List Nat → List Nat
  | acc, [] => acc
  | acc, i :: r => if acc.contains i then dedup acc r else dedup (acc ++ [i]) r

theorem dedup_nil : ∀ (l acc : List Nat), dedup acc l = [] → acc = [] ∧ l = []
  | [], acc, h => ⟨h, rfl⟩
  | b :: l, acc, h => by
    simp only [dedup] at h
    split at h
    · rename_i hc
      have := (dedup_nil l acc h).1
      subst this; simp at hc
    · have := (dedup_nil l _ h).1
      simp at this
def presObjs (look : Nat → Option DObj) (f : Nat → Option Nat) : List Nat → Option (List DObj)
  | [] => some []
  | id :: r => match look id with
    | some o => match o.ren f, presObjs look f r with | some o', some r' => some (o' :: r') | _, _ => none
    | none => none
theorem presObjs_length {look : Nat → Option DObj} {f : Nat → Option Nat} : ∀ {l : List Nat} {os : List DObj}, presObjs look f l = some os → os.length = l.length
  | [], os, h => by cases h; rfl
  | id :: r, os, h => by
    simp only [presObjs] at h
    split at h
    · split at h
      · rename_i o' r' h1 h2; cases h; simp [presObjs_length h2]
      · cases h
    · cases h
theorem presObjs_get {look : Nat → Option DObj} {f : Nat → Option Nat} : ∀ {l : List Nat} {os : List DObj}, presObjs look f l = some os → ∀ (j : Nat) (o' : DObj), os[j]? = some o' → ∃ (i : Nat) (o : DObj), l[j]? = some i ∧ look i = some o ∧ o.ren f = some o'
  | [], os, h, j, o', e => by cases h; simp at e
  | id :: r, os, h, j, o', e => by
    simp only [presObjs] at h
    split at h
    · rename_i o ho
      split at h
      · rename_i o1 r' h1 h2
        cases h
        cases j with
        | zero => simp at e; subst e; exact ⟨id, o, rfl, ho, h1⟩
        | succ j => exact presObjs_get h2 j o' (by simpa using e)
      · cases h
    · cases h
theorem presObjs_has {look : Nat → Option DObj} {f : Nat → Option Nat} : ∀ {l : List Nat} {os : List DObj}, presObjs look f l = some os → ∀ (j i : Nat), l[j]? = some i → ∃ o o', look i = some o ∧ os[j]? = some o' ∧ o.ren f = some o'
  | [], os, h, j, i, e => by simp at e
  | id :: r, os, h, j, i, e => by
    simp only [presObjs] at h
    split at h
    · rename_i o ho
      split at h
      · rename_i o1 r' h1 h2
        cases h
        cases j with
        | zero => simp at e; subst e; exact ⟨o, o1, ho, rfl, h1⟩
        | succ j => exact presObjs_has h2 j i (by simpa using e)
      · cases h
    · cases h
def renOpts (f : Nat → Option Nat) : List (Option DObj) → Option (List (Option DObj))
  | [] => some []
  | none :: r => (renOpts f r).map fun r' => none :: r'
  | some o :: r => (o.ren f).bind fun o' => (renOpts f r).map fun r' => some o' :: r'
theorem renOpts_length {f : Nat → Option Nat} : ∀ {os os' : List (Option DObj)}, renOpts f os = some os' → os'.length = os.length
  | [], _, h => by cases h; rfl
  | none :: os, _, h => by
    simp only [renOpts] at h
    obtain ⟨ds', h2, rfl⟩ := opt_map h
    simp [renOpts_length h2]
  | some o :: os, _, h => by
    simp only [renOpts] at h
    obtain ⟨d', h1, h⟩ := opt_bind h
    obtain ⟨ds', h2, rfl⟩ := opt_map h
    simp [renOpts_length h2]
theorem renOpts_get {f : Nat → Option Nat} : ∀ {os os' : List (Option DObj)}, renOpts f os = some os' → ∀ {i : Nat} {o' : DObj}, os'[i]? = some (some o') → ∃ o, os[i]? = some (some o) ∧ o.ren f = some o'
  | [], _, h, i, o', e => by cases h; simp at e
  | none :: os, _, h, i, o', e => by
    simp only [renOpts] at h
    obtain ⟨ds', h2, rfl⟩ := opt_map h
    cases i with
    | zero => simp at e
    | succ i => simpa using renOpts_get h2 (by simpa using e)
  | some o :: os, _, h, i, o', e => by
    simp only [renOpts] at h
    obtain ⟨d', h1, h⟩ := opt_bind h
    obtain ⟨ds', h2, rfl⟩ := opt_map h
    cases i with
    | zero => simp at e; subst e; exact ⟨o, rfl, h1⟩
    | succ i => simpa using renOpts_get h2 (by simpa using e)
/-- Out of the callee's numbers. -/
def backBy (ids : List Nat) (n base : Nat) (i : Nat) : Option Nat := if i < ids.length then ids[i]? else if i < ids.length + n then some (base + (i - ids.length)) else none
def opCallW (E : Env) (look : Nat → Option DObj) (base : Nat) (f : FuncId) (args : List D) : Option Res :=
  let ids := dedup [] (closeL look 6 (refsAll args))
  if nodupB ids then
    match presObjs look (posL ids) ids, renAll (posL ids) args with
    | some oi, some args' =>
      match E.callW f oi args' with
      | some (d, oo, news) =>
        match d.ren (backBy ids news.length base), renOpts (backBy ids news.length base) oo, renObjs (backBy ids news.length base) news with
        | some d', some oo', some news' => if oo.length = oi.length then some { val := d', news := news', upd := ids.zip oo' } else none
        | _, _, _ => none
      | none => none
    | _, _ => none
  else none
theorem opCallW_spec {E : Env} {look : Nat → Option DObj} {base : Nat} {f : FuncId} {args : List D} {r : Res} (h : opCallW E look base f args = some r) :
    ∃ ids oi args' d oo news d' oo' news', dedup [] (closeL look 6 (refsAll args)) = ids ∧ nodupB ids = true ∧ presObjs look (posL ids) ids = some oi ∧ renAll (posL ids) args = some args' ∧ E.callW f oi args' = some (d, oo, news) ∧
      oo.length = oi.length ∧ d.ren (backBy ids news.length base) = some d' ∧ renOpts (backBy ids news.length base) oo = some oo' ∧ renObjs (backBy ids news.length base) news = some news' ∧ r = { val := d', news := news', upd := ids.zip oo' } := by
  unfold opCallW at h
  dsimp only at h
  split at h
  · rename_i hnd
    split at h
    · rename_i oi args' h1 h2
      split at h
      · rename_i d oo news h3
        split at h
        · rename_i d' oo' news' h4 h5 h6
          split at h
          · rename_i h7
            cases h
            exact ⟨_, oi, args', d, oo, news, d', oo', news', rfl, hnd, h1, h2, h3, h7, h4, h5, h6, rfl⟩
          · cases h
        · cases h
      · cases h
    · cases h
  · cases h
def opCall (E : Env) (look : Nat → Option DObj) (base : Nat) (f : FuncId) (args : List D) : Option Res := if E.isW f then opCallW E look base f args else opCallR E look base f args
theorem opCall_R {E : Env} {f : FuncId} (h : E.isW f = false) {look : Nat → Option DObj} {base : Nat} {args : List D} : opCall E look base f args = opCallR E look base f args := by
  unfold opCall; rw [if_neg (by simp [h])]
theorem opCall_W {E : Env} {f : FuncId} (h : E.isW f = true) {look : Nat → Option DObj} {base : Nat} {args : List D} : opCall E look base f args = opCallW E look base f args := by
  unfold opCall; rw [if_pos h]

theorem posL_of {i : Nat} : ∀ (l : List Nat) (j : Nat), nodupB l = true → l[j]? = some i → posL l i = some j := by
  intro l
  induction l with
  | nil => intro j _ e; simp at e
  | cons a l ih =>
    intro j hn e
    have hn' := hn
    simp only [nodupB, Bool.and_eq_true, Bool.not_eq_true'] at hn'
    cases j with
    | zero => simp at e; subst e; simp [posL]
    | succ j =>
      simp at e
      have hne : i ≠ a := fun he => by
        subst he
        have : l.contains i = true := by simpa using List.mem_of_getElem? e
        rw [this] at hn'; exact absurd hn'.1 (by simp)
      simp only [posL, if_neg hne, ih j hn'.2 e, Option.map_some]
theorem putUpd_zip : ∀ (ids : List Nat) (os : List (Option DObj)) (look : Nat → Option DObj) (id : Nat), nodupB ids = true → os.length = ids.length →
    (∃ j : Nat, ids[j]? = some id ∧ some (putUpd look (ids.zip os) id) = os[j]?) ∨ (id ∉ ids ∧ putUpd look (ids.zip os) id = look id)
  | [], os, look, id, _, _ => .inr ⟨by simp, rfl⟩
  | i :: ids, [], look, id, _, h => by simp at h
  | i :: ids, o :: os, look, id, hn, h => by
    have hn' := hn
    simp only [nodupB, Bool.and_eq_true, Bool.not_eq_true'] at hn'
    have e : putUpd look ((i :: ids).zip (o :: os)) id = putUpd (fun j => if j = i then o else look j) (ids.zip os) id := rfl
    rcases putUpd_zip ids os (fun j => if j = i then o else look j) id hn'.2 (by simpa using h) with ⟨j, h1, h2⟩ | ⟨h1, h2⟩
    · exact .inl ⟨j + 1, by simpa using h1, by rw [e, h2]; simp⟩
    · by_cases hi : id = i
      · subst hi
        exact .inl ⟨0, rfl, by rw [e, h2]; simp⟩
      · exact .inr ⟨by simp [hi, h1], by rw [e, h2]; simp [hi]⟩

theorem opCallW_sound {E : Env} (hE : E.ok) {g : G} {w : World} {look : Nat → Option DObj} {base : Nat} {f : FuncId} {args : List D} {vals : List Value} {r : Res} (h : opCallW E look base f args = some r) (H : HeapRel g w look)
    (hfresh : ∀ id, base ≤ id → id < base + r.news.length → g.m id = none ∧ look id = none) (ha : RepAll g w args vals) :
    Enter E.P f ∧ Calls E.P f vals.toArray w fun e w' => ∃ v g', e = .returned v ∧ Out g w look base r g' w' v := by
  obtain ⟨ids, oi, args', d, oo, news, d', oo', news', _, hnd, hoi, hargs, hcall, hool, hd', hoo', hnews', rfl⟩ := opCallW_spec h
  obtain ⟨hen, _, hfit⟩ := hE.w _ _ _ _ _ _ hcall
  refine ⟨hen, ?_⟩
  have hlen := presObjs_length hoi
  have hnl : news'.length = news.length := renObjs_length hnews'
  have hol : oo'.length = oo.length := renOpts_length hoo'
  -- the callee's memory
  let live : Nat → Prop := fun b => ∃ id ∈ ids, ∃ o p, look id = some o ∧ o.live = true ∧ g.m id = some (b, p)
  let gc : G := ⟨fun j => (ids[j]?).bind g.m, g.F, fun b => b < w.heap.size ∧ ¬ live b⟩
  have hm : ∀ i j x, posL ids i = some j → g.m i = some x → gc.m j = some x := fun i j x e1 e2 => by
    show (ids[j]?).bind g.m = _
    rw [posL_get e1]; exact e2
  have hgm : ∀ j i, ids[j]? = some i → gc.m j = g.m i := fun j i e => by show (ids[j]?).bind g.m = _; rw [e]; rfl
  have hliveK : ∀ b, live b → ¬ g.F b ∧ ¬ g.K b := fun b ⟨id, _, o, p, h1, h2, h3⟩ => ((H.obj id o h1).at h3).2 h2
  have Hc : HeapRel gc w (fun id => oi[id]?) := by
    refine ⟨fun j cs s e => ?_, fun j o' e => ?_, fun j j' o1 o2 b p q e1 e2 l1 l2 m1 m2 => ?_, H.frz, fun b hb => hb.1⟩
    · obtain ⟨i, o, k1, k2, k3⟩ := presObjs_get hoi j _ e
      cases o with
      | cells cs0 s0 =>
        simp only [DObj.ren] at k3
        obtain ⟨cs1, e3, e4⟩ := opt_map k3
        cases e4
        exact renAll_cell e3 (H.cell i _ _ k2)
      | map es => simp only [DObj.ren] at k3; obtain ⟨_, _, e4⟩ := opt_map k3; cases e4
      | siter => cases k3
    · obtain ⟨i, o, k1, k2, k3⟩ := presObjs_get hoi j o' e
      exact ObjRel.ren hm (fun _ h => h) (posL_of ids j hnd k1) (fun hn => by rw [hgm j i k1]; exact hn) k3
        (fun hl b p hb => ⟨(((H.obj i o k2).at hb).2 hl).1, fun hk => hk.2 ⟨i, List.mem_of_getElem? k1, o, p, k2, hl, hb⟩⟩) (H.obj i o k2)
    · obtain ⟨i, o, k1, k2, k3⟩ := presObjs_get hoi j _ e1
      obtain ⟨i', o', k1', k2', k3'⟩ := presObjs_get hoi j' _ e2
      rw [hgm j i k1] at m1
      rw [hgm j' i' k1'] at m2
      have : i = i' := H.inj i i' o o' b p q k2 k2' (by rw [← DObj.ren_live k3]; exact l1) (by rw [← DObj.ren_live k3']; exact l2) m1 m2
      subst this
      exact nodupB_inj hnd k1 k1'
  have hac : RepAll gc w args' vals := RepAll.ren (g := g) hm (fun _ h => h) _ _ _ hargs ha
  refine (hfit gc w vals Hc (fun id hid => by
    show (ids[id]?).bind g.m = none
    rw [List.getElem?_eq_none (by omega)]; rfl) hac).mono fun e w' ⟨v, g1, he, l, hrep, H1, _⟩ => ?_
  let g' : G := ⟨fun id => if base ≤ id ∧ id < base + news.length then g1.m (id - base + ids.length) else g.m id, g1.F, g.K⟩
  have hmold : ∀ id, ¬ (base ≤ id ∧ id < base + news.length) → g'.m id = g.m id := fun id hid => by
    show (if _ then _ else _) = _
    rw [if_neg hid]
  have hnotnew : ∀ id o, look id = some o → ¬ (base ≤ id ∧ id < base + news.length) := fun id o e hid => by
    have := (hfresh id hid.1 (by rw [hnl]; exact hid.2)).2
    rw [e] at this; cases this
  have hidlook : ∀ j i, ids[j]? = some i → ∃ o, look i = some o := fun j i e => by
    obtain ⟨o, _, h1, _⟩ := presObjs_has hoi j i e
    exact ⟨o, h1⟩
  have hpin : ∀ j i, ids[j]? = some i → g1.m j = g.m i := fun j i e => by
    rw [l.pin j (by rw [hlen]; exact (List.getElem?_eq_some_iff.1 e).1), hgm j i e]
  -- numbers, put back
  have hback : ∀ j i, backBy ids news.length base j = some i → g'.m i = g1.m j ∧ ((j < ids.length ∧ ids[j]? = some i) ∨ (ids.length ≤ j ∧ j < ids.length + news.length ∧ i = base + (j - ids.length))) := fun j i e => by
    unfold backBy at e
    split at e
    · rename_i hj
      obtain ⟨o, ho⟩ := hidlook j i e
      exact ⟨by rw [hmold i (hnotnew i o ho), hpin j i e], .inl ⟨hj, e⟩⟩
    · split at e
      · rename_i hj hj2
        cases e
        refine ⟨?_, .inr ⟨by omega, hj2, rfl⟩⟩
        show (if _ then _ else _) = _
        rw [if_pos ⟨by omega, by omega⟩]
        congr 1; omega
      · cases e
  have hsh : ∀ i j x, backBy ids news.length base i = some j → g1.m i = some x → g'.m j = some x := fun i j x e1 e2 => by rw [(hback i j e1).1]; exact e2
  have hkeepc : ∀ b, b < w.heap.size → ¬ live b → w'.heap[b]? = w.heap[b]? := fun b hb hl => l.heap b (.inr ⟨hb, hl⟩)
  have le : Le g w g' w' := ⟨fun id x hx => by
      rw [hmold id (fun hid => by have := (hfresh id hid.1 (by rw [hnl]; exact hid.2)).1; rw [hx] at this; cases this)]; exact hx,
    fun b hb => l.F b hb, fun _ => Iff.rfl, fun b hb => hb.elim (fun hb => l.heap b (.inl hb)) (fun hb => hkeepc b (H.keep b hb) fun hl => (hliveK b hl).2 hb), l.size, l.os, l.tape, l.output,
    fun b hb => by
      rcases l.Fn b hb with hb | hb
      · exact .inl hb
      · refine .inr fun hk => hb ⟨H.keep b hk, fun hl => (hliveK b hl).2 hk⟩⟩
  have hrep' : Rep g' w' d' v := Rep.ren (g := g1) hsh (fun b hb => hb) _ _ _ hd' hrep
  -- what there is, afterwards
  have hlook : ∀ id o, putUpd (putNews look base news') (ids.zip oo') id = some o →
      (∃ j o1, backBy ids news.length base j = some id ∧ lookH (oo ++ news.map some) j = some o1 ∧ o1.ren (backBy ids news.length base) = some o) ∨ (id ∉ ids ∧ look id = some o ∧ ¬ (base ≤ id ∧ id < base + news.length)) := by
    intro id o e
    rcases putUpd_zip ids oo' (putNews look base news') id hnd (by omega) with ⟨j, h1, h2⟩ | ⟨h1, h2⟩
    · rw [e] at h2
      obtain ⟨o1, q1, q2⟩ := renOpts_get hoo' h2.symm
      have hj : j < ids.length := (List.getElem?_eq_some_iff.1 h1).1
      refine .inl ⟨j, o1, by unfold backBy; rw [if_pos hj]; exact h1, ?_, q2⟩
      unfold lookH
      rw [List.getElem?_append_left (by omega), q1]
    · rw [h2] at e
      unfold putNews at e
      split at e
      · rename_i hc
        rw [hnl] at hc
        obtain ⟨o1, q1, q2⟩ := renObjs_get hnews' e
        refine .inl ⟨ids.length + (id - base), o1, ?_, ?_, q2⟩
        · unfold backBy
          rw [if_neg (by omega), if_pos (by omega)]; congr 1; omega
        · unfold lookH
          rw [List.getElem?_append_right (by omega), List.getElem?_map, show ids.length + (id - base) - oo.length = id - base by omega, q1]; rfl
      · rename_i hc
        rw [hnl] at hc
        exact .inr ⟨h1, e, hc⟩
  have hout : ∀ id o b p, id ∉ ids → look id = some o → o.live = true → g.m id = some (b, p) → ¬ live b := fun id o b p hid e hl hb ⟨i, hi, o', p', q1, q2, q3⟩ => by
    have := H.inj id i o o' b p p' e q1 hl q2 hb q3
    subst this; exact hid hi
  refine ⟨v, g', he, le, hrep', ?_, fun id hid => hmold id (by rw [hnl] at hid; omega)⟩
  show HeapRel g' w' (putUpd (putNews look base news') (ids.zip oo'))
  refine ⟨fun id cs sh e => ?_, fun id o e => ?_, fun id id' o1 o2 b q1 q2 e1 e2 l1 l2 m1 m2 => ?_, fun b hb => H1.frz b hb, fun b hb => Nat.lt_of_lt_of_le (H.keep b hb) l.size⟩
  · rcases hlook id _ e with ⟨j, o1, k1, k2, k3⟩ | ⟨_, e, _⟩
    · cases o1 with
      | cells cs0 s0 =>
        simp only [DObj.ren] at k3
        obtain ⟨cs1, e3, e4⟩ := opt_map k3
        cases e4
        exact renAll_cell e3 (H1.cell j _ _ k2)
      | map es => simp only [DObj.ren] at k3; obtain ⟨_, _, e4⟩ := opt_map k3; cases e4
      | siter => cases k3
    · exact H.cell id _ _ e
  · rcases hlook id o e with ⟨j, o1, k1, k2, k3⟩ | ⟨hid, e, hnb⟩
    · refine ObjRel.ren (g := g1) hsh (fun _ h => h) k1 (fun hn => by rw [(hback j id k1).1]; exact hn) k3 (fun hl b p hb => ?_) (H1.obj j o1 k2)
      obtain ⟨q1, q2⟩ := ((H1.obj j o1 k2).at hb).2 hl
      refine ⟨q1, fun hk => q2 ((l.K b).1 ⟨H.keep b hk, fun hlv => (hliveK b hlv).2 hk⟩)⟩
    · refine (H.obj id o e).mono le (fun hn => by rw [hmold id hnb]; exact hn) (fun b p hb => ?_) (fun hl b p hb hF => ?_)
      · cases hl : o.live with
        | true => exact hkeepc b ((H.obj id o e).at hb).1 (hout id o b p hid e hl hb)
        | false =>
          cases o <;> simp [DObj.live] at hl
          subst hl
          obtain ⟨_, _, _, _, _, _, _, z1, _, _, _, _, _, z7⟩ := (H.obj id _ e).real hb
          rw [hb] at z1; cases z1
          rw [if_pos rfl] at z7
          exact l.heap b (.inl z7)
      · obtain ⟨hlt, hf⟩ := (H.obj id o e).at hb
        rcases l.Fn b hF with h1 | h1
        · exact (hf hl).1 h1
        · exact h1 ⟨hlt, hout id o b p hid e hl hb⟩
  · have key : ∀ id o b p, putUpd (putNews look base news') (ids.zip oo') id = some o → o.live = true → g'.m id = some (b, p) →
        (∃ j o1, backBy ids news.length base j = some id ∧ lookH (oo ++ news.map some) j = some o1 ∧ o1.live = true ∧ g1.m j = some (b, p) ∧ ¬ g1.K b) ∨ (look id = some o ∧ g.m id = some (b, p) ∧ g1.K b) := by
      intro id o b p e hl hb
      rcases hlook id o e with ⟨j, o1, k1, k2, k3⟩ | ⟨hid, e, hnb⟩
      · rw [(hback j id k1).1] at hb
        have hl1 : o1.live = true := by rw [← DObj.ren_live k3]; exact hl
        exact .inl ⟨j, o1, k1, k2, hl1, hb, (((H1.obj j o1 k2).at hb).2 hl1).2⟩
      · rw [hmold id hnb] at hb
        exact .inr ⟨e, hb, (l.K b).1 ⟨((H.obj id o e).at hb).1, hout id o b p hid e hl hb⟩⟩
    rcases key id o1 b q1 e1 l1 m1 with ⟨j, p1, a1, a2, a3, a4, a5⟩ | ⟨a1, a2, a3⟩ <;> rcases key id' o2 b q2 e2 l2 m2 with ⟨j', p1', c1, c2, c3, c4, c5⟩ | ⟨c1, c2, c3⟩
    · have := H1.inj j j' _ _ b q1 q2 a2 c2 a3 c3 a4 c4
      subst this
      rw [a1] at c1; cases c1; rfl
    · exact absurd c3 a5
    · exact absurd a3 c5
    · exact H.inj id id' o1 o2 b q1 q2 a1 c1 l1 l2 a2 c2
theorem opCall_sound {E : Env} (hE : E.ok) {g : G} {w : World} {look : Nat → Option DObj} {base : Nat} {f : FuncId} {args : List D} {vals : List Value} {r : Res} (h : opCall E look base f args = some r) (H : HeapRel g w look)
    (hfresh : ∀ id, base ≤ id → id < base + r.news.length → g.m id = none ∧ look id = none) (ha : RepAll g w args vals) :
    Enter E.P f ∧ Calls E.P f vals.toArray w fun e w' => ∃ v g', e = .returned v ∧ Out g w look base r g' w' v := by
  unfold opCall at h
  split at h
  · exact opCallW_sound hE h H hfresh ha
  · exact opCallR_sound hE h H hfresh ha
end Go.Proofs.YtjmhioacbpgalaaDoorV
