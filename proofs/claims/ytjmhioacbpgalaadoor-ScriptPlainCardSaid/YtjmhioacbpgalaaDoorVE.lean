/- States of abstract values; regions in the order of their text; code. -/
import Derived.Test.YtjmhioacbpgalaaDoorVD
import Derived.Tactics
namespace Go.Proofs.YtjmhioacbpgalaaDoorV
open Go Go.RowKit
set_option linter.unusedVariables false
set_option linter.unusedSimpArgs false

structure St where
  n : Nat
  T : List (Nat × D)
  H : List (Option DObj)

def lookT : List (Nat × D) → Nat → Option D
  | [], _ => none
  | p :: r, u => if u = p.1 then some p.2 else lookT r u
def evalD (T : List (Nat × D)) : Operand → D
  | .tmp t => match lookT T t with | some d => d | none => .any
  | .const v => ofV v
  | .global g => .v (.pointer (some ⟨g, 0, none⟩))
  | .func f => .v (.func (.func f) #[] #[])
def putT (n : Nat) (T : List (Nat × D)) (dst : Option Nat) (d : D) : List (Nat × D) := match dst with | some t => if t < n then (t, d) :: T else T | none => T
def updH : List (Nat × Option DObj) → List (Option DObj) → Option (List (Option DObj))
  | [], H => some H
  | (i, o) :: r, H => if i < H.length then updH r (H.set i o) else none
def setH (H : List (Option DObj)) (r : Res) : Option (List (Option DObj)) := updH r.upd (H ++ r.news.map some)
def wantD (ops : Array Oper) (T : List (Nat × D)) (o : Oper) : Option Bool :=
  match o.guard with
  | none => some true
  | some (j, want) =>
    match (ops[j]?).bind (·.dst) with
    | some t => match lookT T t with | some (.v (.bool b)) => some (b == want) | some (.v (.tuple _)) => some false | _ => none
    | none => none
def stepD (E : Env) (ops : Array Oper) (o : Oper) (st : St) : Option St :=
  match wantD ops st.T o with
  | some true =>
    match coreD E (evalD st.T) (lookH st.H) st.H.length o.op with
    | some r => match setH st.H r with
      | some H => some { n := st.n, T := putT st.n st.T o.dst r.val, H := H }
      | none => none
    | none => none
  | some false => some { n := st.n, T := putT st.n st.T o.dst (.v undef), H := st.H }
  | none => none
def runL (E : Env) (ops : Array Oper) : List Oper → St → Option St
  | [], st => some st
  | o :: l, st => match stepD E ops o st with
    | some st' => runL E ops l st'
    | none => none

structure StRel (p : Nat) (g : G) (w : World) (st : St) (a : Act) : Prop where
  n : a.tmps.size = st.n
  T : ∀ t d, lookT st.T t = some d → ∃ y, a.tmps[t]? = some y ∧ Rep g w d y
  H : HeapRel g w (lookH st.H)
  m : ∀ id, st.H.length ≤ id → g.m id = none
  defers : a.defers = []
  pin : p ≤ st.H.length

section
variable {g : G} {w : World} {a : Act} {T : List (Nat × D)} {E : Env} {ops : Array Oper}

theorem evalD_rep (h : ∀ t d, lookT T t = some d → ∃ y, a.tmps[t]? = some y ∧ Rep g w d y) (x : Operand) : Rep g w (evalD T x) (a.eval x) := by
  cases x with
  | tmp t =>
    simp only [evalD, Act.eval]
    cases ht : lookT T t with
    | some d =>
      obtain ⟨y, hy, r⟩ := h t d ht
      rw [Array.getD_eq_getD_getElem?, hy]; exact r
    | none => trivial
  | const v => exact ofV_rep v
  | global g => exact rfl
  | func f => exact rfl

theorem putT_rep {n : Nat} (hn : a.tmps.size = n) (h : ∀ t d, lookT T t = some d → ∃ y, a.tmps[t]? = some y ∧ Rep g w d y) {d : D} {v : Value} (r : Rep g w d v) (dst : Option Tmp) :
    ∀ t d', lookT (putT n T dst d) t = some d' → ∃ y, (a.put dst v).tmps[t]? = some y ∧ Rep g w d' y := by
  intro t d' e
  cases dst with
  | none => exact h t d' e
  | some u =>
    simp only [putT] at e
    simp only [Act.put, Array.getElem?_setIfInBounds]
    split at e
    · rename_i hu
      simp only [lookT] at e
      split at e
      · rename_i htu; subst htu; cases e
        exact ⟨v, by rw [if_pos rfl, if_pos (by rw [hn]; exact hu)], r⟩
      · rename_i htu
        obtain ⟨y, hy, ry⟩ := h t d' e
        exact ⟨y, by rw [if_neg (fun e => htu e.symm)]; exact hy, ry⟩
    · rename_i hu
      obtain ⟨y, hy, ry⟩ := h t d' e
      have : t < a.tmps.size := (Array.getElem?_eq_some_iff.1 hy).1
      exact ⟨y, by rw [if_neg (fun e => hu (by rw [← hn]; rw [e]; exact this))]; exact hy, ry⟩
theorem put_size (dst : Option Tmp) (v : Value) : (a.put dst v).tmps.size = a.tmps.size := by cases dst <;> simp [Act.put]

theorem wantD_eq (h : ∀ t d, lookT T t = some d → ∃ y, a.tmps[t]? = some y ∧ Rep g w d y) {o : Oper} {b : Bool} (e : wantD ops T o = some b) : Region.wanted o (yielded ops a.tmps) = b := by
  unfold wantD at e
  unfold Region.wanted
  split at e
  · rename_i hg; cases e; rw [hg]
  · rename_i j want hg
    rw [hg]
    split at e
    · rename_i t ht
      split at e
      · rename_i b' hb
        cases e
        obtain ⟨y, hy, r⟩ := h _ _ hb
        cases r
        simp only [yielded, ht, Option.bind_some, hy]
        cases b' <;> cases want <;> rfl
      · rename_i hb
        cases e
        obtain ⟨y, hy, r⟩ := h _ _ hb
        cases r
        simp only [yielded, ht, Option.bind_some, hy]
        cases want <;> rfl
      · cases e
    · cases e

theorem lookH_append (H : List (Option DObj)) (news : List DObj) : lookH (H ++ news.map some) = putNews (lookH H) H.length news := by
  funext id
  unfold lookH putNews
  by_cases h : id < H.length
  · rw [List.getElem?_append_left h, if_neg (by omega)]
  · rw [List.getElem?_append_right (by omega)]
    by_cases h2 : id < H.length + news.length
    · rw [if_pos ⟨by omega, h2⟩, List.getElem?_map]
      cases news[id - H.length]? <;> rfl
    · have e1 : H[id]? = none := List.getElem?_eq_none (by omega)
      have e2 : news[id - H.length]? = none := List.getElem?_eq_none (by omega)
      rw [if_neg (by omega), List.getElem?_map, e2]
      show none = match H[id]? with | some o => o | none => none
      rw [e1]
theorem lookH_set (H : List (Option DObj)) (i : Nat) (o : Option DObj) (h : i < H.length) : lookH (H.set i o) = fun id => if id = i then o else lookH H id := by
  funext id
  unfold lookH
  rw [List.getElem?_set]
  by_cases hi : i = id
  · subst hi; rw [if_pos rfl, if_pos h, if_pos rfl]
  · rw [if_neg hi, if_neg (fun e => hi e.symm)]
theorem updH_look : ∀ (u : List (Nat × Option DObj)) (H H' : List (Option DObj)), updH u H = some H' → lookH H' = putUpd (lookH H) u ∧ H'.length = H.length
  | [], H, H', h => by cases h; exact ⟨rfl, rfl⟩
  | (i, o) :: r, H, H', h => by
    simp only [updH] at h
    split at h
    · rename_i hi
      obtain ⟨h1, h2⟩ := updH_look r _ _ h
      exact ⟨by rw [h1, lookH_set _ _ _ hi]; rfl, by rw [h2]; simp⟩
    · cases h
theorem setH_look {H H' : List (Option DObj)} {r : Res} (h : setH H r = some H') : lookH H' = r.heap (lookH H) H.length ∧ H'.length = H.length + r.news.length := by
  obtain ⟨h1, h2⟩ := updH_look _ _ _ h
  exact ⟨by rw [h1, lookH_append]; rfl, by rw [h2]; simp⟩

theorem runL_sound {p : Nat} (hE : E.ok) {Q : Exit → Act → World → Prop} : ∀ (l : List Oper) (g : G) (w : World) (a : Act) (st st' : St), StRel p g w st a → runL E ops l st = some st' →
    (∀ g' a' w', Lw p g w g' w' → StRel p g' w' st' a' → Q .normal a' w') → wpList E.P ops Q l a w
  | [], g, w, a, st, st', R, h, hq => by cases h; exact hq g a w (.refl g w) R
  | o :: l, g, w, a, st, st', R, h, hq => by
    simp only [runL] at h
    split at h
    · rename_i st1 h1
      unfold stepD at h1
      split at h1
      · rename_i hw
        have hw' := wantD_eq R.T hw
        split at h1
        · rename_i r hr
          split at h1
          · rename_i H' hH
            cases h1
            obtain ⟨k1, k2⟩ := setH_look hH
            unfold wpList
            rw [if_pos hw']
            refine .inl ?_
            refine coreD_sound hE hr (fun x _ => evalD_rep R.T x) R.H (fun id h1 h2 => ⟨R.m id h1, by unfold lookH; rw [List.getElem?_eq_none h1]⟩) fun g' w' v' ho => ?_
            refine runL_sound hE l g' w' _ { n := st.n, T := putT st.n st.T o.dst r.val, H := H' } st' ⟨(put_size _ _).trans R.n, putT_rep R.n (fun t d e => by obtain ⟨y, h1, h2⟩ := R.T t d e; exact ⟨y, h1, Rep.mono ho.le _ _ h2⟩) ho.rep _, by rw [k1]; exact ho.heap, fun id hid => ?_, ?_, (show p ≤ H'.length by have := R.pin; omega)⟩ h fun g2 a2 w2 l2 R2 => hq g2 a2 w2 ((ho.le.lw fun id hi => ho.m id (.inl (Nat.lt_of_lt_of_le hi R.pin))).trans l2) R2
            · have hid : H'.length ≤ id := hid
              rw [ho.m id (.inr (by rw [← k2]; exact hid))]; exact R.m id (by omega)
            · have := R.defers
              cases o.dst <;> exact this
          · cases h1
        · cases h1
      · rename_i hw
        cases h1
        have hw' := wantD_eq R.T hw
        unfold wpList
        rw [if_neg (by rw [hw']; simp)]
        exact runL_sound hE l g w _ { n := st.n, T := putT st.n st.T o.dst (.v undef), H := st.H } st' ⟨(put_size _ _).trans R.n, putT_rep R.n R.T (d := .v undef) (v := undef) rfl _, R.H, R.m, by have := R.defers; cases o.dst <;> exact this, R.pin⟩ h hq
      · cases h1
    · cases h

/-! ### code -/
/-- What is known of a piece of code over abstract states. -/
def WpD (p : Nat) (P : Program) (c : Code) (st : St) (Q : Exit → St → Prop) : Prop :=
  ∀ (g : G) (w : World) (a : Act), StRel p g w st a → c.wp P (fun e a' w' => ∃ st' g', Q e st' ∧ Lw p g w g' w' ∧ StRel p g' w' st' a') a w

variable {p : Nat} {P : Program} {st : St} {Q : Exit → St → Prop}
theorem WpD.mono {c : Code} {Q' : Exit → St → Prop} (h : WpD p P c st Q) (hq : ∀ e st, Q e st → Q' e st) : WpD p P c st Q' :=
  fun g w a R => wp_mono (h g w a R) fun e a' w' ⟨st', g', q, r⟩ => ⟨st', g', hq e st' q, r⟩
theorem WpD.skip (h : Q .normal st) : WpD p P .skip st Q := fun g w a R => wp_skip ⟨st, g, h, .refl g w, R⟩
theorem WpD.label {l : Nat} (h : Q .normal st) : WpD p P (.label l) st Q := fun g w a R => wp_label ⟨st, g, h, .refl g w, R⟩
theorem WpD.exit {id : Nat} (h : Q (.exit id) st) : WpD p P (.exit id) st Q := fun g w a R => wp_exit ⟨st, g, h, .refl g w, R⟩
theorem WpD.ret (h : Q .ret st) : WpD p P .ret st Q := fun g w a R => wp_ret ⟨st, g, h, .refl g w, R⟩
theorem WpD.seq {x y : Code} (h : WpD p P x st fun e st' => match e with | .normal => WpD p P y st' Q | e => Q e st') : WpD p P (.seq x y) st Q := by
  intro g w a R
  refine wp_seq (wp_mono (h g w a R) ?_)
  rintro e a' w' ⟨st', g', q, l, R'⟩
  cases e with
  | normal => exact wp_mono (q g' w' a' R') fun e a2 w2 ⟨st2, g2, q2, l2, R2⟩ => ⟨st2, g2, q2, l.trans l2, R2⟩
  | exit id => exact ⟨st', g', q, l, R'⟩
  | goto l' => exact ⟨st', g', q, l, R'⟩
  | ret => exact ⟨st', g', q, l, R'⟩
  | panic c => exact ⟨st', g', q, l, R'⟩
  | outgrown => exact ⟨st', g', q, l, R'⟩
theorem WpD.cond {c : Operand} {x y : Code} {t : Bool} (hc : evalD st.T c = .v (.bool t)) (h1 : t = true → WpD p P x st Q) (h2 : t = false → WpD p P y st Q) : WpD p P (.cond c x y) st Q := by
  intro g w a R
  have := evalD_rep R.T c
  rw [hc] at this
  exact wp_cond_split this (fun h => h1 h g w a R) (fun h => h2 h g w a R)
theorem WpD.block {id : Nat} {c : Code} (h : WpD p P c st fun e st' => match e with | .exit id' => (if id' = id then Q .normal st' else Q (.exit id') st') | e => Q e st') : WpD p P (.block id c) st Q := by
  intro g w a R
  refine wp_block (wp_mono (h g w a R) ?_)
  rintro e a' w' ⟨st', g', q, r⟩
  cases e with
  | exit id' =>
    simp only [Exit.inBlock]
    dsimp only at q
    split at q
    · rename_i hid; rw [if_pos hid]; exact ⟨st', g', q, r⟩
    · rename_i hid; rw [if_neg hid]; exact ⟨st', g', q, r⟩
  | normal => exact ⟨st', g', q, r⟩
  | goto l' => exact ⟨st', g', q, r⟩
  | ret => exact ⟨st', g', q, r⟩
  | panic c => exact ⟨st', g', q, r⟩
  | outgrown => exact ⟨st', g', q, r⟩
theorem WpD.region (hE : E.ok) {id : Nat} {ops : Array Oper} {st' : St} (h : runL E ops ops.toList st = some st') (hq : Q .normal st') : WpD p E.P (.region id ops false) st Q :=
  fun g w a R => wp_region_list (runL_sound hE _ g w a st st' R h fun g' a' w' l R' => ⟨st', g', hq, l, R'⟩)
theorem WpD.loop {c : Code} (I : St → Prop) (μ : St → Nat) (h0 : I st) (round : ∀ st, I st → WpD p P c st fun e st' => match e with | .normal => I st' ∧ μ st' < μ st | e => Q e st') : WpD p P (.loop c) st Q := by
  intro g w a R b k cs
  have key : ∀ n st g w a, μ st = n → I st → StRel p g w st a →
      ∃ e a' w', (∃ st' g', Q e st' ∧ Lw p g w g' w' ∧ StRel p g' w' st' a') ∧ Arrives P (lone (b.at a (.code c :: .inLoop c :: k)) cs w) b k cs e a' w' := by
    intro n
    induction n using Nat.strongRecOn with
    | _ n ih =>
      intro st g w a hn hI R
      obtain ⟨e, a1, w1, ⟨st1, g1, q, l1, R1⟩, harr⟩ := round st hI g w a R b (.inLoop c :: k) cs
      cases e with
      | normal =>
        obtain ⟨hI1, hlt⟩ := q
        obtain ⟨e2, a2, w2, ⟨st2, g2, q2, l2, R2⟩, harr2⟩ := ih (μ st1) (hn ▸ hlt) st1 g1 w1 a1 rfl hI1 R1
        exact ⟨e2, a2, w2, ⟨st2, g2, q2, l1.trans l2, R2⟩, .of_steps (Steps.trans harr (.one step_inLoop)) harr2⟩
      | exit id => exact ⟨_, a1, w1, ⟨st1, g1, q, l1, R1⟩, .pass (x := .inLoop c) rfl (fun _ _ => .inl (by simp)) harr⟩
      | goto l => exact ⟨_, a1, w1, ⟨st1, g1, q, l1, R1⟩, .pass (x := .inLoop c) rfl (fun _ _ => .inl (by simp)) harr⟩
      | ret => exact ⟨_, a1, w1, ⟨st1, g1, q, l1, R1⟩, .pass (x := .inLoop c) rfl (fun _ _ => .inl (by simp)) harr⟩
      | panic ch => exact ⟨_, a1, w1, ⟨st1, g1, q, l1, R1⟩, .pass (x := .inLoop c) rfl (fun _ _ => .inl (by simp)) harr⟩
      | outgrown => exact ⟨_, a1, w1, ⟨st1, g1, q, l1, R1⟩, .pass (x := .inLoop c) rfl (fun _ _ => .inl (by simp)) harr⟩
  obtain ⟨e, a', w', hq, harr⟩ := key _ st g w a rfl h0 R
  exact ⟨e, a', w', hq, .of_steps (.one step_loop) harr⟩
end
end Go.Proofs.YtjmhioacbpgalaaDoorV
