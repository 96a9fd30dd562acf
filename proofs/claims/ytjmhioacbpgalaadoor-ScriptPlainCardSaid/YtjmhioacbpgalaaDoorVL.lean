/- Functions run, to some depth and so many rounds: what such a run tells is so. -/
import Derived.Test.YtjmhioacbpgalaaDoorVK
namespace Go.Proofs.YtjmhioacbpgalaaDoorV
open Go Go.RowKit
set_option linter.unusedVariables false
set_option linter.unusedSimpArgs false

/-- How a region that draws is to be run: what stands ahead of what, who takes what, how many are first. -/
abbrev DrawTab := List (Nat × List (List Nat) × List (Option Nat) × Nat)
def tabGet : DrawTab → Nat → Option (List (List Nat) × List (Option Nat) × Nat)
  | [], _ => none
  | p :: r, i => if i = p.1 then some p.2 else tabGet r i
def codeOk (tab : DrawTab) (n : Nat) : Code → Bool
  | .region id ops true => match tabGet tab id with | some (PL, RL, k) => drawOk ops.toList PL n k | none => false
  | .seq a b => codeOk tab n a && codeOk tab n b
  | .cond _ a b => codeOk tab n a && codeOk tab n b
  | .block _ b => codeOk tab n b
  | .loop b => codeOk tab n b
  | .rangeFunc .. | .scope _ => false
  | _ => true
/-- How a piece of code ends. -/
inductive Ex where
  | normal
  | exit (id : Nat)
  | ret
def Ex.to : Ex → Exit
  | .normal => .normal
  | .exit id => .exit id
  | .ret => .ret
/-- Rounds of a loop, so many at most. -/
def rounds (b : St → Option (Ex × St)) : Nat → St → Option (Ex × St)
  | 0, _ => none
  | k + 1, st => match b st with
    | some (.normal, st') => rounds b k st'
    | r => r
/-- Only the newest of what temporaries hold. -/
def tidyT : List (Nat × D) → List Nat → List (Nat × D)
  | [], _ => []
  | p :: r, seen => if seen.contains p.1 then tidyT r seen else p :: tidyT r (p.1 :: seen)
def tidy (st : St) : St := { st with T := tidyT st.T [] }
def runC (E : Env) (tab : DrawTab) (k : Nat) : Code → St → Option (Ex × St)
  | .skip, st => some (.normal, st)
  | .label _, st => some (.normal, st)
  | .exit id, st => some (.exit id, st)
  | .ret, st => some (.ret, st)
  | .region id ops d, st =>
    match d with
    | false => match runL E ops ops.toList st with | some st' => some (.normal, st') | none => none
    | true => match tabGet tab id with
      | some (PL, RL, m) => match runDraw E ops PL RL m st with | some st' => some (.normal, st') | none => none
      | none => none
  | .seq a b, st => match runC E tab k a st with
    | some (.normal, st') => runC E tab k b st'
    | r => r
  | .cond c a b, st => match evalD st.T c with
    | .v (.bool true) => runC E tab k a st
    | .v (.bool false) => runC E tab k b st
    | _ => none
  | .block id b, st => match runC E tab k b st with
    | some (.exit i, st') => if i = id then some (.normal, st') else some (.exit i, st')
    | r => r
  | .loop b, st => rounds (fun s => runC E tab k b (tidy s)) k st
  | _, _ => none

theorem tidyT_look : ∀ (T : List (Nat × D)) (seen : List Nat) (t : Nat) (d : D), lookT (tidyT T seen) t = some d → lookT T t = some d ∧ t ∉ seen
  | [], seen, t, d, h => by cases h
  | p :: r, seen, t, d, h => by
    simp only [tidyT] at h
    split at h
    · rename_i hp
      obtain ⟨h1, h2⟩ := tidyT_look r seen t d h
      refine ⟨?_, h2⟩
      simp only [lookT]
      rw [if_neg (fun e => h2 (by subst e; simpa using hp))]
      exact h1
    · rename_i hp
      simp only [lookT] at h ⊢
      split at h
      · rename_i ht; rw [if_pos ht]; exact ⟨h, by subst ht; simpa using hp⟩
      · rename_i ht
        rw [if_neg ht]
        obtain ⟨h1, h2⟩ := tidyT_look r _ t d h
        exact ⟨h1, fun hm => h2 (List.mem_cons_of_mem _ hm)⟩
theorem WpD.tidy {p : Nat} {P : Program} {c : Code} {st : St} {Q : Exit → St → Prop} (h : WpD p P c (tidy st) Q) : WpD p P c st Q :=
  fun g w a R => h g w a ⟨R.n, fun t d e => R.T t d (tidyT_look _ _ _ _ e).1, R.H, R.m, R.defers, R.pin⟩


theorem runL_n {E : Env} {ops : Array Oper} : ∀ (l : List Oper) (st st' : St), runL E ops l st = some st' → st'.n = st.n
  | [], st, st', h => by cases h; rfl
  | o :: l, st, st', h => by
    simp only [runL] at h
    split at h
    · rename_i st1 h1
      have := runL_n l st1 st' h
      rw [this]
      unfold stepD at h1
      split at h1
      · split at h1
        · split at h1
          · cases h1; rfl
          · cases h1
        · cases h1
      · cases h1; rfl
      · cases h1
    · cases h
theorem runDraw_n {E : Env} {ops : Array Oper} {PL : List (List Nat)} {RL : List (Option Nat)} {k : Nat} {st st' : St} (h : runDraw E ops PL RL k st = some st') : st'.n = st.n := by
  unfold runDraw at h
  split at h
  · split at h
    · have := runL_n _ _ _ h; exact this
    · cases h
  · cases h

theorem run_sound {p : Nat} {E : Env} (hE : E.ok) (hm : E.P.follows .mixedOrders = true) {tab : DrawTab} {k n : Nat} : ∀ (c : Code) (st st' : St) (e : Ex), codeOk tab n c = true → st.n = n → runC E tab k c st = some (e, st') →
    st'.n = n ∧ WpD p E.P c st fun e' s => e' = e.to ∧ s = st' := by
  intro c
  induction c with
  | skip => intro st st' e _ hn h; cases h; exact ⟨hn, .skip ⟨rfl, rfl⟩⟩
  | label l => intro st st' e _ hn h; cases h; exact ⟨hn, .label ⟨rfl, rfl⟩⟩
  | exit id => intro st st' e _ hn h; cases h; exact ⟨hn, .exit ⟨rfl, rfl⟩⟩
  | ret => intro st st' e _ hn h; cases h; exact ⟨hn, .ret ⟨rfl, rfl⟩⟩
  | goto l => intro st st' e _ hn h; cases h
  | refuse l => intro st st' e _ hn h; cases h
  | scope b ih => intro st st' e _ hn h; cases h
  | rangeFunc f p a b iha ihb => intro st st' e _ hn h; cases h
  | region id ops d =>
    intro st st' e hc hn h
    cases d with
    | false =>
      simp only [runC] at h
      split at h
      · rename_i st1 h1
        cases h
        exact ⟨(runL_n _ _ _ h1).trans hn, .region hE h1 ⟨rfl, rfl⟩⟩
      · cases h
    | true =>
      simp only [runC] at h
      simp only [codeOk] at hc
      split at h
      · rename_i PL RL m ht
        rw [ht] at hc
        dsimp only at hc
        split at h
        · rename_i st1 h1
          cases h
          exact ⟨(runDraw_n h1).trans hn, .draw hE hm (by rw [hn]; exact hc) h1 ⟨rfl, rfl⟩⟩
        · cases h
      · cases h
  | seq a b iha ihb =>
    intro st st' e hc hn h
    simp only [codeOk, Bool.and_eq_true] at hc
    simp only [runC] at h
    split at h
    · rename_i st1 h1
      obtain ⟨n1, w1⟩ := iha st st1 .normal hc.1 hn h1
      obtain ⟨n2, w2⟩ := ihb st1 st' e hc.2 n1 h
      refine ⟨n2, .seq (w1.mono fun e' s ⟨he, hs⟩ => ?_)⟩
      subst he; subst hs; exact w2
    · rename_i hne
      obtain ⟨n1, w1⟩ := iha st st' e hc.1 hn h
      refine ⟨n1, .seq (w1.mono fun e' s ⟨he, hs⟩ => ?_)⟩
      subst he; subst hs
      cases e with
      | normal => exact absurd h (hne s)
      | exit id => exact ⟨rfl, rfl⟩
      | ret => exact ⟨rfl, rfl⟩
  | cond x a b iha ihb =>
    intro st st' e hc hn h
    simp only [codeOk, Bool.and_eq_true] at hc
    simp only [runC] at h
    split at h
    · rename_i hx
      obtain ⟨n1, w1⟩ := iha st st' e hc.1 hn h
      exact ⟨n1, .cond hx (fun _ => w1) (fun h => by cases h)⟩
    · rename_i hx
      obtain ⟨n1, w1⟩ := ihb st st' e hc.2 hn h
      exact ⟨n1, .cond hx (fun h => by cases h) (fun _ => w1)⟩
    · cases h
  | block id b ih =>
    intro st st' e hc hn h
    simp only [codeOk] at hc
    simp only [runC] at h
    split at h
    · rename_i i st1 h1
      obtain ⟨n1, w1⟩ := ih st st1 (.exit i) hc hn h1
      split at h
      · rename_i hi
        cases h
        refine ⟨n1, .block (w1.mono fun e' s ⟨he, hs⟩ => ?_)⟩
        subst he; subst hs
        show (if i = id then _ else _)
        rw [if_pos hi]; exact ⟨rfl, rfl⟩
      · rename_i hi
        cases h
        refine ⟨n1, .block (w1.mono fun e' s ⟨he, hs⟩ => ?_)⟩
        subst he; subst hs
        show (if i = id then _ else _)
        rw [if_neg hi]; exact ⟨rfl, rfl⟩
    · rename_i hne
      obtain ⟨n1, w1⟩ := ih st st' e hc hn h
      refine ⟨n1, .block (w1.mono fun e' s ⟨he, hs⟩ => ?_)⟩
      subst he; subst hs
      cases e with
      | normal => exact ⟨rfl, rfl⟩
      | exit i => exact absurd h (hne i s)
      | ret => exact ⟨rfl, rfl⟩
  | loop b ih =>
    intro st st' e hc hn h
    simp only [codeOk] at hc
    simp only [runC] at h
    generalize hB : (fun s => runC E tab k b (tidy s)) = B at h
    have hb : ∀ s s1 e1, s.n = n → B s = some (e1, s1) → s1.n = n ∧ WpD p E.P b s fun e' x => e' = e1.to ∧ x = s1 := fun s s1 e1 hs h1 => by
      rw [← hB] at h1
      obtain ⟨n1, w1⟩ := ih (tidy s) s1 e1 hc hs h1
      exact ⟨n1, w1.tidy⟩
    have hres : ∀ (j : Nat) (s : St), s.n = n → rounds B j s = some (e, st') → st'.n = n ∧ e ≠ .normal := by
      intro j
      induction j with
      | zero => intro s _ h; cases h
      | succ j ihj =>
        intro s hs h
        simp only [rounds] at h
        split at h
        · rename_i s1 h1
          exact ihj s1 (hb s s1 _ hs h1).1 h
        · rename_i hne
          refine ⟨(hb s st' e hs h).1, fun he => ?_⟩
          subst he; exact hne st' h
    classical
    refine ⟨(hres k st hn h).1, ?_⟩
    have hne := (hres k st hn h).2
    -- so many rounds are left
    have least : ∀ s : St, (∃ j, rounds B j s = some (e, st')) → ∃ j, rounds B j s = some (e, st') ∧ ∀ i, i < j → rounds B i s ≠ some (e, st') := by
      intro s ⟨j, hj⟩
      induction j using Nat.strongRecOn with
      | _ j ihj =>
        by_cases hx : ∃ i, i < j ∧ rounds B i s = some (e, st')
        · obtain ⟨i, hi, hi'⟩ := hx
          exact ihj i hi hi'
        · exact ⟨j, hj, fun i hi hi' => hx ⟨i, hi, hi'⟩⟩
    let μ : St → Nat := fun s => if hx : ∃ j, rounds B j s = some (e, st') then Classical.choose (least s hx) else 0
    have hμ : ∀ s, (hx : ∃ j, rounds B j s = some (e, st')) → rounds B (μ s) s = some (e, st') ∧ ∀ i, i < μ s → rounds B i s ≠ some (e, st') := fun s hx => by
      have : μ s = Classical.choose (least s hx) := dif_pos hx
      rw [this]; exact Classical.choose_spec (least s hx)
    refine .loop (fun s => s.n = n ∧ ∃ j, rounds B j s = some (e, st')) μ ⟨hn, k, h⟩ fun s ⟨hs, hx⟩ => ?_
    obtain ⟨m1, m2⟩ := hμ s hx
    cases hm' : μ s with
    | zero => rw [hm'] at m1; cases m1
    | succ j =>
      rw [hm'] at m1
      simp only [rounds] at m1
      split at m1
      · rename_i s1 h1
        obtain ⟨n1, w1⟩ := hb s s1 _ hs h1
        refine w1.mono fun e' x ⟨he, hxx⟩ => ?_
        subst he; subst hxx
        refine ⟨⟨n1, j, m1⟩, ?_⟩
        have h1 := (hμ x ⟨j, m1⟩).2
        rcases Nat.lt_or_ge j (μ x) with hlt | hge
        · exact absurd m1 (h1 j hlt)
        · omega
      · rename_i hne'
        obtain ⟨n1, w1⟩ := hb s st' e hs m1
        refine w1.mono fun e' x ⟨he, hxx⟩ => ?_
        subst he; subst hxx
        cases e with
        | normal => exact absurd rfl hne
        | exit i => exact ⟨rfl, rfl⟩
        | ret => exact ⟨rfl, rfl⟩

/-- Functions run to a depth: what they come to. -/
def runF (P : Program) (E0 : FuncId → List D → Option (D × List DObj)) (tabs : FuncId → DrawTab) (k : Nat) : Nat → FuncId → List D → Option (D × List DObj)
  | 0, f, args => E0 f args
  | m + 1, f, args =>
    match E0 f args with
    | some r => some r
    | none =>
      match P.funcs[f]? with
      | some fn =>
        match fn.body with
        | some c =>
          if codeOk (tabs f) (args.length + (fn.ntmps - args.length)) c && !(fn.name == "runtime.NumGoroutine") then
            match runC { P := P, call := runF P E0 tabs k m } (tabs f) k c ⟨args.length + (fn.ntmps - args.length), argsT 0 args, []⟩ with
            | some (.normal, st) | some (.ret, st) => match resD P fn.results.toList st with
              | some d => expD (lookH st.H) d
              | none => none
            | _ => none
          else none
        | none => none
      | none => none
theorem enter_of {P : Program} {f : FuncId} {fn : Func} {c : Code} (hf : P.funcs[f]? = some fn) (hb : fn.body = some c) (hn : (fn.name == "runtime.NumGoroutine") = false) : Enter P f := fun args w => by
  have hn' : ¬ fn.name = "runtime.NumGoroutine" := by simpa using hn
  simp [callFunc, hf, hb, hn']
theorem runF_ok {P : Program} {E0 : FuncId → List D → Option (D × List DObj)} {tabs : FuncId → DrawTab} {k : Nat} (hm : P.follows .mixedOrders = true) (h0 : ({ P := P, call := E0 } : Env).ok) : ∀ m, ({ P := P, call := runF P E0 tabs k m } : Env).ok := by
  intro m
  induction m with
  | zero => exact h0
  | succ m ih =>
    refine Env.ok_of ?_ rfl
    intro f args d objs h
    have h : runF P E0 tabs k (m + 1) f args = some (d, objs) := h
    unfold runF at h
    split at h
    · rename_i r hr
      cases h
      exact h0.r f args d objs hr
    · split at h
      · rename_i fn hfn
        split at h
        · rename_i c hc
          split at h
          · rename_i hok
            simp only [Bool.and_eq_true, Bool.not_eq_true'] at hok
            refine ⟨enter_of hfn hc hok.2, fits_of hfn hc ?_⟩
            have fin : ∀ e st, (e = Ex.normal ∨ e = .ret) → runC { P := P, call := runF P E0 tabs k m } (tabs f) k c ⟨args.length + (fn.ntmps - args.length), argsT 0 args, []⟩ = some (e, st) → (match resD P fn.results.toList st with | some d => expD (lookH st.H) d | none => none) = some (d, objs) →
                WpD 0 P c ⟨args.length + (fn.ntmps - args.length), argsT 0 args, []⟩ fun e st => (e = .normal ∨ e = .ret) ∧ ∃ r, resD P fn.results.toList st = some r ∧ expD (lookH st.H) r = some (d, objs) := by
              intro e st he hrun hres
              obtain ⟨_, w1⟩ := run_sound (p := 0) (E := { P := P, call := runF P E0 tabs k m }) ih hm c _ st e hok.1 rfl hrun
              refine WpD.mono w1 fun e' s ⟨h1, h2⟩ => ?_
              subst h1; subst h2
              refine ⟨he.elim (fun h => .inl (by rw [h]; rfl)) (fun h => .inr (by rw [h]; rfl)), ?_⟩
              split at hres
              · rename_i r hr; exact ⟨r, hr, hres⟩
              · cases hres
            split at h
            · rename_i st hrun; exact fin .normal st (.inl rfl) hrun h
            · rename_i st hrun; exact fin .ret st (.inr rfl) hrun h
            · cases h
          · cases h
        · cases h
      · cases h
end Go.Proofs.YtjmhioacbpgalaaDoorV
