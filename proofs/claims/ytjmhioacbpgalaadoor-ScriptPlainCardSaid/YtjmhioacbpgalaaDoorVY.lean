/- Contracts out of bodies, states told anew; contracts as a list; data as values. -/
import Derived.Test.YtjmhioacbpgalaaDoorVX
namespace Go.Proofs.YtjmhioacbpgalaaDoorV
open Go Go.RowKit
set_option linter.unusedVariables false
set_option linter.unusedSimpArgs false
section
variable {p : Nat} {E : Env} {P : Program} {x y : Code} {st st' s : St} {Q : Exit → St → Prop} {K : St → Prop}

theorem Told.trans {s1 s2 s3 : St} (h : Told p s1 s2) (k : Told p s2 s3) : Told p s1 s3 := fun g w a R => by
  obtain ⟨g1, l1, R1⟩ := h g w a R
  obtain ⟨g2, l2, R2⟩ := k g1 w a R1
  exact ⟨g2, l1.trans l2, R2⟩
/-- Whichever way: what comes behind goes on from one state. -/
theorem k_cut (s : St) (h : WpD p P x st (thenQ (fun st' => Told p st' s) Q)) {Q' : Exit → St → Prop} (hk : WpD p P y s Q') : WpD p P x st (thenQ (fun st' => WpD p P y st' Q') Q) :=
  WpD.mono h fun e st h => by
    cases e with
    | normal => exact k_told h hk
    | _ => exact h
theorem k_cut2 {z : Code} (s : St) (h : WpD p P x st (thenQ (fun st1 => WpD p P y st1 (thenQ (fun st' => Told p st' s) Q)) Q)) {Q' : Exit → St → Prop} (hk : WpD p P z s Q') :
    WpD p P x st (thenQ (fun st1 => WpD p P y st1 (thenQ (fun st' => WpD p P z st' Q') Q)) Q) :=
  WpD.mono h fun e st h => by
    cases e with
    | normal => exact k_cut s h hk
    | _ => exact h
theorem k_cut2r {z : Code} (s : St) (h : WpD p P x st (thenQ (fun st1 => WpD p P y st1 (thenQ (fun st' => Told p st' s) Q)) Q)) (hk : WpD p P z s (thenQ K Q)) : WpD p P x st (thenQ (fun st1 => WpD p P (.seq y z) st1 (thenQ K Q)) Q) :=
  WpD.mono h fun e st h => by
    cases e with
    | normal => exact k_seq (WpD.mono h fun e st h => by
        cases e with
        | normal => exact k_told h hk
        | _ => exact h)
    | _ => exact h
theorem k_region' (hP : E.P = P) (hE : E.ok) {id : Nat} {ops : Array Oper} (h : RunP (runL E ops ops.toList st) K) : WpD p P (.region id ops false) st (thenQ K Q) := by
  subst hP; exact k_region hE h
theorem k_read' (hP : E.P = P) (hE : E.ok) (hm : P.follows .mixedOrders = true) (PL : List (List Nat)) (RL : List (Option Nat)) (k : Nat) {id : Nat} {ops : Array Oper} (hok : drawOk ops.toList PL st.n k = true)
    (h : RunP ((readGo E ops st.n st.H (ops.toList.take k) st.T).bind fun T => runL E ops (ops.toList.drop k) ⟨st.n, T, st.H⟩) K) : WpD p P (.region id ops true) st (thenQ K Q) := by
  subst hP; exact k_read hE hm PL RL k hok h
theorem gr_split {c b : Bool} {u v : Option (List (Nat × D))} {g : List (Nat × D) → Option (List (Nat × D))} {f : List (Nat × D) → Option St} (h1 : c = true → RunP (((gread (some (.v (.bool true))) b u v).bind g).bind f) K) (h2 : c = false → RunP (((gread (some (.v (.bool false))) b u v).bind g).bind f) K) : RunP (((gread (some (.v (.bool c))) b u v).bind g).bind f) K := by
  cases c
  · exact h2 rfl
  · exact h1 rfl
/-- A round's end. -/
structure NextI (p : Nat) (s : St) (J : Prop) (st : St) : Prop where
  told : Told p st s
  inv : J
/-- A loop of so many rounds. -/
theorem k_loopI (N : Nat) (f : Nat → St) (J : Nat → Prop) (hs : Told p st (f 0)) (h0 : J 0) (round : ∀ j, j < N → J j → WpD p P x (f j) (thenQ (NextI p (f (j + 1)) (J (j + 1))) Q)) (fin : J N → WpD p P x (f N) (thenQ (fun _ => False) Q)) :
    WpD p P (.loop x) st (thenQ K Q) := by
  refine k_loopR (fun n s => ∃ j, n + j = N ∧ s = f j ∧ J j) N hs ⟨0, rfl, rfl, h0⟩ ?_
  rintro n s ⟨j, hn, rfl, hj⟩
  by_cases h : j < N
  · refine WpD.mono (round j h hj) fun e st h2 => ?_
    cases e with
    | normal => exact ⟨n - 1, f (j + 1), h2.told, ⟨j + 1, by omega, rfl, h2.inv⟩, by omega⟩
    | _ => exact h2
  · have : j = N := by omega
    subst this
    refine WpD.mono (fin hj) fun e st h2 => ?_
    cases e with
    | normal => exact h2.elim
    | _ => exact h2
/-- Here a walk stops. -/
theorem k_stop (id : Nat) {ops : Array Oper} {d : Bool} {Q : Exit → St → Prop} (h : WpD p P (.region id ops d) st Q) : WpD p P (.region id ops d) st Q := h
/-- A row that is none, told as one of an object that is to come. -/
theorem Told.nil {n : Nat} {T : List (Nat × D)} {H : List (Option DObj)} (t k m : Nat) (ag : Bool) (h : lookT T t = some (.v (.slice none 0 0))) : Told p ⟨n, T, H⟩ ⟨n, (t, .ref k 0 0 m ag) :: T, H⟩ :=
  fun g w a R => ⟨g, .refl g w, R.n, fun u d e => by
    simp only [lookT] at e
    split at e
    · rename_i hu; subst hu; cases e
      obtain ⟨y, h1, h2⟩ := R.T _ _ h
      exact ⟨y, h1, .inr ⟨rfl, none, h2⟩⟩
    · exact R.T u d e, R.H, R.m, R.defers, R.pin⟩
/-- An object, told by another one. -/
theorem Told.obj {n : Nat} {T : List (Nat × D)} {H : List (Option DObj)} (id : Nat) {cs cs' : List D} {s : Bool} (h : lookH H id = some (.cells cs s)) (hc : cs'.all (·.cell) = true) (hl : cs'.length ≤ cs.length)
    (hr : ∀ g w vs, RepAll g w cs vs → RepAll g w cs' (vs.take cs'.length)) : Told p ⟨n, T, H⟩ ⟨n, T, H.set id (some (.cells cs' s))⟩ := fun g w a R => by
  have hid : id < H.length := by
    unfold lookH at h
    cases e : H[id]? with
    | none => rw [e] at h; cases h
    | some o => exact (List.getElem?_eq_some_iff.1 e).1
  have hlk : ∀ i o, lookH (H.set id (some (.cells cs' s))) i = some o → (i = id ∧ o = .cells cs' s) ∨ (i ≠ id ∧ lookH H i = some o) := fun i o e => by
    rw [lookH_set _ _ _ hid] at e
    dsimp only at e
    by_cases hi : i = id
    · rw [if_pos hi] at e; cases e; exact .inl ⟨hi, rfl⟩
    · rw [if_neg hi] at e; exact .inr ⟨hi, e⟩
  refine ⟨g, .refl g w, R.n, R.T, ⟨fun i cs2 s2 e => ?_, fun i o e => ?_, fun i i' o o' b q1 q2 e1 e2 l1 l2 m1 m2 => ?_, R.H.frz, R.H.keep⟩, fun i hi => R.m i (by have hi : (H.set id _).length ≤ i := hi; rw [List.length_set] at hi; exact hi), R.defers, by have := R.pin; show p ≤ (H.set id _).length; rw [List.length_set]; exact this⟩
  · rcases hlk i _ e with ⟨_, e⟩ | ⟨_, e⟩
    · cases e; exact hc
    · exact R.H.cell i _ _ e
  · rcases hlk i o e with ⟨rfl, rfl⟩ | ⟨_, e⟩
    · rcases R.H.obj i _ h with ⟨b, o, sz, c, el, fr, vs, h1, h2, h3, h4, h5, h6, h7⟩ | ⟨h1, h2⟩
      · refine .inl ⟨b, o, sz, c, el, fr, vs.take cs'.length, h1, h2, h3, by omega, fun j v e => ?_, hr g w vs h6, h7⟩
        rw [List.getElem?_take] at e
        split at e
        · exact h5 j v e
        · cases e
      · refine .inr ⟨?_, h2⟩
        subst h1
        exact List.length_eq_zero_iff.1 (Nat.le_zero.1 hl)
    · exact R.H.obj i o e
  · have old : ∀ i o, lookH (H.set id (some (.cells cs' s))) i = some o → o.live = true → ∃ o', lookH H i = some o' ∧ o'.live = true := fun i o e l => by
      rcases hlk i o e with ⟨rfl, rfl⟩ | ⟨_, e⟩
      · exact ⟨_, h, l⟩
      · exact ⟨o, e, l⟩
    obtain ⟨p1, k1, k2⟩ := old i o e1 l1
    obtain ⟨p2, k3, k4⟩ := old i' o' e2 l2
    exact R.H.inj i i' p1 p2 b q1 q2 k1 k3 k2 k4 m1 m2
/-- A row of a box that is none. -/
theorem Told.nilBox {n : Nat} {T : List (Nat × D)} {H : List (Option DObj)} (id j k m : Nat) (ag : Bool) {cs : List D} {s : Bool} (h : lookH H id = some (.cells cs s)) (hj : cs[j]? = some (.v (.slice none 0 0))) (hc : cs.all (·.cell) = true := by rfl) :
    Told p ⟨n, T, H⟩ ⟨n, T, H.set id (some (.cells (cs.set j (.ref k 0 0 m ag)) s))⟩ := by
  refine Told.obj id h ?_ (by simp) fun g w vs r => ?_
  · rw [List.all_eq_true] at hc ⊢
    intro d hd
    rcases List.mem_or_eq_of_mem_set hd with hd | rfl
    · exact hc d hd
    · rfl
  · rw [List.length_set, ← r.length, List.take_length]
    refine .of (by simp [r.length]) fun i d y e1 e2 => ?_
    rw [List.getElem?_set] at e1
    split at e1
    · rename_i hij; subst hij
      split at e1
      · cases e1
        obtain ⟨y', h1, h2⟩ := r.get hj
        rw [h1] at e2; cases e2
        exact .inr ⟨rfl, none, h2⟩
      · cases e1
    · obtain ⟨y', h1, h2⟩ := r.get e1
      rw [h1] at e2; cases e2; exact h2
/-- The beginning of a row. -/
theorem Told.trim {n : Nat} {T : List (Nat × D)} {H : List (Option DObj)} (id k : Nat) {cs : List D} {s : Bool} (h : lookH H id = some (.cells cs s)) (hc : cs.all (·.cell) = true) : Told p ⟨n, T, H⟩ ⟨n, T, H.set id (some (.cells (cs.take k) s))⟩ := by
  refine Told.obj id h ?_ (by simp; omega) fun g w vs r => ?_
  · rw [List.all_eq_true] at hc ⊢
    exact fun d hd => hc d (List.mem_of_mem_take hd)
  · have e : vs.take (cs.take k).length = vs.take k := by rw [List.length_take, ← r.length, ← List.take_take, List.take_length]
    rw [e]; exact r.take k

/-- Objects that are kept, turned to rows that nobody writes any more. -/
theorem Told.shut {n : Nat} {T : List (Nat × D)} {H : List (Option DObj)} (id : Nat) {cs : List D} (h : lookH H id = some (.cells cs false)) : Told p ⟨n, T, H⟩ ⟨n, T, H.set id (some (.cells cs true))⟩ := fun g w a R => by
  have hid : id < H.length := by
    unfold lookH at h
    cases e : H[id]? with
    | none => rw [e] at h; cases h
    | some o => exact (List.getElem?_eq_some_iff.1 e).1
  have hlk : ∀ i o, lookH (H.set id (some (.cells cs true))) i = some o → (i = id ∧ o = .cells cs true) ∨ (i ≠ id ∧ lookH H i = some o) := fun i o e => by
    rw [lookH_set _ _ _ hid] at e
    dsimp only at e
    by_cases hi : i = id
    · rw [if_pos hi] at e; cases e; exact .inl ⟨hi, rfl⟩
    · rw [if_neg hi] at e; exact .inr ⟨hi, e⟩
  let g' : G := ⟨g.m, fun b => g.F b ∨ ∃ q, g.m id = some (b, q), g.K⟩
  have hb : ∀ b q, g.m id = some (b, q) → b < w.heap.size ∧ ¬ g.F b ∧ ¬ g.K b := fun b q e => by
    obtain ⟨h1, h2⟩ := (R.H.obj id _ h).at e
    exact ⟨h1, h2 rfl⟩
  have le : Le g w g' w := ⟨fun _ _ e => e, fun _ e => .inl e, fun _ => Iff.rfl, fun _ _ => rfl, Nat.le_refl _, rfl, rfl, rfl, fun b e => e.elim .inl fun ⟨q, e⟩ => .inr (hb b q e).2.2⟩
  refine ⟨g', le.lw fun _ _ => rfl, R.n, fun t d e => by obtain ⟨y, h1, h2⟩ := R.T t d e; exact ⟨y, h1, Rep.mono le _ _ h2⟩,
    ⟨fun i cs2 s2 e => ?_, fun i o e => ?_, fun i i' o o' b q1 q2 e1 e2 l1 l2 m1 m2 => ?_, fun b e => e.elim (R.H.frz b) fun ⟨q, e⟩ => (hb b q e).1, R.H.keep⟩, fun i hi => R.m i (by have hi : (H.set id _).length ≤ i := hi; rw [List.length_set] at hi; exact hi), R.defers, by have := R.pin; show p ≤ (H.set id _).length; rw [List.length_set]; exact this⟩
  · rcases hlk i _ e with ⟨_, e⟩ | ⟨_, e⟩
    · cases e; exact R.H.cell id _ _ h
    · exact R.H.cell i _ _ e
  · rcases hlk i o e with ⟨rfl, rfl⟩ | ⟨hi, e⟩
    · rcases R.H.obj i _ h with ⟨b, o, sz, c, el, fr, vs, h1, h2, h3, h4, h5, h6, h7⟩ | ⟨h1, h2⟩
      · exact .inl ⟨b, o, sz, c, el, fr, vs, h1, h2, h3, h4, h5, RepAll.mono le _ _ h6, .inr ⟨_, h1⟩⟩
      · exact .inr ⟨h1, h2⟩
    · refine (R.H.obj i o e).mono le (fun h => h) (fun _ _ _ => rfl) (fun hl b q hbq hF => ?_)
      have hf := ((R.H.obj i o e).at hbq).2 hl
      rcases hF with hF | ⟨q', hF⟩
      · exact hf.1 hF
      · exact hi (R.H.inj i id o _ b q q' e h hl rfl hbq hF)
  · have old : ∀ i o, lookH (H.set id (some (.cells cs true))) i = some o → o.live = true → lookH H i = some o := fun i o e l => by
      rcases hlk i o e with ⟨rfl, rfl⟩ | ⟨_, e⟩
      · cases l
      · exact e
    exact R.H.inj i i' o o' b q1 q2 (old i o e1 l1) (old i' o' e2 l2) l1 l2 m1 m2
/-- In such a heap, what stands for the one stands for the other, too. -/
def Wk (H : List (Option DObj)) (d d' : D) : Prop := ∀ (g : G) (w : World) (y : Value), HeapRel g w (lookH H) → Rep g w d y → Rep g w d' y
theorem Wk.refl {H : List (Option DObj)} {d : D} : Wk H d d := fun g w y _ r => r
/-- A temporary, told by another value. -/
theorem Told.put {n : Nat} {T : List (Nat × D)} {H : List (Option DObj)} (t : Nat) {d d' : D} (h : lookT T t = some d) (hw : Wk H d d') : Told p ⟨n, T, H⟩ ⟨n, (t, d') :: T, H⟩ :=
  fun g w a R => ⟨g, .refl g w, R.n, fun u e he => by
    simp only [lookT] at he
    split at he
    · rename_i hu; subst hu; cases he
      obtain ⟨y, h1, h2⟩ := R.T _ _ h
      exact ⟨y, h1, hw g w y R.H h2⟩
    · exact R.T u e he, R.H, R.m, R.defers, R.pin⟩
/-- A cell, told by another value. -/
theorem Told.cell {n : Nat} {T : List (Nat × D)} {H : List (Option DObj)} (id j : Nat) {d d' : D} {cs : List D} {s : Bool} (h : lookH H id = some (.cells cs s)) (hj : cs[j]? = some d) (hw : Wk H d d') (hd : d'.cell = true) (hc : cs.all (·.cell) = true) :
    Told p ⟨n, T, H⟩ ⟨n, T, H.set id (some (.cells (cs.set j d') s))⟩ := fun g w a R => by
  have hid : id < H.length := by
    unfold lookH at h
    cases e : H[id]? with
    | none => rw [e] at h; cases h
    | some o => exact (List.getElem?_eq_some_iff.1 e).1
  have hlk : ∀ i o, lookH (H.set id (some (.cells (cs.set j d') s))) i = some o → (i = id ∧ o = .cells (cs.set j d') s) ∨ (i ≠ id ∧ lookH H i = some o) := fun i o e => by
    rw [lookH_set _ _ _ hid] at e
    dsimp only at e
    by_cases hi : i = id
    · rw [if_pos hi] at e; cases e; exact .inl ⟨hi, rfl⟩
    · rw [if_neg hi] at e; exact .inr ⟨hi, e⟩
  have hcs : (cs.set j d').all (·.cell) = true := by
    rw [List.all_eq_true] at hc ⊢
    intro x hx
    rcases List.mem_or_eq_of_mem_set hx with hx | rfl
    · exact hc x hx
    · exact hd
  refine ⟨g, .refl g w, R.n, R.T, ⟨fun i cs2 s2 e => ?_, fun i o e => ?_, fun i i' o o' b q1 q2 e1 e2 l1 l2 m1 m2 => ?_, R.H.frz, R.H.keep⟩, fun i hi => R.m i (by have hi : (H.set id _).length ≤ i := hi; rw [List.length_set] at hi; exact hi), R.defers, by have := R.pin; show p ≤ (H.set id _).length; rw [List.length_set]; exact this⟩
  · rcases hlk i _ e with ⟨_, e⟩ | ⟨_, e⟩
    · cases e; exact hcs
    · exact R.H.cell i _ _ e
  · rcases hlk i o e with ⟨rfl, rfl⟩ | ⟨_, e⟩
    · rcases R.H.obj i _ h with ⟨b, o, sz, c, el, fr, vs, h1, h2, h3, h4, h5, h6, h7⟩ | ⟨h1, h2⟩
      · refine .inl ⟨b, o, sz, c, el, fr, vs, h1, h2, h3, by rw [List.length_set]; exact h4, h5, ?_, h7⟩
        refine .of (by simp [h6.length]) fun k x y e1 e2 => ?_
        rw [List.getElem?_set] at e1
        split at e1
        · rename_i hjk; subst hjk
          split at e1
          · cases e1
            obtain ⟨y', q1, q2⟩ := h6.get hj
            rw [q1] at e2; cases e2
            exact hw g w y R.H q2
          · cases e1
        · obtain ⟨y', q1, q2⟩ := h6.get e1
          rw [q1] at e2; cases e2; exact q2
      · subst h1; simp at hj
    · exact R.H.obj i o e
  · have old : ∀ i o, lookH (H.set id (some (.cells (cs.set j d') s))) i = some o → o.live = true → ∃ o', lookH H i = some o' ∧ o'.live = true := fun i o e l => by
      rcases hlk i o e with ⟨rfl, rfl⟩ | ⟨_, e⟩
      · exact ⟨_, h, l⟩
      · exact ⟨o, e, l⟩
    obtain ⟨p1, k1, k2⟩ := old i o e1 l1
    obtain ⟨p2, k3, k4⟩ := old i' o' e2 l2
    exact R.H.inj i i' p1 p2 b q1 q2 k1 k3 k2 k4 m1 m2

def belowF (N i : Nat) : Option Nat := if i < N then some i else none
theorem renOpts_id {f : Nat → Option Nat} : ∀ {l : List (Option DObj)}, renOpts f l = some l → ∀ (i : Nat) (o : DObj), lookH l i = some o → o.ren f = some o := by
  intro l h i o e
  unfold lookH at e
  split at e
  · rename_i o' ho
    subst e
    obtain ⟨o1, h1, h2⟩ := renOpts_get h ho
    rw [ho] at h1; cases h1; exact h2
  · cases e
/-- How a body ends: told as it is to be. -/
def EndT (p : Nat) (P : Program) (rs : List ResultVar) (d : D) (N : Nat) (os : List (Option DObj)) (e : Exit) (st : St) : Prop := (e = .normal ∨ e = .ret) ∧ ∃ s, Told p st s ∧ resD P rs s = some d ∧ s.H.take N = os
/-- A contract that writes, out of a body. -/
theorem fitsW_of {f : FuncId} {fn : Func} {c : Code} {oi : List DObj} {args : List D} {d : D} {oo : List (Option DObj)} {news : List DObj} (hf : P.funcs[f]? = some fn) (hb : fn.body = some c) (hlen : oo.length = oi.length)
    (hd : d.ren (belowF (oo.length + news.length)) = some d) (ho : renOpts (belowF (oo.length + news.length)) (oo ++ news.map some) = some (oo ++ news.map some))
    (h : WpD oi.length P c ⟨args.length + (fn.ntmps - args.length), argsT 0 args, oi.map some⟩ (EndT oi.length P fn.results.toList d (oo.length + news.length) (oo ++ news.map some))) : FitsW P f oi args d oo news := by
  refine ⟨hlen, fun g w vals H hm ha => ?_⟩
  have hl := ha.length
  refine calls_of_wp hf hb ?_
  have hlk : lookH (oi.map some) = fun id => oi[id]? := by
    funext id
    unfold lookH
    rw [List.getElem?_map]
    cases oi[id]? <;> rfl
  have R : StRel oi.length g w ⟨args.length + (fn.ntmps - args.length), argsT 0 args, oi.map some⟩ { tmps := vals.toArray ++ Array.replicate (fn.ntmps - vals.toArray.size) undef, defers := [] } :=
    ⟨by simp [hl], fun t d e => (by
      obtain ⟨y, h1, h2, h3⟩ := argsT_rep 0 args vals ha t d e
      refine ⟨y, ?_, h3⟩
      have : t < vals.length := (List.getElem?_eq_some_iff.1 (by simpa using h2)).1
      rw [Array.getElem?_append_left (by simpa using this)]
      simpa using h2), by rw [hlk]; exact H, fun id hid => hm id (by have hid : (oi.map some).length ≤ id := hid; simpa using hid), rfl, by show oi.length ≤ (oi.map some).length; simp⟩
  refine wp_mono (h _ w _ R) fun e a' w' ⟨st', g', ⟨he, s, ht, hr, hH⟩, l, R'⟩ => ?_
  obtain ⟨g2, l2, R2⟩ := ht g' w' a' R'
  obtain ⟨v, k1, k2⟩ := resD_sound R2 hr
  have hfull := R2.H
  have hsub : ∀ i o, lookH (oo ++ news.map some) i = some o → i < oo.length + news.length ∧ lookH s.H i = some o := fun i o e => by
    have hi : i < (oo ++ news.map some).length := by
      unfold lookH at e
      cases e2 : (oo ++ news.map some)[i]? with
      | none => rw [e2] at e; cases e
      | some x => exact (List.getElem?_eq_some_iff.1 e2).1
    have hi : i < oo.length + news.length := by simpa using hi
    rw [← hH] at e
    refine ⟨hi, ?_⟩
    unfold lookH at e ⊢
    rwa [List.getElem?_take, if_pos hi] at e
  let g1 : G := ⟨fun id => if id < oo.length + news.length then g2.m id else none, g2.F, g2.K⟩
  have hm1 : ∀ i j x, belowF (oo.length + news.length) i = some j → g2.m i = some x → g1.m j = some x := fun i j x e1 e2 => by
    unfold belowF at e1
    split at e1
    · rename_i hi; cases e1
      show (if _ then _ else _) = _
      rw [if_pos hi]; exact e2
    · cases e1
  have hml : ∀ i, i < oo.length + news.length → g1.m i = g2.m i := fun i hi => by show (if _ then _ else _) = _; rw [if_pos hi]
  have hpost : a'.defers = [] ∧ ∃ v, (results fn a'.tmps).run P w' = .ok v w' ∧ (∃ v' g1, Ending.returned v = .returned v' ∧ Lw oi.length g w g1 w' ∧ Rep g1 w' d v' ∧ HeapRel g1 w' (lookH (oo ++ news.map some)) ∧ (∀ id, (oo ++ news.map some).length ≤ id → g1.m id = none)) := by
    have l3 := l.trans l2
    refine ⟨R'.defers, v, k1, v, g1, rfl, ⟨fun i hi => (hml i (by omega)).trans (l3.pin i hi), l3.F, l3.K, l3.heap, l3.size, l3.os, l3.tape, l3.output, l3.Fn⟩, Rep.ren (g := g2) hm1 (fun _ h => h) _ _ _ hd k2,
      ⟨fun i cs sh e => hfull.cell i cs sh (hsub i _ e).2, fun i o e => ?_, fun i i' o o' b q1 q2 e1 e2 l1 l2 m1 m2 => ?_, hfull.frz, hfull.keep⟩, fun id hid => ?_⟩
    · obtain ⟨h1, h2⟩ := hsub i o e
      exact ObjRel.ren (g := g2) (id' := i) hm1 (fun _ h => h) (by unfold belowF; rw [if_pos h1]) (fun hn => by rw [hml i h1]; exact hn) (renOpts_id ho i o e) (fun hl b q hb => ((hfull.obj i o h2).at hb).2 hl) (hfull.obj i o h2)
    · obtain ⟨h1, h2⟩ := hsub i o e1
      obtain ⟨h3, h4⟩ := hsub i' o' e2
      rw [hml i h1] at m1
      rw [hml i' h3] at m2
      exact hfull.inj i i' o o' b q1 q2 h2 h4 l1 l2 m1 m2
    · have hid : oo.length + news.length ≤ id := by simpa using hid
      show (if _ then _ else _) = _
      rw [if_neg (by omega)]
  rcases he with rfl | rfl <;> exact hpost
/-- A contract that reads, out of a body; what is handed back is told anew. -/
theorem fits_ofT {f : FuncId} {fn : Func} {c : Code} {args : List D} {d : D} {news : List DObj} (hf : P.funcs[f]? = some fn) (hb : fn.body = some c) (hlive : news.all (·.live) = true)
    (hd : d.ren (belowF news.length) = some d) (ho : renOpts (belowF news.length) (news.map some) = some (news.map some))
    (h : WpD 0 P c ⟨args.length + (fn.ntmps - args.length), argsT 0 args, []⟩ (EndT 0 P fn.results.toList d news.length (news.map some))) : Fits P f args d news := by
  intro F w vals hF ha
  have hw := fitsW_of (oi := []) (oo := []) (news := news) hf hb rfl (by simpa using hd) (by simpa using ho) (WpD.mono h fun e st ⟨h1, s, h2, h3, h4⟩ => ⟨h1, s, h2, h3, by simpa using h4⟩)
  refine (hw.2 ⟨fun _ => none, F, fun b => b < w.heap.size⟩ w vals ⟨fun id cs s e => by simp at e, fun id o e => by simp at e, fun id id' o o' b p q e => by simp at e, hF, fun b hb => hb⟩ (fun _ _ => rfl) ha).mono fun e w' ⟨v, g', he, l, hrep, H1, hm⟩ => ?_
  have hlk : lookH (([] : List (Option DObj)) ++ news.map some) = fun id => news[id]? := by
    funext id
    unfold lookH
    rw [List.nil_append, List.getElem?_map]
    cases news[id]? <;> rfl
  rw [hlk] at H1
  refine ⟨v, g', he, ⟨l.os, l.tape, l.output, l.size, fun k hk => l.heap k (.inr hk)⟩, fun b hb => l.F b hb, fun b hb => (l.Fn b hb).imp (fun h => h) (fun h => Nat.le_of_not_lt h), fun id b q e => ?_, hrep, H1⟩
  rcases Nat.lt_or_ge id news.length with h1 | h1
  · have h2 : news[id]? = some news[id] := List.getElem?_eq_getElem h1
    have h3 := ((H1.obj id _ h2).at e).2 (List.all_eq_true.1 hlive _ (List.mem_of_getElem? h2))
    exact Nat.le_of_not_lt fun hlt => h3.2 ((l.K b).1 hlt)
  · rw [hm id (by simpa using h1)] at e; cases e
/-- The end: told as it stands. -/
theorem end_here {rs : List ResultVar} {e : Exit} {d : D} {N : Nat} {os : List (Option DObj)} (he : e = .normal ∨ e = .ret) (hr : resD P rs st = some d) (hH : st.H.take N = os) : EndT p P rs d N os e st := ⟨he, st, .refl, hr, hH⟩
theorem end_told {rs : List ResultVar} {e : Exit} {d : D} {N : Nat} {os : List (Option DObj)} (he : e = .normal ∨ e = .ret) (ht : Told p st s) (hr : resD P rs s = some d) (hH : s.H.take N = os) : EndT p P rs d N os e st := ⟨he, s, ht, hr, hH⟩
end
end Go.Proofs.YtjmhioacbpgalaaDoorV
