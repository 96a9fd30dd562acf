/- Rules of a walk, with what comes next as a part of the goal. -/
import Derived.Test.YtjmhioacbpgalaaDoorVS
namespace Go.Proofs.YtjmhioacbpgalaaDoorV
open Go Go.RowKit
set_option linter.unusedVariables false
variable {p : Nat} {E : Env} {P : Program} {x y : Code} {st : St} {Q : Exit → St → Prop} {K : St → Prop}

def RunP (o : Option St) (K : St → Prop) : Prop := ∃ st', o = some st' ∧ K st'
theorem RunP_congr {o o' : Option St} {K : St → Prop} (h : o = o') : RunP o K = RunP o' K := by rw [h]
attribute [congr] RunP_congr
theorem RunP_some (h : K st) : RunP (some st) K := ⟨_, rfl, h⟩
/-- Normally 'K', else 'Q'. -/
def thenQ (K : St → Prop) (Q : Exit → St → Prop) (e : Exit) (st : St) : Prop := match e with | .normal => K st | e => Q e st
def blkQ (id : Nat) (K : St → Prop) (Q : Exit → St → Prop) (e : Exit) (st : St) : Prop := match e with | .exit id' => (if id' = id then K st else Q (.exit id') st) | e => Q e st
theorem k_start (h : WpD p P x st (thenQ (Q .normal) Q)) : WpD p P x st Q := WpD.mono h fun e st h => by cases e <;> exact h
theorem k_seq (h : WpD p P x st (thenQ (fun st' => WpD p P y st' (thenQ K Q)) Q)) : WpD p P (.seq x y) st (thenQ K Q) :=
  WpD.seq (WpD.mono h fun e st h => by cases e <;> exact h)
theorem k_region (hE : E.ok) {id : Nat} {ops : Array Oper} (h : RunP (runL E ops ops.toList st) K) : WpD p E.P (.region id ops false) st (thenQ K Q) := by
  obtain ⟨st', h1, h2⟩ := h
  exact WpD.region hE h1 h2
theorem k_skip (h : K st) : WpD p P .skip st (thenQ K Q) := WpD.skip h
theorem k_label {l : Nat} (h : K st) : WpD p P (.label l) st (thenQ K Q) := WpD.label h
theorem k_ret (h : Q .ret st) : WpD p P .ret st (thenQ K Q) := WpD.ret h
theorem k_exit {id : Nat} (h : Q (.exit id) st) : WpD p P (.exit id) st (thenQ K Q) := WpD.exit h
theorem k_cond {c : Operand} {t : Bool} (hc : evalD st.T c = .v (.bool t)) (h1 : t = true → WpD p P x st (thenQ K Q)) (h2 : t = false → WpD p P y st (thenQ K Q)) : WpD p P (.cond c x y) st (thenQ K Q) := WpD.cond hc h1 h2
theorem k_true {c : Operand} (hc : evalD st.T c = .v (.bool true)) (h1 : WpD p P x st (thenQ K Q)) : WpD p P (.cond c x y) st (thenQ K Q) := WpD.cond hc (fun _ => h1) (fun h => by cases h)
theorem k_false {c : Operand} (hc : evalD st.T c = .v (.bool false)) (h2 : WpD p P y st (thenQ K Q)) : WpD p P (.cond c x y) st (thenQ K Q) := WpD.cond hc (fun h => by cases h) (fun _ => h2)
/-- A condition, as a value. -/
def CondP (d : D) (A B : Prop) : Prop := match d with | .v (.bool t) => (t = true → A) ∧ (t = false → B) | _ => False
theorem CondP_congr {d d' : D} {A B : Prop} (h : d = d') : CondP d A B = CondP d' A B := by rw [h]
attribute [congr] CondP_congr
theorem k_cnd {c : Operand} (h : CondP (evalD st.T c) (WpD p P x st (thenQ K Q)) (WpD p P y st (thenQ K Q))) : WpD p P (.cond c x y) st (thenQ K Q) := by
  unfold CondP at h
  split at h
  · rename_i t hc; exact WpD.cond hc h.1 h.2
  · exact h.elim
theorem cp_t {A B : Prop} (h : A) : CondP (.v (.bool true)) A B := ⟨fun _ => h, fun h => (by cases h)⟩
theorem cp_f {A B : Prop} (h : B) : CondP (.v (.bool false)) A B := ⟨fun h => (by cases h), fun _ => h⟩
theorem cp_s {t : Bool} {A B : Prop} (h1 : t = true → A) (h2 : t = false → B) : CondP (.v (.bool t)) A B := ⟨h1, h2⟩
theorem k_block {id : Nat} (h : WpD p P x st (thenQ K (blkQ id K Q))) : WpD p P (.block id x) st (thenQ K Q) :=
  WpD.block (WpD.mono h fun e st h => by
    cases e with
    | exit id' => exact h
    | _ => exact h)
theorem blk_exit {id : Nat} (h : K st) : blkQ id K Q (.exit id) st := by simp only [blkQ, if_true]; exact h
theorem blk_other {id id' : Nat} (hi : (id' == id) = false) (h : Q (.exit id') st) : blkQ id K Q (.exit id') st := by
  simp only [blkQ]; rw [if_neg (by intro e; subst e; simp at hi)]; exact h
theorem blk_ret {id : Nat} (h : Q .ret st) : blkQ id K Q .ret st := h
/-- A loop: from any state of the invariant a round leads to one with a lesser measure. -/
theorem k_loop (I : St → Prop) (μ : St → Nat) (h0 : I st) (round : ∀ st, I st → WpD p P x st (thenQ (fun st' => I st' ∧ μ st' < μ st) Q)) : WpD p P (.loop x) st (thenQ K Q) :=
  WpD.mono (Q := fun e st => match e with | .normal => False | e => Q e st) (WpD.loop I μ h0 fun st h => WpD.mono (round st h) fun e st h => by cases e <;> exact h) fun e st h => by cases e <;> first | exact h | exact h.elim
theorem k_norm (live : List Nat) {st' : St} (h : norm live st = some st') (hk : WpD 0 P x st' Q) : WpD 0 P x st Q := WpD.norm live h hk

theorem eval_t {T : List (Nat × D)} {t : Nat} : evalD T (.tmp t) = (lookT T t).getD .any := by
  simp only [evalD]; cases lookT T t <;> rfl
theorem lookT_nil {t : Nat} : lookT [] t = none := rfl
theorem opLoad_eq {look : Nat → Option DObj} {t : TypeId} {d : D} : opLoad P look t d = (Go.Proofs.YtjmhioacbpgalaaDoorV.rowAt look d).bind fun cs => (loadD P t cs).map fun d => { val := d } := by
  unfold opLoad; cases Go.Proofs.YtjmhioacbpgalaaDoorV.rowAt look d <;> rfl
/-- A step whose guard yields a truth value. -/
def gstep (c : Option D) (b : Bool) (u v : Option St) : Option St := match c with
  | some (.v (.bool b')) => bif b' == b then u else v
  | some (.v (.tuple _)) => v
  | _ => none
theorem gs_tt {u v : Option St} : gstep (some (.v (.bool true))) true u v = u := rfl
theorem gs_tf {u v : Option St} : gstep (some (.v (.bool true))) false u v = v := rfl
theorem gs_ft {u v : Option St} : gstep (some (.v (.bool false))) true u v = v := rfl
theorem gs_ff {u v : Option St} : gstep (some (.v (.bool false))) false u v = u := rfl
theorem gs_undef {b : Bool} {u v : Option St} : gstep (some (.v undef)) b u v = v := rfl
theorem step_guard {ops : Array Oper} {dst : Option Tmp} {op : Op} {ty : TypeId} {pos : String} {after : Array Edge} {j : Nat} {b : Bool} {n : Nat} {T : List (Nat × D)} {H : List (Option DObj)} :
    stepD E ops ⟨dst, op, ty, pos, after, some (j, b)⟩ ⟨n, T, H⟩ = gstep (gval ops T j) b (doneD n T H dst (coreD E (evalD T) (lookH H) H.length op)) (some ⟨n, putT n T dst (.v undef), H⟩) := by
  unfold stepD doneD gval gstep
  simp only [wantD, setH]
  cases (ops[j]?).bind (·.dst) with
  | none => rfl
  | some t =>
    simp only [Option.bind_some]
    cases lookT T t with
    | none => rfl
    | some d =>
      cases d with
      | v y =>
        cases y with
        | bool b' =>
          dsimp only
          cases (b' == b) with
          | true =>
            simp only [cond_true]
            cases coreD E (evalD T) (lookH H) H.length op with
            | none => rfl
            | some r => simp only [Option.bind_some]; cases updH r.upd (H ++ List.map some r.news) <;> rfl
          | false => rfl
        | _ => rfl
      | _ => rfl
theorem gs_split {c b : Bool} {u v : Option St} {f : St → Option St} (h1 : c = true → RunP ((gstep (some (.v (.bool true))) b u v).bind f) K) (h2 : c = false → RunP ((gstep (some (.v (.bool false))) b u v).bind f) K) : RunP ((gstep (some (.v (.bool c))) b u v).bind f) K := by
  cases c
  · exact h2 rfl
  · exact h1 rfl
theorem pick_t {a b : D} : opPick (.v (.bool true)) a b = some { val := a } := rfl
theorem pick_f {a b : D} : opPick (.v (.bool false)) a b = some { val := b } := rfl
/-- The end: a plain value is told. -/
theorem fin_v {fn : List ResultVar} {st : St} {d : D} {objs : List DObj} {r r' : D} (h : resD P fn st = some r) (h' : expD (lookH st.H) r = some (r', objs)) (e : r' = d) :
    (Exit.ret = Exit.normal ∨ Exit.ret = Exit.ret) ∧ ∃ r, resD P fn st = some r ∧ expD (lookH st.H) r = some (d, objs) := ⟨.inr rfl, r, h, by rw [h', e]⟩
attribute [go_sem] pick_t pick_f eval_t lookT_nil Option.getD_some opLoad_eq Go.Proofs.YtjmhioacbpgalaaDoorV.rowAt loadD opFieldAddr opBox dcells gval step_guard gs_tt gs_tf gs_ft gs_ff gs_undef
end Go.Proofs.YtjmhioacbpgalaaDoorV
