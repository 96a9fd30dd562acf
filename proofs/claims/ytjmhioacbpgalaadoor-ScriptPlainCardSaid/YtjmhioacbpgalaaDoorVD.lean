/- One operation, whichever: what it tells, and that the model's does it. -/
import Derived.Test.YtjmhioacbpgalaaDoorVN
namespace Go.Proofs.YtjmhioacbpgalaaDoorV
open Go Go.RowKit
set_option linter.unusedVariables false
set_option linter.unusedSimpArgs false

def coreCall (E : Env) (ρ : Operand → D) (look : Nat → Option DObj) (base : Nat) (c : Call) : Option Res :=
  match c.callee with
  | .builtin .append => match c.args.toList, c.argTypes.toList with
    | [a, b], [ts, tx] => opAppend E.P look base ts tx (ρ a) (ρ b)
    | _, _ => none
  | .builtin .len => match c.args.toList, c.argTypes.toList with
    | [a], [t] => opLen E.P look t (ρ a)
    | _, _ => none
  | .builtin .min => opMin (c.args.toList.map ρ)
  | .builtin .max => opMax (c.args.toList.map ρ)
  | .value f =>
    match ρ f with
    | .v (.func (.func i) a b) => if a.size = 0 ∧ b.size = 0 then opCall E look base i (c.args.toList.map ρ) else none
    | .clo i a b => opCall E look base i (a ++ c.args.toList.map ρ ++ b)
    | _ => none
  | _ => none
def coreD (E : Env) (ρ : Operand → D) (look : Nat → Option DObj) (base : Nat) (op : Op) : Option Res :=
  match op with
  | .move x | .assign x => some { val := ρ x }
  | .pick c a b => opPick (ρ c) (ρ a) (ρ b)
  | .alloc t => opAlloc E.P base t
  | .box _ x => opBox base (ρ x)
  | .build t ps => opBuild E.P t (ps.toList.map fun p => (p.1, ρ p.2))
  | .buildSlice t n ps => opBuildSlice E.P base t n (ps.toList.map fun p => (p.1, ρ p.2))
  | .load t x => opLoad E.P look t (ρ x)
  | .store t x y => opStore E.P look t (ρ x) (ρ y)
  | .nilCheck x => opNil (ρ x)
  | .binOp op t x y _ => opBin E.P op t (ρ x) (ρ y)
  | .unOp op _ x => opUn op (ρ x)
  | .convert s d x => opConvert E.P look s d (ρ x)
  | .makeFunc f a b => opFunc f (a.toList.map ρ) (b.toList.map ρ)
  | .makeMap _ r => opMakeMap base r
  | .makeSlice t l c => opMakeSlice E.P base t (ρ l) (ρ c)
  | .slice t x lo hi none => opSlice E.P t (ρ x) (lo.map ρ) (hi.map ρ)
  | .fieldAddr t x f => opFieldAddr E.P t (ρ x) f
  | .field t x f => opField E.P t (ρ x) f
  | .indexAddr t x i => opIndexAddr E.P t (ρ x) (ρ i)
  | .index t x i => opIndex E.P t (ρ x) (ρ i)
  | .lookup t x k ok => opLookup E.P look t (ρ x) (ρ k) ok
  | .mapUpdate t m k v => opMapUpdate E.P look t (ρ m) (ρ k) (ρ v)
  | .insert t m k v => opMapUpdate E.P look t (ρ m) (ρ k) (ρ v)
  | .range t x => opRange E.P base t (ρ x)
  | .next x is => opNext look (ρ x) is
  | .extract x i => opExtract (ρ x) i
  | .call c => coreCall E ρ look base c
  | _ => none

section
variable {E : Env} {a : Act} {next : Act → World → Prop} {Q : Exit → Act → World → Prop} {g : G} {w : World} {look : Nat → Option DObj} {base : Nat} {ρ : Operand → D}

theorem Ran.upon {o : Oper} {r : Res} (h : Ran E.P a.eval o g w look base r) (hn : ∀ g' w' v', Out g w look base r g' w' v' → next (a.put o.dst v') w') : o.upon E.P a next Q ((execOp a.eval o).run E.P w) := by
  obtain ⟨v', w', g', h1, h2⟩ := h
  rcases h1 with h1 | ⟨h1, rfl⟩
  · rw [h1]; exact hn g' w' v' h2
  · rw [h1]; exact hn g' w' undef h2

theorem repAll_map {l : List Operand} (h : ∀ x ∈ l, Rep g w (ρ x) (a.eval x)) : RepAll g w (l.map ρ) (l.map a.eval) :=
  .of (by simp) fun j d y e1 e2 => by
    rw [List.getElem?_map] at e1 e2
    cases hj : l[j]? with
    | none => rw [hj] at e1; cases e1
    | some x => rw [hj] at e1 e2; cases e1; cases e2; exact h x (List.mem_of_getElem? hj)

theorem exec_call {o : Oper} {c : Call} {fo : Operand} {f : FuncId} {fs cs : Array Value} (hop : o.op = .call c) (hc : c.callee = .value fo) (hf : a.eval fo = .func (.func f) fs cs) (hen : Enter E.P f) :
    (execOp a.eval o).run E.P w = .ok (.enter f (fs ++ c.args.map a.eval ++ cs)) w := by
  simp only [execOp, hop, resolve, hc, hf, Deferred.ofValue, Sem.run_bind, Sem.run_pure, Result.andThen, invoke]
  exact hen _ w

theorem coreD_sound (hE : E.ok) {o : Oper} {r : Res} (h : coreD E ρ look base o.op = some r) (hρ : ∀ x ∈ o.op.operands, Rep g w (ρ x) (a.eval x)) (H : HeapRel g w look)
    (hfresh : ∀ id, base ≤ id → id < base + r.news.length → g.m id = none ∧ look id = none) (hn : ∀ g' w' v', Out g w look base r g' w' v' → next (a.put o.dst v') w') : o.upon E.P a next Q ((execOp a.eval o).run E.P w) := by
  have hm : r.news ≠ [] → g.m base = none := fun hne => (hfresh base (Nat.le_refl _) (by have := List.length_pos_iff.2 hne; omega)).1
  have hl : r.news ≠ [] → look base = none := fun hne => (hfresh base (Nat.le_refl _) (by have := List.length_pos_iff.2 hne; omega)).2
  unfold coreD at h
  split at h
  · rename_i x hop
    cases h
    exact Ran.upon (.pure_value (v := a.eval x) (by simp [execOp, hop]) H (hρ x (by rw [hop]; simp [Op.operands]))) hn
  · rename_i x hop
    cases h
    exact Ran.upon (.pure_value (v := a.eval x) (by simp [execOp, hop]) H (hρ x (by rw [hop]; simp [Op.operands]))) hn
  · rename_i c x y hop
    exact Ran.upon (opPick_sound hop (hρ c (by rw [hop]; simp [Op.operands])) (hρ x (by rw [hop]; simp [Op.operands])) (hρ y (by rw [hop]; simp [Op.operands])) h H) hn
  · rename_i t hop
    exact Ran.upon (opAlloc_sound hop h H hm hl) hn
  · rename_i t x hop
    exact Ran.upon (opBox_sound hop (hρ x (by rw [hop]; simp [Op.operands])) h H hm hl) hn
  · rename_i t ps hop
    exact Ran.upon (opBuild_sound hop hρ h H) hn
  · rename_i t n ps hop
    exact Ran.upon (opBuildSlice_sound hop hρ h H hm hl) hn
  · rename_i t x hop
    exact Ran.upon (opLoad_sound hop (hρ x (by rw [hop]; simp [Op.operands])) h H) hn
  · rename_i t x y hop
    exact Ran.upon (opStore_sound hop (hρ x (by rw [hop]; simp [Op.operands])) (hρ y (by rw [hop]; simp [Op.operands])) h H) hn
  · rename_i x hop
    exact Ran.upon (opNil_sound hop (hρ x (by rw [hop]; simp [Op.operands])) h H) hn
  · rename_i op t x y t' hop
    exact Ran.upon (opBin_sound hop (hρ x (by rw [hop]; simp [Op.operands])) (hρ y (by rw [hop]; simp [Op.operands])) h H) hn
  · rename_i op t x hop
    exact Ran.upon (opUn_sound hop (hρ x (by rw [hop]; simp [Op.operands])) h H) hn
  · rename_i s d x hop
    exact Ran.upon (opConvert_sound hop (hρ x (by rw [hop]; simp [Op.operands])) h H) hn
  · rename_i f xs ys hop
    exact Ran.upon (opFunc_sound hop (by rw [Array.toList_map]; exact repAll_map fun x hx => hρ x (by rw [hop]; simp [Op.operands]; exact .inl (by simpa using hx)))
      (by rw [Array.toList_map]; exact repAll_map fun x hx => hρ x (by rw [hop]; simp [Op.operands]; exact .inr (by simpa using hx))) h H) hn
  · rename_i t x hop
    exact Ran.upon (opMakeMap_sound hop h H hm hl) hn
  · rename_i t x y hop
    exact Ran.upon (opMakeSlice_sound hop (hρ x (by rw [hop]; simp [Op.operands])) (hρ y (by rw [hop]; simp [Op.operands])) h H hm hl) hn
  · rename_i t x lo hi hop
    exact Ran.upon (opSlice_sound hop (hρ x (by rw [hop]; simp [Op.operands])) (fun y hy => hρ y (by rw [hop]; subst hy; simp [Op.operands])) (fun y hy => hρ y (by rw [hop]; subst hy; simp [Op.operands])) h H) hn
  · rename_i t x f hop
    exact Ran.upon (opFieldAddr_sound hop (hρ x (by rw [hop]; simp [Op.operands])) h H) hn
  · rename_i t x f hop
    exact Ran.upon (opField_sound hop (hρ x (by rw [hop]; simp [Op.operands])) h H) hn
  · rename_i t x y hop
    exact Ran.upon (opIndexAddr_sound hop (hρ x (by rw [hop]; simp [Op.operands])) (hρ y (by rw [hop]; simp [Op.operands])) h H) hn
  · rename_i t x y hop
    exact Ran.upon (opIndex_sound hop (hρ x (by rw [hop]; simp [Op.operands])) (hρ y (by rw [hop]; simp [Op.operands])) h H) hn
  · rename_i t x y ok hop
    exact Ran.upon (opLookup_sound hop (hρ x (by rw [hop]; simp [Op.operands])) (hρ y (by rw [hop]; simp [Op.operands])) h H) hn
  · rename_i t x y z hop
    exact Ran.upon (opMapUpdate_sound (.inl hop) (hρ x (by rw [hop]; simp [Op.operands])) (hρ y (by rw [hop]; simp [Op.operands])) (hρ z (by rw [hop]; simp [Op.operands])) h H) hn
  · rename_i t x y z hop
    exact Ran.upon (opMapUpdate_sound (.inr hop) (hρ x (by rw [hop]; simp [Op.operands])) (hρ y (by rw [hop]; simp [Op.operands])) (hρ z (by rw [hop]; simp [Op.operands])) h H) hn
  · rename_i t x hop
    exact Ran.upon (opRange_sound hop (hρ x (by rw [hop]; simp [Op.operands])) h H hm hl) hn
  · rename_i x is hop
    exact Ran.upon (opNext_sound hop (hρ x (by rw [hop]; simp [Op.operands])) h H) hn
  · rename_i x i hop
    exact Ran.upon (opExtract_sound hop (hρ x (by rw [hop]; simp [Op.operands])) h H) hn
  · rename_i c hop
    have hargs : ∀ x ∈ c.args.toList, Rep g w (ρ x) (a.eval x) := fun x hx => hρ x (by rw [hop]; simp [Op.operands, Call.operands]; exact .inr (by simpa using hx))
    unfold coreCall at h
    split at h
    · rename_i hc
      split at h
      · rename_i x y ts tx h1 h2
        have e1 : c.args = #[x, y] := Array.toList_inj.1 h1
        have e2 : c.argTypes = #[ts, tx] := Array.toList_inj.1 h2
        exact Ran.upon (opAppend_sound hop hc e1 e2 (hargs x (by rw [h1]; simp)) (hargs y (by rw [h1]; simp)) h H hm hl) hn
      · cases h
    · rename_i hc
      split at h
      · rename_i x t h1 h2
        have e1 : c.args = #[x] := Array.toList_inj.1 h1
        have e2 : c.argTypes = #[t] := Array.toList_inj.1 h2
        exact Ran.upon (opLen_sound hop hc e1 e2 (hargs x (by rw [h1]; simp)) h H) hn
      · cases h
    · rename_i hc
      exact Ran.upon (opMin_sound hop hc (by rw [Array.toList_map]; exact repAll_map hargs) h H) hn
    · rename_i hc
      exact Ran.upon (opMax_sound hop hc (by rw [Array.toList_map]; exact repAll_map hargs) h H) hn
    · rename_i fo hc
      have hfo : Rep g w (ρ fo) (a.eval fo) := hρ fo (by rw [hop]; simp [Op.operands, Call.operands, hc])
      have fin : ∀ (f : FuncId) (fs cs : Array Value) (ds : List D), a.eval fo = .func (.func f) fs cs → RepAll g w ds (fs ++ c.args.map a.eval ++ cs).toList → opCall E look base f ds = some r → o.upon E.P a next Q ((execOp a.eval o).run E.P w) := by
        intro f fs cs ds e1 e2 e3
        obtain ⟨hen, hcall⟩ := opCall_sound hE e3 H hfresh e2
        rw [exec_call hop hc e1 hen, Oper.upon_enter]
        have hcall' : Calls E.P f (fs ++ c.args.map a.eval ++ cs) w fun e w' => ∃ v g', e = .returned v ∧ Out g w look base r g' w' v := by rw [Array.toArray_toList] at hcall; exact hcall
        exact hcall'.mono fun e w' ⟨v, g', he, ho⟩ => by subst he; exact hn g' w' v ho
      split at h
      · rename_i i fa fb hf
        split at h
        · rename_i hz
          have e1 : fa = #[] := Array.eq_empty_of_size_eq_zero hz.1
          have e2 : fb = #[] := Array.eq_empty_of_size_eq_zero hz.2
          subst e1; subst e2
          rw [hf] at hfo
          exact fin i #[] #[] _ hfo (by simpa using repAll_map hargs) h
        · cases h
      · rename_i i fa fb hf
        rw [hf] at hfo
        obtain ⟨vf, vc, h1, h2, h3⟩ := hfo
        exact fin i _ _ _ h1 (by simpa [List.append_assoc] using (h2.append ((repAll_map hargs).append h3))) h
      · cases h
    · cases h
  · cases h
end
end Go.Proofs.YtjmhioacbpgalaaDoorV
