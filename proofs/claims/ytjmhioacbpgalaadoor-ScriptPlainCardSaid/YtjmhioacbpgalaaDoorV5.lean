/- Operations on abstract values, more: numbers, strings, comparisons, conversions, parts. -/
import Derived.Test.YtjmhioacbpgalaaDoorV4
namespace Go.Proofs.YtjmhioacbpgalaaDoorV
open Go Go.RowKit
set_option linter.unusedVariables false
set_option linter.unusedSimpArgs false
section
variable {P : Program} {ev : Operand → Value} {g : G} {w : World} {look : Nat → Option DObj} {base : Nat}

theorem Ran.pure_value {o : Oper} {d : D} {v : Value} (he : (execOp ev o).run P w = .ok (.value v) w) (H : HeapRel g w look) (r : Rep g w d v) : Ran P ev o g w look base { val := d } :=
  ⟨v, w, g, .inl he, out_pure H r⟩

/-! ### moves -/
def opNil : D → Option Res
  | .ptr id off => some { val := .ptr id off }
  | .eaddr cs => some { val := .eaddr cs }
  | .clo f a b => some { val := .clo f a b }
  | .v (.func (.func f) a b) => some { val := .v (.func (.func f) a b) }
  | _ => none
theorem opNil_sound {o : Oper} {x : Operand} {d : D} {r : Res} (hop : o.op = .nilCheck x) (hd : Rep g w d (ev x)) (h : opNil d = some r) (H : HeapRel g w look) : Ran P ev o g w look base r := by
  have key : ∀ v, ev x = v → (∀ a, v = .pointer (some a) ∨ True) → ((∃ a, v = .pointer (some a)) ∨ ∃ f a b, v = .func (.func f) a b) → (execOp ev o).run P w = .ok (.value v) w := by
    intro v hv _ hc
    rcases hc with ⟨a, rfl⟩ | ⟨f, a, b, rfl⟩ <;> simp [execOp, hop, hv]
  unfold opNil at h
  split at h <;> cases h
  · obtain ⟨b, p, sz, h1, h2⟩ := hd
    exact .pure_value (key _ h2 (fun _ => .inr trivial) (.inl ⟨_, rfl⟩)) H ⟨b, p, sz, h1, rfl⟩
  · have hd' := hd
    obtain ⟨b, p, vs, h2, h1⟩ := hd
    exact .pure_value (key _ h2 (fun _ => .inr trivial) (.inl ⟨_, rfl⟩)) H (by rw [← h2]; exact hd')
  · have hd' := hd
    obtain ⟨vf, vc, h2, h1⟩ := hd
    exact .pure_value (key _ h2 (fun _ => .inr trivial) (.inr ⟨_, _, _, rfl⟩)) H (by rw [← h2]; exact hd')
  · exact .pure_value (key _ hd (fun _ => .inr trivial) (.inr ⟨_, _, _, rfl⟩)) H rfl

def opPick (c a b : D) : Option Res :=
  match c with
  | .v (.bool t) => some { val := if t then a else b }
  | _ => none
theorem opPick_sound {o : Oper} {c a b : Operand} {dc da db : D} {r : Res} (hop : o.op = .pick c a b) (hc : Rep g w dc (ev c)) (ha : Rep g w da (ev a)) (hb : Rep g w db (ev b)) (h : opPick dc da db = some r) (H : HeapRel g w look) : Ran P ev o g w look base r := by
  unfold opPick at h
  split at h
  · rename_i t
    cases h
    have hc' : ev c = .bool t := hc
    refine .pure_value (v := if t then ev a else ev b) ?_ H (by cases t <;> simpa)
    simp [execOp, hop, hc', asBool]
  · cases h

/-! ### numbers, strings -/
def intBin (op : BinOp) (k : IntKind) (a b : Int) : Option Value :=
  match op with
  | .add => some (.int k (k.wrap (a + b)))
  | .sub => some (.int k (k.wrap (a - b)))
  | .mul => some (.int k (k.wrap (a * b)))
  | .quo => if b = 0 then none else some (.int k (k.wrap (a.tdiv b)))
  | .rem => if b = 0 then none else some (.int k (a.tmod b))
  | .and => some (.int k (k.wrap (BitVec.ofInt k.bits a &&& BitVec.ofInt k.bits b).toNat))
  | .or => some (.int k (k.wrap (BitVec.ofInt k.bits a ||| BitVec.ofInt k.bits b).toNat))
  | .xor => some (.int k (k.wrap (BitVec.ofInt k.bits a ^^^ BitVec.ofInt k.bits b).toNat))
  | .andNot => some (.int k (k.wrap (BitVec.ofInt k.bits a &&& ~~~ BitVec.ofInt k.bits b).toNat))
  | .eql => some (.bool (a == b))
  | .neq => some (.bool (a != b))
  | .lss => some (.bool (decide (a < b)))
  | .leq => some (.bool (decide (a ≤ b)))
  | .gtr => some (.bool (decide (a > b)))
  | .geq => some (.bool (decide (a ≥ b)))
  | _ => none
def strBin (op : BinOp) (a b : ByteArray) : Option Value :=
  match op with
  | .add => if a.size + b.size < 9223372036854775808 then some (.string (a ++ b)) else none
  | .eql => some (.bool (a.toList == b.toList))
  | .neq => some (.bool !(a.toList == b.toList))
  | .lss => some (.bool (Op.bytesLess a.toList b.toList))
  | .leq => some (.bool (Op.bytesLess a.toList b.toList || a.toList == b.toList))
  | .gtr => some (.bool !(Op.bytesLess a.toList b.toList || a.toList == b.toList))
  | .geq => some (.bool !(Op.bytesLess a.toList b.toList))
  | _ => none
def partD (P : Program) (t : TypeId) (cs : List D) (off : Nat) : Option D :=
  match isAggT P t, tsize P t with
  | some true, some n => if off + n ≤ cs.length then some (.agg ((cs.drop off).take n)) else none
  | some false, some _ => cs[off]?
  | _, _ => none
theorem run_part {t : TypeId} {cs : List D} {vs : List Value} {off : Nat} {d : D} (h : partD P t cs off = some d) (hr : RepAll g w cs vs) : ∃ v, (part t vs.toArray off).run P w = .ok v w ∧ Rep g w d v := by
  unfold partD at h
  split at h
  · rename_i n h1 h2
    split at h
    · rename_i hn
      cases h
      refine ⟨.agg ((vs.drop off).take n).toArray, ?_, _, rfl, (hr.drop off).take n⟩
      simp only [part, Sem.run_bind, run_isAgg h1, Result.andThen, if_true, run_sizeOf h2, Sem.run_pure]
      congr 2
      apply Array.toList_inj.1
      simp
    · cases h
  · rename_i n h1 h2
    obtain ⟨y, hy, r⟩ := hr.get h
    refine ⟨y, ?_, r⟩
    have : vs.toArray[off]? = some y := by simpa using hy
    simp only [part, Sem.run_bind, run_isAgg h1, Result.andThen, Bool.false_eq_true, if_false, this, Sem.run_pure]
  · cases h

def eqFieldsD (P : Program) (eq : TypeId → D → D → Option Bool) (xs ys : List D) : List Field → Option Bool
  | [] => some true
  | f :: fs =>
    if f.name ≠ "_" then
      match partD P f.type xs f.offset, partD P f.type ys f.offset with
      | some a, some b => match eq f.type a b, eqFieldsD P eq xs ys fs with
        | some r, some s => some (r && s)
        | _, _ => none
      | _, _ => none
    else eqFieldsD P eq xs ys fs
def eqD (P : Program) : Nat → TypeId → D → D → Option Bool
  | 0, _, _, _ => none
  | d + 1, t, x, y =>
    match x, y with
    | .v (.bool a), .v (.bool b) => match P.underlying t with | some .bool => some (a == b) | _ => none
    | .v (.int k a), .v (.int k' b) => match P.underlying t with | some (.int _) => if k = k' then some (a == b) else none | _ => none
    | .v (.string a), .v (.string b) => match P.underlying t with | some .string => some (a.toList == b.toList) | _ => none
    | .agg xs, .agg ys => match P.underlying t with
      | some (.struct fs) => if P.stoodInHeld t then none else eqFieldsD P (eqD P d) xs ys fs.toList
      | _ => none
    | _, _ => none
theorem eqFields_run (eq : TypeId → D → D → Option Bool) (d : Nat) (xs ys : List D) (vs us : List Value) (hx : RepAll g w xs vs) (hy : RepAll g w ys us)
    (ih : ∀ t x y b v u, eq t x y = some b → Rep g w x v → Rep g w y u → (Op.equalIn d t v u).run P w = .ok b w) : ∀ (fs : List Field) (b : Bool), eqFieldsD P eq xs ys fs = some b →
    (Op.eqFields d vs.toArray us.toArray fs).run P w = .ok b w
  | [], b, h => by cases h; simp [Op.eqFields]
  | f :: fs, b, h => by
    simp only [eqFieldsD] at h
    by_cases hf : f.name ≠ "_"
    · rw [if_pos hf] at h
      split at h
      · rename_i a c ha hc
        split at h
        · rename_i r s hr hs
          cases h
          obtain ⟨v, v1, v2⟩ := run_part ha hx
          obtain ⟨u, u1, u2⟩ := run_part hc hy
          have := ih _ _ _ _ _ _ hr v2 u2
          simp only [Op.eqFields, if_pos hf, Sem.run_bind, v1, u1, this, Result.andThen]
          cases r
          · simp
          · simp only [Bool.not_true, Bool.false_eq_true, if_false, Bool.true_and]
            exact eqFields_run eq d xs ys vs us hx hy ih fs s hs
        · cases h
      · cases h
    · rw [if_neg hf] at h
      simp only [Op.eqFields, if_neg hf]
      exact eqFields_run eq d xs ys vs us hx hy ih fs b h
theorem eqD_run : ∀ (d : Nat) (t : TypeId) (x y : D) (b : Bool) (v u : Value), eqD P d t x y = some b → Rep g w x v → Rep g w y u → (Op.equalIn d t v u).run P w = .ok b w
  | 0, t, x, y, b, v, u, h, _, _ => by cases h
  | d + 1, t, x, y, b, v, u, h, hx, hy => by
    simp only [eqD] at h
    split at h
    · cases hx; cases hy
      split at h
      · rename_i hu; cases h; exact run_equalIn_bool' w d t _ _ hu
      · cases h
    · cases hx; cases hy
      split at h
      · rename_i hu
        split at h
        · rename_i hk; subst hk; cases h; exact run_equalIn_int w d t _ _ _ _ hu
        · cases h
      · cases h
    · cases hx; cases hy
      split at h
      · rename_i hu; cases h; exact run_equalIn_string w d t _ _ hu
      · cases h
    · obtain ⟨vs, rfl, hx⟩ := hx
      obtain ⟨us, rfl, hy⟩ := hy
      split at h
      · rename_i fs hu
        split at h
        · cases h
        · rename_i hs
          have hfo : P.fieldsOf t = fs := by simp [Program.fieldsOf, hu]
          rw [run_equalIn_struct w d t _ _ (by rw [hfo]; exact hu) (by simpa using hs), hfo]
          exact eqFields_run (eqD P d) d _ _ _ _ hx hy (fun t x y b v u => eqD_run d t x y b v u) _ _ h
      · cases h
    · cases h

def binD (P : Program) (op : BinOp) (t : TypeId) (x y : D) : Option D :=
  match x, y with
  | .v (.int k a), .v (.int k' b) =>
    match op with
    | .shl => if b < 0 then none else some (.v (.int k (k.wrap (a * 2 ^ min b.toNat k.bits))))
    | .shr => if b < 0 then none else some (.v (.int k (a.fdiv (2 ^ min b.toNat k.bits))))
    | op => if k = k' then (intBin op k a b).map .v else none
  | .v (.string a), .v (.string b) => (strBin op a b).map .v
  | x, y =>
    match op with
    | .eql => match x, y with
      | .v (.bool a), .v (.bool b) => (eqD P 1 t x y).map fun r => .v (.bool r)
      | .agg _, .agg _ => if P.eqGuardType P.depth t then none else (eqD P Op.maxDepth t x y).map fun r => .v (.bool r)
      | _, _ => none
    | .neq => match x, y with
      | .v (.bool a), .v (.bool b) => (eqD P 1 t x y).map fun r => .v (.bool !r)
      | .agg _, .agg _ => if P.eqGuardType P.depth t then none else (eqD P Op.maxDepth t x y).map fun r => .v (.bool !r)
      | _, _ => none
    | _ => none
def opBin (P : Program) (op : BinOp) (t : TypeId) (x y : D) : Option Res := (binD P op t x y).map fun d => { val := d }

theorem intBin_run {op : BinOp} {k : IntKind} {a b : Int} {v : Value} (t : TypeId) (h : intBin op k a b = some v) (h1 : op ≠ .shl) (h2 : op ≠ .shr) : (binOp op t (.int k a) (.int k b)).run P w = .ok v w := by
  cases op <;> simp only [intBin] at h <;> first | exact absurd rfl h1 | exact absurd rfl h2 | (cases h; done) | skip
  case quo => split at h <;> cases h; rename_i hb; simp [binOp, Op.intDiv, hb]
  case rem => split at h <;> cases h; rename_i hb; simp [binOp, Op.intDiv, hb]
  all_goals (cases h; simp [binOp, Op.intArith, Op.intBits, Op.intCmp])
theorem strBin_run {op : BinOp} {a b : ByteArray} {v : Value} (t : TypeId) (h : strBin op a b = some v) : (binOp op t (.string a) (.string b)).run P w = .ok v w := by
  cases op <;> simp only [strBin] at h <;> try (cases h; done)
  case add =>
    split at h <;> cases h
    rename_i hs
    have : ¬ (((a.size + b.size : Nat) : Int) > IntKind.i64.max) := by
      have : IntKind.i64.max = 9223372036854775807 := by decide
      omega
    simp only [binOp, Op.stringOp]
    rw [if_neg this]; rfl
  all_goals (cases h; simp [binOp, Op.stringOp])
theorem eqGuard_none {op : BinOp} {t : TypeId} {x y : Operand} {a b : Value} (h : (∀ cs, a ≠ .agg cs) ∧ a ≠ .nilIface ∨ P.eqGuardType P.depth t = false ∧ a ≠ .nilIface) : (eqGuard op t x y a b).run P w = .ok () w := by
  unfold eqGuard
  rcases h with ⟨h1, h2⟩ | ⟨h1, h2⟩
  · cases a <;> first | exact absurd rfl h2 | exact absurd rfl (h1 _) | (cases op <;> simp)
  · cases a <;> first | exact absurd rfl h2 | skip
    all_goals cases b <;> cases op <;> simp [h1]
theorem opBin_sound {o : Oper} {op : BinOp} {t t' : TypeId} {x y : Operand} {dx dy : D} {r : Res} (hop : o.op = .binOp op t x y t') (hx : Rep g w dx (ev x)) (hy : Rep g w dy (ev y)) (h : opBin P op t dx dy = some r) (H : HeapRel g w look) : Ran P ev o g w look base r := by
  unfold opBin at h
  cases hb : binD P op t dx dy with
  | none => rw [hb] at h; cases h
  | some d =>
    rw [hb] at h; cases h
    have fin : ∀ v, (eqGuard op t x y (ev x) (ev y)).run P w = .ok () w → (binOp op t (ev x) (ev y)).run P w = .ok v w → Rep g w d v → Ran P ev o g w look base { val := d } := fun v h1 h2 h3 =>
      .pure_value (v := v) (by simp [execOp, hop, h1, h2]) H h3
    unfold binD at hb
    split at hb
    · rename_i k a k' b
      have ex : ev x = .int k a := hx
      have ey : ev y = .int k' b := hy
      have hg : (eqGuard op t x y (ev x) (ev y)).run P w = .ok () w := eqGuard_none (.inl ⟨(fun _ e => by rw [ex] at e; cases e), (fun e => by rw [ex] at e; cases e)⟩)
      split at hb
      · split at hb <;> cases hb
        rename_i hneg
        refine fin (.int k (k.wrap (a * 2 ^ min b.toNat k.bits))) hg ?_ rfl
        rw [ex, ey]; simp only [binOp, Op.shift]; rw [if_neg hneg]; rfl
      · split at hb <;> cases hb
        rename_i hneg
        refine fin (.int k (a.fdiv (2 ^ min b.toNat k.bits))) hg ?_ rfl
        rw [ex, ey]; simp only [binOp, Op.shift]; rw [if_neg hneg]; rfl
      · rename_i n1 n2
        split at hb
        · rename_i hk; subst hk
          cases hi : intBin op k a b with
          | none => rw [hi] at hb; cases hb
          | some v =>
            rw [hi] at hb; cases hb
            exact fin v hg (by rw [ex, ey]; exact intBin_run t hi (fun e => n1 e) (fun e => n2 e)) rfl
        · cases hb
    · rename_i a b
      have ex : ev x = .string a := hx
      have ey : ev y = .string b := hy
      cases hi : strBin op a b with
      | none => rw [hi] at hb; cases hb
      | some v =>
        rw [hi] at hb; cases hb
        exact fin v (eqGuard_none (.inl ⟨(fun _ e => by rw [ex] at e; cases e), (fun e => by rw [ex] at e; cases e)⟩)) (by rw [ex, ey]; exact strBin_run t hi) rfl
    · split at hb
      · split at hb
        · rename_i a b _ _
          have ex : ev x = .bool a := hx
          have ey : ev y = .bool b := hy
          cases he : eqD P 1 t (.v (.bool a)) (.v (.bool b)) with
          | none => rw [he] at hb; cases hb
          | some r =>
            rw [he] at hb; cases hb
            have he' : eqD P (10000) t (.v (.bool a)) (.v (.bool b)) = some r := by simpa only [eqD] using he
            have := eqD_run (g := g) (w := w) _ _ _ _ _ _ _ he' rfl rfl
            refine fin (.bool r) (eqGuard_none (.inl ⟨(fun _ e => by rw [ex] at e; cases e), (fun e => by rw [ex] at e; cases e)⟩)) ?_ rfl
            rw [ex, ey]
            simp only [binOp, Op.equal, Op.maxDepth, Sem.run_bind, this, Result.andThen, Sem.run_pure]
        · rename_i xs ys _ _
          split at hb
          · cases hb
          · rename_i hg
            cases he : eqD P Op.maxDepth t (.agg xs) (.agg ys) with
            | none => rw [he] at hb; cases hb
            | some r =>
              rw [he] at hb; cases hb
              have := eqD_run (g := g) (w := w) _ _ _ _ _ _ _ he hx hy
              have hx' := hx
              obtain ⟨vs, ex, _⟩ := hx'
              have hy' := hy
              obtain ⟨us, ey, _⟩ := hy'
              refine fin (.bool r) (eqGuard_none (.inr ⟨by simpa using hg, (fun e => by rw [ex] at e; cases e)⟩)) ?_ rfl
              rw [ex, ey] at this ⊢
              simp only [binOp, Op.equal, Sem.run_bind, this, Result.andThen, Sem.run_pure]
        · cases hb
      · split at hb
        · rename_i a b _ _
          have ex : ev x = .bool a := hx
          have ey : ev y = .bool b := hy
          cases he : eqD P 1 t (.v (.bool a)) (.v (.bool b)) with
          | none => rw [he] at hb; cases hb
          | some r =>
            rw [he] at hb; cases hb
            have he' : eqD P (10000) t (.v (.bool a)) (.v (.bool b)) = some r := by simpa only [eqD] using he
            have := eqD_run (g := g) (w := w) _ _ _ _ _ _ _ he' rfl rfl
            refine fin (.bool !r) (eqGuard_none (.inl ⟨(fun _ e => by rw [ex] at e; cases e), (fun e => by rw [ex] at e; cases e)⟩)) ?_ rfl
            rw [ex, ey]
            simp only [binOp, Op.equal, Op.maxDepth, Sem.run_bind, this, Result.andThen, Sem.run_pure]
        · rename_i xs ys _ _
          split at hb
          · cases hb
          · rename_i hg
            cases he : eqD P Op.maxDepth t (.agg xs) (.agg ys) with
            | none => rw [he] at hb; cases hb
            | some r =>
              rw [he] at hb; cases hb
              have := eqD_run (g := g) (w := w) _ _ _ _ _ _ _ he hx hy
              have hx' := hx
              obtain ⟨vs, ex, _⟩ := hx'
              have hy' := hy
              obtain ⟨us, ey, _⟩ := hy'
              refine fin (.bool !r) (eqGuard_none (.inr ⟨by simpa using hg, (fun e => by rw [ex] at e; cases e)⟩)) ?_ rfl
              rw [ex, ey] at this ⊢
              simp only [binOp, Op.equal, Sem.run_bind, this, Result.andThen, Sem.run_pure]
        · cases hb
      · cases hb

def opUn (op : UnOp) (x : D) : Option Res :=
  match op, x with
  | .neg, .v (.int k n) => some { val := .v (.int k (k.wrap (0 - n))) }
  | .not, .v (.bool b) => some { val := .v (.bool !b) }
  | .xor, .v (.int k n) => some { val := .v (.int k (k.wrap (BitVec.ofInt k.bits (if k.signed then -1 else k.max) ^^^ BitVec.ofInt k.bits n).toNat)) }
  | _, _ => none
theorem opUn_sound {o : Oper} {op : UnOp} {t : TypeId} {x : Operand} {d : D} {r : Res} (hop : o.op = .unOp op t x) (hx : Rep g w d (ev x)) (h : opUn op d = some r) (H : HeapRel g w look) : Ran P ev o g w look base r := by
  unfold opUn at h
  split at h <;> cases h
  · have ex : ev x = .int _ _ := hx
    exact .pure_value (by simp [execOp, hop, ex, Op.unary, Op.intArith]) H rfl
  · have ex : ev x = .bool _ := hx
    exact .pure_value (by simp [execOp, hop, ex, Op.unary]) H rfl
  · have ex : ev x = .int _ _ := hx
    exact .pure_value (by simp [execOp, hop, ex, Op.unary, Op.intBits]) H rfl

def opField (P : Program) (t : TypeId) (x : D) (f : Nat) : Option Res :=
  match P.underlying t, x with
  | some (.struct fs), .agg cs => match fs[f]? with
    | some fd => (partD P fd.type cs fd.offset).map fun d => { val := d }
    | none => none
  | _, _ => none
theorem opField_sound {o : Oper} {t : TypeId} {x : Operand} {f : Nat} {d : D} {r : Res} (hop : o.op = .field t x f) (hx : Rep g w d (ev x)) (h : opField P t d f = some r) (H : HeapRel g w look) : Ran P ev o g w look base r := by
  unfold opField at h
  split at h
  · rename_i fs cs hu
    split at h
    · rename_i fd hf
      cases hp : partD P fd.type cs fd.offset with
      | none => rw [hp] at h; cases h
      | some d' =>
        rw [hp] at h; cases h
        obtain ⟨vs, ex, hr⟩ := hx
        obtain ⟨v, h1, h2⟩ := run_part hp hr
        refine .pure_value (v := v) ?_ H h2
        simp [execOp, hop, Instr.field, run_underlying hu, hf, ex, asAgg, h1]
    · cases h
  · cases h

def opIndex (P : Program) (t : TypeId) (x y : D) : Option Res :=
  match x, y with
  | .agg cs, .v (.int _ i) => match P.underlying t with
    | some (.array len e) => match tsize P e with
      | some n => if 0 ≤ i ∧ i < len then (partD P e cs (i.toNat * n)).map fun d => { val := d } else none
      | none => none
    | _ => none
  | .v (.string s), .v (.int _ i) => match P.underlying t with
    | some .string => if 0 ≤ i then (match s[i.toNat]? with | some b => some { val := .v (.int .u8 b.toNat) } | none => none) else none
    | _ => none
  | _, _ => none
theorem opIndex_sound {o : Oper} {t : TypeId} {x y : Operand} {d e : D} {r : Res} (hop : o.op = .index t x y) (hx : Rep g w d (ev x)) (hy : Rep g w e (ev y)) (h : opIndex P t d e = some r) (H : HeapRel g w look) : Ran P ev o g w look base r := by
  unfold opIndex at h
  split at h
  · rename_i cs k i
    split at h
    · rename_i len el hu
      split at h
      · rename_i n hn
        split at h
        · rename_i hi
          cases hp : partD P el cs (i.toNat * n) with
          | none => rw [hp] at h; cases h
          | some d' =>
            rw [hp] at h; cases h
            obtain ⟨vs, ex, hr⟩ := hx
            have ey : ev y = .int k i := hy
            obtain ⟨v, h1, h2⟩ := run_part hp hr
            refine .pure_value (v := v) ?_ H h2
            simp [execOp, hop, Instr.index, ey, asIntOf, run_underlying hu, ex, hi, run_sizeOf hn, h1]
        · cases h
      · cases h
    · cases h
  · rename_i s k i
    split at h
    · rename_i hu
      split at h
      · rename_i hi
        split at h
        · rename_i b hb
          cases h
          have ex : ev x = .string s := hx
          have ey : ev y = .int k i := hy
          refine .pure_value (v := .int .u8 b.toNat) ?_ H rfl
          simp [execOp, hop, Instr.index, ey, asIntOf, run_underlying hu, ex, hi, hb]
        · cases h
      · cases h
    · cases h
  · cases h

def opExtract (x : D) (i : Nat) : Option Res :=
  match x with
  | .tup ds => match ds[i]? with | some d => some { val := d } | none => none
  | _ => none
theorem opExtract_sound {o : Oper} {x : Operand} {i : Nat} {d : D} {r : Res} (hop : o.op = .extract x i) (hx : Rep g w d (ev x)) (h : opExtract d i = some r) (H : HeapRel g w look) : Ran P ev o g w look base r := by
  unfold opExtract at h
  split at h
  · rename_i ds
    split at h
    · rename_i d' hd; cases h
      obtain ⟨vs, ex, hr⟩ := hx
      obtain ⟨y, hy, r⟩ := hr.get hd
      refine .pure_value (v := y) ?_ H r
      have : vs.toArray[i]? = some y := by simpa using hy
      simp only [execOp, hop, Instr.extract, ex, this]
      simp
    · cases h
  · cases h
end
end Go.Proofs.YtjmhioacbpgalaaDoorV
