/- Rules by which 'simp' runs operations on abstract values. -/
import Derived.Test.YtjmhioacbpgalaaDoorVM
namespace Go.Proofs.YtjmhioacbpgalaaDoorV
open Go Go.RowKit
set_option linter.unusedVariables false
set_option linter.unusedSimpArgs false

section
variable {E : Env} {P : Program} {ops : Array Oper} {look : Nat → Option DObj} {base : Nat} {ρ : Operand → D}
theorem runL_nil {st : St} : runL E ops [] st = some st := rfl
theorem runL_cons {o : Oper} {l : List Oper} {st : St} : runL E ops (o :: l) st = (stepD E ops o st).bind (runL E ops l) := by
  simp only [runL]; cases stepD E ops o st <;> rfl
/-- A step, done. -/
def doneD (n : Nat) (T : List (Nat × D)) (H : List (Option DObj)) (dst : Option Nat) (r : Option Res) : Option St := r.bind fun r => (updH r.upd (H ++ r.news.map some)).map fun H' => ⟨n, putT n T dst r.val, H'⟩
theorem step_free {dst : Option Tmp} {op : Op} {ty : TypeId} {pos : String} {after : Array Edge} {n : Nat} {T : List (Nat × D)} {H : List (Option DObj)} :
    stepD E ops ⟨dst, op, ty, pos, after, none⟩ ⟨n, T, H⟩ = doneD n T H dst (coreD E (evalD T) (lookH H) H.length op) := by
  unfold stepD doneD
  simp only [wantD, setH]
  cases coreD E (evalD T) (lookH H) H.length op with
  | none => rfl
  | some r => simp only [Option.bind_some]; cases updH r.upd (H ++ List.map some r.news) <;> rfl
def gval (ops : Array Oper) (T : List (Nat × D)) (j : Nat) : Option D := ((ops[j]?).bind (·.dst)).bind (lookT T)
theorem step_on {dst : Option Tmp} {op : Op} {ty : TypeId} {pos : String} {after : Array Edge} {j : Nat} {b : Bool} {n : Nat} {T : List (Nat × D)} {H : List (Option DObj)} (h : gval ops T j = some (.v (.bool b))) :
    stepD E ops ⟨dst, op, ty, pos, after, some (j, b)⟩ ⟨n, T, H⟩ = doneD n T H dst (coreD E (evalD T) (lookH H) H.length op) := by
  unfold gval at h
  obtain ⟨t, h1, h2⟩ := opt_bind h
  unfold stepD doneD
  have hw : wantD ops T ⟨dst, op, ty, pos, after, some (j, b)⟩ = some true := by simp only [wantD, h1, h2]; simp
  simp only [hw, setH]
  cases coreD E (evalD T) (lookH H) H.length op with
  | none => rfl
  | some r => simp only [Option.bind_some]; cases updH r.upd (H ++ List.map some r.news) <;> rfl
theorem step_off {dst : Option Tmp} {op : Op} {ty : TypeId} {pos : String} {after : Array Edge} {j : Nat} {b b' : Bool} {n : Nat} {T : List (Nat × D)} {H : List (Option DObj)} (h : gval ops T j = some (.v (.bool b'))) (hb : (b' == b) = false) :
    stepD E ops ⟨dst, op, ty, pos, after, some (j, b)⟩ ⟨n, T, H⟩ = some ⟨n, putT n T dst (.v undef), H⟩ := by
  unfold gval at h
  obtain ⟨t, h1, h2⟩ := opt_bind h
  unfold stepD
  have hw : wantD ops T ⟨dst, op, ty, pos, after, some (j, b)⟩ = some false := by simp only [wantD, h1, h2, hb]
  simp only [hw]
theorem step_undef {dst : Option Tmp} {op : Op} {ty : TypeId} {pos : String} {after : Array Edge} {j : Nat} {b : Bool} {n : Nat} {T : List (Nat × D)} {H : List (Option DObj)} (h : gval ops T j = some (.v undef)) :
    stepD E ops ⟨dst, op, ty, pos, after, some (j, b)⟩ ⟨n, T, H⟩ = some ⟨n, putT n T dst (.v undef), H⟩ := by
  unfold gval at h
  obtain ⟨t, h1, h2⟩ := opt_bind h
  unfold stepD
  have hw : wantD ops T ⟨dst, op, ty, pos, after, some (j, b)⟩ = some false := by simp only [wantD, h1, h2, undef]
  simp only [hw]
theorem done_val {n : Nat} {T : List (Nat × D)} {H : List (Option DObj)} {dst : Option Nat} {d : D} : doneD n T H dst (some { val := d }) = some ⟨n, putT n T dst d, H⟩ := by
  simp [doneD, updH]
theorem done_new {n : Nat} {T : List (Nat × D)} {H : List (Option DObj)} {dst : Option Nat} {d : D} {o : DObj} : doneD n T H dst (some { val := d, news := [o] }) = some ⟨n, putT n T dst d, H ++ [some o]⟩ := by
  simp [doneD, updH]
theorem done_upd {n : Nat} {T : List (Nat × D)} {H : List (Option DObj)} {dst : Option Nat} {d : D} {o : Option DObj} {i : Nat} (h : i < H.length) : doneD n T H dst (some { val := d, upd := [(i, o)] }) = some ⟨n, putT n T dst d, H.set i o⟩ := by
  simp [doneD, updH, h]
theorem done_new_upd {n : Nat} {T : List (Nat × D)} {H : List (Option DObj)} {dst : Option Nat} {d : D} {ob : DObj} {o : Option DObj} {i : Nat} (h : i < H.length) : doneD n T H dst (some { val := d, news := [ob], upd := [(i, o)] }) = some ⟨n, putT n T dst d, (H ++ [some ob]).set i o⟩ := by
  simp [doneD, updH, Nat.lt_succ_of_lt h]
theorem putT_some {n t : Nat} {T : List (Nat × D)} {d : D} (h : t < n) : putT n T (some t) d = (t, d) :: T := by simp [putT, h]
theorem putT_none {n : Nat} {T : List (Nat × D)} {d : D} : putT n T none d = T := rfl
theorem lookT_cons {u t : Nat} {d : D} {T : List (Nat × D)} : lookT ((u, d) :: T) t = if t = u then some d else lookT T t := rfl
theorem eval_tmp {T : List (Nat × D)} {t : Nat} {d : D} (h : lookT T t = some d) : evalD T (.tmp t) = d := by simp [evalD, h]
theorem eval_int {T : List (Nat × D)} {k : IntKind} {n : Int} : evalD T (.const (.int k n)) = .v (.int k n) := rfl
theorem eval_bool {T : List (Nat × D)} {b : Bool} : evalD T (.const (.bool b)) = .v (.bool b) := rfl
theorem eval_str {T : List (Nat × D)} {b : ByteArray} : evalD T (.const (.string b)) = .v (.string b) := rfl
theorem eval_nil {T : List (Nat × D)} {l c : Nat} : evalD T (.const (.slice none l c)) = .v (.slice none l c) := rfl
theorem eval_func {T : List (Nat × D)} {f : Nat} : evalD T (.func f) = .v (.func (.func f) #[] #[]) := rfl
theorem lookH_zero {o : Option DObj} {H : List (Option DObj)} : lookH (o :: H) 0 = o := rfl
theorem lookH_succ {o : Option DObj} {H : List (Option DObj)} {i : Nat} : lookH (o :: H) (i + 1) = lookH H i := by simp [lookH]
-- operations
theorem c_move {x : Operand} : coreD E ρ look base (.move x) = some { val := ρ x } := rfl
theorem c_assign {x : Operand} : coreD E ρ look base (.assign x) = some { val := ρ x } := rfl
theorem c_pick {c a b : Operand} : coreD E ρ look base (.pick c a b) = opPick (ρ c) (ρ a) (ρ b) := rfl
theorem c_alloc {t : TypeId} : coreD E ρ look base (.alloc t) = opAlloc E.P base t := rfl
theorem c_box {t : TypeId} {x : Operand} : coreD E ρ look base (.box t x) = opBox base (ρ x) := rfl
theorem c_load {t : TypeId} {x : Operand} : coreD E ρ look base (.load t x) = opLoad E.P look t (ρ x) := rfl
theorem c_store {t : TypeId} {x y : Operand} : coreD E ρ look base (.store t x y) = opStore E.P look t (ρ x) (ρ y) := rfl
theorem c_bin {op : BinOp} {t t' : TypeId} {x y : Operand} : coreD E ρ look base (.binOp op t x y t') = opBin E.P op t (ρ x) (ρ y) := rfl
theorem c_un {op : UnOp} {t : TypeId} {x : Operand} : coreD E ρ look base (.unOp op t x) = opUn op (ρ x) := rfl
theorem c_convert {s d : TypeId} {x : Operand} : coreD E ρ look base (.convert s d x) = opConvert E.P look s d (ρ x) := rfl
theorem c_fieldAddr {t : TypeId} {x : Operand} {f : Nat} : coreD E ρ look base (.fieldAddr t x f) = opFieldAddr E.P t (ρ x) f := rfl
theorem c_field {t : TypeId} {x : Operand} {f : Nat} : coreD E ρ look base (.field t x f) = opField E.P t (ρ x) f := rfl
theorem c_indexAddr {t : TypeId} {x y : Operand} : coreD E ρ look base (.indexAddr t x y) = opIndexAddr E.P t (ρ x) (ρ y) := rfl
theorem c_index {t : TypeId} {x y : Operand} : coreD E ρ look base (.index t x y) = opIndex E.P t (ρ x) (ρ y) := rfl
theorem c_lookup {t : TypeId} {x y : Operand} {ok : Bool} : coreD E ρ look base (.lookup t x y ok) = opLookup E.P look t (ρ x) (ρ y) ok := rfl
theorem c_mapUpdate {t : TypeId} {x y z : Operand} : coreD E ρ look base (.mapUpdate t x y z) = opMapUpdate E.P look t (ρ x) (ρ y) (ρ z) := rfl
theorem c_extract {x : Operand} {i : Nat} : coreD E ρ look base (.extract x i) = opExtract (ρ x) i := rfl
theorem c_makeMap {t : TypeId} {r : Option Operand} : coreD E ρ look base (.makeMap t r) = opMakeMap base r := rfl
theorem c_makeSlice {t : TypeId} {l c : Operand} : coreD E ρ look base (.makeSlice t l c) = opMakeSlice E.P base t (ρ l) (ρ c) := rfl
theorem c_slice {t : TypeId} {x : Operand} {lo hi : Option Operand} : coreD E ρ look base (.slice t x lo hi none) = opSlice E.P t (ρ x) (lo.map ρ) (hi.map ρ) := rfl
theorem c_build {t : TypeId} {ps : Array (Nat × Operand)} : coreD E ρ look base (.build t ps) = opBuild E.P t (ps.toList.map fun p => (p.1, ρ p.2)) := rfl
theorem c_buildSlice {t : TypeId} {n : Nat} {ps : Array (Nat × Operand)} : coreD E ρ look base (.buildSlice t n ps) = opBuildSlice E.P base t n (ps.toList.map fun p => (p.1, ρ p.2)) := rfl
theorem c_len {a : Operand} {t : TypeId} : coreD E ρ look base (.call ⟨.builtin .len, #[a], #[t]⟩) = opLen E.P look t (ρ a) := rfl
theorem c_append {a b : Operand} {t u : TypeId} : coreD E ρ look base (.call ⟨.builtin .append, #[a, b], #[t, u]⟩) = opAppend E.P look base t u (ρ a) (ρ b) := rfl
theorem c_min {as : Array Operand} {ts : Array TypeId} : coreD E ρ look base (.call ⟨.builtin .min, as, ts⟩) = opMin (as.toList.map ρ) := rfl
theorem c_max {as : Array Operand} {ts : Array TypeId} : coreD E ρ look base (.call ⟨.builtin .max, as, ts⟩) = opMax (as.toList.map ρ) := rfl
theorem c_call {f : FuncId} {as : Array Operand} {ts : Array TypeId} (h : ρ (.func f) = .v (.func (.func f) #[] #[])) : coreD E ρ look base (.call ⟨.value (.func f), as, ts⟩) = opCall E look base f (as.toList.map ρ) := by
  simp only [coreD, coreCall, h]; rfl
theorem pick_bool {t : Bool} {a b : D} : opPick (.v (.bool t)) a b = some { val := if t then a else b } := rfl
theorem box_agg {cs : List D} (h : cs.all (·.cell) = true) : opBox base (.agg cs) = some { val := .ptr base 0, news := [.cells cs false] } := by simp [opBox, dcells, h]
theorem box_one {d : D} (h : d.cell = true) : opBox base d = some { val := .ptr base 0, news := [.cells [d] false] } := by
  cases d <;> simp_all [opBox, dcells, D.cell]
theorem alloc_of {t : TypeId} {cs : List D} (h : zeroD P t = some cs) : opAlloc P base t = some { val := .ptr base 0, news := [.cells cs false] } := by simp [opAlloc, h]
theorem cell_int {k : IntKind} {n : Int} : (D.v (.int k n)).cell = true := rfl
theorem cell_bool {b : Bool} : (D.v (.bool b)).cell = true := rfl
theorem cell_str {b : ByteArray} : (D.v (.string b)).cell = true := rfl
theorem cell_nil {l c : Nat} : (D.v (.slice none l c)).cell = true := rfl
theorem cell_sl {n : Nat} {xs : List D} : (D.sl n xs).cell = true := rfl
theorem cell_ref {i o l n : Nat} {ag : Bool} : (D.ref i o l n ag).cell = true := rfl
theorem cell_ptr {i o : Nat} : (D.ptr i o).cell = true := rfl
theorem fieldAddr_ptr {t : TypeId} {f id off m : Nat} {fs : Array Field} {fd : Field} (h1 : P.underlying t = some (.struct fs)) (h2 : fs[f]? = some fd) (h3 : tsize P fd.type = some (m + 1)) : opFieldAddr P t (.ptr id off) f = some { val := .ptr id (off + fd.offset) } := by
  simp [opFieldAddr, h1, h2, h3]
theorem fieldAddr_row {t : TypeId} {f m : Nat} {cs : List D} {fs : Array Field} {fd : Field} (h1 : P.underlying t = some (.struct fs)) (h2 : fs[f]? = some fd) (h3 : tsize P fd.type = some (m + 1)) (h4 : fd.offset ≤ cs.length) : opFieldAddr P t (.eaddr cs) f = some { val := .eaddr (cs.drop fd.offset) } := by
  simp [opFieldAddr, h1, h2, h3, h4]
theorem load_one {t : TypeId} {x d : D} {cs : List D} {m : Nat} (h1 : rowAt look x = some cs) (h2 : isAggT P t = some false) (h3 : tsize P t = some m) (h4 : cs[0]? = some d) : opLoad P look t x = some { val := d } := by
  simp [opLoad, h1, loadD, h2, h3, h4]
theorem load_agg {t : TypeId} {x : D} {cs : List D} {m : Nat} (h1 : rowAt look x = some cs) (h2 : isAggT P t = some true) (h3 : tsize P t = some m) (h4 : m ≤ cs.length) : opLoad P look t x = some { val := .agg (cs.take m) } := by
  simp [opLoad, h1, loadD, h2, h3, h4]
theorem row_ptr {id off : Nat} {cs : List D} {s : Bool} (h : look id = some (.cells cs s)) : rowAt look (.ptr id off) = some (cs.drop off) := by simp [rowAt, h]
theorem row_eaddr {cs : List D} : rowAt look (.eaddr cs) = some cs := rfl
-- numbers
theorem b_add {k : IntKind} {a b : Int} {t : TypeId} : opBin P .add t (.v (.int k a)) (.v (.int k b)) = some { val := .v (.int k (k.wrap (a + b))) } := by simp [opBin, binD, intBin]
theorem b_sub {k : IntKind} {a b : Int} {t : TypeId} : opBin P .sub t (.v (.int k a)) (.v (.int k b)) = some { val := .v (.int k (k.wrap (a - b))) } := by simp [opBin, binD, intBin]
theorem b_mul {k : IntKind} {a b : Int} {t : TypeId} : opBin P .mul t (.v (.int k a)) (.v (.int k b)) = some { val := .v (.int k (k.wrap (a * b))) } := by simp [opBin, binD, intBin]
theorem b_quo {k : IntKind} {a b : Int} {t : TypeId} (h : b ≠ 0) : opBin P .quo t (.v (.int k a)) (.v (.int k b)) = some { val := .v (.int k (k.wrap (a.tdiv b))) } := by simp [opBin, binD, intBin, h]
theorem b_rem {k : IntKind} {a b : Int} {t : TypeId} (h : b ≠ 0) : opBin P .rem t (.v (.int k a)) (.v (.int k b)) = some { val := .v (.int k (a.tmod b)) } := by simp [opBin, binD, intBin, h]
theorem b_eql {k : IntKind} {a b : Int} {t : TypeId} : opBin P .eql t (.v (.int k a)) (.v (.int k b)) = some { val := .v (.bool (a == b)) } := by simp [opBin, binD, intBin]
theorem b_neq {k : IntKind} {a b : Int} {t : TypeId} : opBin P .neq t (.v (.int k a)) (.v (.int k b)) = some { val := .v (.bool (a != b)) } := by simp [opBin, binD, intBin]
theorem b_lss {k : IntKind} {a b : Int} {t : TypeId} : opBin P .lss t (.v (.int k a)) (.v (.int k b)) = some { val := .v (.bool (decide (a < b))) } := by simp [opBin, binD, intBin]
theorem b_leq {k : IntKind} {a b : Int} {t : TypeId} : opBin P .leq t (.v (.int k a)) (.v (.int k b)) = some { val := .v (.bool (decide (a ≤ b))) } := by simp [opBin, binD, intBin]
theorem b_gtr {k : IntKind} {a b : Int} {t : TypeId} : opBin P .gtr t (.v (.int k a)) (.v (.int k b)) = some { val := .v (.bool (decide (a > b))) } := by simp [opBin, binD, intBin]
theorem b_geq {k : IntKind} {a b : Int} {t : TypeId} : opBin P .geq t (.v (.int k a)) (.v (.int k b)) = some { val := .v (.bool (decide (a ≥ b))) } := by simp [opBin, binD, intBin]
theorem u_not {b : Bool} : opUn .not (.v (.bool b)) = some { val := .v (.bool !b) } := rfl
theorem conv_int {s d : TypeId} {k k' : IntKind} {n : Int} {sd : TypeDesc} (h1 : P.underlying s = some sd) (h2 : P.underlying d = some (.int k)) : opConvert P look s d (.v (.int k' n)) = some { val := .v (.int k (k.wrap n)) } := by
  simp [opConvert, h1, h2]
theorem len_sl {t e : TypeId} {n : Nat} {xs : List D} (h : P.underlying t = some (.slice e)) : opLen P look t (.sl n xs) = some { val := .v (.int .i64 xs.length) } := by simp [opLen, h]
theorem len_ref {t e : TypeId} {i o l n : Nat} {ag : Bool} (h : P.underlying t = some (.slice e)) : opLen P look t (.ref i o l n ag) = some { val := .v (.int .i64 l) } := by simp [opLen, h]
theorem len_nil {t e : TypeId} (h : P.underlying t = some (.slice e)) : opLen P look t (.v (.slice none 0 0)) = some { val := .v (.int .i64 0) } := by simp [opLen, h]
theorem len_str {t : TypeId} {s : ByteArray} (h : P.underlying t = some .string) : opLen P look t (.v (.string s)) = some { val := .v (.int .i64 s.size) } := by simp [opLen, h]
theorem idx_sl {t e : TypeId} {n : Nat} {xs cs : List D} {k : IntKind} {i : Int} {d : D} (h : P.underlying t = some (.slice e)) (h1 : tsize P e = some n) (h0 : 0 ≤ i) (h2 : xs[i.toNat]? = some d) (h3 : dcells d = some cs) : opIndexAddr P t (.sl n xs) (.v (.int k i)) = some { val := .eaddr cs } := by
  simp [opIndexAddr, h, h1, h0, h2, h3]
theorem idx_ref {t e : TypeId} {id o l n : Nat} {ag : Bool} {k : IntKind} {i : Int} (h : P.underlying t = some (.slice e)) (h1 : tsize P e = some n) (h0 : 0 ≤ i) (h2 : i < l) : opIndexAddr P t (.ref id o l n ag) (.v (.int k i)) = some { val := .ptr id (o + i.toNat * n) } := by
  simp [opIndexAddr, h, h1, h0, h2]
theorem extract_tup {ds : List D} {i : Nat} {d : D} (h : ds[i]? = some d) : opExtract (.tup ds) i = some { val := d } := by simp [opExtract, h]
end
theorem obind_some {α β : Type} {a : α} {f : α → Option β} : (some a).bind f = f a := Eq.trans rfl rfl
attribute [go_sem] runL_nil runL_cons step_free done_val done_new done_upd done_new_upd putT_some putT_none lookT_cons eval_int eval_bool eval_str eval_nil eval_func lookH_zero lookH_succ
  c_move c_assign c_pick c_alloc c_box c_load c_store c_bin c_un c_convert c_fieldAddr c_field c_indexAddr c_index c_lookup c_mapUpdate c_extract c_makeMap c_makeSlice c_slice c_build c_buildSlice c_len c_append c_min c_max c_call
  alloc_of cell_int cell_bool cell_str cell_nil cell_sl cell_ref cell_ptr row_eaddr b_add b_sub b_mul b_quo b_rem b_eql b_neq b_lss b_leq b_gtr b_geq u_not conv_int
  len_sl len_ref len_nil len_str idx_sl idx_ref extract_tup
attribute [go_sem] List.getElem?_cons_succ List.getElem?_cons_zero List.getElem?_toArray List.length_cons List.length_nil List.map_nil List.map_cons List.append_nil List.nil_append List.cons_append Option.map_some Option.map_none obind_some Nat.zero_add List.drop_succ_cons List.drop_zero List.all_cons List.all_nil Bool.and_true Bool.and_self Option.bind_none List.set_cons_zero List.set_cons_succ
end Go.Proofs.YtjmhioacbpgalaaDoorV
