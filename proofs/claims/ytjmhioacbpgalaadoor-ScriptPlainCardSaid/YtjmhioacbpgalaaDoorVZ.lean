/- Data as values: rows of data that are read, or a call's own; contracts as a list. -/
import Derived.Test.YtjmhioacbpgalaaDoorVY
namespace Go.Proofs.YtjmhioacbpgalaaDoorV
open Go Go.RowKit
set_option linter.unusedVariables false
set_option linter.unusedSimpArgs false

/-- Data of plain cells: how many, as one value of several, which. -/
class Enc (α : Type) where
  w : Nat
  ag : Bool
  vals : α → List Value
  len : ∀ x, (vals x).length = w
  inj : ∀ x y, vals x = vals y → x = y
  cellv : ∀ x, ∀ v ∈ vals x, (D.v v).cell = true
  pos : 0 < w
  one : ag = false → w = 1
section
variable {α : Type} [Enc α]
def cellsE (x : α) : List D := (Enc.vals x).map .v
def enc (x : α) : D := if Enc.ag α then .agg (cellsE x) else (cellsE x).headD .any
def cellsL (l : List α) : List D := l.flatMap cellsE
/-- A row that is read. -/
def rowsL (l : List α) : D := .sl (Enc.w α) (l.map enc)
/-- A row of a call's own, or none. -/
def refL (α : Type) [Enc α] (id n : Nat) : D := .ref id 0 n (Enc.w α) (Enc.ag α)
/-- One of its values. -/
def ptrL (α : Type) [Enc α] (id j : Nat) : D := .ptr id (j * Enc.w α)

theorem cellsE_length (x : α) : (cellsE x).length = Enc.w α := by simp [cellsE, Enc.len]
theorem cellsE_all (x : α) : (cellsE x).all (·.cell) = true := by
  rw [List.all_eq_true]
  intro d hd
  obtain ⟨v, hv, rfl⟩ := List.mem_map.1 hd
  exact Enc.cellv x v hv
theorem cellsE_refs (x : α) : refsAll (cellsE x) = [] := refsAll_nil fun d hd => by
  obtain ⟨v, hv, rfl⟩ := List.mem_map.1 hd; rfl
theorem enc_agg (h : Enc.ag α = true) (x : α) : enc x = .agg (cellsE x) := by simp [enc, h]
theorem enc_one (h : Enc.ag α = false) (x : α) : ∃ v, Enc.vals x = [v] ∧ cellsE x = [.v v] ∧ enc x = .v v := by
  have h1 := Enc.one h
  have h2 := Enc.len x
  rw [h1] at h2
  match hv : Enc.vals x, h2 with
  | [v], _ => exact ⟨v, rfl, by simp [cellsE, hv], by simp [enc, h, cellsE, hv]⟩
theorem enc_dcells (x : α) : dcells (enc x) = some (cellsE x) := by
  cases h : Enc.ag α with
  | true => rw [enc_agg h]; simp only [dcells, cellsE_all, if_true]
  | false =>
    obtain ⟨v, h1, h2, h3⟩ := enc_one h x
    have hc := cellsE_all x
    rw [h2] at hc
    simp only [List.all_cons, List.all_nil, Bool.and_true] at hc
    rw [h3, h2]; simp [dcells, hc]
theorem enc_cells (x : α) : (enc x).cells = cellsE x := dcells_cells (enc_dcells x)
theorem enc_refs (x : α) : (enc x).refs = [] := by
  cases h : Enc.ag α with
  | true => rw [enc_agg h]; simp only [D.refs, cellsE_refs]
  | false => obtain ⟨v, _, _, h3⟩ := enc_one h x; rw [h3]; rfl
theorem flat_v : ∀ l : List Value, flatAll (l.map D.v) = true
  | [] => rfl
  | v :: l => by simp [flatAll, D.flat, flat_v l]
theorem enc_flat (x : α) : (enc x).flat = true := by
  cases h : Enc.ag α with
  | true => rw [enc_agg h]; simp only [D.flat]; exact flat_v _
  | false => obtain ⟨v, _, _, h3⟩ := enc_one h x; rw [h3]; rfl
theorem map_v_inj : ∀ {l m : List Value}, l.map D.v = m.map D.v → l = m
  | [], [], _ => rfl
  | a :: l, b :: m, h => by
    simp only [List.map_cons, List.cons.injEq, D.v.injEq] at h
    rw [h.1, map_v_inj h.2]
  | [], b :: m, h => by simp at h
  | a :: l, [], h => by simp at h
theorem enc_inj {x y : α} (h : enc x = enc y) : x = y := by
  have h1 := enc_cells x
  rw [h, enc_cells y] at h1
  exact Enc.inj x y (map_v_inj h1).symm
theorem mapenc_inj {l m : List α} (h : l.map enc = m.map enc) : l = m := by
  induction l generalizing m with
  | nil => cases m with
    | nil => rfl
    | cons a m => simp at h
  | cons a l ih => cases m with
    | nil => simp at h
    | cons b m => simp only [List.map_cons, List.cons.injEq] at h; rw [enc_inj h.1, ih h.2]
theorem rowsL_inj {l m : List α} (h : rowsL l = rowsL m) : l = m := by
  simp only [rowsL, D.sl.injEq] at h; exact mapenc_inj h.2
theorem mapenc_refs (l : List α) : refsAll (l.map enc) = [] := refsAll_nil fun d hd => by
  obtain ⟨x, _, rfl⟩ := List.mem_map.1 hd; exact enc_refs x
theorem rowsL_refs (l : List α) : (rowsL l).refs = [] := mapenc_refs l
theorem cellsL_nil : cellsL ([] : List α) = [] := rfl
theorem cellsL_cons (x : α) (l : List α) : cellsL (x :: l) = cellsE x ++ cellsL l := by simp [cellsL]
theorem cellsL_append (l m : List α) : cellsL (l ++ m) = cellsL l ++ cellsL m := by simp [cellsL]
theorem cellsL_one (x : α) : cellsL [x] = cellsE x := by simp [cellsL]
theorem cellsL_length (l : List α) : (cellsL l).length = l.length * Enc.w α := by
  induction l with
  | nil => simp [cellsL]
  | cons x l ih => rw [cellsL_cons, List.length_append, cellsE_length, ih, List.length_cons, Nat.add_mul]; omega
theorem cellsL_all (l : List α) : (cellsL l).all (·.cell) = true := by
  induction l with
  | nil => rfl
  | cons x l ih => rw [cellsL_cons, List.all_append, cellsE_all, ih]; rfl
theorem cellsL_refs (l : List α) : refsAll (cellsL l) = [] := refsAll_nil fun d hd => by
  obtain ⟨x, _, hd⟩ := List.mem_flatMap.1 hd
  obtain ⟨v, hv, rfl⟩ := List.mem_map.1 hd; rfl
theorem cellsL_flat (l : List α) : flatAll (cellsL l) = true := by
  have : cellsL l = (l.flatMap Enc.vals).map .v := by simp only [cellsL, List.map_flatMap]; rfl
  rw [this]; exact flat_v _
theorem cellsL_drop : ∀ (k : Nat) (l : List α), (cellsL l).drop (k * Enc.w α) = cellsL (l.drop k)
  | 0, l => by simp
  | k + 1, [] => by simp [cellsL]
  | k + 1, x :: l => by
    rw [cellsL_cons, Nat.add_mul, Nat.one_mul, Nat.add_comm, ← List.drop_drop, ← cellsE_length x, List.drop_left, cellsE_length, cellsL_drop k l, List.drop_succ_cons]
theorem cellsL_take : ∀ (k : Nat) (l : List α), (cellsL l).take (k * Enc.w α) = cellsL (l.take k)
  | 0, l => by simp [cellsL]
  | k + 1, [] => by simp [cellsL]
  | k + 1, x :: l => by
    have h : (k + 1) * Enc.w α = (cellsE x).length + k * Enc.w α := by rw [cellsE_length, Nat.add_mul]; omega
    rw [cellsL_cons, h, List.take_length_add_append, cellsL_take k l, List.take_succ_cons, cellsL_cons]
theorem cellsL_rows : ∀ (n : Nat) (l : List α), n ≤ l.length → rowsD (Enc.ag α) (Enc.w α) n (cellsL l) = (l.take n).map enc
  | 0, l, _ => by simp [rowsD]
  | n + 1, [], h => by simp at h
  | n + 1, x :: l, h => by
    have h1 : (cellsL (x :: l)).take (Enc.w α) = cellsE x := by rw [cellsL_cons, ← cellsE_length x, List.take_left]
    have h2 : (cellsL (x :: l)).drop (Enc.w α) = cellsL l := by rw [cellsL_cons, ← cellsE_length x, List.drop_left]
    simp only [rowsD, h1, h2, cellsL_rows n l (by simpa using h), List.take_succ_cons, List.map_cons, List.cons.injEq, and_true]
    cases ha : Enc.ag α with
    | true => rw [if_pos rfl, enc_agg ha]
    | false =>
      obtain ⟨v, _, h3, h4⟩ := enc_one ha x
      rw [cellsL_cons, h3, h4]; rfl
theorem cellsL_at {l : List α} {j : Nat} {x : α} (h : l[j]? = some x) : (cellsL l).drop (j * Enc.w α) = cellsE x ++ cellsL (l.drop (j + 1)) := by
  obtain ⟨hl, he⟩ := List.getElem?_eq_some_iff.1 h
  rw [cellsL_drop, List.drop_eq_getElem_cons hl, he, cellsL_cons]
theorem cellsL_set {l : List α} {j : Nat} (y : α) (h : j < l.length) : over (cellsL l) (j * Enc.w α) (cellsE y) = cellsL (l.set j y) := by
  unfold over
  have hset : l.set j y = l.take j ++ y :: l.drop (j + 1) := by rw [List.set_eq_take_append_cons_drop, if_pos h]
  rw [cellsL_take, cellsE_length, show j * Enc.w α + Enc.w α = (j + 1) * Enc.w α by rw [Nat.add_mul]; omega, cellsL_drop, hset, cellsL_append, cellsL_cons, List.append_assoc]
/-- The facts of a type of such data. -/
structure ETy (P : Program) (e : TypeId) (α : Type) [Enc α] : Prop where
  size : tsize P e = some (Enc.w α)
  agg : isAggT P e = some (Enc.ag α)
  aggB : isAggB P e = Enc.ag α
section
variable {E : Env} {P : Program} {look : Nat → Option DObj} {base : Nat} {t e : TypeId} {l : List α} {x : α}
theorem len_rowsL (hu : P.underlying t = some (.slice e)) : opLen P look t (rowsL l) = some { val := .v (.int .i64 l.length) } := by simp [rowsL, opLen, hu]
theorem len_refL {id n : Nat} (hu : P.underlying t = some (.slice e)) : opLen P look t (refL α id n) = some { val := .v (.int .i64 n) } := by simp [refL, opLen, hu]
theorem idx_rowsL {k : IntKind} {i : Int} (hu : P.underlying t = some (.slice e)) (he : ETy P e α) (h0 : 0 ≤ i) (hx : l[i.toNat]? = some x) : opIndexAddr P t (rowsL l) (.v (.int k i)) = some { val := .eaddr (cellsE x) } := by
  have : (l.map enc)[i.toNat]? = some (enc x) := by rw [List.getElem?_map, hx]; rfl
  simp [rowsL, opIndexAddr, hu, he.size, h0, this, enc_dcells]
theorem idx_refL {id n : Nat} {k : IntKind} {i : Int} (hu : P.underlying t = some (.slice e)) (he : ETy P e α) (h0 : 0 ≤ i) (h1 : i < n) : opIndexAddr P t (refL α id n) (.v (.int k i)) = some { val := ptrL α id i.toNat } := by
  simp [refL, opIndexAddr, hu, he.size, h0, h1, ptrL]
theorem loadE (he : ETy P e α) {cs : List D} {d : D} (h : rowAt look d = some cs) (hx : cs.take (Enc.w α) = cellsE x) : opLoad P look e d = some { val := enc x } := by
  unfold opLoad
  rw [h]
  have hlen : Enc.w α ≤ cs.length := by
    have := congrArg List.length hx
    rw [cellsE_length, List.length_take] at this; omega
  cases ha : Enc.ag α with
  | true => simp [loadD, he.agg, he.size, ha, hlen, hx, enc_agg ha]
  | false =>
    obtain ⟨v, _, h3, h4⟩ := enc_one ha x
    have hp : 0 < Enc.w α := Enc.pos
    have : cs[0]? = some (.v v) := by
      have := congrArg (·[0]?) hx
      rw [h3] at this
      simp [List.getElem?_take] at this
      exact this.2
    simp [loadD, he.agg, he.size, ha, this, h4]
theorem load_eaddrE (he : ETy P e α) : opLoad P look e (.eaddr (cellsE x)) = some { val := enc x } := loadE he (cs := cellsE x) rfl (by rw [← cellsE_length x, List.take_length])
theorem load_ptrL {id j : Nat} {s : Bool} (he : ETy P e α) (h : look id = some (.cells (cellsL l) s)) (hx : l[j]? = some x) : opLoad P look e (ptrL α id j) = some { val := enc x } := by
  refine loadE he (cs := cellsE x ++ cellsL (l.drop (j + 1))) ?_ (by rw [← cellsE_length x, List.take_left])
  rw [← cellsL_at hx]
  simp [ptrL, rowAt, h]
theorem store_ptrL {id j : Nat} {y : α} (he : ETy P e α) (h : look id = some (.cells (cellsL l) false)) (hj : j < l.length) : opStore P look e (ptrL α id j) (enc y) = some { val := .v undef, upd := [(id, some (.cells (cellsL (l.set j y)) false))] } := by
  have hlen : j * Enc.w α + Enc.w α ≤ (cellsL l).length := by
    rw [cellsL_length]
    have : (j + 1) * Enc.w α ≤ l.length * Enc.w α := Nat.mul_le_mul_right _ hj
    rw [Nat.add_mul] at this; omega
  simp [ptrL, opStore, h, enc_dcells, he.size, cellsE_length, hlen, cellsL_set y hj]
theorem take_refL {id n k : Nat} (hu : P.underlying t = some (.slice e)) (he : ETy P e α) (h : k ≤ n) : opSlice P t (refL α id n) none (some (.v (.int .i64 (k : Int)))) = some { val := refL α id k } := by
  simp [refL, opSlice, hu, he.size, boundD, h]
theorem take_rowsL {k : Nat} (hu : P.underlying t = some (.slice e)) (he : ETy P e α) (h : k ≤ l.length) : opSlice P t (rowsL l) none (some (.v (.int .i64 (k : Int)))) = some { val := rowsL (l.take k) } := by
  simp [rowsL, opSlice, hu, he.size, boundD, h]
theorem drop_rowsL {k : Nat} (hu : P.underlying t = some (.slice e)) (he : ETy P e α) (h : k ≤ l.length) : opSlice P t (rowsL l) (some (.v (.int .i64 (k : Int)))) none = some { val := rowsL (l.drop k) } := by
  have : (l.map enc).take l.length = l.map enc := by rw [List.take_of_length_le (by simp)]
  simp [rowsL, opSlice, hu, he.size, boundD, h, this]
/-- append, to an own row: what stands in an own row, or in one that is read. -/
theorem app_refL {id n : Nat} {ts tx : TypeId} {d : D} {m : List α} {bytes : Nat} {zs : List D} (hu : P.underlying ts = some (.slice e)) (hu' : P.underlying tx = some (.slice e)) (he : ETy P e α) (hb : tbytes P e = some bytes) (hz : zeroD P e = some zs) (hzl : zs.length = Enc.w α)
    (hs : srcD look (Enc.w α) d = some (m.length, cellsL m)) (h : look id = some (.cells (cellsL l) false)) (hn : n = l.length) (hm : m ≠ []) (hr : roomB bytes (l.length + m.length) = true) :
    opAppend P look base ts tx (refL α id n) d = some { val := refL α base (l.length + m.length), news := [.cells (cellsL (l ++ m)) false], upd := [(id, none)] } := by
  subst hn
  have h0 : ¬ m.length = 0 := by simpa using hm
  have ht : (cellsL l).take (l.length * Enc.w α) = cellsL l := by rw [cellsL_take, List.take_length]
  have hp : 0 < Enc.w α := Enc.pos
  simp [opAppend, hu, hu', he.size, hb, hz, hzl, hs, refL, h, h0, hr, ht, cellsL_length, hp, cellsL_append]
theorem app_nilL {ts tx : TypeId} {d : D} {m : List α} {bytes : Nat} {zs : List D} (hu : P.underlying ts = some (.slice e)) (hu' : P.underlying tx = some (.slice e)) (he : ETy P e α) (hb : tbytes P e = some bytes) (hz : zeroD P e = some zs) (hzl : zs.length = Enc.w α)
    (hs : srcD look (Enc.w α) d = some (m.length, cellsL m)) (hm : m ≠ []) (hr : roomB bytes m.length = true) :
    opAppend P look base ts tx (.v (.slice none 0 0)) d = some { val := refL α base m.length, news := [.cells (cellsL m) false] } := by
  have h0 : ¬ m.length = 0 := by simpa using hm
  have hp : 0 < Enc.w α := Enc.pos
  simp [opAppend, hu, hu', he.size, hb, hz, hzl, hs, refL, h0, hr, hp, he.aggB]
theorem src_rowsL : srcD look (Enc.w α) (rowsL l) = some (l.length, cellsL l) := by
  have h : ((l.map enc).all fun d => (dcells d).isSome) = true := by
    rw [List.all_eq_true]
    intro d hd
    obtain ⟨x, _, rfl⟩ := List.mem_map.1 hd
    rw [enc_dcells]; rfl
  have h2 : (l.map enc).flatMap D.cells = cellsL l := by
    rw [cellsL, List.flatMap_map]
    congr 1; funext x; exact enc_cells x
  simp only [rowsL, srcD, h, h2, List.length_map, and_self, if_true]
theorem src_refL {id n : Nat} {s : Bool} (h : look id = some (.cells (cellsL l) s)) (hn : n ≤ l.length) : srcD look (Enc.w α) (refL α id n) = some ((l.take n).length, cellsL (l.take n)) := by
  have h1 : n * Enc.w α ≤ (cellsL l).length := by rw [cellsL_length]; exact Nat.mul_le_mul_right _ hn
  simp [refL, srcD, h, h1, cellsL_take, hn]
end
/-! ### told anew -/
theorem ren_refL {f : Nat → Option Nat} {id n : Nat} : (refL α id n).ren f = (f id).map fun i => refL α i n := by simp only [refL, D.ren]
theorem ren_rowsL {f : Nat → Option Nat} {l : List α} : (rowsL l).ren f = some (rowsL l) := ren_norefs _ (rowsL_refs l)
theorem ren_enc {f : Nat → Option Nat} {x : α} : (enc x).ren f = some (enc x) := ren_norefs _ (enc_refs x)
theorem renO_cellsL {f : Nat → Option Nat} {l : List α} {s : Bool} : DObj.ren f (.cells (cellsL l) s) = some (.cells (cellsL l) s) := by simp only [DObj.ren, renAll_norefs _ (cellsL_refs l), Option.map_some]
theorem renO_cellsE {f : Nat → Option Nat} {x : α} {s : Bool} : DObj.ren f (.cells (cellsE x) s) = some (.cells (cellsE x) s) := by simp only [DObj.ren, renAll_norefs _ (cellsE_refs x), Option.map_some]
theorem flat_refL {id n : Nat} : (refL α id n).flat = true := rfl
theorem refs_refL {id n : Nat} : (refL α id n).refs = [id] := rfl
theorem cell_refL {id n : Nat} : (refL α id n).cell = true := rfl
theorem cell_rowsL {l : List α} : (rowsL l).cell = true := rfl
/-- A row that nobody writes any more, read. -/
theorem Wk.row {H : List (Option DObj)} {id n : Nat} {l : List α} (h : lookH H id = some (.cells (cellsL l) true)) (hn : n ≤ l.length) : Wk H (refL α id n) (rowsL (l.take n)) := fun g w y Hr r => by
  have hw : n * Enc.w α ≤ (cellsL l).length := by rw [cellsL_length]; exact Nat.mul_le_mul_right _ hn
  have h3 : Enc.ag α = true ∨ Enc.w α = 1 := by
    cases ha : Enc.ag α with
    | true => exact .inl rfl
    | false => exact .inr (Enc.one ha)
  have hp : 0 < Enc.w α := Enc.pos
  have hl : lend (fun i => if i = id then some (cellsL l) else none) (fun _ => false) (refL α id n) = some (rowsL (l.take n)) := by
    simp [refL, lend, hw, hp, h3, cellsL_rows n l hn, rowsL]
  refine Rep.lend (g := g) (g' := g) (fun _ h => h) (fun _ _ _ h => h) (fun i cs hc x hx => ?_) _ _ _ hl r
  by_cases hi : i = id
  · rw [if_pos hi] at hc; cases hc; subst hi
    obtain ⟨b, o, sz, c, el, fr, vs, h1, h2, h3, h4, h5, h6, h7⟩ := (Hr.obj i _ h).real hx
    exact ⟨b, o, sz, vs, h1, h7, fun j v e => by simp [World.cell?, h2, h5 j v e], h6, cellsL_all l⟩
  · rw [if_neg hi] at hc; cases hc
theorem Told.nilL {p n : Nat} {T : List (Nat × D)} {H : List (Option DObj)} (α : Type) [Enc α] (t k : Nat) (h : lookT T t = some (.v (.slice none 0 0))) : Told p ⟨n, T, H⟩ ⟨n, (t, refL α k 0) :: T, H⟩ := Told.nil t k _ _ h
end
/-- A contract that hands back a row that is none. -/
theorem Fits.nilrow (α : Type) [Enc α] {P : Program} {f : FuncId} {args : List D} (h : Fits P f args (.v (.slice none 0 0)) []) : Fits P f args (refL α 0 0) [.cells (cellsL ([] : List α)) false] := by
  intro F w vals hF ha
  refine (h F w vals hF ha).mono fun e w' ⟨v, g1, he, hb, k1, k2, k3, k4, k5⟩ => ?_
  refine ⟨v, ⟨fun _ => none, g1.F, g1.K⟩, he, hb, k1, k2, (fun id b p e => by cases e), .inr ⟨rfl, none, k4⟩, ⟨fun id cs s e => ?_, fun id o e => ?_, fun id id' o o' b p q e1 e2 l1 l2 m1 m2 => (by cases m1), k5.frz, k5.keep⟩⟩
  · match id with
    | 0 => simp at e; obtain ⟨rfl, _⟩ := e; rfl
    | id + 1 => simp at e
  · match id with
    | 0 => simp at e; subst e; exact .inr ⟨rfl, rfl⟩
    | id + 1 => simp at e
instance encInt : Enc Int where
  w := 1
  ag := false
  vals n := [.int .i64 n]
  len _ := rfl
  inj x y h := by simpa using h
  cellv x v h := by simp at h; subst h; rfl
  pos := by decide
  one _ := rfl
instance encBool : Enc Bool where
  w := 1
  ag := false
  vals b := [.bool b]
  len _ := rfl
  inj x y h := by simpa using h
  cellv x v h := by simp at h; subst h; rfl
  pos := by decide
  one _ := rfl
instance encStr : Enc ByteArray where
  w := 1
  ag := false
  vals s := [.string s]
  len _ := rfl
  inj x y h := by simpa using h
  cellv x v h := by simp at h; subst h; rfl
  pos := by decide
  one _ := rfl
theorem enc_int (n : Int) : enc n = .v (.int .i64 n) := rfl
theorem enc_bool (b : Bool) : enc b = .v (.bool b) := rfl
theorem enc_str (s : ByteArray) : enc s = .v (.string s) := rfl
theorem cellsE_int (n : Int) : cellsE n = [.v (.int .i64 n)] := rfl
theorem cellsE_bool (b : Bool) : cellsE b = [.v (.bool b)] := rfl
theorem cellsE_str (s : ByteArray) : cellsE s = [.v (.string s)] := rfl

/-! ### contracts as a list -/
structure Ctr (P : Program) where
  f : FuncId
  A : Type
  pre : A → Prop
  args : A → List D
  res : A → D
  objs : A → List DObj
  inj : ∀ a b, args a = args b → res a = res b ∧ objs a = objs b
  enter : Enter P f
  fits : ∀ a, pre a → Fits P f (args a) (res a) (objs a)
structure CtrW (P : Program) where
  f : FuncId
  A : Type
  pre : A → Prop
  oi : A → List DObj
  args : A → List D
  res : A → D
  oo : A → List (Option DObj)
  news : A → List DObj
  inj : ∀ a b, oi a = oi b → args a = args b → res a = res b ∧ oo a = oo b ∧ news a = news b
  enter : Enter P f
  fits : ∀ a, pre a → FitsW P f (oi a) (args a) (res a) (oo a) (news a)
section
open Classical
variable {P : Program}
noncomputable def callL : List (Ctr P) → FuncId → List D → Option (D × List DObj)
  | [], _, _ => none
  | c :: r, f, ds => if c.f = f then (if h : ∃ a, c.pre a ∧ c.args a = ds then some (c.res h.choose, c.objs h.choose) else none) else callL r f ds
noncomputable def callWL : List (CtrW P) → FuncId → List DObj → List D → Option (D × List (Option DObj) × List DObj)
  | [], _, _, _ => none
  | c :: r, f, oi, ds => if c.f = f then (if h : ∃ a, c.pre a ∧ c.oi a = oi ∧ c.args a = ds then some (c.res h.choose, c.oo h.choose, c.news h.choose) else none) else callWL r f oi ds
noncomputable def envOf (P : Program) (l : List (Ctr P)) (m : List (CtrW P)) : Env := { P := P, call := callL l, callW := callWL m, isW := fun f => m.any fun c => c.f == f }
theorem envOf_ok (l : List (Ctr P)) (m : List (CtrW P)) : (envOf P l m).ok := by
  refine ⟨fun f args d objs h => ?_, fun f oi args d oo news h => ?_⟩
  · have h : callL l f args = some (d, objs) := h
    show Enter P f ∧ Fits P f args d objs
    induction l with
    | nil => cases h
    | cons c r ih =>
      simp only [callL] at h
      split at h
      · rename_i hf
        split at h
        · rename_i hx
          cases h
          obtain ⟨h1, h2⟩ := hx.choose_spec
          subst hf
          refine ⟨c.enter, ?_⟩
          have := c.fits _ h1
          rw [h2] at this; exact this
        · cases h
      · exact ih h h
  · have h : callWL m f oi args = some (d, oo, news) := h
    show Enter P f ∧ FitsW P f oi args d oo news
    induction m with
    | nil => cases h
    | cons c r ih =>
      simp only [callWL] at h
      split at h
      · rename_i hf
        split at h
        · rename_i hx
          cases h
          obtain ⟨h1, h2, h3⟩ := hx.choose_spec
          subst hf
          refine ⟨c.enter, ?_⟩
          have := c.fits _ h1
          rw [h2, h3] at this; exact this
        · cases h
      · exact ih h h
theorem envOf_P {l : List (Ctr P)} {m : List (CtrW P)} : (envOf P l m).P = P := rfl
theorem callL_here {c : Ctr P} {r : List (Ctr P)} {f : FuncId} (hf : c.f = f) {a : c.A} (hp : c.pre a) : callL (c :: r) f (c.args a) = some (c.res a, c.objs a) := by
  simp only [callL, if_pos hf]
  have hx : ∃ b, c.pre b ∧ c.args b = c.args a := ⟨a, hp, rfl⟩
  rw [dif_pos hx]
  obtain ⟨h1, h2⟩ := hx.choose_spec
  obtain ⟨h3, h4⟩ := c.inj _ _ h2
  rw [h3, h4]
theorem callL_there {c : Ctr P} {r : List (Ctr P)} {f : FuncId} {ds : List D} (hf : ¬ c.f = f) : callL (c :: r) f ds = callL r f ds := by simp only [callL, if_neg hf]
theorem callWL_here {c : CtrW P} {r : List (CtrW P)} {f : FuncId} (hf : c.f = f) {a : c.A} (hp : c.pre a) : callWL (c :: r) f (c.oi a) (c.args a) = some (c.res a, c.oo a, c.news a) := by
  simp only [callWL, if_pos hf]
  have hx : ∃ b, c.pre b ∧ c.oi b = c.oi a ∧ c.args b = c.args a := ⟨a, hp, rfl, rfl⟩
  rw [dif_pos hx]
  obtain ⟨h1, h2, h3⟩ := hx.choose_spec
  obtain ⟨h4, h5, h6⟩ := c.inj _ _ h2 h3
  rw [h4, h5, h6]
theorem callWL_there {c : CtrW P} {r : List (CtrW P)} {f : FuncId} {oi : List DObj} {ds : List D} (hf : ¬ c.f = f) : callWL (c :: r) f oi ds = callWL r f oi ds := by simp only [callWL, if_neg hf]
/-- The first contract of a function. -/
def HasC (l : List (Ctr P)) (f : FuncId) (c : Ctr P) : Prop := ∀ ds, callL l f ds = callL [c] f ds
theorem HasC.here {c : Ctr P} {r : List (Ctr P)} {f : FuncId} (hf : c.f = f) : HasC (c :: r) f c := fun ds => by simp only [callL, if_pos hf]
theorem HasC.there {c c' : Ctr P} {r : List (Ctr P)} {f : FuncId} (hf : (c.f == f) = false) (h : HasC r f c') : HasC (c :: r) f c' := fun ds => by rw [callL_there (by simpa using hf)]; exact h ds
end
/-- A value, lent. -/
def Lent (look : Nat → Option DObj) (d d' : D) : Prop := ∀ L : Nat → Bool, (∀ i ∈ d.refs, L i = true) → lend (lentC look L 6) (fun _ => false) d = some d'
def Lents (look : Nat → Option DObj) : List D → List D → Prop
  | [], ds' => ds' = []
  | d :: ds, ds' => ∃ d' r', ds' = d' :: r' ∧ Lent look d d' ∧ Lents look ds r'
theorem Lent.plain {look : Nat → Option DObj} {d : D} (h : d.refs = []) : Lent look d d := fun L _ => lend_norefs d h
theorem Lent.refL {α : Type} [Enc α] {look : Nat → Option DObj} {id n : Nat} {l : List α} {s : Bool} (h : look id = some (.cells (cellsL l) s)) (hn : n ≤ l.length) : Lent look (refL α id n) (rowsL (l.take n)) := fun L hL => by
  have hL : L id = true := hL id (by simp [YtjmhioacbpgalaaDoorV.refL, D.refs])
  have hw : n * Enc.w α ≤ (cellsL l).length := by rw [cellsL_length]; exact Nat.mul_le_mul_right _ hn
  have h3 : Enc.ag α = true ∨ Enc.w α = 1 := by
    cases ha : Enc.ag α with
    | true => exact .inl rfl
    | false => exact .inr (Enc.one ha)
  have hp : 0 < Enc.w α := Enc.pos
  simp [YtjmhioacbpgalaaDoorV.refL, lend, lentC, hL, h, lendAll_norefs _ (cellsL_refs l), hw, hp, h3, cellsL_rows n l hn, rowsL]
theorem lents_all {look : Nat → Option DObj} {L : Nat → Bool} : ∀ {ds ds' : List D}, Lents look ds ds' → (∀ i ∈ refsAll ds, L i = true) → lendAll (lentC look L 6) (fun _ => false) ds = some ds'
  | [], _, h, _ => by cases h; rfl
  | d :: ds, _, ⟨d', r', rfl, h1, h2⟩, hL => by
    simp only [lendAll]
    rw [h1 L fun i hi => hL i (by simp [refsAll, hi]), lents_all h2 fun i hi => hL i (by simp [refsAll, hi])]; rfl
theorem closeL_sub {look : Nat → Option DObj} : ∀ (k : Nat) (l : List Nat), ∀ i ∈ l, i ∈ closeL look k l
  | 0, l, i, hi => hi
  | k + 1, [], i, hi => by simp at hi
  | k + 1, a :: l, i, hi => by simp only [closeL]; exact List.mem_append_left _ hi
theorem lents_closed {look : Nat → Option DObj} {ds ds' : List D} (h : Lents look ds ds') : lendAll (lentC look (fun i => (closeL look 6 (refsAll ds)).contains i) 6) (fun _ => false) ds = some ds' :=
  lents_all h fun i hi => by simpa using closeL_sub 6 _ i hi
section
variable {P : Program} {l : List (Ctr P)} {m : List (CtrW P)} {look : Nat → Option DObj} {base : Nat} {f : FuncId} {args : List D}
/-- A call that hands back plain values. -/
theorem call_v {c : Ctr P} (hc : HasC l f c) (hm : (m.any fun c => c.f == f) = false) (hf : c.f = f) (a : c.A) (hl : Lents look args (c.args a)) (hp : c.pre a) (ho : c.objs a = []) (hr : (c.res a).refs = []) (hfl : (c.res a).flat = true) :
    opCall (envOf P l m) look base f args = some { val := c.res a } := by
  rw [opCall_R (E := envOf P l m) hm]
  have hcall : (envOf P l m).call f (c.args a) = some (c.res a, []) := by
    show callL l f _ = _
    rw [hc, callL_here hf hp, ho]
  unfold opCallR
  simp only [lents_closed hl, hcall, ren_norefs _ hr, renObjs, hfl, List.all_nil, Bool.and_self, Bool.true_or, if_true]
/-- A call that hands back new objects. -/
theorem call_n {c : Ctr P} (hc : HasC l f c) (hm : (m.any fun c => c.f == f) = false) (hf : c.f = f) (a : c.A) (hl : Lents look args (c.args a)) (hp : c.pre a) {d' : D} {news : List DObj}
    (hr : (c.res a).ren (shiftBy (c.objs a).length base) = some d') (hn : renObjs (shiftBy (c.objs a).length base) (c.objs a) = some news) (hfl : (c.res a).flat = true) (hfo : (c.objs a).all (·.flat) = true) :
    opCall (envOf P l m) look base f args = some { val := d', news := news } := by
  rw [opCall_R (E := envOf P l m) hm]
  have hcall : (envOf P l m).call f (c.args a) = some (c.res a, c.objs a) := by
    show callL l f _ = _
    rw [hc, callL_here hf hp]
  unfold opCallR
  simp only [lents_closed hl, hcall, hr, hn, hfl, hfo, Bool.and_self, Bool.true_or, if_true]
/-- A call that hands back a row of its own. -/
theorem call_row {α : Type} [Enc α] {c : Ctr P} (hc : HasC l f c) (hm : (m.any fun c => c.f == f) = false) (hf : c.f = f) (a : c.A) {xs : List α} (hl : Lents look args (c.args a)) (hp : c.pre a) (hr : c.res a = refL α 0 xs.length) (ho : c.objs a = [.cells (cellsL xs) false]) :
    opCall (envOf P l m) look base f args = some { val := refL α base xs.length, news := [.cells (cellsL xs) false] } :=
  call_n hc hm hf a hl hp (by rw [hr, ho, ren_refL]; simp [shiftBy]) (by rw [ho]; simp only [renObjs, renO_cellsL, Option.bind_some, Option.map_some]) (by rw [hr]; rfl) (by rw [ho]; simp only [List.all_cons, List.all_nil, Bool.and_true, DObj.flat, cellsL_flat, Bool.not_false])
end
/-- A store, where it goes to a place that is told. -/
def storeK (look : Option DObj) (id off : Nat) (ds : Option (List D)) (n : Option Nat) : Option Res :=
  match look with
  | some (.cells cs false) => match ds, n with
    | some ds, some n => if ds.length = n ∧ off + n ≤ cs.length then some { val := .v undef, upd := [(id, some (.cells (over cs off ds) false))] } else none
    | _, _ => none
  | _ => none
theorem opStore_ptr {P : Program} {look : Nat → Option DObj} {t : TypeId} {id off : Nat} {y : D} : opStore P look t (.ptr id off) y = storeK (look id) id off (dcells y) (tsize P t) := by
  unfold opStore storeK
  dsimp only
  generalize look id = o
  cases o with
  | none => rfl
  | some o => cases o <;> first | rfl | (rename_i cs s; cases s <;> rfl)
theorem pick_tt {c : Bool} : (if c = true then true else true) = true := by cases c <;> rfl
attribute [go_sem] enc_int enc_bool enc_str cellsE_int cellsE_bool cellsE_str opStore_ptr storeK over Int.toNat_natCast Int.natCast_nonneg true_and and_true and_self List.take_succ_cons List.take_zero Nat.le_refl Nat.one_mul Nat.one_ne_zero opMax opLookup_eq opMapUpdate_eq mapD List.length_map opMakeMap opExtract if_true if_false
end Go.Proofs.YtjmhioacbpgalaaDoorV
