/- Data of a claim, read: what an argument stands for, by its type. -/
import Derived.Test.YtjmhioacbpgalaaDoorVL
import Derived.ChangeArms
import Derived.OpenShut
namespace Go.Proofs.YtjmhioacbpgalaaDoorV
open Go Go.RowKit
set_option linter.unusedVariables false
set_option linter.unusedSimpArgs false

mutual
/-- Types of arguments. -/
inductive Ty where
  | int (k : IntKind)
  | bool
  | str
  | slice (e : Ty)
  | st (fs : Tys)
inductive Tys where
  | nil
  | cons (t : Ty) (r : Tys)
end
mutual
def Ty.T : Ty → Type
  | .int _ => Int
  | .bool => Bool
  | .str => ByteArray
  | .slice e => List e.T
  | .st fs => fs.T
def Tys.T : Tys → Type
  | .nil => Unit
  | .cons t .nil => t.T
  | .cons t r => t.T × r.T
end
mutual
def Ty.width : Ty → Nat
  | .st fs => fs.width
  | _ => 1
def Tys.width : Tys → Nat
  | .nil => 0
  | .cons t r => t.width + r.width
end
mutual
/-- What a value stands for. -/
def Ty.enc : (t : Ty) → t.T → D
  | .int k, n => .v (.int k n)
  | .bool, b => .v (.bool b)
  | .str, s => .v (.string s)
  | .slice e, l => .sl e.width (List.map e.enc l)
  | .st fs, x => .agg (fs.cells x)
def Tys.cells : (t : Tys) → t.T → List D
  | .nil, _ => []
  | .cons t .nil, x => (t.enc x).cells
  | .cons t (.cons u r), x => (t.enc x.1).cells ++ (Tys.cons u r).cells x.2
end
mutual
/-- What a reading knows besides: numbers of their kinds, lengths below the greatest. -/
def Ty.wf : (t : Ty) → t.T → Prop
  | .int k, n => (Lit.int k n).wf = true
  | .bool, _ => True
  | .str, s => s.size ≤ maxLen
  | .slice e, l => List.length (α := e.T) l ≤ maxLen ∧ ∀ x : e.T, List.Mem x l → e.wf x
  | .st fs, x => fs.wf x
def Tys.wf : (t : Tys) → t.T → Prop
  | .nil, _ => True
  | .cons t .nil, x => t.wf x
  | .cons t (.cons u r), x => t.wf x.1 ∧ (Tys.cons u r).wf x.2
end
mutual
/-- Is a type of the program one of these? -/
def Ty.fit (P : Program) : Ty → TypeId → Bool
  | .int k, t => (match P.underlying t with | some (.int k') => k' == k | _ => false) && P.cellsOf t == 1
  | .bool, t => (match P.underlying t with | some .bool => true | _ => false) && P.cellsOf t == 1
  | .str, t => (match P.underlying t with | some .string => true | _ => false) && P.cellsOf t == 1
  | .slice e, t => (match P.underlying t with | some (.slice u) => e.fit P u && (P.cellsOf u == e.width) && Nat.blt 0 e.width | _ => false) && P.cellsOf t == 1
  | .st fs, t => match P.underlying t with | some (.struct gs) => fs.fit P 0 gs.toList && P.cellsOf t == fs.width | _ => false
def Tys.fit (P : Program) : Tys → Nat → List Field → Bool
  | .nil, _, [] => true
  | .cons t r, o, f :: fs => t.fit P f.type && f.offset == o && P.cellsOf f.type == t.width && r.fit P (o + t.width) fs
  | _, _, _ => false
end
section
variable {H : Type} {enc : TypeId × Value → H} {P : Program} {W : World} {sp : Nat → Bool} {held : Bool}

theorem mapM_get {α β : Type} {f : α → Option β} {l : List α} {r : List β} (h : l.mapM f = some r) (j : Nat) (a : α) (e : l[j]? = some a) : f a = r[j]? := by
  induction l generalizing r j with
  | nil => simp at e
  | cons x l ih =>
    rw [List.mapM_cons] at h
    cases hx : f x with
    | none => rw [hx] at h; cases h
    | some b =>
      rw [hx] at h
      cases hl : l.mapM f with
      | none => rw [hl] at h; cases h
      | some bs =>
        rw [hl] at h
        cases h
        cases j with
        | zero => simp at e; subst e; simpa using hx
        | succ j => simpa using ih hl j (by simpa using e)
theorem cells_at {a : Addr} {n : Nat} {cs : List Value} (h : W.cells? 0 a n = some cs) : cs.length = n ∧ (0 < n → a.spot = none ∧ a.block < W.heap.size) ∧ (a.spot = none → At W a.block a.off cs) := by
  unfold World.cells? at h
  rw [if_pos (Nat.zero_le _)] at h
  have hl : cs.length = n := by have := mapM_some_length h; simpa using this
  have hg : ∀ i, i < n → W.cell? (a.add i) = cs[i]? := fun i hi => mapM_get h i i (by simp [hi])
  refine ⟨hl, fun hn => ?_, fun hs j v e => ?_⟩
  · have h0 := hg 0 hn
    have : a.add 0 = a := by unfold Addr.add; rw [if_pos rfl]
    rw [this, List.getElem?_eq_getElem (by omega)] at h0
    unfold World.cell? at h0
    split at h0
    · rename_i c el fr hb
      refine ⟨?_, (Array.getElem?_eq_some_iff.1 hb).1⟩
      cases hsp : a.spot with
      | none => rfl
      | some s => rw [hsp] at h0; simp at h0
    · cases h0
  · have hj : j < n := by rw [← hl]; exact (List.getElem?_eq_some_iff.1 e).1
    have := hg j hj
    rw [e] at this
    have ha : a.add j = ⟨a.block, a.off + j, none⟩ := by
      obtain ⟨b, o, s⟩ := a
      cases hs
      exact add_none b o j
    rwa [ha] at this

theorem enc_cells_one {t : Ty} (h : ∀ fs, t ≠ .st fs) (x : t.T) : (t.enc x).cells = [t.enc x] := by
  cases t <;> first | rfl | exact absurd rfl (h _)

/-- All that there is. -/
def allG (m : Nat → Option (Nat × Nat × Nat)) (W : World) (K : Nat → Prop) : G := ⟨m, fun b => b < W.heap.size, K⟩

theorem rows_of {t : Ty} {e : TypeId} {m : Nat → Option (Nat × Nat × Nat)} {K : Nat → Prop} {a : Addr} (hs : a.spot = none) (hw : P.cellsOf e = t.width) {fuel : Nat}
    (ih : ∀ (cs : List Value) (x : DataW H × List MemPlace), DataW.trod enc P W 0 sp held fuel e cs = some x → ∃ y : t.T, RepAll (allG m W K) W (t.enc y).cells cs ∧ t.wf y) :
    ∀ (len k : Nat) (elems : List (DataW H × List MemPlace)), elems.length = k + len → (∀ i, i < k + len → (W.cells? 0 (a.add (i * P.cellsOf e)) (P.cellsOf e)).bind (DataW.trod enc P W 0 sp held fuel e) = elems[i]?) →
    ∃ l : List t.T, l.length = len ∧ (∀ x ∈ l, t.wf x) ∧ RepRows (allG m W K) W a.block t.width (l.map t.enc) (a.off + k * t.width)
  | 0, k, elems, _, _ => ⟨[], rfl, fun x hx => by simp at hx, trivial⟩
  | len + 1, k, elems, hl, h => by
    have h0 := h k (by omega)
    rw [List.getElem?_eq_getElem (by omega)] at h0
    obtain ⟨cs, hc, ht⟩ := Option.bind_eq_some_iff.1 h0
    obtain ⟨y, hy, hwf⟩ := ih cs _ ht
    obtain ⟨l, l1, l2, l3⟩ := rows_of hs hw ih len (k + 1) elems (by omega) (fun i hi => h i (by omega))
    obtain ⟨c1, c2, c3⟩ := cells_at hc
    have hadd : a.add (k * P.cellsOf e) = ⟨a.block, a.off + k * t.width, none⟩ := by
      obtain ⟨b, o, s⟩ := a
      cases hs
      rw [hw]; exact add_none b o _
    have hat : At W a.block (a.off + k * t.width) cs := by
      have := c3 (by rw [hadd])
      rwa [hadd] at this
    refine ⟨y :: l, by simp [l1], fun x hx => by
      rcases List.mem_cons.1 hx with rfl | hx
      · exact hwf
      · exact l2 x hx, ?_⟩
    rw [List.map_cons]
    refine ⟨?_, by rw [show a.off + k * t.width + t.width = a.off + (k + 1) * t.width by rw [Nat.add_mul]; omega]; exact l3⟩
    -- the value whose cells these are
    by_cases hst : ∃ fs, t = .st fs
    · obtain ⟨fs, rfl⟩ := hst
      refine ⟨.agg cs.toArray, ⟨cs, rfl, hy⟩, ?_, ?_⟩
      · show cs.toArray.size = _
        simp [c1, hw]
      · show At W a.block _ cs.toArray.toList
        simpa using hat
    · have hone : (t.enc y).cells = [t.enc y] := enc_cells_one (fun fs e => hst ⟨fs, e⟩) y
      rw [hone] at hy
      obtain ⟨v, rfl, hv⟩ := repAll1 hy
      have hcell : (t.enc y).cell = true := by cases t <;> first | rfl | exact absurd ⟨_, rfl⟩ hst
      have hne := (D.cell_ne hcell hv).1
      have hvc : v.cells = #[v] := by cases v <;> first | rfl | exact absurd rfl (hne _)
      refine ⟨v, hv, by rw [hvc]; simp at c1; rw [hw] at c1; simp [c1], by rw [hvc]; exact hat⟩

theorem tys_cells {t : Ty} {r : Tys} {P : Program} {W : World} {g : G} {x : t.T} {cs ds : List Value} (h1 : RepAll g W (t.enc x).cells cs) (z : r.T) (h2 : RepAll g W (r.cells z) ds) : ∃ y : (Tys.cons t r).T, RepAll g W ((Tys.cons t r).cells y) (cs ++ ds) ∧ (t.wf x → r.wf z → (Tys.cons t r).wf y) := by
  cases r with
  | nil =>
    have h2 : ds = [] := h2
    subst h2
    exact ⟨x, by rw [List.append_nil]; exact h1, fun h _ => h⟩
  | cons u r => exact ⟨(x, z), h1.append h2, fun h k => ⟨h, k⟩⟩

mutual
/-- What is read stands for something of its type. -/
theorem Ty.read {m : Nat → Option (Nat × Nat × Nat)} {K : Nat → Prop} : ∀ (t : Ty) (u : TypeId), t.fit P u = true → ∀ (fuel : Nat) (cs : List Value) (x : DataW H × List MemPlace), DataW.trod enc P W 0 sp held fuel u cs = some x →
    ∃ y : t.T, RepAll (allG m W K) W (t.enc y).cells cs ∧ t.wf y
  | .int k, u, hf, fuel, cs, x, h => by
    simp only [Ty.fit, Bool.and_eq_true] at hf
    obtain ⟨hf, _⟩ := hf
    split at hf
    · rename_i k' hu
      have : k' = k := by simpa using hf
      subst this
      obtain ⟨n, rfl, _, hw⟩ := DataW.trod_int hu h
      exact ⟨n, ⟨_, _, rfl, rfl, rfl⟩, hw⟩
    · cases hf
  | .bool, u, hf, fuel, cs, x, h => by
    simp only [Ty.fit, Bool.and_eq_true] at hf
    obtain ⟨hf, _⟩ := hf
    split at hf
    · rename_i hu
      obtain ⟨b, rfl, _⟩ := DataW.trod_bool hu h
      exact ⟨b, ⟨_, _, rfl, rfl, rfl⟩, trivial⟩
    · cases hf
  | .str, u, hf, fuel, cs, x, h => by
    simp only [Ty.fit, Bool.and_eq_true] at hf
    obtain ⟨hf, _⟩ := hf
    split at hf
    · rename_i hu
      obtain ⟨s, rfl, _, hw⟩ := DataW.trod_string hu h
      exact ⟨s, ⟨_, _, rfl, rfl, rfl⟩, hw⟩
    · cases hf
  | .slice e, u, hf, fuel, cs, x, h => by
    simp only [Ty.fit, Bool.and_eq_true] at hf
    obtain ⟨hf, _⟩ := hf
    split at hf
    · rename_i v hu
      simp only [Bool.and_eq_true] at hf
      obtain ⟨⟨hfe, hw⟩, hpos⟩ := hf
      have hw : P.cellsOf v = e.width := by simpa using hw
      have hpos : 0 < e.width := by simpa using hpos
      rcases DataW.trod_slice hu h with ⟨rfl, _⟩ | ⟨a, len, cap, elems, rest, n, rfl, rfl, _, _, hlc, hcm, hel, hget, _⟩
      · exact ⟨([] : List e.T), ⟨_, _, rfl, .inr ⟨⟨none, 0, rfl, fun _ => rfl⟩, rfl⟩, rfl⟩, by simp [Ty.wf], fun x hx => by cases hx⟩
      · cases len with
        | zero => exact ⟨([] : List e.T), ⟨_, _, rfl, .inr ⟨⟨some a, cap, rfl, fun h => by cases h⟩, rfl⟩, rfl⟩, by simp [Ty.wf], fun x hx => by cases hx⟩
        | succ len =>
          have h0 := hget 0 (by omega)
          rw [List.getElem?_eq_getElem (by omega)] at h0
          obtain ⟨c0, hc0, _⟩ := Option.bind_eq_some_iff.1 h0
          obtain ⟨_, c2, _⟩ := cells_at hc0
          obtain ⟨hs, hb⟩ := c2 (by omega)
          have hs : a.spot = none := by
            unfold Addr.add at hs; split at hs
            · exact hs
            · rename_i hn; exact absurd (Nat.zero_mul _) hn
          have hb : a.block < W.heap.size := by
            unfold Addr.add at hb; split at hb <;> exact hb
          obtain ⟨l, l1, l2, l3⟩ := rows_of (m := m) (K := K) hs hw (fun cs x hx => Ty.read e v hfe n cs x hx) (len + 1) 0 elems (by omega) (fun i hi => hget i (by omega))
          have ha : a = ⟨a.block, a.off, none⟩ := by obtain ⟨b, o, s⟩ := a; cases hs; rfl
          refine ⟨l, ⟨_, _, rfl, .inl ⟨a.block, a.off, cap, ?_, ?_, hb, ?_⟩, rfl⟩, ?_, l2⟩
          · rw [List.length_map, l1, ← ha]
          · rw [List.length_map, l1]; exact hlc
          · rw [Nat.zero_mul, Nat.add_zero] at l3; exact l3
          · show List.length l ≤ maxLen
            omega
    · cases hf
  | .st fs, u, hf, fuel, cs, x, h => by
    simp only [Ty.fit] at hf
    split at hf
    · rename_i gs hu
      simp only [Bool.and_eq_true] at hf
      obtain ⟨hf, hw⟩ := hf
      have hw : P.cellsOf u = fs.width := by simpa using hw
      obtain ⟨xs, n, rfl, rfl, hl, hxl, hget⟩ := DataW.trod_struct hu h
      obtain ⟨y, y1, y2⟩ := Tys.read (m := m) (K := K) fs 0 gs.toList hf n cs xs (by rw [hl, hw]; omega) (by simpa using hxl) (fun i f hi => hget i f (by simpa using hi))
      have y1 : RepAll (allG m W K) W (fs.cells y) cs := by simpa using y1
      exact ⟨y, y1, y2⟩
    · cases hf
theorem Tys.read {m : Nat → Option (Nat × Nat × Nat)} {K : Nat → Prop} : ∀ (ts : Tys) (o : Nat) (fs : List Field), ts.fit P o fs = true → ∀ (fuel : Nat) (cs : List Value) (xs : List (DataW H × List MemPlace)), cs.length = o + ts.width → xs.length = fs.length →
    (∀ (i : Nat) (f : Field), fs[i]? = some f → DataW.trod enc P W 0 sp held fuel f.type ((cs.drop f.offset).take (P.cellsOf f.type)) = xs[i]?) →
    ∃ y : ts.T, RepAll (allG m W K) W (ts.cells y) (cs.drop o) ∧ ts.wf y
  | .nil, o, [], hf, fuel, cs, xs, hl, _, _ => ⟨(), by
      have : cs.drop o = [] := List.drop_eq_nil_of_le (by rw [hl]; exact Nat.le_refl _)
      rw [this]; rfl, trivial⟩
  | .nil, o, f :: fs, hf, fuel, cs, xs, hl, _, _ => by simp [Tys.fit] at hf
  | .cons t r, o, [], hf, fuel, cs, xs, hl, _, _ => by simp [Tys.fit] at hf
  | .cons t r, o, f :: fs, hf, fuel, cs, xs, hl, hx, hget => by
    simp only [Tys.fit, Bool.and_eq_true] at hf
    obtain ⟨⟨⟨h1, h2⟩, h3⟩, h4⟩ := hf
    have h2 : f.offset = o := by simpa using h2
    have h3 : P.cellsOf f.type = t.width := by simpa using h3
    cases xs with
    | nil => simp at hx
    | cons x xs =>
      have h0 := hget 0 f rfl
      rw [h2, h3] at h0
      have h0 : DataW.trod enc P W 0 sp held fuel f.type ((cs.drop o).take t.width) = some x := h0
      obtain ⟨y, y1, y2⟩ := Ty.read (m := m) (K := K) t f.type h1 fuel _ x h0
      have hl' : cs.length = o + t.width + r.width := by
        have : (Tys.cons t r).width = t.width + r.width := by simp only [Tys.width]
        rw [this] at hl; omega
      obtain ⟨z, z1, z2⟩ := Tys.read (m := m) (K := K) r (o + t.width) fs h4 fuel cs xs hl' (by simpa using hx) (fun i f' hi => by
        have := hget (i + 1) f' (by simpa using hi)
        simpa using this)
      obtain ⟨u, u1, u2⟩ := tys_cells (P := P) y1 z z1
      refine ⟨u, ?_, u2 y2 z2⟩
      have : cs.drop o = (cs.drop o).take t.width ++ cs.drop (o + t.width) := by
        rw [← List.drop_drop, List.take_append_drop]
      rw [this]; exact u1
end
/-- An argument that is read stands for a value of its type. -/
theorem read_arg {t : Ty} {u : TypeId} (hf : t.fit P u = true) {v : Value} {d : DataW H} {ps : List MemPlace} (h : DataW.Trod enc P W 0 sp held u v d ps) {r : Reach} {base : Nat} (hv : Value.okWide P W r base u v) {m : Nat → Option (Nat × Nat × Nat)} {K : Nat → Prop} :
    ∃ y : t.T, Rep (allG m W K) W (t.enc y) v ∧ t.wf y := by
  obtain ⟨fuel, h⟩ := h
  obtain ⟨y, h1, h2⟩ := Ty.read (m := m) (K := K) t u hf fuel _ _ h
  have one : ∀ (hne : ∀ fs, t ≠ .st fs), v.cells = #[v] → ∃ y : t.T, Rep (allG m W K) W (t.enc y) v ∧ t.wf y := fun hne hc => by
    have hone : (t.enc y).cells = [t.enc y] := enc_cells_one hne y
    rw [hone, hc] at h1
    obtain ⟨z, hz, hr⟩ := repAll1 h1
    cases hz
    exact ⟨y, hr, h2⟩
  cases t with
  | int k =>
    simp only [Ty.fit, Bool.and_eq_true] at hf
    obtain ⟨hf, _⟩ := hf
    split at hf
    · rename_i hu; obtain ⟨n, rfl⟩ := WideShapes.okWide_int hu hv; exact one (fun _ e => by cases e) rfl
    · cases hf
  | bool =>
    simp only [Ty.fit, Bool.and_eq_true] at hf
    obtain ⟨hf, _⟩ := hf
    split at hf
    · rename_i hu; obtain ⟨n, rfl⟩ := WideShapes.okWide_bool hu hv; exact one (fun _ e => by cases e) rfl
    · cases hf
  | str =>
    simp only [Ty.fit, Bool.and_eq_true] at hf
    obtain ⟨hf, _⟩ := hf
    split at hf
    · rename_i hu; obtain ⟨n, rfl⟩ := WideShapes.okWide_string hu hv; exact one (fun _ e => by cases e) rfl
    · cases hf
  | slice e =>
    simp only [Ty.fit, Bool.and_eq_true] at hf
    obtain ⟨hf, _⟩ := hf
    split at hf
    · rename_i hu; obtain ⟨_, _, _, rfl⟩ := WideShapes.okWide_slice hu hv; exact one (fun _ e => by cases e) rfl
    · cases hf
  | st fs =>
    simp only [Ty.fit] at hf
    split at hf
    · rename_i gs hu
      obtain ⟨cs, rfl, _⟩ := WideShapes.okWide_struct hu hv
      exact ⟨y, ⟨cs.toList, by simp, h1⟩, h2⟩
    · cases hf
end

def Tys.encs : (t : Tys) → t.T → List D
  | .nil, _ => []
  | .cons t .nil, x => [t.enc x]
  | .cons t (.cons u r), x => t.enc x.1 :: (Tys.cons u r).encs x.2
def Tys.fits (P : Program) : Tys → List TypeId → Bool
  | .nil, [] => true
  | .cons t r, u :: us => t.fit P u && r.fits P us
  | _, _ => false
/-- A law: true, whatever its arguments. -/
def Law (P : Program) (f : FuncId) (ts : Tys) : Prop := ∀ x : ts.T, ts.wf x → Fits P f (ts.encs x) (.v (.bool true)) []

theorem read_args {H : Type} {enc : TypeId × Value → H} {P : Program} {W : World} {sp : Nat → Bool} {held : Bool} {r : Reach} {base : Nat} {m : Nat → Option (Nat × Nat × Nat)} {K : Nat → Prop} : ∀ (ts : Tys) (us : List TypeId) (vs : List Value) (ds : List (DataW H)) (p : List MemPlace),
    ts.fits P us = true → DataW.TrodAll enc P W 0 sp held us vs ds p → (∀ (j : Nat) t v, us[j]? = some t → vs[j]? = some v → Value.okWide P W r base t v) → ∃ x : ts.T, RepAll (allG m W K) W (ts.encs x) vs ∧ ts.wf x
  | .nil, [], vs, ds, p, _, hA, _ => by
    cases vs with
    | nil => exact ⟨(), rfl, trivial⟩
    | cons v vs => cases ds <;> cases hA
  | .nil, u :: us, vs, ds, p, hf, _, _ => by cases hf
  | .cons t q, [], vs, ds, p, hf, _, _ => by cases hf
  | .cons t q, u :: us, vs, ds, p, hf, hA, hv => by
    simp only [Tys.fits, Bool.and_eq_true] at hf
    cases vs with
    | nil => cases hA
    | cons v vs =>
      cases ds with
      | nil => cases hA
      | cons d ds =>
        obtain ⟨p1, q1, h1, h2, _⟩ := hA
        obtain ⟨y, y1, y2⟩ := read_arg (m := m) (K := K) hf.1 h1 (hv 0 u v rfl rfl)
        obtain ⟨z, z1, z2⟩ := read_args q us vs ds q1 hf.2 h2 (fun j t v e1 e2 => hv (j + 1) t v (by simpa using e1) (by simpa using e2))
        cases q with
        | nil =>
          have z1 : vs = [] := z1
          subst z1
          exact ⟨y, ⟨v, [], rfl, y1, rfl⟩, y2⟩
        | cons u' q => exact ⟨(y, z), ⟨v, vs, rfl, y1, z1⟩, y2, z2⟩
theorem calls_of_law {H : Type} {enc : TypeId × Value → H} {P : Program} {f : FuncId} {ts : Tys} (h : Law P f ts) {us : List TypeId} (hf : ts.fits P us = true) {W : World} {sp : Nat → Bool} {held : Bool} {r : Reach} {base : Nat} {args : Array Value} {ds : List (DataW H)} {p : List MemPlace}
    (hA : DataW.TrodAll enc P W 0 sp held us args.toList ds p) (hv : ∀ (j : Nat) t v, us[j]? = some t → args.toList[j]? = some v → Value.okWide P W r base t v) : Calls P f args W fun e W' => e = .returned (.bool true) ∧ Below W.heap.size W W' := by
  obtain ⟨x, h1, h2⟩ := read_args (m := fun _ => none) (K := fun b => b < W.heap.size) ts us _ _ _ hf hA hv
  have := h x h2 (fun b => b < W.heap.size) W args.toList (fun _ hb => hb) h1
  rw [Array.toArray_toList] at this
  exact this.mono fun e w' ⟨v, g1, he, hb, _, _, _, hr, _⟩ => ⟨by rw [he]; exact congrArg _ hr, hb⟩
end Go.Proofs.YtjmhioacbpgalaaDoorV
