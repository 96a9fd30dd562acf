/- Operations on abstract values, more: make, lengths, conversions, functions, least and greatest. -/
import Derived.Test.YtjmhioacbpgalaaDoorV8
namespace Go.Proofs.YtjmhioacbpgalaaDoorV
open Go Go.RowKit
set_option linter.unusedVariables false
set_option linter.unusedSimpArgs false
section
variable {P : Program} {ev : Operand → Value} {g : G} {w : World} {look : Nat → Option DObj} {base : Nat}

def opMakeSlice (P : Program) (base : Nat) (t : TypeId) (l c : D) : Option Res :=
  match l, c with
  | .v (.int _ l), .v (.int _ c) =>
    match P.underlying t with
    | some (.slice e) =>
      match tsize P e, tbytes P e, zeroD P e with
      | some n, some bytes, some zs =>
        if 0 < n ∧ zs.length = n ∧ 0 < bytes ∧ 0 ≤ l ∧ l ≤ c ∧ bytes * c ≤ 281474976710656 then
          some { val := .ref base 0 l.toNat n (isAggB P e), news := [.cells (List.replicate c.toNat zs).flatten false] }
        else none
      | _, _, _ => none
    | _ => none
  | _, _ => none
theorem wrap_small {x : Int} (h0 : 0 ≤ x) (h1 : x < 9223372036854775808) : IntKind.i64.wrap x = x := by
  unfold IntKind.wrap
  simp only [IntKind.bits, IntKind.signed]
  simp
  omega
theorem opMakeSlice_sound {o : Oper} {t : TypeId} {x y : Operand} {dl dc : D} {r : Res} (hop : o.op = .makeSlice t x y) (hx : Rep g w dl (ev x)) (hy : Rep g w dc (ev y)) (h : opMakeSlice P base t dl dc = some r) (H : HeapRel g w look)
    (hm : r.news ≠ [] → g.m base = none) (hl : r.news ≠ [] → look base = none) : Ran P ev o g w look base r := by
  unfold opMakeSlice at h
  split at h
  · rename_i k1 l k2 c
    have ex : ev x = .int k1 l := hx
    have ey : ev y = .int k2 c := hy
    split at h
    · rename_i e hu
      split at h
      · rename_i n bytes zs hn hby hz
        split at h
        · rename_i hc
          obtain ⟨hn0, hzl, hb0, hl0, hlc, hroom⟩ := hc
          cases h
          obtain ⟨z, hz1, rfl, hzc⟩ := run_zero hz
          have hzs : z.cells.size = n := by simpa using hzl
          have hinfo : ∃ i, P.info? e = some i ∧ i.bytes = bytes := by
            unfold tbytes at hby
            cases hi : P.info? e with
            | none => rw [hi] at hby; cases hby
            | some i => rw [hi] at hby; cases hby; exact ⟨i, rfl, rfl⟩
          obtain ⟨inf, hi, rfl⟩ := hinfo
          have hti : ∀ w', (typeInfo e).run P w' = .ok inf w' := fun w' => by simp [typeInfo, hi]
          have hcb : c ≤ 281474976710656 := by
            have : (1 : Int) * c ≤ inf.bytes * c := Int.mul_le_mul_of_nonneg_right (by omega) (by omega)
            omega
          have hlb : (inf.bytes : Int) * l ≤ 281474976710656 := by
            have : (inf.bytes : Int) * l ≤ inf.bytes * c := Int.mul_le_mul_of_nonneg_left hlc (by omega)
            omega
          have wl : IntKind.i64.wrap l = l := wrap_small hl0 (by omega)
          have wc : IntKind.i64.wrap c = c := wrap_small (by omega) (by omega)
          have hrow := repl_flat z.cells n hzs hn0 c.toNat
          obtain ⟨g', h2⟩ := out_row (g := g) (w := w) (cs := (List.replicate c.toNat (z.cells.toList.map .v)).flatten) (vs := (List.replicate c.toNat z.cells.toList).flatten) (el := e) (d := .ref base 0 l.toNat n (isAggB P e))
            (v := .slice (some ⟨w.heap.size, 0, none⟩) l.toNat c.toNat) H (hm (by simp)) (hl (by simp)) (repl_all _ _ hzc) (by rw [map_flat, List.length_map, List.take_length]; exact RepAll.ofV _) (by rw [map_flat, List.length_map]; exact Nat.le_refl _)
            (fun g' w' e' => .inl ⟨_, _, _, _, 0, e', rfl, by omega, .inr rfl, by simp [hzs]⟩)
          refine .of_value (s := Instr.makeSlice t (ev x) (ev y)) (by simp [execOp, hop]) ⟨_, _, g', ?_, h2⟩
          have ask : ∀ (m : Nat) (w' : World), (askRoom m).run P w' = .ok () w' := fun m w' => by unfold askRoom; split <;> simp [mark, Sem.run]
          simp only [Instr.makeSlice, Sem.run_bind, run_underlying hu, Result.andThen, ex, ey, asInt, asIntOf, Sem.run_pure, hti, wl, wc]
          have hcond : ((decide (c < 0) || decide ((inf.bytes : Int) * c > 2 ^ 48)) || decide (l < 0) || decide (l > c)) = false := by
            simp; omega
          rw [if_neg (by simp; omega)]
          simp only [Sem.run_bind, ask, Result.andThen, run_sizeOf hn]
          have hnew : ((Array.range (c.toNat * n)).map (fun i => z.cells[i % z.cells.size]!)) = ((List.replicate c.toNat z.cells.toList).flatten).toArray := by
            apply Array.toList_inj.1; rw [Array.toList_map, Array.toList_range]; exact hrow
          by_cases hl0 : c.toNat * n = 0
          · have hl0' : c.toNat = 0 := by rcases Nat.mul_eq_zero.1 hl0 with h | h <;> omega
            rw [hl0', Nat.zero_mul]
            simp only [if_true, Sem.run_bind, Sem.run_pure, Result.andThen, newRow, newObj, Sem.run]
            have e0 : ∀ f : Nat → Value, (Array.range 0).map f = #[] := fun f => by apply Array.toList_inj.1; rw [Array.toList_map, Array.toList_range]; rfl
            rw [e0]; simp
          · rw [if_neg hl0]
            simp only [Sem.run_bind, hz1, Sem.run_pure, Result.andThen, newRow, newObj, Sem.run, hnew]
        · cases h
      · cases h
    · cases h
  · cases h

/-! ### lengths -/
def opLen (P : Program) (look : Nat → Option DObj) (t : TypeId) (x : D) : Option Res :=
  match x with
  | .v (.string s) => match P.underlying t with | some .string => some { val := .v (.int .i64 s.size) } | _ => none
  | .v (.slice none 0 0) => match P.underlying t with | some (.slice _) => some { val := .v (.int .i64 0) } | _ => none
  | .sl _ xs => match P.underlying t with | some (.slice _) => some { val := .v (.int .i64 xs.length) } | _ => none
  | .ref _ _ len _ _ => match P.underlying t with | some (.slice _) => some { val := .v (.int .i64 len) } | _ => none
  | .map id => match P.underlying t, look id with | some (.map _ _), some (.map es) => some { val := .v (.int .i64 es.length) } | _, _ => none
  | .v (.map none) => match P.underlying t with | some (.map _ _) => some { val := .v (.int .i64 0) } | _ => none
  | _ => none
theorem run_getObj {b : Nat} {ob : Obj} (h : w.heap[b]? = some ob) (hne : ∀ c e f, ob ≠ .cells c e f) : (getObj b).run P w = .ok ob w := by
  cases ob <;> first | exact absurd rfl (hne _ _ _) | simp [getObj, Sem.run, h]
theorem run_setObj {b : Nat} {ob ob' : Obj} (h : w.heap[b]? = some ob) (hne : ∀ c e f, ob ≠ .cells c e f) : (setObj b ob').run P w = .ok () { w with heap := w.heap.setIfInBounds b ob' } := by
  cases ob <;> first | exact absurd rfl (hne _ _ _) | simp [setObj, Sem.run, h]
theorem opLen_sound {o : Oper} {c : Call} {t : TypeId} {a : Operand} {d : D} {r : Res} (hop : o.op = .call c) (hc : c.callee = .builtin .len) (hargs : c.args = #[a]) (hty : c.argTypes = #[t])
    (ha : Rep g w d (ev a)) (h : opLen P look t d = some r) (H : HeapRel g w look) : Ran P ev o g w look base r := by
  have fin : ∀ n : Nat, r = { val := .v (.int .i64 n) } → (Builtin.len_ #[t] o.type #[ev a]).run P w = .ok (.int .i64 n) w → Ran P ev o g w look base r := fun n hr hrun => by
    subst hr
    refine .pure_value (v := .int .i64 n) ?_ H rfl
    rw [exec_builtin hop hc, hargs, hty]
    have e2 : (#[a] : Array Operand).map ev = #[ev a] := by simp
    rw [e2]
    simp only [builtin, Sem.run_bind, hrun, Result.andThen, Sem.run_pure]
  unfold opLen at h
  split at h
  · rename_i s
    split at h <;> cases h
    rename_i hu
    have e : ev a = .string s := ha
    exact fin s.size rfl (by simp [Builtin.len_, run_underlying hu, e, goInt])
  · split at h <;> cases h
    rename_i hu
    have e : ev a = .slice none 0 0 := ha
    exact fin 0 rfl (by simp [Builtin.len_, run_underlying hu, e, goInt])
  · rename_i n xs
    split at h <;> cases h
    rename_i hu
    rcases ha with ⟨b, p, cap, e, _⟩ | ⟨⟨_, _, e, _⟩, rfl⟩
    · exact fin xs.length rfl (by simp [Builtin.len_, run_underlying hu, e, goInt])
    · exact fin 0 rfl (by simp [Builtin.len_, run_underlying hu, e, goInt])
  · rename_i id off len n ag
    split at h <;> cases h
    rename_i hu
    rcases ha with ⟨b, p, sz, cap, q, _, e, _⟩ | ⟨rfl, a0, e⟩
    · exact fin len rfl (by simp [Builtin.len_, run_underlying hu, e, goInt])
    · exact fin 0 rfl (by simp [Builtin.len_, run_underlying hu, e, goInt])
  · rename_i id
    split at h <;> cases h
    rename_i es hu hl
    obtain ⟨b, p, sz, m1, e⟩ := ha
    obtain ⟨b', p', sz', ents, clock, vs, k1, k2, k3, k4, k5, k6, k7⟩ := H.obj id _ hl
    rw [m1] at k1; cases k1
    have hlen : ents.size = es.length := by have := congrArg List.length k3; simpa using this
    refine fin es.length rfl ?_
    have hg := run_getObj (P := P) k2 (by intro _ _ _ hh; cases hh)
    simp [Builtin.len_, run_underlying hu, e, hg, goInt, hlen]
  · split at h <;> cases h
    rename_i hu
    have e : ev a = .map none := ha
    exact fin 0 rfl (by simp [Builtin.len_, run_underlying hu, e, goInt])
  · cases h

/-! ### least, greatest -/
def opMin : List D → Option Res
  | [.v (.int k a), .v (.int k' b)] => some { val := .v (.int k (if b < a then b else a)) }
  | [.v (.int k a), .v (.int _ b), .v (.int _ c)] => some { val := .v (.int k (if c < (if b < a then b else a) then c else (if b < a then b else a))) }
  | _ => none
def opMax : List D → Option Res
  | [.v (.int k a), .v (.int k' b)] => some { val := .v (.int k (if b > a then b else a)) }
  | [.v (.int k a), .v (.int _ b), .v (.int _ c)] => some { val := .v (.int k (if c > (if b > a then b else a) then c else (if b > a then b else a))) }
  | _ => none
theorem repAll1 {g : G} {w : World} {d : D} {vs : List Value} (h : RepAll g w [d] vs) : ∃ y, vs = [y] ∧ Rep g w d y := by
  obtain ⟨y, ys, h1, h2, h3⟩ := h; cases h3; exact ⟨y, h1, h2⟩
theorem repAll2 {g : G} {w : World} {d e : D} {vs : List Value} (h : RepAll g w [d, e] vs) : ∃ y z, vs = [y, z] ∧ Rep g w d y ∧ Rep g w e z := by
  obtain ⟨y, ys, rfl, h2, h3⟩ := h; obtain ⟨z, rfl, h4⟩ := repAll1 h3; exact ⟨y, z, rfl, h2, h4⟩
theorem repAll3 {g : G} {w : World} {d e f : D} {vs : List Value} (h : RepAll g w [d, e, f] vs) : ∃ y z u, vs = [y, z, u] ∧ Rep g w d y ∧ Rep g w e z ∧ Rep g w f u := by
  obtain ⟨y, ys, rfl, h2, h3⟩ := h; obtain ⟨z, u, rfl, h4, h5⟩ := repAll2 h3; exact ⟨y, z, u, rfl, h2, h4, h5⟩
theorem opMin_sound {o : Oper} {c : Call} {ds : List D} {r : Res} (hop : o.op = .call c) (hc : c.callee = .builtin .min) (ha : RepAll g w ds (c.args.map ev).toList) (h : opMin ds = some r) (H : HeapRel g w look) : Ran P ev o g w look base r := by
  unfold opMin at h
  split at h
  · cases h
    obtain ⟨y, z, e, h1, h2⟩ := repAll2 ha
    cases h1; cases h2
    exact .pure_value (by rw [exec_builtin hop hc, show c.args.map ev = _ from Array.toList_inj.1 (e.trans (List.toList_toArray).symm)]; simp [builtin, Builtin.min_, Builtin.min2]) H rfl
  · cases h
    obtain ⟨y, z, u, e, h1, h2, h3⟩ := repAll3 ha
    cases h1; cases h2; cases h3
    exact .pure_value (by rw [exec_builtin hop hc, show c.args.map ev = _ from Array.toList_inj.1 (e.trans (List.toList_toArray).symm)]; simp [builtin, Builtin.min_, Builtin.min2]) H rfl
  · cases h
theorem opMax_sound {o : Oper} {c : Call} {ds : List D} {r : Res} (hop : o.op = .call c) (hc : c.callee = .builtin .max) (ha : RepAll g w ds (c.args.map ev).toList) (h : opMax ds = some r) (H : HeapRel g w look) : Ran P ev o g w look base r := by
  unfold opMax at h
  split at h
  · cases h
    obtain ⟨y, z, e, h1, h2⟩ := repAll2 ha
    cases h1; cases h2
    exact .pure_value (by rw [exec_builtin hop hc, show c.args.map ev = _ from Array.toList_inj.1 (e.trans (List.toList_toArray).symm)]; simp [builtin, Builtin.max_, Builtin.max2]) H rfl
  · cases h
    obtain ⟨y, z, u, e, h1, h2, h3⟩ := repAll3 ha
    cases h1; cases h2; cases h3
    exact .pure_value (by rw [exec_builtin hop hc, show c.args.map ev = _ from Array.toList_inj.1 (e.trans (List.toList_toArray).symm)]; simp [builtin, Builtin.max_, Builtin.max2]) H rfl
  · cases h

/-! ### functions, conversions -/
def opFunc (f : Fn) (a b : List D) : Option Res :=
  match f with
  | .func i => if a.isEmpty && b.isEmpty then some { val := .v (.func (.func i) #[] #[]) } else some { val := .clo i a b }
  | _ => none
theorem opFunc_sound {o : Oper} {f : Fn} {xs ys : Array Operand} {as bs : List D} {r : Res} (hop : o.op = .makeFunc f xs ys) (ha : RepAll g w as (xs.map ev).toList) (hb : RepAll g w bs (ys.map ev).toList) (h : opFunc f as bs = some r) (H : HeapRel g w look) : Ran P ev o g w look base r := by
  unfold opFunc at h
  split at h
  · rename_i i
    have hex : (execOp ev o).run P w = .ok (.value (.func (.func i) (xs.map ev) (ys.map ev))) w := by simp [execOp, hop, Instr.makeFunc]
    split at h
    · rename_i hc
      cases h
      simp only [Bool.and_eq_true, List.isEmpty_iff] at hc
      obtain ⟨rfl, rfl⟩ := hc
      have e1 : xs.map ev = #[] := Array.toList_inj.1 ha
      have e2 : ys.map ev = #[] := Array.toList_inj.1 hb
      exact .pure_value hex H (by rw [e1, e2]; exact rfl)
    · cases h
      exact .pure_value hex H ⟨(xs.map ev).toList, (ys.map ev).toList, by rw [Array.toArray_toList, Array.toArray_toList], ha, hb⟩
  · cases h

def bytesD : List D → Option (List UInt8)
  | [] => some []
  | .v (.int .u8 n) :: r => (bytesD r).map fun l => UInt8.ofNat n.toNat :: l
  | _ => none
def opConvert (P : Program) (look : Nat → Option DObj) (s d : TypeId) (x : D) : Option Res :=
  match P.underlying s, P.underlying d with
  | some _, some (.int k) => match x with
    | .v (.int _ n) => some { val := .v (.int k (k.wrap n)) }
    | _ => none
  | some (.slice e), some .string =>
    match P.underlying e, srcD look 1 x with
    | some (.int .u8), some (_, cs) => match bytesD cs with
      | some l => some { val := .v (.string ⟨l.toArray⟩) }
      | none => none
    | _, _ => none
  | some _, some .string => match x with
    | .v (.int _ n) => some { val := .v (.string (Utf8.encode n)) }
    | .v (.string t) => some { val := .v (.string t) }
    | _ => none
  | _, _ => none
theorem srcD_slice {n k : Nat} {d : D} {y : Value} {cs : List D} (h : srcD look n d = some (k, cs)) (r : Rep g w d y) : ∃ a len cap, y = .slice a len cap := by
  unfold srcD at h
  split at h
  · cases r; exact ⟨_, _, _, rfl⟩
  · rcases r with ⟨b, o, cap, h, _⟩ | ⟨⟨_, _, h, _⟩, _⟩ <;> subst h <;> exact ⟨_, _, _, rfl⟩
  · rcases r with ⟨_, _, _, _, _, _, h, _⟩ | ⟨_, _, h⟩ <;> subst h <;> exact ⟨_, _, _, rfl⟩
  · cases h
theorem forIn_bytes (F : Value → ByteArray → Sem (ForInStep ByteArray)) (hF : ∀ n s, F (.int .u8 n) s = pure (.yield (s.push (UInt8.ofNat n.toNat)))) : ∀ (cs : List D) (vs : List Value) (l : List UInt8) (s : ByteArray), bytesD cs = some l → RepAll g w cs vs → ∀ w' : World,
    (forIn vs s F).run P w' = .ok ⟨s.data ++ l.toArray⟩ w'
  | [], vs, l, s, h, hr, w' => by
    cases hr; cases h; simp
  | c :: cs, vs, l, s, h, hr, w' => by
    obtain ⟨y, ys, rfl, hy, hr⟩ := hr
    unfold bytesD at h
    split at h
    · rename_i e; cases e
    · rename_i n r e
      cases e
      cases hb : bytesD cs with
      | none => rw [hb] at h; cases h
      | some l' =>
        rw [hb] at h; cases h
        cases hy
        rw [List.forIn_cons, hF]
        simp only [Sem.run_bind, Sem.run_pure, Result.andThen]
        rw [forIn_bytes F hF cs ys l' _ hb hr w']
        simp [ByteArray.push]
    · cases h
theorem opConvert_sound {o : Oper} {s d : TypeId} {x : Operand} {dx : D} {r : Res} (hop : o.op = .convert s d x) (hx : Rep g w dx (ev x)) (h : opConvert P look s d dx = some r) (H : HeapRel g w look) : Ran P ev o g w look base r := by
  have fin : ∀ v d', (convert s d (ev x)).run P w = .ok v w → Rep g w d' v → r = { val := d' } → Ran P ev o g w look base r := fun v d' h1 h2 h3 => by
    subst h3; exact .pure_value (v := v) (by simp [execOp, hop, h1]) H h2
  unfold opConvert at h
  split at h
  · rename_i ts k h1 h2
    split at h
    · rename_i k' n
      cases h
      have ex : ev x = .int k' n := hx
      refine fin _ (.v (.int k (k.wrap n))) ?_ rfl rfl
      rw [ex]
      simp only [convert, Sem.run_bind, run_underlying h1, run_underlying h2, Result.andThen]
      simp [Conv.intToInt]
    · cases h
  · rename_i e h1 h2
    split at h
    · rename_i k cs h3 h4
      split at h
      · rename_i l hl
        cases h
        obtain ⟨vs, s1, s2, s3, s4, s5, s6⟩ := srcD_sound (P := P) H h4 hx
        refine fin _ (.v (.string ⟨l.toArray⟩)) ?_ rfl rfl
        obtain ⟨a, len, cap, ex⟩ := srcD_slice h4 hx
        have hk : k = len := by
          have := s4 w
          rw [ex] at this
          simp [Builtin.lenOf] at this; exact this.symm
        subst hk
        have s3' := s3 w (fun _ _ => trivial) rfl
        rw [ex] at s3' ⊢
        simp only [convert, Sem.run_bind, run_underlying h1, run_underlying h2, run_underlying h3, Result.andThen]
        cases a with
        | none =>
          simp only [Builtin.firstCells, Sem.run_pure] at s3'
          injection s3' with s3' _
          have : vs = [] := by have := congrArg Array.toList s3'; simpa using this.symm
          subst this
          cases cs with
          | nil => cases hl; simp [Conv.bytesToString]; rfl
          | cons c cs => obtain ⟨_, _, h, _⟩ := s1; cases h
        | some a =>
          simp only [Builtin.firstCells, Nat.mul_one] at s3'
          simp only [Conv.bytesToString, Sem.run_bind, s3', Result.andThen]
          simp only [List.forIn_toArray]
          rw [forIn_bytes (g := g) (w := w) (P := P) _ ?hF cs vs l ByteArray.empty hl s1 w]
          · simp
          · intro n s; rfl
      · cases h
    · cases h
  · rename_i ts h0 h1 h2
    split at h
    · rename_i k' n
      cases h
      have ex : ev x = .int k' n := hx
      refine fin _ (.v (.string (Utf8.encode n))) ?_ rfl rfl
      rw [ex]
      simp only [convert, Sem.run_bind, run_underlying h1, run_underlying h2, Result.andThen]
      simp [Conv.intToString]
    · rename_i t
      cases h
      have ex : ev x = .string t := hx
      refine fin _ (.v (.string t)) ?_ rfl rfl
      rw [ex]
      simp only [convert, Sem.run_bind, run_underlying h1, run_underlying h2, Result.andThen]
      simp
    · cases h
  · cases h
end
end Go.Proofs.YtjmhioacbpgalaaDoorV
