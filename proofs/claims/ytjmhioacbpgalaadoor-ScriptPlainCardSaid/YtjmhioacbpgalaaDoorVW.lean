/- Rules for what has no numbers, for calls, for maps from numbers. -/
import Derived.Test.YtjmhioacbpgalaaDoorVU
namespace Go.Proofs.YtjmhioacbpgalaaDoorV
open Go Go.RowKit
set_option linter.unusedVariables false
mutual
theorem ren_norefs {f : Nat → Option Nat} : ∀ d : D, d.refs = [] → d.ren f = some d
  | .any, _ => rfl
  | .v x, _ => rfl
  | .sl n xs, h => by simp only [D.ren, renAll_norefs xs h, Option.map_some]
  | .agg cs, h => by simp only [D.ren, renAll_norefs cs h, Option.map_some]
  | .eaddr cs, h => by simp only [D.ren, renAll_norefs cs h, Option.map_some]
  | .ref id off len n ag, h => by cases h
  | .ptr id off, h => by cases h
  | .map id, h => by cases h
  | .clo c a b, h => by
    have h := List.append_eq_nil_iff.1 h
    simp only [D.ren, renAll_norefs a h.1, renAll_norefs b h.2, Option.map_some, Option.bind_some]
  | .tup xs, h => by simp only [D.ren, renAll_norefs xs h, Option.map_some]
theorem renAll_norefs {f : Nat → Option Nat} : ∀ ds : List D, refsAll ds = [] → renAll f ds = some ds
  | [], _ => rfl
  | d :: ds, h => by
    have h := List.append_eq_nil_iff.1 h
    simp only [renAll, ren_norefs d h.1, renAll_norefs ds h.2, Option.map_some, Option.bind_some]
end
mutual
theorem lend_norefs {C : Nat → Option (List D)} {κ : Nat → Bool} : ∀ d : D, d.refs = [] → lend C κ d = some d
  | .any, _ => rfl
  | .v x, _ => rfl
  | .sl n xs, h => by simp only [lend, lendAll_norefs xs h, Option.map_some]
  | .agg cs, h => by simp only [lend, lendAll_norefs cs h, Option.map_some]
  | .eaddr cs, h => by simp only [lend, lendAll_norefs cs h, Option.map_some]
  | .ref id off len n ag, h => by cases h
  | .ptr id off, h => by cases h
  | .map id, h => by cases h
  | .clo c a b, h => by
    have h := List.append_eq_nil_iff.1 h
    simp only [lend, lendAll_norefs a h.1, lendAll_norefs b h.2, Option.map_some, Option.bind_some]
  | .tup xs, h => by simp only [lend, lendAll_norefs xs h, Option.map_some]
theorem lendAll_norefs {C : Nat → Option (List D)} {κ : Nat → Bool} : ∀ ds : List D, refsAll ds = [] → lendAll C κ ds = some ds
  | [], _ => rfl
  | d :: ds, h => by
    have h := List.append_eq_nil_iff.1 h
    simp only [lendAll, lend_norefs d h.1, lendAll_norefs ds h.2, Option.map_some, Option.bind_some]
end
theorem refsAll_nil {ds : List D} (h : ∀ d ∈ ds, d.refs = []) : refsAll ds = [] := by
  induction ds with
  | nil => rfl
  | cons d ds ih => simp only [refsAll, h d (by simp), ih fun x hx => h x (by simp [hx]), List.append_nil]
theorem opCall_p {E : Env} {look : Nat → Option DObj} {base : Nat} {f : FuncId} {args : List D} {d : D} (ha : refsAll args = []) (hc : E.call f args = some (d, [])) (hd : d.refs = []) (hw : E.isW f = false := by rfl) : opCall E look base f args = some { val := d } := by
  unfold opCall
  rw [if_neg (by simp [hw])]
  unfold opCallR
  simp only [ha, closeL, lendAll_norefs args ha, hc, ren_norefs d hd, renObjs]
  simp
/-- Numbers to something. -/
def encM {β : Type} (e : β → Value) (m : List (Int × β)) : List (Value × D) := m.map fun p => (.int .i64 p.1, .v (e p.2))
def getM {β : Type} (z : β) : List (Int × β) → Int → β
  | [], _ => z
  | p :: m, a => if a = p.1 then p.2 else getM z m a
def hasM {β : Type} (m : List (Int × β)) (a : Int) : Bool := m.any fun p => a == p.1
def putM {β : Type} : List (Int × β) → Int → β → List (Int × β)
  | [], a, b => [(a, b)]
  | p :: m, a, b => if a = p.1 then (a, b) :: m else p :: putM m a b
theorem findD_enc {β : Type} (e : β → Value) (z : β) (a : Int) : ∀ (m : List (Int × β)) (i : Nat), (∃ j, findD (.int .i64) (.int .i64 a) (encM e m) i = some (some (j, .v (e (getM z m a)))) ∧ i ≤ j ∧ ∀ b, encM e (putM m a b) = (encM e m).set (j - i) (.int .i64 a, .v (e b))) ∨
    (findD (.int .i64) (.int .i64 a) (encM e m) i = some none ∧ getM z m a = z ∧ ∀ b, encM e (putM m a b) = encM e m ++ [(.int .i64 a, .v (e b))])
  | [], i => .inr ⟨rfl, rfl, fun b => rfl⟩
  | p :: m, i => by
    by_cases h : a = p.1
    · refine .inl ⟨i, ?_, Nat.le_refl _, fun b => ?_⟩
      · simp [encM, findD, Instr.sameNow, getM, h]
      · simp [encM, putM, h]
    · have hs : (a == p.1) = false := by simp [h]
      rcases findD_enc e z a m (i + 1) with ⟨j, h1, h2, h3⟩ | ⟨h1, h2, h3⟩
      · refine .inl ⟨j, ?_, by omega, fun b => ?_⟩
        · simp only [encM, List.map_cons, findD, Instr.sameNow, if_true, hs, getM, if_neg h]; exact h1
        · have e1 : j - i = (j - (i + 1)) + 1 := by omega
          simp only [encM, List.map_cons, putM, if_neg h, e1, List.set_cons_succ, List.cons.injEq, true_and]; exact h3 b
      · refine .inr ⟨?_, ?_, fun b => ?_⟩
        · simp only [encM, List.map_cons, findD, Instr.sameNow, if_true, hs]; exact h1
        · simp only [getM, if_neg h]; exact h2
        · simp only [encM, List.map_cons, putM, if_neg h, List.cons_append, List.cons.injEq, true_and]; exact h3 b
def lookupK (P : Program) (u : Option TypeDesc) (es : Option (List (Value × D))) (k : D) (ok : Bool) : Option Res :=
  match u with
  | some (.map kt et) =>
    match keyKind P kt, zeroVal P et, es, k with
    | some kd, some z, some es, .v kv =>
      match findD kd kv es 0 with
      | some (some (_, d)) => some { val := if ok then .tup [d, .v (.bool true)] else d }
      | some none => some { val := if ok then .tup [z, .v (.bool false)] else z }
      | none => none
    | _, _, _, _ => none
  | _ => none
theorem opLookup_eq {P : Program} {look : Nat → Option DObj} {t : TypeId} {x k : D} {ok : Bool} : opLookup P look t x k ok = lookupK P (P.underlying t) (mapD look x) k ok := rfl
theorem lookupK_enc {β : Type} {P : Program} {e : β → Value} {z : β} {kt et : TypeId} {m : List (Int × β)} {a : Int} (hk : keyKind P kt = some (.int .i64)) (hz : zeroVal P et = some (.v (e z))) :
    lookupK P (some (.map kt et)) (some (encM e m)) (.v (.int .i64 a)) false = some { val := .v (e (getM z m a)) } := by
  simp only [lookupK, hk, hz]
  rcases findD_enc e z a m 0 with ⟨j, h1, _, _⟩ | ⟨h1, h2, _⟩
  · rw [h1]; rfl
  · rw [h1, h2]; rfl
def updK (P : Program) (u : Option TypeDesc) (id : Nat) (o : Option DObj) (k v : D) : Option Res :=
  match u with
  | some (.map kt et) =>
    match keyKind P kt, k with
    | some kd, .v kv =>
      match o with
      | some (.map es) =>
        match findD kd kv es 0 with
        | some (some (j, _)) => some { val := .v undef, upd := [(id, some (.map (es.set j (kv, v))))] }
        | some none => some { val := .v undef, upd := [(id, some (.map (es ++ [(kv, v)])))] }
        | none => none
      | _ => none
    | _, _ => none
  | _ => none
theorem opMapUpdate_eq {P : Program} {look : Nat → Option DObj} {t : TypeId} {id : Nat} {k v : D} : opMapUpdate P look t (.map id) k v = updK P (P.underlying t) id (look id) k v := by
  unfold opMapUpdate updK
  cases P.underlying t with
  | none => rfl
  | some u => cases u <;> first | rfl | (dsimp only; rename_i kt et; cases keyKind P kt <;> first | rfl | (cases k <;> rfl))
theorem updK_enc {β : Type} {P : Program} {e : β → Value} (z : β) {kt et : TypeId} {m : List (Int × β)} {a : Int} {b : β} {id : Nat} (hk : keyKind P kt = some (.int .i64)) :
    updK P (some (.map kt et)) id (some (.map (encM e m))) (.v (.int .i64 a)) (.v (e b)) = some { val := .v undef, upd := [(id, some (.map (encM e (putM m a b))))] } := by
  simp only [updK, hk]
  rcases findD_enc e z a m 0 with ⟨j, h1, _, h3⟩ | ⟨h1, _, h3⟩
  · rw [h1]; simp only [h3, Nat.sub_zero]
  · rw [h1]; simp only [h3]
theorem encM_length {β : Type} {e : β → Value} {m : List (Int × β)} : (encM e m).length = m.length := by simp [encM]
theorem encM_ren {β : Type} {e : β → Value} {m : List (Int × β)} {f : Nat → Option Nat} : DObj.ren f (.map (encM e m)) = some (.map (encM e m)) := by
  have h : refsAll ((encM e m).map (·.2)) = [] := refsAll_nil fun d hd => by
    simp only [encM, List.map_map, List.mem_map] at hd
    obtain ⟨p, _, rfl⟩ := hd
    rfl
  simp only [DObj.ren, renAll_norefs _ h, Option.map_some]
  congr 2
  induction m with
  | nil => rfl
  | cons p m ih =>
    simp only [encM, List.map_cons, List.zip_cons_cons, List.cons.injEq, true_and]
    exact ih (by
      simp only [encM, List.map_cons, refsAll] at h
      exact (List.append_eq_nil_iff.1 h).2)
/-- Rows of an own slice, as one that is read. -/
theorem wrap_id {n : Int} (h1 : -9223372036854775808 ≤ n) (h2 : n ≤ 9223372036854775807) : IntKind.i64.wrap n = n := by
  unfold IntKind.wrap
  simp [IntKind.bits, IntKind.signed]
  omega
end Go.Proofs.YtjmhioacbpgalaaDoorV
