/- Regions that draw their order, done. -/
import Derived.Test.YtjmhioacbpgalaaDoorVG
namespace Go.Proofs.YtjmhioacbpgalaaDoorV
open Go Go.RowKit
set_option linter.unusedVariables false
set_option linter.unusedSimpArgs false

theorem coreD_congr {E : Env} {ρ ρ' : Operand → D} {look : Nat → Option DObj} {base : Nat} {op : Op} (h : ∀ x ∈ op.operands, ρ x = ρ' x) : coreD E ρ look base op = coreD E ρ' look base op := by
  have hl : ∀ l : List Operand, (∀ x ∈ l, x ∈ op.operands) → l.map ρ = l.map ρ' := fun l hl => List.map_congr_left fun x hx => h x (hl x hx)
  have hp : ∀ ps : Array (Nat × Operand), (∀ p ∈ ps.toList, p.2 ∈ op.operands) → (ps.toList.map fun p => (p.1, ρ p.2)) = ps.toList.map fun p => (p.1, ρ' p.2) := fun ps hps => List.map_congr_left fun p hp => by rw [h p.2 (hps p hp)]
  have ho : ∀ o : Option Operand, (∀ x, o = some x → x ∈ op.operands) → o.map ρ = o.map ρ' := fun o ho => by
    cases o with
    | none => rfl
    | some x => simp only [Option.map_some, h x (ho x rfl)]
  cases op
  case build t ps => simp only [coreD]; rw [hp ps fun p hp => by simp only [Op.operands, List.mem_toArray, List.mem_map]; exact ⟨p, hp, rfl⟩]
  case buildSlice t n ps => simp only [coreD]; rw [hp ps fun p hp => by simp only [Op.operands, List.mem_toArray, List.mem_map]; exact ⟨p, hp, rfl⟩]
  case makeFunc f a b =>
    simp only [coreD]
    rw [hl a.toList fun x hx => by simp [Op.operands]; exact .inl (by simpa using hx), hl b.toList fun x hx => by simp [Op.operands]; exact .inr (by simpa using hx)]
  case slice t x lo hi mx =>
    cases mx with
    | none => simp only [coreD]; rw [h x (by simp [Op.operands]), ho lo fun y hy => by subst hy; simp [Op.operands], ho hi fun y hy => by subst hy; simp [Op.operands]]
    | some _ => rfl
  case call c =>
    have ha : c.args.toList.map ρ = c.args.toList.map ρ' := hl c.args.toList fun x hx => by simp [Op.operands, Call.operands]; exact .inr (by simpa using hx)
    have hx : ∀ x ∈ c.args.toList, ρ x = ρ' x := fun x hx => h x (by simp [Op.operands, Call.operands]; exact .inr (by simpa using hx))
    simp only [coreD, coreCall]
    split
    · split
      · rename_i h1 h2; rw [hx _ (by rw [h1]; simp), hx _ (by rw [h1]; simp)]
      · rfl
    · split
      · rename_i h1 h2; rw [hx _ (by rw [h1]; simp)]
      · rfl
    · rw [ha]
    · rw [ha]
    · rename_i f hc
      rw [h f (by simp [Op.operands, Call.operands, hc]), ha]
    · rfl
  all_goals first
    | rfl
    | (simp only [coreD]; simp only [Op.operands, List.mem_toArray, List.mem_cons, List.not_mem_nil, or_false, forall_eq_or_imp, forall_eq, Array.mem_def] at h; simp only [h])

structure Rec where
  dst : Option Nat
  val : D
  base : Nat
  news : List DObj
  kills : List Nat

def immOf (o : Oper) : List Nat := (o.after.toList.filter (Region.binds .any)).map (·.on)
def objOf : List Rec → Nat → (Nat → Bool) → Nat → Option DObj
  | [], _, _, _ => none
  | r :: rs, j, ok, id => if r.base ≤ id ∧ id < r.base + r.news.length then (if ok j then r.news[id - r.base]? else none) else objOf rs (j + 1) ok id
def ownR : List Rec → Nat → Nat → Option Nat
  | [], _, _ => none
  | r :: rs, j, id => if r.base ≤ id ∧ id < r.base + r.news.length then some j else ownR rs (j + 1) id
def viewR (H : List (Option DObj)) (recs : List Rec) (ok : Nat → Bool) : Nat → Option DObj := fun id => if id < H.length then lookH H id else objOf recs 0 ok id
def softGo (E : Env) (ops : Array Oper) (P : Nat → List Nat) (rsv : Nat → Option Nat) (n : Nat) (H : List (Option DObj)) : List Oper → List (Nat × D) → Nat → List Rec → Option (List Rec)
  | [], T, base, recs => some recs
  | o :: l, T, base, recs =>
    match wantD ops T o with
    | some true =>
      match coreD E (evalD T) (viewR H recs fun j => (P recs.length).contains j && (match rsv j with | none => true | some c => c == recs.length)) base o.op with
      | some r =>
        if (r.upd.isEmpty || isAppend o.op) && r.upd.all (fun p => p.2.isNone && Nat.ble H.length p.1 && (match ownR recs 0 p.1 with | some j => rsv j == some recs.length && (P recs.length).contains j | none => false)) then
          softGo E ops P rsv n H l (putT n T o.dst r.val) (base + r.news.length) (recs ++ [⟨o.dst, r.val, base, r.news, r.upd.map (·.1)⟩])
        else none
      | none => none
    | some false => softGo E ops P rsv n H l (putT n T o.dst (.v undef)) base (recs ++ [⟨o.dst, .v undef, base, [], []⟩])
    | none => none

def TLs (n : Nat) (L : Nat → Bool) : Nat → List (Nat × D) → List Rec → List (Nat × D)
  | _, T, [] => T
  | j, T, r :: rs => TLs n L (j + 1) (if L j then putT n T r.dst r.val else T) rs
def killedB (L : Nat → Bool) : List Rec → Nat → Nat → Bool
  | [], _, _ => false
  | r :: rs, j, id => (L j && r.kills.contains id) || killedB L rs (j + 1) id
def baseOf (b : Nat) : List Rec → Nat
  | [] => b
  | r :: rs => baseOf (b + r.news.length) rs

/-- What is known of one record, where those ahead of it are known. -/
def Fact (E : Env) (ops : Array Oper) (P : Nat → List Nat) (rsv : Nat → Option Nat) (n : Nat) (T : List (Nat × D)) (H : List (Option DObj)) (pre : List Rec) (o : Oper) (r : Rec) : Prop :=
  r.dst = o.dst ∧ r.base = baseOf H.length pre ∧
  ((wantD ops (TLs n (fun _ => true) 0 T pre) o = some false ∧ r.val = .v undef ∧ r.news = [] ∧ r.kills = []) ∨
   (wantD ops (TLs n (fun _ => true) 0 T pre) o = some true ∧ ∃ s : Res, coreD E (evalD (TLs n (fun _ => true) 0 T pre)) (viewR H pre fun j => (P pre.length).contains j && (match rsv j with | none => true | some c => c == pre.length)) r.base o.op = some s ∧
     r.val = s.val ∧ r.news = s.news ∧ r.kills = s.upd.map (·.1) ∧ (s.upd = [] ∨ isAppend o.op = true) ∧ (∀ p ∈ s.upd, p.2 = none ∧ H.length ≤ p.1 ∧ ∃ j, ownR pre 0 p.1 = some j ∧ rsv j = some pre.length ∧ j ∈ P pre.length)))

theorem TLs_append (n : Nat) (L : Nat → Bool) : ∀ (j : Nat) (T : List (Nat × D)) (a b : List Rec), TLs n L j T (a ++ b) = TLs n L (j + a.length) (TLs n L j T a) b
  | j, T, [], b => rfl
  | j, T, r :: a, b => by
    simp only [List.cons_append, TLs, List.length_cons]
    rw [TLs_append n L (j + 1) _ a b]
    congr 1; omega
theorem baseOf_append : ∀ (b : Nat) (x y : List Rec), baseOf b (x ++ y) = baseOf (baseOf b x) y
  | b, [], y => rfl
  | b, r :: x, y => by simp only [List.cons_append, baseOf]; exact baseOf_append _ x y
theorem softGo_facts {E : Env} {ops : Array Oper} {P : Nat → List Nat} {rsv : Nat → Option Nat} {n : Nat} {T0 : List (Nat × D)} {H : List (Option DObj)} : ∀ (l : List Oper) (T : List (Nat × D)) (base : Nat) (recs out : List Rec),
    softGo E ops P rsv n H l T base recs = some out → T = TLs n (fun _ => true) 0 T0 recs → base = baseOf H.length recs →
    ∃ more, out = recs ++ more ∧ more.length = l.length ∧ ∀ (m : Nat) (o : Oper) (r : Rec), l[m]? = some o → more[m]? = some r → Fact E ops P rsv n T0 H (out.take (recs.length + m)) o r
  | [], T, base, recs, out, h, hT, hb => by cases h; exact ⟨[], by simp, rfl, fun m o r e => by simp at e⟩
  | o :: l, T, base, recs, out, h, hT, hb => by
    have cont : ∀ (r : Rec) (T' : List (Nat × D)) (base' : Nat), softGo E ops P rsv n H l T' base' (recs ++ [r]) = some out → T' = putT n T r.dst r.val → base' = base + r.news.length → Fact E ops P rsv n T0 H recs o r →
        ∃ more, out = recs ++ more ∧ more.length = (o :: l).length ∧ ∀ (m : Nat) (o' : Oper) (r : Rec), (o :: l)[m]? = some o' → more[m]? = some r → Fact E ops P rsv n T0 H (out.take (recs.length + m)) o' r := by
      intro r T' base' h1 h2 h3 hf
      obtain ⟨more, k1, k2, k3⟩ := softGo_facts (T0 := T0) l T' base' (recs ++ [r]) out h1 (by rw [h2, hT, TLs_append]; rfl) (by rw [h3, hb, baseOf_append]; rfl)
      refine ⟨r :: more, by rw [k1]; simp, by simp [k2], fun m o' r' e1 e2 => ?_⟩
      cases m with
      | zero =>
        simp at e1 e2; subst e1; subst e2
        have : out.take (recs.length + 0) = recs := by rw [k1]; simp
        rw [this]; exact hf
      | succ m =>
        have := k3 m o' r' (by simpa using e1) (by simpa using e2)
        rwa [show (recs ++ [r]).length + m = recs.length + (m + 1) by simp; omega] at this
    simp only [softGo] at h
    split at h
    · rename_i hw
      split at h
      · rename_i s hs
        split at h
        · rename_i hc
          simp only [Bool.and_eq_true, Bool.or_eq_true, List.all_eq_true, List.isEmpty_iff] at hc
          refine cont _ _ _ h rfl rfl ⟨rfl, hb, .inr ⟨by rw [← hT]; exact hw, s, by rw [← hT]; exact hs, rfl, rfl, rfl, hc.1, fun p hp => ?_⟩⟩
          have := hc.2 p hp
          obtain ⟨⟨q1, q2⟩, q3⟩ := this
          refine ⟨by simpa using q1, by simpa using q2, ?_⟩
          split at q3
          · rename_i j hj
            simp only [Bool.and_eq_true] at q3
            exact ⟨j, hj, by simpa using q3.1, by simpa using q3.2⟩
          · cases q3
        · cases h
      · cases h
    · rename_i hw
      exact cont ⟨o.dst, .v undef, base, [], []⟩ _ _ h rfl rfl ⟨rfl, hb, .inl ⟨by rw [← hT]; exact hw, rfl, rfl, rfl⟩⟩
    · cases h
end Go.Proofs.YtjmhioacbpgalaaDoorV
