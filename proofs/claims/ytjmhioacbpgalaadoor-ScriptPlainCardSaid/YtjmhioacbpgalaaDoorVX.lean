/- Regions that draw their order and only read. -/
import Derived.Test.YtjmhioacbpgalaaDoorVW
namespace Go.Proofs.YtjmhioacbpgalaaDoorV
open Go Go.RowKit
set_option linter.unusedVariables false
variable {p : Nat} {E : Env} {ops : Array Oper} {n : Nat} {H : List (Option DObj)}
def readD (r : Option Res) (f : D → Option (List (Nat × D))) : Option (List (Nat × D)) := r.bind fun r => if r.upd.isEmpty && r.news.isEmpty then f r.val else none
def readGo (E : Env) (ops : Array Oper) (n : Nat) (H : List (Option DObj)) : List Oper → List (Nat × D) → Option (List (Nat × D))
  | [], T => some T
  | o :: l, T =>
    match wantD ops T o with
    | some true => readD (coreD E (evalD T) (lookH H) H.length o.op) fun v => readGo E ops n H l (putT n T o.dst v)
    | some false => readGo E ops n H l (putT n T o.dst (.v undef))
    | none => none
def quietR (recs : List Rec) : Prop := ∀ r ∈ recs, r.news = [] ∧ r.kills = []
theorem quiet_obj : ∀ {recs : List Rec} (j : Nat) (ok : Nat → Bool) (id : Nat), quietR recs → objOf recs j ok id = none
  | [], _, _, _, _ => rfl
  | r :: rs, j, ok, id, h => by
    simp only [objOf, (h r (by simp)).1, List.length_nil, Nat.add_zero]
    rw [if_neg (by omega)]
    exact quiet_obj (j + 1) ok id fun x hx => h x (by simp [hx])
theorem quiet_view {recs : List Rec} {ok : Nat → Bool} (h : quietR recs) : viewR H recs ok = lookH H := by
  funext id
  unfold viewR
  split
  · rfl
  · rename_i hl
    rw [quiet_obj 0 ok id h]
    simp [lookH, List.getElem?_eq_none (Nat.le_of_not_lt hl)]
theorem quiet_news : ∀ {recs : List Rec}, quietR recs → newsAll recs = []
  | [], _ => rfl
  | r :: rs, h => by simp only [newsAll, (h r (by simp)).1, List.nil_append]; exact quiet_news fun x hx => h x (by simp [hx])
theorem quiet_kills : ∀ {recs : List Rec}, quietR recs → killsAll recs = []
  | [], _ => rfl
  | r :: rs, h => by simp only [killsAll, (h r (by simp)).2, List.map_nil, List.nil_append]; exact quiet_kills fun x hx => h x (by simp [hx])
theorem read_soft {P : Nat → List Nat} {rsv : Nat → Option Nat} : ∀ (l : List Oper) (T T' : List (Nat × D)) (recs : List Rec), quietR recs → readGo E ops n H l T = some T' →
    ∃ more, softGo E ops P rsv n H l T H.length recs = some (recs ++ more) ∧ quietR more ∧ ∀ j, TLs n (fun _ => true) j T more = T'
  | [], T, T', recs, hq, h => by cases h; exact ⟨[], by simp [softGo], (fun r hr => by cases hr), fun j => rfl⟩
  | o :: l, T, T', recs, hq, h => by
    unfold readGo at h
    unfold softGo
    rw [quiet_view hq]
    split at h
    · rename_i hw
      simp only [hw]
      unfold readD at h
      obtain ⟨r, h1, h2⟩ := opt_bind h
      simp only [h1]
      split at h2
      · rename_i he
        simp only [Bool.and_eq_true, List.isEmpty_iff] at he
        simp only [he.1, List.isEmpty_nil, Bool.true_or, List.all_nil, Bool.and_self, if_true, he.2, List.length_nil, Nat.add_zero, List.map_nil]
        have hq' : quietR (recs ++ [⟨o.dst, r.val, H.length, [], []⟩]) := fun x hx => by
          rcases List.mem_append.1 hx with hx | hx
          · exact hq x hx
          · simp at hx; subst hx; exact ⟨rfl, rfl⟩
        obtain ⟨more, e1, e2, e3⟩ := read_soft l _ T' _ hq' h2
        refine ⟨⟨o.dst, r.val, H.length, [], []⟩ :: more, by rw [e1]; simp, fun x hx => ?_, fun j => ?_⟩
        · rcases List.mem_cons.1 hx with rfl | hx
          · exact ⟨rfl, rfl⟩
          · exact e2 x hx
        · simp only [TLs, if_true]; exact e3 (j + 1)
      · cases h2
    · rename_i hw
      simp only [hw]
      have hq' : quietR (recs ++ [⟨o.dst, .v undef, H.length, [], []⟩]) := fun x hx => by
        rcases List.mem_append.1 hx with hx | hx
        · exact hq x hx
        · simp at hx; subst hx; exact ⟨rfl, rfl⟩
      obtain ⟨more, e1, e2, e3⟩ := read_soft l _ T' _ hq' h
      refine ⟨⟨o.dst, .v undef, H.length, [], []⟩ :: more, by rw [e1]; simp, fun x hx => ?_, fun j => ?_⟩
      · rcases List.mem_cons.1 hx with rfl | hx
        · exact ⟨rfl, rfl⟩
        · exact e2 x hx
      · simp only [TLs, if_true]; exact e3 (j + 1)
    · cases h
/-- A region that draws: its first operations only read. -/
theorem k_read {st : St} {Q : Exit → St → Prop} {K : St → Prop} (hE : E.ok) (hm : E.P.follows .mixedOrders = true) (PL : List (List Nat)) (RL : List (Option Nat)) (k : Nat) {id : Nat} {ops : Array Oper} (hok : drawOk ops.toList PL st.n k = true)
    (h : RunP ((readGo E ops st.n st.H (ops.toList.take k) st.T).bind fun T => runL E ops (ops.toList.drop k) ⟨st.n, T, st.H⟩) K) : WpD p E.P (.region id ops true) st (thenQ K Q) := by
  obtain ⟨st', h1, h2⟩ := h
  obtain ⟨T, h3, h4⟩ := opt_bind h1
  refine WpD.draw (PL := PL) (RL := RL) hE hm hok (st' := st') ?_ h2
  unfold runDraw
  obtain ⟨more, e1, e2, e3⟩ := read_soft (P := getP PL) (rsv := getR RL) (n := st.n) (H := st.H) _ _ _ [] (fun r hr => by cases hr) h3
  rw [e1]
  simp only [List.nil_append, quiet_kills e2, quiet_news e2, List.map_nil, List.append_nil, updH, e3]
  exact h4
-- rules
def gread (c : Option D) (b : Bool) (u v : Option (List (Nat × D))) : Option (List (Nat × D)) := match c with
  | some (.v (.bool b')) => bif b' == b then u else v
  | some (.v (.tuple _)) => v
  | _ => none
theorem gr_tt {u v : Option (List (Nat × D))} : gread (some (.v (.bool true))) true u v = u := Eq.trans rfl rfl
theorem gr_tf {u v : Option (List (Nat × D))} : gread (some (.v (.bool true))) false u v = v := Eq.trans rfl rfl
theorem gr_ft {u v : Option (List (Nat × D))} : gread (some (.v (.bool false))) true u v = v := Eq.trans rfl rfl
theorem gr_ff {u v : Option (List (Nat × D))} : gread (some (.v (.bool false))) false u v = u := Eq.trans rfl rfl
theorem gr_undef {b : Bool} {u v : Option (List (Nat × D))} : gread (some (.v undef)) b u v = v := Eq.trans rfl rfl
theorem readD_val {d : D} {f : D → Option (List (Nat × D))} : readD (some { val := d }) f = f d := Eq.trans rfl rfl
theorem read_nil {T : List (Nat × D)} : readGo E ops n H [] T = some T := Eq.trans rfl rfl
theorem readD_bind {r : Option Res} {g : D → List (Nat × D)} {F : List (Nat × D) → Option (List (Nat × D))} : readD r (fun v => F (g v)) = (readD r fun v => some (g v)).bind F := by
  unfold readD
  cases r with
  | none => rfl
  | some r => simp only [Option.bind_some]; split <;> rfl
theorem read_free {dst : Option Tmp} {op : Op} {ty : TypeId} {pos : String} {after : Array Edge} {l : List Oper} {T : List (Nat × D)} :
    readGo E ops n H (⟨dst, op, ty, pos, after, none⟩ :: l) T = (readD (coreD E (evalD T) (lookH H) H.length op) fun v => some (putT n T dst v)).bind (readGo E ops n H l) := readD_bind (g := fun v => putT n T dst v)
theorem read_guard {dst : Option Tmp} {op : Op} {ty : TypeId} {pos : String} {after : Array Edge} {j : Nat} {b : Bool} {l : List Oper} {T : List (Nat × D)} :
    readGo E ops n H (⟨dst, op, ty, pos, after, some (j, b)⟩ :: l) T = (gread (gval ops T j) b (readD (coreD E (evalD T) (lookH H) H.length op) fun v => some (putT n T dst v)) (some (putT n T dst (.v undef)))).bind (readGo E ops n H l) := by
  conv => lhs; unfold readGo
  rw [readD_bind (g := fun v => putT n T dst v)]
  unfold gval gread
  simp only [wantD]
  cases (ops[j]?).bind (·.dst) with
  | none => rfl
  | some t =>
    simp only [Option.bind_some]
    cases lookT T t with
    | none => rfl
    | some d =>
      cases d with
      | v y =>
        cases y with
        | bool b' => dsimp only; cases (b' == b) <;> rfl
        | _ => rfl
      | _ => rfl
attribute [go_sem] gr_tt gr_tf gr_ft gr_ff gr_undef readD_val read_nil read_free read_guard List.drop_succ_cons List.take_succ_cons List.take_zero List.drop_zero
end Go.Proofs.YtjmhioacbpgalaaDoorV
