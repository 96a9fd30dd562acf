import Derived.Test.YtjmhioacbpgalaaDoorS8
namespace Go.Proofs.YtjmhioacbpgalaaDoor.S
open Go Go.Proofs.YtjmhioacbpgalaaDoorV
set_option linter.unusedSimpArgs false
set_option linter.unusedVariables false
set_option maxRecDepth 100000
set_option maxHeartbeats 4000000
def decL : List D → Option (List Pk)
  | [] => some []
  | .agg [.v (.int .i64 k), .v (.int .i64 a), .v (.int .i64 b)] :: r => (decL r).map (⟨k, a, b⟩ :: ·)
  | _ => none
theorem decL_enc : ∀ (l : List Pk), decL (l.map Pk.enc) = some l
  | [] => rfl
  | p :: l => by
    show (decL (l.map Pk.enc)).map (⟨p.k, p.a, p.b⟩ :: ·) = some (p :: l)
    rw [decL_enc l]; rfl
theorem decL_inv : ∀ (ds : List D) (l : List Pk), decL ds = some l → ds = l.map Pk.enc
  | [], l, h => by cases h; rfl
  | d :: r, l, h => by
    unfold decL at h
    split at h
    · rename_i e; cases e
    · rename_i k a b r' e
      cases e
      obtain ⟨l', h1, rfl⟩ := opt_map h
      rw [decL_inv _ _ h1]; rfl
    · cases h
def decP : D → Option (List Pk)
  | .v (.slice none 0 0) => some []
  | .sl 3 ds => decL ds
  | _ => none
theorem decP_rd {x : D} {l : List Pk} (h : decP x = some l) : RdP x l := by
  unfold decP at h
  split at h
  · cases h; exact RdP.nil
  · rw [decL_inv _ _ h]; exact RdP.sl l
  · cases h
instance : DecidableEq Pk := fun p q => decidable_of_iff (p.k = q.k ∧ p.a = q.a ∧ p.b = q.b) (by cases p; cases q; simp)
/-- What is known of calls of the law. -/
noncomputable def call6 (f : FuncId) (args : List D) : Option (D × List DObj) :=
  if f = 11 then match args with | [] => some (.v (.bool true), []) | _ => none
  else if f = 14 then match args with
    | [x, y] => match decP x, decP y with
      | some a, some b => if a = b ∧ a.length ≤ 400 then some (.v (.bool true), []) else none
      | _, _ => none
    | _ => none
  else if f = 15 then match args with
    | [.v (.int .i64 s), .sl 3 ds] => match decL ds with
      | some l => if l.length ≤ 400 then some (outD 0 (plainS s l), outH (plainS s l)) else none
      | none => none
    | _ => none
  else none
noncomputable def E6 : Env := ⟨Tryd.prog, call6⟩
theorem E6P : E6.P = Tryd.prog := rfl
theorem E6call : E6.call = call6 := rfl
theorem E6ok : E6.ok := by
  intro f args d objs h
  replace h : call6 f args = some (d, objs) := h
  unfold call6 at h
  split at h
  · rename_i hf; subst hf
    split at h
    · cases h; exact ⟨enter_of Tryd.func11 rfl rfl, alive⟩
    · cases h
  split at h
  · rename_i hf; subst hf
    split at h
    · split at h
      · rename_i a b ha hb
        split at h
        · rename_i hab
          cases h
          obtain ⟨rfl, hl⟩ := hab
          exact ⟨enter_of Tryd.func14 rfl rfl, same _ _ _ (decP_rd ha) (decP_rd hb) hl⟩
        · cases h
      · cases h
    · cases h
  split at h
  · rename_i hf; subst hf
    split at h
    · split at h
      · rename_i l hl
        split at h
        · rename_i hb
          cases h
          rw [decL_inv _ _ hl]
          exact ⟨enter_of Tryd.func15 rfl rfl, plain _ _ hb⟩
        · cases h
      · cases h
    · cases h
  · cases h
theorem c6a {look : Nat → Option DObj} {base : Nat} : opCall E6 look base 11 [] = some { val := .v (.bool true) } := opCall_p rfl rfl rfl
theorem c6b {look : Nat → Option DObj} {base : Nat} {s : Int} {l : List Pk} (h : l.length ≤ 400) : opCall E6 look base 15 [.v (.int .i64 s), .sl 3 (l.map Pk.enc)] = some { val := outD base (plainS s l), news := outH (plainS s l) } := by
  have hc : E6.call 15 [.v (.int .i64 s), .sl 3 (l.map Pk.enc)] = some (outD 0 (plainS s l), outH (plainS s l)) := by
    rw [E6call]
    simp [call6, decL_enc, h]
  have e : refsAll [.v (.int .i64 s), .sl 3 (l.map Pk.enc)] = [] := by simp [refsAll, D.refs, encP_refs]
  unfold opCall
  simp only [e, closeL, lendAll_norefs _ e, hc]
  by_cases ho : plainS s l = []
  · rw [ho]; simp [outD, outH, D.ren, renObjs]
  · rw [outD_ne ho, outH_ne ho]
    simp [D.ren, renObjs, shiftBy, DObj.ren, renAll_norefs _ (cellsP_refs _), outD_ne ho]
theorem plain_begins (s : Int) (l : List Pk) : ∀ n, plainS s (l.take n) <+: plainS s l := by
  intro n
  have key : ∀ (m : List Pk) (ps : PS), ps.o <+: (m.foldl (stepP s) ps).o := by
    intro m
    induction m with
    | nil => intro ps; exact List.prefix_refl _
    | cons p m ih =>
      intro ps
      refine List.IsPrefix.trans ?_ (ih _)
      unfold stepP
      repeat' split
      all_goals first | exact List.prefix_refl _ | exact List.prefix_append _ _
  have : l.foldl (stepP s) ⟨[], [], [], 0⟩ = (l.drop n).foldl (stepP s) ((l.take n).foldl (stepP s) ⟨[], [], [], 0⟩) := by
    rw [← List.foldl_append, List.take_append_drop]
  unfold plainS foldP
  rw [this]
  exact key _ _
end Go.Proofs.YtjmhioacbpgalaaDoor.S
