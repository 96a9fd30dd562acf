import Derived.Test.YtjmhioacbpgalaaDoorS3
import Derived.Test.YtjmhioacbpgalaaDoorShelf
namespace Go.Proofs.YtjmhioacbpgalaaDoor.S
open Go Go.Proofs.YtjmhioacbpgalaaDoorV
set_option linter.unusedSimpArgs false
set_option linter.unusedVariables false
def encS (xs : List ByteArray) : List D := xs.map fun s => .v (.string s)
def joinS (xs : List ByteArray) (sep : ByteArray) : ByteArray := ⟨(Lib.join (xs.map (·.data.toList)) sep.data.toList).toArray⟩
theorem rows_str {g : G} {w : World} {b : Nat} : ∀ (xs : List ByteArray) (o : Nat), RepRows g w b 1 (encS xs) o → ∀ (j : Nat) (x : ByteArray), xs[j]? = some x → w.cell? ⟨b, o + j, none⟩ = some (.string x)
  | [], _, _, j, x, h => by simp at h
  | s :: xs, o, ⟨⟨y, h1, h2, h3⟩, r⟩, 0, x, h => by
    simp at h; subst h
    have h1 : y = .string s := h1
    subst h1
    exact h3 0 (.string s) rfl
  | s :: xs, o, ⟨_, r⟩, j + 1, x, h => by
    have := rows_str xs (o + 1) r j x (by simpa using h)
    rw [show o + (j + 1) = o + 1 + j by omega]; exact this
theorem below_bound {F : Nat → Prop} {w : World} (hF : ∀ b, F b → b < w.heap.size) {b : Nat} (h : F b) : b < w.heap.size := hF b h
theorem join (xs : List ByteArray) (sep : ByteArray) (hN : xs.length ≤ 1000) (hlen : (Lib.join (xs.map (·.data.toList)) sep.data.toList).length ≤ 100000) : Fits Tryd.prog 33 [.sl 1 (encS xs), .v (.string sep)] (.v (.string (joinS xs sep))) [] := by
  intro F w vals hF hr
  obtain ⟨y, ys, rfl, h1, h2⟩ := hr
  obtain ⟨z, zs, rfl, h3, h4⟩ := h2
  cases h4
  have h3 : z = .string sep := h3
  subst h3
  have fin : ∀ w' : World, RowKit.Below w.heap.size w w' → ∃ v g1, (Ending.returned (.string (joinS xs sep))) = .returned v ∧ RowKit.Below w.heap.size w w' ∧ (∀ b, F b → G.F g1 b) ∧ (∀ b, G.F g1 b → F b ∨ w.heap.size ≤ b) ∧
      (∀ id b p, G.m g1 id = some (b, p) → w.heap.size ≤ b) ∧ Rep g1 w' (.v (.string (joinS xs sep))) v ∧ HeapRel g1 w' (fun id => ([] : List DObj)[id]?) := fun w' hb =>
    ⟨_, ⟨fun _ => none, F, fun _ => False⟩, rfl, hb, fun _ h => h, fun _ h => .inl h, (fun _ _ _ h => by cases h), rfl,
      ⟨(fun _ _ _ h => by simp at h), (fun _ _ h => by simp at h), (fun _ _ _ _ _ _ _ h => by simp at h), fun b hb' => Nat.lt_of_lt_of_le (hF b hb') hb.size, (fun _ h => h.elim)⟩⟩
  rcases h1 with ⟨b, o, cap, rfl, hc, hFb, hrows⟩ | ⟨⟨a, cap, rfl, _⟩, he⟩
  · have hl : (encS xs).length = xs.length := by simp [encS]
    rw [hl] at hc ⊢
    refine (Tryd.strings_Join b o cap xs sep w (rows_str xs o hrows) (hF b hFb) (by omega) hc (by omega)).mono ?_
    rintro e w' ⟨rfl, hb⟩
    exact fin w' hb
  · have hx : xs = [] := by simpa [encS] using he
    subst hx
    refine (Tryd.strings_Join_none a cap sep w).mono ?_
    rintro e w' ⟨rfl, rfl⟩
    exact fin w' (RowKit.Below.refl _ _)
def decS : List D → Option (List ByteArray)
  | [] => some []
  | .v (.string s) :: r => (decS r).map (s :: ·)
  | _ => none
theorem decS_enc : ∀ {ds : List D} {xs : List ByteArray}, decS ds = some xs → ds = encS xs
  | [], xs, h => by cases h; rfl
  | d :: r, xs, h => by
    unfold decS at h
    split at h
    · rename_i e; cases e
    · rename_i s r' e
      cases e
      obtain ⟨ys, h1, rfl⟩ := opt_map h
      rw [decS_enc h1]; rfl
    · cases h
def call0 (f : FuncId) (args : List D) : Option (D × List DObj) :=
  if f = 33 then
    match args with
    | [.sl 1 ds, .v (.string sep)] => match decS ds with
      | some xs => if xs.length ≤ 1000 ∧ (Lib.join (xs.map (·.data.toList)) sep.data.toList).length ≤ 100000 then some (.v (.string (joinS xs sep)), []) else none
      | none => none
    | _ => none
  else none
theorem call0_ok : ({ P := Tryd.prog, call := call0 } : Env).ok := by
  refine Env.ok_of ?_ rfl
  intro f args d objs h
  replace h : call0 f args = some (d, objs) := h
  unfold call0 at h
  split at h
  · rename_i hf
    subst hf
    split at h
    · split at h
      · rename_i xs hd
        split at h
        · rename_i hb
          cases h
          rw [decS_enc hd]
          exact ⟨enter_of Tryd.func33 rfl rfl, join xs _ hb.1 hb.2⟩
        · cases h
      · cases h
    · cases h
  · cases h
def tabs : Go.FuncId → DrawTab
  | 14 => [(6, [[], [], [0, 1], [0, 1, 2], [], [], [4, 5], [4, 5, 6], [0, 1, 2, 3, 4, 5, 6, 7]], [none, none, none, none, none, none, none, none, none], 8)]
  | 21 => [(8, [[], [], [0, 1], [], [3], [0, 1, 2, 3, 4], [0, 1, 2, 3, 4, 5], [0, 1, 2, 3, 4, 5, 6], [0, 1, 2, 3, 4, 5, 6], [0, 1, 2, 3, 4, 5, 6], [0, 1, 2, 3, 4, 5, 6, 8, 9], [0, 1, 2, 3, 4, 5, 6, 7, 8, 9, 10], [0, 1, 2, 3, 4, 5, 6, 7, 8, 9, 10, 11], [0, 1, 2, 3, 4, 5, 6], [0, 1, 2, 3, 4, 5, 6, 7, 8, 9, 10, 11, 12, 13], [0, 1, 2, 3, 4, 5, 6, 7, 8, 9, 10, 11, 12, 13, 14]], [none, none, none, none, none, none, none, none, none, none, none, none, none, none, none, none], 14)]
  | 22 => [(9, [[], [0], [0, 1], [0, 1, 2], [0, 1, 2, 3], [0, 1, 2, 3], [0, 1, 2, 3, 4, 5], [0, 1, 2, 3], [0, 1, 2, 3, 7], [0, 1, 2, 3, 4, 5, 6, 7, 8], [0, 1, 2, 3, 4, 5, 6, 7, 8, 9], [0, 1, 2, 3, 4, 5, 6, 7, 8, 9, 10], [0, 1, 2, 3, 4, 5, 6, 7, 8, 9, 10, 11], [0, 1, 2, 3, 4, 5, 6, 7, 8, 9, 10, 11], [0, 1, 2, 3, 4, 5, 6, 7, 8, 9, 10, 11], [0, 1, 2, 3, 4, 5, 6, 7, 8, 9, 10, 11, 13, 14], [0, 1, 2, 3, 4, 5, 6, 7, 8, 9, 10, 11, 12, 13, 14, 15], [0, 1, 2, 3, 4, 5, 6, 7, 8, 9, 10, 11, 12, 13, 14, 15, 16], [0, 1, 2, 3, 4, 5, 6, 7, 8, 9, 10, 11], [0, 1, 2, 3, 4, 5, 6, 7, 8, 9, 10, 11, 12, 13, 14, 15, 16, 17, 18], [0, 1, 2, 3, 4, 5, 6, 7, 8, 9, 10, 11, 12, 13, 14, 15, 16, 17, 18, 19]], [none, none, none, none, none, none, none, none, none, none, none, none, none, none, none, none, none, none, none, none, none], 19)]
  | 25 => [(4, [[], [], [0, 1], [0, 1, 2], [0, 1, 2, 3], [0, 1, 2, 3, 4], [0, 1, 2, 3, 4, 5], [0, 1, 2, 3, 4, 5, 6], [0, 1, 2, 3, 4, 5, 6], [0, 1, 2, 3, 4, 5, 6, 7, 8], [0, 1, 2, 3, 4, 5, 6, 7, 8, 9], [0, 1, 2, 3, 4, 5, 6, 7, 8, 9, 10], [0, 1, 2, 3, 4, 5, 6], [0, 1, 2, 3, 4, 5, 6], [0, 1, 2, 3, 4, 5, 6, 12, 13], [0, 1, 2, 3, 4, 5, 6, 12, 13, 14], [0, 1, 2, 3, 4, 5, 6, 12, 13, 14, 15], [0, 1, 2, 3, 4, 5, 6, 7, 8, 9, 10, 11, 12, 13, 14, 15, 16], [0, 1, 2, 3, 4, 5, 6, 7, 8, 9, 10, 11, 12, 13, 14, 15, 16, 17], [0, 1, 2, 3, 4, 5, 6, 7, 8, 9, 10, 11, 12, 13, 14, 15, 16, 17, 18], [0, 1, 2, 3, 4, 5, 6, 7, 8, 9, 10, 11, 12, 13, 14, 15, 16, 17, 18, 19], [0, 1, 2, 3, 4, 5, 6, 7, 8, 9, 10, 11, 12, 13, 14, 15, 16, 17, 18, 19], [0, 1, 2, 3, 4, 5, 6, 7, 8, 9, 10, 11, 12, 13, 14, 15, 16, 17, 18, 19, 20, 21], [0, 1, 2, 3, 4, 5, 6, 7, 8, 9, 10, 11, 12, 13, 14, 15, 16, 17, 18, 19, 20, 21, 22], [0, 1, 2, 3, 4, 5, 6, 7, 8, 9, 10, 11, 12, 13, 14, 15, 16, 17, 18, 19, 20, 21, 22, 23], [0, 1, 2, 3, 4, 5, 6, 7, 8, 9, 10, 11, 12, 13, 14, 15, 16, 17, 18, 19], [0, 1, 2, 3, 4, 5, 6, 7, 8, 9, 10, 11, 12, 13, 14, 15, 16, 17, 18, 19], [0, 1, 2, 3, 4, 5, 6, 7, 8, 9, 10, 11, 12, 13, 14, 15, 16, 17, 18, 19, 25, 26], [0, 1, 2, 3, 4, 5, 6, 7, 8, 9, 10, 11, 12, 13, 14, 15, 16, 17, 18, 19, 20, 21, 22, 23, 24, 25, 26, 27], [0, 1, 2, 3, 4, 5, 6, 7, 8, 9, 10, 11, 12, 13, 14, 15, 16, 17, 18, 19, 20, 21, 22, 23, 24, 25, 26, 27, 28]], [none, none, none, none, none, none, none, none, none, none, none, none, none, none, none, none, none, none, none, none, none, none, none, none, none, none, none, none, none, none], 28)]
  | 34 => [(3, [[], [0], [0, 1], [], [3], [3, 4], [3, 4, 5], [3, 4, 5, 6], [3, 4, 5, 6, 7], [0, 1, 2, 3, 4, 5, 6, 7, 8], [0, 1, 2, 3, 4, 5, 6, 7, 8, 9]], [none, none, none, none, none, none, none, none, none, none, none], 9)]
  | 38 => [(3, [[], [0], [0, 1], [0, 1, 2], [0, 1, 2, 3], [], [5], [5, 6], [5, 6, 7], [5, 6, 7, 8], [0, 1, 2, 3, 4, 5, 6, 7, 8, 9], [], [0, 1, 2, 3, 4, 5, 6, 7, 8, 9, 10, 11]], [none, none, none, none, none, none, none, none, none, none, none, none, none], 12)]
  | 40 => [(1, [[], [0], [0, 1], [0, 1, 2], [0, 1, 2, 3], [], [5], [5, 6], [5, 6, 7], [5, 6, 7, 8], [0, 1, 2, 3, 4, 5, 6, 7, 8, 9], [0, 1, 2, 3, 4, 5, 6, 7, 8, 9, 10]], [none, none, none, none, none, none, none, none, none, none, none, none], 10)]
  | 43 => [(0, [[], [0], [0, 1], [0, 1, 2], [0, 1, 2, 3], [0, 1, 2, 3, 4], [], [0, 1, 2, 3, 4, 5, 6], [0, 1, 2, 3, 4, 5, 6, 7], [], [9], [9, 10], [9, 10, 11], [9, 10, 11, 12], [0, 1, 2, 3, 4, 5, 6, 7, 8, 9, 10, 11, 12, 13], [0, 1, 2, 3, 4, 5, 6, 7, 8, 9, 10, 11, 12, 13, 14]], [none, none, none, none, none, none, none, none, none, none, none, none, none, none, none, none], 14)]
  | 46 => [(7, [[], [], [1], [], [], [4], [], [6], [6, 7], [], [9], [0, 1, 2, 6, 7, 8], [0, 1, 2, 6, 7, 8, 11], [0, 1, 2, 3, 4, 5, 6, 7, 8, 9, 10, 11, 12], [0, 1, 2, 3, 4, 5, 6, 7, 8, 9, 10, 11, 12, 13]], [none, none, none, none, none, none, none, none, none, none, none, none, none, none, none], 13), (8, [[], [], [1], [], [], [4], [], [6], [6, 7], [], [9], [0, 1, 2, 6, 7, 8], [0, 1, 2, 6, 7, 8, 11], [0, 1, 2, 3, 4, 5, 6, 7, 8, 9, 10, 11, 12], [0, 1, 2, 3, 4, 5, 6, 7, 8, 9, 10, 11, 12, 13]], [none, none, none, none, none, none, none, none, none, none, none, none, none, none, none], 13), (9, [[], [], [1], [], [], [4], [], [6], [6, 7], [], [9], [0, 1, 2, 6, 7, 8], [0, 1, 2, 6, 7, 8, 11], [0, 1, 2, 3, 4, 5, 6, 7, 8, 9, 10, 11, 12], [0, 1, 2, 3, 4, 5, 6, 7, 8, 9, 10, 11, 12, 13]], [none, none, none, none, none, none, none, none, none, none, none, none, none, none, none], 13), (10, [[], [], [1], [], [], [4], [], [6], [6, 7], [], [9], [0, 1, 2, 6, 7, 8], [0, 1, 2, 6, 7, 8, 11], [0, 1, 2, 3, 4, 5, 6, 7, 8, 9, 10, 11, 12], [0, 1, 2, 3, 4, 5, 6, 7, 8, 9, 10, 11, 12, 13]], [none, none, none, none, none, none, none, none, none, none, none, none, none, none, none], 13), (17, [[], [], [1], [], [], [4], [], [6], [6, 7], [], [9], [0, 1, 2, 6, 7, 8], [0, 1, 2, 6, 7, 8, 11], [0, 1, 2, 3, 4, 5, 6, 7, 8, 9, 10, 11, 12], [0, 1, 2, 3, 4, 5, 6, 7, 8, 9, 10, 11, 12, 13]], [none, none, none, none, none, none, none, none, none, none, none, none, none, none, none], 13), (18, [[], [], [1], [], [], [4], [], [6], [6, 7], [], [9], [0, 1, 2, 6, 7, 8], [0, 1, 2, 6, 7, 8, 11], [0, 1, 2, 3, 4, 5, 6, 7, 8, 9, 10, 11, 12], [0, 1, 2, 3, 4, 5, 6, 7, 8, 9, 10, 11, 12, 13]], [none, none, none, none, none, none, none, none, none, none, none, none, none, none, none], 13), (23, [[], [], [1], [], [], [4], [], [6], [6, 7], [], [9], [0, 1, 2, 6, 7, 8], [0, 1, 2, 6, 7, 8, 11], [0, 1, 2, 3, 4, 5, 6, 7, 8, 9, 10, 11, 12], [0, 1, 2, 3, 4, 5, 6, 7, 8, 9, 10, 11, 12, 13]], [none, none, none, none, none, none, none, none, none, none, none, none, none, none, none], 13)]
  | _ => []


end Go.Proofs.YtjmhioacbpgalaaDoor.S
