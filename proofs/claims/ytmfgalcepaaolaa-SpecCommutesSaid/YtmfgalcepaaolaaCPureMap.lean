/- Maps as rows of pairs whose keys rise: looking up, putting, taking out; a row is what its look-ups say. -/
namespace Go.Proofs.Ytmfgalcepaaolaa.PureMap
abbrev Row := List (Int × Int)
def Asc (L : Row) : Prop := (L.map (·.1)).Pairwise (· < ·)
def look (L : Row) (x : Int) : Option Int := (L.find? (fun p => p.1 == x)).map (·.2)
theorem look_cons (a b : Int) (L : Row) (x : Int) : look ((a, b) :: L) x = if a = x then some b else look L x := by
  unfold look
  rw [List.find?_cons]
  by_cases h : a = x
  · simp [h]
  · have : (a == x) = false := by simp [h]
    simp [h, this]
theorem look_none {L : Row} {x : Int} (h : ∀ p ∈ L, p.1 ≠ x) : look L x = none := by
  induction L with
  | nil => rfl
  | cons p L ih =>
    rw [look_cons, if_neg (h p (by simp)), ih (fun q hq => h q (by simp [hq]))]
theorem look_append (A B : Row) (x : Int) : look (A ++ B) x = (look A x).or (look B x) := by
  induction A with
  | nil => rfl
  | cons p A ih =>
    rw [List.cons_append, look_cons, look_cons, ih]
    by_cases h : p.1 = x <;> simp [h]
theorem asc_cons {a b : Int} {L : Row} : Asc ((a, b) :: L) ↔ (∀ p ∈ L, a < p.1) ∧ Asc L := by
  unfold Asc
  rw [List.map_cons, List.pairwise_cons]
  constructor
  · rintro ⟨h1, h2⟩
    exact ⟨fun p hp => h1 _ (List.mem_map_of_mem hp), h2⟩
  · rintro ⟨h1, h2⟩
    refine ⟨fun k hk => ?_, h2⟩
    obtain ⟨p, hp, rfl⟩ := List.mem_map.1 hk
    exact h1 p hp
theorem asc_append {A B : Row} : Asc (A ++ B) ↔ Asc A ∧ Asc B ∧ ∀ p ∈ A, ∀ q ∈ B, p.1 < q.1 := by
  unfold Asc
  rw [List.map_append, List.pairwise_append]
  constructor
  · rintro ⟨h1, h2, h3⟩
    exact ⟨h1, h2, fun p hp q hq => h3 _ (List.mem_map_of_mem hp) _ (List.mem_map_of_mem hq)⟩
  · rintro ⟨h1, h2, h3⟩
    refine ⟨h1, h2, fun a ha b hb => ?_⟩
    obtain ⟨p, hp, rfl⟩ := List.mem_map.1 ha
    obtain ⟨q, hq, rfl⟩ := List.mem_map.1 hb
    exact h3 p hp q hq
/-- A row is what its look-ups say. -/
theorem ext {L M : Row} (hL : Asc L) (hM : Asc M) (h : ∀ x, look L x = look M x) : L = M := by
  induction L generalizing M with
  | nil =>
    cases M with
    | nil => rfl
    | cons q M =>
      have := h q.1
      rw [look_cons, if_pos rfl] at this
      cases this
  | cons p L ih =>
    obtain ⟨a, b⟩ := p
    rw [asc_cons] at hL
    cases M with
    | nil =>
      have := h a
      rw [look_cons, if_pos rfl] at this
      cases this
    | cons q M =>
      obtain ⟨c, d⟩ := q
      rw [asc_cons] at hM
      have key : ∀ {a b c d : Int} {L M : Row}, (∀ p ∈ M, c < p.1) → look ((a, b) :: L) a = look ((c, d) :: M) a → ¬ a < c := by
        intro a b c d L M hM h hlt
        rw [look_cons, if_pos rfl, look_cons, if_neg (by omega), look_none (fun p hp e => by have := hM p hp; omega)] at h
        cases h
      have h1 := key (L := L) hM.1 (h a)
      have h2 := key (L := M) hL.1 (h c).symm
      obtain rfl : a = c := by omega
      have h3 := h a
      rw [look_cons, if_pos rfl, look_cons, if_pos rfl] at h3
      injection h3 with h3
      subst h3
      rw [ih hL.2 hM.2 (fun x => ?_)]
      by_cases hx : a = x
      · subst hx
        rw [look_none (fun p hp e => by have := hL.1 p hp; omega), look_none (fun p hp e => by have := hM.1 p hp; omega)]
      · have := h x
        rwa [look_cons, if_neg hx, look_cons, if_neg hx] at this
def mput (L : Row) (x y : Int) : Row := L.filter (fun p => p.1 < x) ++ (x, y) :: L.filter (fun p => x < p.1)
def mdel (L : Row) (x : Int) : Row := L.filter (fun p => p.1 ≠ x)
theorem asc_filter {L : Row} (h : Asc L) (f : Int × Int → Bool) : Asc (L.filter f) := by
  unfold Asc at h ⊢
  exact List.Pairwise.sublist (List.Sublist.map _ List.filter_sublist) h
theorem look_filter {L : Row} {f : Int × Int → Bool} {x : Int} (hf : ∀ p, p.1 = x → f p = true) : look (L.filter f) x = look L x := by
  induction L with
  | nil => rfl
  | cons p L ih =>
    rw [List.filter_cons, look_cons]
    by_cases h : f p = true
    · rw [if_pos h, look_cons, ih]
    · rw [if_neg h, ih, if_neg (fun e => h (hf p e))]
theorem look_filter_none {L : Row} {f : Int × Int → Bool} {x : Int} (hf : ∀ p, p.1 = x → f p = false) : look (L.filter f) x = none := by
  refine look_none fun p hp e => ?_
  have := (List.mem_filter.1 hp).2
  rw [hf p e] at this
  cases this
theorem asc_mput {L : Row} (h : Asc L) (x y : Int) : Asc (mput L x y) := by
  unfold mput
  rw [asc_append, asc_cons]
  refine ⟨asc_filter h _, ⟨fun p hp => by simpa using (List.mem_filter.1 hp).2, asc_filter h _⟩, fun p hp q hq => ?_⟩
  have h1 : p.1 < x := by simpa using (List.mem_filter.1 hp).2
  rcases List.mem_cons.1 hq with rfl | hq
  · exact h1
  · have h2 : x < q.1 := by simpa using (List.mem_filter.1 hq).2
    omega
theorem asc_mdel {L : Row} (h : Asc L) (x : Int) : Asc (mdel L x) := asc_filter h _
theorem look_mput (L : Row) (x y z : Int) : look (mput L x y) z = if z = x then some y else look L z := by
  unfold mput
  rw [look_append, look_cons]
  rcases Int.lt_trichotomy z x with h | rfl | h
  · rw [if_neg (by omega), if_neg (by omega), look_filter (fun p hp => by simp; omega), look_filter_none (fun p hp => by simp; omega)]
    cases look L z <;> rfl
  · rw [if_pos rfl, if_pos rfl, look_filter_none (fun p hp => by simp; omega)]
    rfl
  · rw [if_neg (by omega), if_neg (by omega), look_filter_none (fun p hp => by simp; omega), look_filter (fun p hp => by simp; omega)]
    rfl
theorem look_mdel (L : Row) (x z : Int) : look (mdel L x) z = if z = x then none else look L z := by
  unfold mdel
  by_cases h : z = x
  · subst h
    rw [if_pos rfl, look_filter_none (fun p hp => by simp [hp])]
  · rw [if_neg h, look_filter (fun p hp => by simp [hp, h])]
/-- Where a row is cut at a key. -/
theorem cut_put {A B : Row} {x : Int} (hA : ∀ p ∈ A, p.1 < x) (hB : ∀ p ∈ B, x < p.1) (y : Int) : mput (A ++ B) x y = A ++ (x, y) :: B := by
  unfold mput
  rw [List.filter_append, List.filter_append, List.filter_eq_self.2 (fun p hp => by simpa using hA p hp), List.filter_eq_nil_iff.2 (fun p hp => by have := hB p hp; simp; omega), List.filter_eq_nil_iff.2 (fun p hp => by have := hA p hp; simp; omega), List.filter_eq_self.2 (fun p hp => by simpa using hB p hp)]
  simp
theorem cut_del {A B : Row} {x y : Int} (hA : ∀ p ∈ A, p.1 < x) (hB : ∀ p ∈ B, x < p.1) : mdel (A ++ (x, y) :: B) x = A ++ B := by
  unfold mdel
  rw [List.filter_append, List.filter_cons, if_neg (by simp), List.filter_eq_self.2 (fun p hp => by have := hA p hp; simp; omega), List.filter_eq_self.2 (fun p hp => by have := hB p hp; simp; omega)]
theorem cut_look {A B : Row} {x y : Int} (hA : ∀ p ∈ A, p.1 < x) : look (A ++ (x, y) :: B) x = some y := by
  rw [look_append, look_none (fun p hp e => by have := hA p hp; omega), look_cons, if_pos rfl]
  rfl
theorem cut_none {A B : Row} {x : Int} (hA : ∀ p ∈ A, p.1 < x) (hB : ∀ p ∈ B, x < p.1) : look (A ++ B) x = none :=
  look_none fun p hp e => by
    rcases List.mem_append.1 hp with h | h
    · have := hA p h; omega
    · have := hB p h; omega
/-- What the operations of a map do. -/
def mDo (L : Row) (op A B : Int) : Row × Int × Bool :=
  if op = 1 then (L, (look L A).getD 0, (look L A).isSome)
  else if op = 2 then (if (look L A).isSome then (L, 0, false) else (mput L A B, 0, true))
  else (if (look L A).isSome then (mdel L A, 0, true) else (L, 0, false))
theorem asc_mDo {L : Row} (h : Asc L) (op A B : Int) : Asc (mDo L op A B).1 := by
  unfold mDo
  split
  · exact h
  split
  · split
    · exact h
    · exact asc_mput h A B
  · split
    · exact asc_mdel h A
    · exact h
end Go.Proofs.Ytmfgalcepaaolaa.PureMap
