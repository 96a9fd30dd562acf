/- Maps as rows of pairs whose keys rise: looking up, putting, taking out; a row is what its look-ups say. -/
namespace Go.Proofs.Ytmfgalcepaaolaa.PureMap
abbrev Row := List (Int × Int)
def Asc (L : Row) : Prop := (L.map (·.1)).Pairwise (· < ·)
def look (L : Row) (x : Int) : Option Int := (L.find? (fun p => p.1 == x)).map (·.2)
theorem look_cons (a b : Int) (L : Row) (x : Int) : look ((a, b) :: L) x = if a = x then some b else look L x := by
  unfold look
  rw [List.find?_cons]
  by_cases h : a = x
  · simp [h]
  · have : (a == x) = false := by simp [h]
    simp [h, this]
theorem look_none {L : Row} {x : Int} (h : ∀ p ∈ L, p.1 ≠ x) : look L x = none := by
  induction L with
  | nil => rfl
  | cons p L ih =>
    rw [look_cons, if_neg (h p (by simp)), ih (fun q hq => h q (by simp [hq]))]
theorem look_append (A B : Row) (x : Int) : look (A ++ B) x = (look A x).or (look B x) := by
  induction A with
  | nil => rfl
  | cons p A ih =>
    rw [List.cons_append, look_cons, look_cons, ih]
    by_cases h : p.1 = x <;> simp [h]
theorem asc_cons {a b : Int} {L : Row} : Asc ((a, b) :: L) ↔ (∀ p ∈ L, a < p.1) ∧ Asc L := by
  unfold Asc
  rw [List.map_cons, List.pairwise_cons]
  constructor
  · rintro ⟨h1, h2⟩
    exact ⟨fun p hp => h1 _ (List.mem_map_of_mem hp), h2⟩
  · rintro ⟨h1, h2⟩
    refine ⟨fun k hk => ?_, h2⟩
    obtain ⟨p, hp, rfl⟩ := List.mem_map.1 hk
    exact h1 p hp
theorem asc_append {A B : Row} : Asc (A ++ B) ↔ Asc A ∧ Asc B ∧ ∀ p ∈ A, ∀ q ∈ B, p.1 < q.1 := by
  unfold Asc
  rw [List.map_append, List.pairwise_append]
  constructor
  · rintro ⟨h1, h2, h3⟩
    exact ⟨h1, h2, fun p hp q hq => h3 _ (List.mem_map_of_mem hp) _ (List.mem_map_of_mem hq)⟩
  · rintro ⟨h1, h2, h3⟩
    refine ⟨h1, h2, fun a ha b hb => ?_⟩
    obtain ⟨p, hp, rfl⟩ := List.mem_map.1 ha
    obtain ⟨q, hq, rfl⟩ := List.mem_map.1 hb
    exact h3 p hp q hq
def mput (L : Row) (x y : Int) : Row := L.filter (fun p => p.1 < x) ++ (x, y) :: L.filter (fun p => x < p.1)
def mdel (L : Row) (x : Int) : Row := L.filter (fun p => p.1 ≠ x)
theorem asc_filter {L : Row} (h : Asc L) (f : Int × Int → Bool) : Asc (L.filter f) := by
  unfold Asc at h ⊢
  exact List.Pairwise.sublist (List.Sublist.map _ List.filter_sublist) h
theorem asc_mput {L : Row} (h : Asc L) (x y : Int) : Asc (mput L x y) := by
  unfold mput
  rw [asc_append, asc_cons]
  refine ⟨asc_filter h _, ⟨fun p hp => by simpa using (List.mem_filter.1 hp).2, asc_filter h _⟩, fun p hp q hq => ?_⟩
  have h1 : p.1 < x := by simpa using (List.mem_filter.1 hp).2
  rcases List.mem_cons.1 hq with rfl | hq
  · exact h1
  · have h2 : x < q.1 := by simpa using (List.mem_filter.1 hq).2
    omega
theorem asc_mdel {L : Row} (h : Asc L) (x : Int) : Asc (mdel L x) := asc_filter h _
/-- Where a row is cut at a key. -/
theorem cut_put {A B : Row} {x : Int} (hA : ∀ p ∈ A, p.1 < x) (hB : ∀ p ∈ B, x < p.1) (y : Int) : mput (A ++ B) x y = A ++ (x, y) :: B := by
  unfold mput
  rw [List.filter_append, List.filter_append, List.filter_eq_self.2 (fun p hp => by simpa using hA p hp), List.filter_eq_nil_iff.2 (fun p hp => by have := hB p hp; simp; omega), List.filter_eq_nil_iff.2 (fun p hp => by have := hA p hp; simp; omega), List.filter_eq_self.2 (fun p hp => by simpa using hB p hp)]
  simp
theorem cut_del {A B : Row} {x y : Int} (hA : ∀ p ∈ A, p.1 < x) (hB : ∀ p ∈ B, x < p.1) : mdel (A ++ (x, y) :: B) x = A ++ B := by
  unfold mdel
  rw [List.filter_append, List.filter_cons, if_neg (by simp), List.filter_eq_self.2 (fun p hp => by have := hA p hp; simp; omega), List.filter_eq_self.2 (fun p hp => by have := hB p hp; simp; omega)]
theorem cut_look {A B : Row} {x y : Int} (hA : ∀ p ∈ A, p.1 < x) : look (A ++ (x, y) :: B) x = some y := by
  rw [look_append, look_none (fun p hp e => by have := hA p hp; omega), look_cons, if_pos rfl]
  rfl
theorem cut_none {A B : Row} {x : Int} (hA : ∀ p ∈ A, p.1 < x) (hB : ∀ p ∈ B, x < p.1) : look (A ++ B) x = none :=
  look_none fun p hp e => by
    rcases List.mem_append.1 hp with h | h
    · have := hA p h; omega
    · have := hB p h; omega
/-- What the operations of a map do. -/
def mDo (L : Row) (op A B : Int) : Row × Int × Bool :=
  if op = 1 then (L, (look L A).getD 0, (look L A).isSome)
  else if op = 2 then (if (look L A).isSome then (L, 0, false) else (mput L A B, 0, true))
  else (if (look L A).isSome then (mdel L A, 0, true) else (L, 0, false))
theorem asc_mDo {L : Row} (h : Asc L) (op A B : Int) : Asc (mDo L op A B).1 := by
  unfold mDo
  split
  · exact h
  split
  · split
    · exact h
    · exact asc_mput h A B
  · split
    · exact asc_mdel h A
    · exact h
end Go.Proofs.Ytmfgalcepaaolaa.PureMap
