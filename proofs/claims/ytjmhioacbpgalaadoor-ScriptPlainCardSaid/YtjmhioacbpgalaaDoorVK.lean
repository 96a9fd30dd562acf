/- Regions that draw their order: what only reads or makes what is new, in whichever order. -/
import Derived.Test.YtjmhioacbpgalaaDoorVJ
namespace Go.Proofs.YtjmhioacbpgalaaDoorV
open Go Go.RowKit
set_option linter.unusedVariables false
set_option linter.unusedSimpArgs false
section
variable {E : Env} {ops : Array Oper} {PL : List (List Nat)} {rsv : Nat → Option Nat} {n k : Nat} {T0 : List (Nat × D)} {H0 : List (Option DObj)} {recs : List Rec}

/-- What holds while some have been done. -/
structure Soft (n : Nat) (T0 : List (Nat × D)) (H0 : List (Option DObj)) (recs : List Rec) (L : Nat → Bool) (g : G) (w : World) (a : Act) : Prop where
  sz : a.tmps.size = n
  T : ∀ t d, lookT (TLs n L 0 T0 recs) t = some d → ∃ y, a.tmps[t]? = some y ∧ Rep g w d y
  H : HeapRel g w (lookL H0 recs L)
  m1 : ∀ (i : Nat) (r : Rec), recs[i]? = some r → L i = false → ∀ id, r.base ≤ id → id < r.base + r.news.length → g.m id = none
  m2 : ∀ id, baseOf H0.length recs ≤ id → g.m id = none
  defers : a.defers = []

theorem base_ge : ∀ (l : List Rec) (b : Nat), b ≤ baseOf b l
  | [], b => Nat.le_refl _
  | r :: l, b => Nat.le_trans (Nat.le_add_right _ _) (base_ge l _)
theorem base_take_le {l : List Rec} {b i : Nat} {r : Rec} (h : l[i]? = some r) (hb : r.base = baseOf b (l.take i)) : r.base + r.news.length ≤ baseOf b l := by
  obtain ⟨hl, he⟩ := List.getElem?_eq_some_iff.1 h
  have : l = l.take i ++ (r :: l.drop (i + 1)) := by
    have := (List.take_append_drop i l).symm
    rw [List.drop_eq_getElem_cons hl, he] at this
    exact this
  rw [this, baseOf_append, hb]
  exact base_ge _ _

/-- One of them is done. -/
theorem soft_step (hE : E.ok) (hok : drawOk ops.toList PL n k = true) (hlen : recs.length = k)
    (hfact : ∀ (m : Nat) (o : Oper) (r : Rec), (ops.toList.take k)[m]? = some o → recs[m]? = some r → Fact E ops (getP PL) rsv n T0 H0 (recs.take m) o r)
    {L : Nat → Bool} {g : G} {w : World} {a : Act} (S : Soft n T0 H0 recs L g w a) {i : Nat} {o : Oper} (hik : i < k) (ho : ops[i]? = some o) (hLi : L i = false)
    (hcl : ∀ i, L i = true → ∀ j ∈ getP PL i, L j = true) (hP : ∀ j ∈ getP PL i, L j = true) {K : Act → World → Prop} {Q : Exit → Act → World → Prop}
    (hK : ∀ g' a' w', Le g w g' w' → (∀ id, id < H0.length → g'.m id = g.m id) → Soft n T0 H0 recs (fun j => j == i || L j) g' w' a' → K a' w') : wpOp E.P ops Q i K a w := by
  obtain ⟨hkl, hspec⟩ := drawOk_spec hok
  have hol : ops.toList[i]? = some o := by simpa using ho
  obtain ⟨s1, s2, s3, _⟩ := hspec i o hol
  obtain ⟨s3, s4⟩ := s3 hik
  have hot : (ops.toList.take k)[i]? = some o := by rw [List.getElem?_take, if_pos hik]; exact hol
  have hir : i < recs.length := by omega
  have hri : recs[i]? = some recs[i] := List.getElem?_eq_getElem hir
  obtain ⟨f1, f2, f3⟩ := hfact i o _ hot hri
  generalize recs[i] = r at hri f1 f2 f3
  -- records and operations go together
  have hrec : ∀ (j : Nat) (q : Rec), recs[j]? = some q → ∃ x, ops.toList[j]? = some x ∧ j < k ∧ Fact E ops (getP PL) rsv n T0 H0 (recs.take j) x q := fun j q hj => by
    have hjk : j < k := by rw [← hlen]; exact (List.getElem?_eq_some_iff.1 hj).1
    have hjl : j < ops.toList.length := by omega
    have hx : (ops.toList.take k)[j]? = some ops.toList[j] := by rw [List.getElem?_take, if_pos hjk]; exact List.getElem?_eq_getElem hjl
    exact ⟨_, List.getElem?_eq_getElem hjl, hjk, hfact j _ q hx hj⟩
  have hpair : ∀ (j : Nat) (q : Rec) (t : Nat), recs[j]? = some q → q.dst = some t → (o.dst = some t → j = i) ∧ (t ∈ o.looksAt ops → j ≠ i → (L j = true ↔ j < i)) := by
    intro j q t hj hd
    obtain ⟨x, hx, hjk, hf⟩ := hrec j q hj
    have hxd : x.dst = some t := by rw [← hf.1]; exact hd
    refine ⟨fun hot => ?_, fun hlook hne => ?_⟩
    · rcases Nat.lt_trichotomy j i with h | h | h
      · have := s4 j x hx h
        unfold pairOk at this
        rw [hxd, hot] at this
        simp at this
      · exact h
      · obtain ⟨_, _, s3', _⟩ := hspec j x hx
        have := (s3' hjk).2 i o hol h
        unfold pairOk at this
        rw [hxd, hot] at this
        simp at this
    · rcases Nat.lt_or_ge j i with h | h
      · refine ⟨fun _ => h, fun _ => ?_⟩
        have := s4 j x hx h
        unfold pairOk at this
        simp only [Bool.and_eq_true, Bool.or_eq_true] at this
        rcases this.1 with hc | hc
        · exact hP j (by simpa using hc)
        · exact absurd hlook ((Oper.apart_spec hc).1 t hxd)
      · refine ⟨fun hL => ?_, fun hlt => by omega⟩
        obtain ⟨_, _, s3', _⟩ := hspec j x hx
        have := (s3' hjk).2 i o hol (by omega)
        unfold pairOk at this
        simp only [Bool.and_eq_true, Bool.or_eq_true] at this
        rcases this.1 with hc | hc
        · have := hcl j hL i (by simpa using hc)
          rw [hLi] at this; cases this
        · exact absurd hlook ((Oper.apart_spec hc).2.2 t hxd)
  have hdstn : ∀ (j : Nat) (q : Rec) (t : Nat), recs[j]? = some q → q.dst = some t → t < n := by
    intro j q t hj hd
    obtain ⟨x, hx, hjk, hf⟩ := hrec j q hj
    obtain ⟨_, _, s3', _⟩ := hspec j x hx
    exact (s3' hjk).1 t (by rw [← hf.1]; exact hd)
  have huniq : ∀ (j j' : Nat) (q q' : Rec) (t : Nat), recs[j]? = some q → recs[j']? = some q' → q.dst = some t → q'.dst = some t → j = j' := by
    intro j j' q q' t hj hj' hd hd'
    obtain ⟨x, hx, hjk, hf⟩ := hrec j q hj
    obtain ⟨x', hx', hjk', hf'⟩ := hrec j' q' hj'
    rcases Nat.lt_trichotomy j j' with h | h | h
    · obtain ⟨_, _, s3', _⟩ := hspec j' x' hx'
      have := (s3' hjk').2 j x hx h
      unfold pairOk at this
      rw [← hf.1, ← hf'.1, hd, hd'] at this
      simp at this
    · exact h
    · obtain ⟨_, _, s3', _⟩ := hspec j x hx
      have := (s3' hjk).2 j' x' hx' h
      unfold pairOk at this
      rw [← hf.1, ← hf'.1, hd, hd'] at this
      simp at this
  -- what a temporary holds
  have hlook : ∀ (M : Nat → Bool) (t : Nat), (∃ (j : Nat) (q : Rec), recs[j]? = some q ∧ q.dst = some t ∧ lookT (TLs n M 0 T0 recs) t = if M j then some q.val else lookT T0 t) ∨
      ((∀ (j : Nat) (q : Rec), recs[j]? = some q → q.dst ≠ some t) ∧ lookT (TLs n M 0 T0 recs) t = lookT T0 t) := by
    intro M t
    by_cases hex : ∃ (j : Nat) (q : Rec), recs[j]? = some q ∧ q.dst = some t
    · obtain ⟨j, q, hj, hd⟩ := hex
      refine .inl ⟨j, q, hj, hd, ?_⟩
      have := TLs_one (L := M) (hdstn j q t hj hd) recs 0 j q T0 hj hd fun j' q' hj' hd' => huniq j' j q' q t hj' hj hd' hd
      rwa [Nat.zero_add] at this
    · have hno : ∀ (j : Nat) (q : Rec), recs[j]? = some q → q.dst ≠ some t := fun j q hj hd => hex ⟨j, q, hj, hd⟩
      refine .inr ⟨hno, TLs_none recs 0 T0 fun q hq => ?_⟩
      obtain ⟨j, hj⟩ := List.mem_iff_getElem?.1 hq
      exact hno j q hj
  have hsame : ∀ t, t ∈ o.looksAt ops → lookT (TLs n (fun _ => true) 0 T0 (recs.take i)) t = lookT (TLs n L 0 T0 recs) t := by
    intro t ht
    rcases hlook L t with ⟨j, q, hj, hd, he⟩ | ⟨hno, he⟩
    · rw [he]
      have hiff : L j = true ↔ j < i := by
        by_cases hne : j = i
        · subst hne; rw [hLi]; simp
        · exact (hpair j q t hj hd).2 ht hne
      by_cases hlt : j < i
      · rw [if_pos (hiff.2 hlt)]
        have hj' : (recs.take i)[j]? = some q := by rw [List.getElem?_take, if_pos hlt]; exact hj
        rw [TLs_one (L := fun _ => true) (hdstn j q t hj hd) (recs.take i) 0 j q T0 hj' hd fun j' q' e1 e2 => ?_]
        · rfl
        · rw [List.getElem?_take] at e1
          split at e1
          · exact huniq j' j q' q t e1 hj e2 hd
          · cases e1
      · rw [if_neg (fun hL => hlt (hiff.1 hL))]
        refine TLs_none _ 0 T0 fun q' hq' hd' => ?_
        obtain ⟨j', hj'⟩ := List.mem_iff_getElem?.1 hq'
        rw [List.getElem?_take] at hj'
        split at hj'
        · rename_i hlt'
          have := huniq j' j q' q t hj' hj hd' hd
          omega
        · cases hj'
    · rw [he]
      refine TLs_none _ 0 T0 fun q' hq' => ?_
      obtain ⟨j', hj'⟩ := List.mem_iff_getElem?.1 hq'
      rw [List.getElem?_take] at hj'
      split at hj'
      · exact hno j' q' hj'
      · cases hj'
  have hev : ∀ x ∈ o.op.operands, evalD (TLs n (fun _ => true) 0 T0 (recs.take i)) x = evalD (TLs n L 0 T0 recs) x := fun x hx => by
    cases x with
    | tmp t =>
      simp only [evalD]
      rw [hsame t (by unfold Oper.looksAt; exact List.mem_append.2 (.inl (List.mem_filterMap.2 ⟨.tmp t, by simpa using hx, rfl⟩)))]
    | _ => rfl
  have hwant : wantD ops (TLs n (fun _ => true) 0 T0 (recs.take i)) o = wantD ops (TLs n L 0 T0 recs) o := by
    unfold wantD
    split
    · rfl
    · rename_i gi want hg
      split
      · rename_i t ht
        rw [hsame t (by unfold Oper.looksAt; rw [hg]; exact List.mem_append.2 (.inr (by simp [ht])))]
      · rfl
  have hbases : ∀ (m : Nat) (q : Rec), recs[m]? = some q → q.base = baseOf H0.length (recs.take m) := fun m q hq => by
    obtain ⟨_, _, _, hf⟩ := hrec m q hq
    exact hf.2.1
  have hkill : ∀ (c : Nat) (q : Rec) (id : Nat), recs[c]? = some q → id ∈ q.kills → H0.length ≤ id ∧ ∃ j, ownR recs 0 id = some j ∧ rsv j = some c ∧ j ∈ getP PL c := fun c q id hc hid => by
    obtain ⟨x, _, hck, hf⟩ := hrec c q hc
    obtain ⟨_, _, hf⟩ := hf
    have hcl' : (recs.take c).length = c := by simp; omega
    rcases hf with ⟨_, _, _, hk⟩ | ⟨_, s, _, _, _, hk, _, hall⟩
    · rw [hk] at hid; simp at hid
    · rw [hk] at hid
      obtain ⟨p, hp, rfl⟩ := List.mem_map.1 hid
      obtain ⟨_, h2, j, h3, h4, h5⟩ := hall p hp
      rw [hcl'] at h4 h5
      refine ⟨h2, j, ?_, h4, h5⟩
      have := ownR_ext (recs.take c) (recs.drop c) 0 h3
      rwa [List.take_append_drop] at this
  -- the new state, out of the old one
  have fin : ∀ (g' : G) (w' : World) (v' : Value) (look' : Nat → Option DObj), Le g w g' w' → Rep g' w' r.val v' → HeapRel g' w' look' → look' = lookL H0 recs (fun j => j == i || L j) →
      (∀ id, (id < r.base ∨ r.base + r.news.length ≤ id) → g'.m id = g.m id) → K (a.put o.dst v') w' := by
    intro g' w' v' look' le hrep hheap hlk hm
    refine hK g' _ w' le (fun id hi => hm id (.inl (Nat.lt_of_lt_of_le hi (by rw [f2]; exact base_ge _ _)))) ⟨(put_size _ _).trans S.sz, fun t d e => ?_, by rw [← hlk]; exact hheap, fun j q hj hLj id h1 h2 => ?_, fun id hid => ?_, ?_⟩
    · rcases hlook (fun j => j == i || L j) t with ⟨j, q, hj, hd, he⟩ | ⟨hno, he⟩
      · by_cases hji : j = i
        · subst hji
          rw [hri] at hj; cases hj
          rw [he, if_pos (by simp)] at e
          cases e
          have hdo : o.dst = some t := by rw [← f1]; exact hd
          have htn := hdstn j r t hri hd
          refine ⟨v', ?_, hrep⟩
          rw [hdo]
          simp only [Act.put, Array.getElem?_setIfInBounds]
          rw [if_pos trivial, if_pos (by rw [S.sz]; exact htn)]
        · have e' : lookT (TLs n L 0 T0 recs) t = some d := by
            rcases hlook L t with ⟨j', q', hj', hd', he'⟩ | ⟨hno, _⟩
            · have := huniq j j' q q' t hj hj' hd hd'
              subst this
              rw [hj] at hj'; cases hj'
              rw [he'];  rw [he] at e
              rw [← e]; simp [hji]
            · exact absurd hd (hno j q hj)
          obtain ⟨y, hy, ry⟩ := S.T t d e'
          refine ⟨y, ?_, Rep.mono le _ _ ry⟩
          cases hdo : o.dst with
          | none => exact hy
          | some u =>
            simp only [Act.put, Array.getElem?_setIfInBounds]
            have hut : u ≠ t := fun hut => hji ((hpair j q t hj hd).1 (by rw [hdo, hut]))
            rw [if_neg hut]; exact hy
      · rw [he] at e
        have e' : lookT (TLs n L 0 T0 recs) t = some d := by
          rcases hlook L t with ⟨j', q', hj', hd', _⟩ | ⟨_, he'⟩
          · exact absurd hd' (hno j' q' hj')
          · rw [he']; exact e
        obtain ⟨y, hy, ry⟩ := S.T t d e'
        refine ⟨y, ?_, Rep.mono le _ _ ry⟩
        cases hdo : o.dst with
        | none => exact hy
        | some u =>
          simp only [Act.put, Array.getElem?_setIfInBounds]
          have hut : u ≠ t := fun hut => hno i r hri (by rw [f1, hdo, hut])
          rw [if_neg hut]; exact hy
    · have hji : j ≠ i := fun e => by subst e; simp at hLj
      have hLj' : L j = false := by
        simp only [Bool.or_eq_false_iff] at hLj; exact hLj.2
      rw [hm id ?_]; · exact S.m1 j q hj hLj' id h1 h2
      have hb1 := hbases j q hj
      have hb2 := hbases i r hri
      rcases Nat.lt_or_gt_of_ne hji with h | h
      · have hj2 : (recs.take i)[j]? = some q := by rw [List.getElem?_take, if_pos h]; exact hj
        have := base_take_le (b := H0.length) hj2 (by rw [hb1]; congr 1; rw [List.take_take]; congr 1; omega)
        exact .inl (by omega)
      · have hi2 : (recs.take j)[i]? = some r := by rw [List.getElem?_take, if_pos h]; exact hri
        have := base_take_le (b := H0.length) hi2 (by rw [hb2]; congr 1; rw [List.take_take]; congr 1; omega)
        exact .inr (by omega)
    · rw [hm id (.inr (Nat.le_trans (base_take_le hri (hbases i r hri)) hid))]; exact S.m2 id hid
    · have := S.defers
      cases o.dst <;> exact this
  -- what objects there are, by their owners
  have hobjs : ∀ (M : Nat → Bool) (id : Nat), (ownR recs 0 id = none ∧ objOf recs 0 M id = none) ∨ ∃ (j : Nat) (q : Rec), ownR recs 0 id = some j ∧ recs[j]? = some q ∧ q.base ≤ id ∧ id < q.base + q.news.length ∧ objOf recs 0 M id = if M j then q.news[id - q.base]? else none := fun M id => by
    cases hoj : ownR recs 0 id with
    | none => exact .inl ⟨rfl, objOf_none recs 0 hoj⟩
    | some j =>
      obtain ⟨q, _, q2, q3, q4⟩ := own_get recs 0 hoj
      have q2 : recs[j]? = some q := by simpa using q2
      have := (own_range recs 0 H0.length hbases q2 q3 q4).2 M
      rw [Nat.zero_add] at this
      exact .inr ⟨j, q, rfl, q2, q3, q4, this⟩
  have hown : ∀ id, r.base ≤ id → id < r.base + r.news.length → ownR recs 0 id = some i := fun id h1 h2 => by
    have := (own_range recs 0 H0.length hbases hri h1 h2).1
    rwa [Nat.zero_add] at this
  have hkL : ∀ id, killedB (fun j => j == i || L j) recs 0 id = true ↔ (id ∈ r.kills ∨ killedB L recs 0 id = true) := fun id => by
    rw [killedB_iff, killedB_iff]
    constructor
    · rintro ⟨c, q, h1, h2, h3⟩
      by_cases hci : c = i
      · subst hci; rw [hri] at h1; cases h1; exact .inl h3
      · exact .inr ⟨c, q, h1, by rw [Nat.zero_add] at h2 ⊢; simpa [hci] using h2, h3⟩
    · rintro (h | ⟨c, q, h1, h2, h3⟩)
      · exact ⟨i, r, hri, by simp, h⟩
      · exact ⟨c, q, h1, by rw [Nat.zero_add] at h2 ⊢; simp [h2], h3⟩
  have hrb : H0.length ≤ r.base := by rw [f2]; exact base_ge _ _
  -- of its own new objects none is taken yet
  have hown_kill : ∀ id, r.base ≤ id → id < r.base + r.news.length → id ∉ r.kills ∧ killedB L recs 0 id = false := fun id h1 h2 => by
    have ho := hown id h1 h2
    refine ⟨fun hk => ?_, ?_⟩
    · obtain ⟨_, j, e1, _, e3⟩ := hkill i r id hri hk
      rw [ho] at e1; cases e1
      have := hP i e3
      rw [hLi] at this; cases this
    · cases hkb : killedB L recs 0 id with
      | false => rfl
      | true =>
        obtain ⟨c, q, c1, c2, c3⟩ := (killedB_iff recs 0).1 hkb
        rw [Nat.zero_add] at c2
        obtain ⟨_, j, e1, _, e3⟩ := hkill c q id c1 c3
        rw [ho] at e1; cases e1
        have := hcl c c2 i e3
        rw [hLi] at this; cases this
  have hnew : ∀ id, (if id ∈ r.kills then none else if r.base ≤ id ∧ id < r.base + r.news.length then r.news[id - r.base]? else lookL H0 recs L id) = lookL H0 recs (fun j => j == i || L j) id := fun id => by
    by_cases hk : id ∈ r.kills
    · rw [if_pos hk]
      obtain ⟨e0, _⟩ := hkill i r id hri hk
      unfold lookL
      rw [if_neg (by omega), if_pos ((hkL id).2 (.inl hk))]
    · rw [if_neg hk]
      by_cases hr : r.base ≤ id ∧ id < r.base + r.news.length
      · rw [if_pos hr]
        obtain ⟨_, hk2⟩ := hown_kill id hr.1 hr.2
        unfold lookL
        rw [if_neg (by omega), if_neg (fun h => ((hkL id).1 h).elim hk (fun h => by rw [hk2] at h; cases h))]
        rcases hobjs (fun j => j == i || L j) id with ⟨e1, _⟩ | ⟨j, q, e1, e2, e3, e4, e5⟩
        · rw [hown id hr.1 hr.2] at e1; cases e1
        · rw [hown id hr.1 hr.2] at e1; cases e1
          rw [hri] at e2; cases e2
          rw [e5, if_pos (by simp)]
      · rw [if_neg hr]
        unfold lookL
        by_cases hid : id < H0.length
        · rw [if_pos hid, if_pos hid]
        · rw [if_neg hid, if_neg hid]
          by_cases hkb : killedB L recs 0 id = true
          · rw [if_pos hkb, if_pos ((hkL id).2 (.inr hkb))]
          · rw [if_neg hkb, if_neg (fun h => ((hkL id).1 h).elim hk hkb)]
            rcases hobjs L id with ⟨e1, e2⟩ | ⟨j, q, e1, e2, e3, e4, e5⟩
            · rcases hobjs (fun j => j == i || L j) id with ⟨_, e3⟩ | ⟨j, q, e3, _⟩
              · rw [e2, e3]
              · rw [e1] at e3; cases e3
            · rcases hobjs (fun j => j == i || L j) id with ⟨e6, _⟩ | ⟨j', q', d1, d2, d3, d4, d5⟩
              · rw [e1] at e6; cases e6
              · rw [e1] at d1; cases d1
                rw [e2] at d2; cases d2
                rw [e5, d5]
                have hji : j ≠ i := fun e => by subst e; rw [hri] at e2; cases e2; exact hr ⟨e3, e4⟩
                simp [hji]
  unfold wpOp
  rw [ho]
  dsimp only
  rcases f3 with ⟨hw, hv, hn, hkl'⟩ | ⟨hw, s, hs, hv, hn, hkl', hup, hall⟩
  · -- it is not wanted
    rw [hwant] at hw
    have hw' := wantD_eq S.T hw
    rw [if_neg (by rw [hw']; simp)]
    refine fin g w undef (lookL H0 recs L) (.refl g w) (by rw [hv]; exact rfl) S.H ?_ (fun id _ => rfl)
    funext id
    rw [← hnew id, hkl', hn]
    simp
    intro h1 h2
    omega
  · rw [hwant] at hw
    have hw' := wantD_eq S.T hw
    rw [if_pos hw']
    refine .inl ?_
    have hpl : (recs.take i).length = i := by simp; omega
    rw [hpl] at hs hall
    have hview : ∀ id ob, viewR H0 (recs.take i) (fun j => (getP PL i).contains j && (match rsv j with | none => true | some c => c == i)) id = some ob → lookL H0 recs L id = some ob := fun id ob e => by
      unfold viewR at e
      unfold lookL
      split at e
      · rename_i hid; rw [if_pos hid]; exact e
      · rename_i hid
        rw [if_neg hid]
        obtain ⟨j, j1, j2⟩ := objOf_own _ 0 e
        simp only [Bool.and_eq_true] at j2
        have hrecs : recs = recs.take i ++ recs.drop i := (List.take_append_drop i recs).symm
        have hnk : ¬ killedB L recs 0 id = true := fun hk => by
          obtain ⟨c, q, c1, c2, c3⟩ := (killedB_iff recs 0).1 hk
          rw [Nat.zero_add] at c2
          obtain ⟨_, j', e1, e2, _⟩ := hkill c q id c1 c3
          have j1' := ownR_ext (recs.take i) (recs.drop i) 0 j1
          rw [← hrecs, e1] at j1'
          cases j1'
          rw [e2] at j2
          have : c = i := by simpa using j2.2
          subst this
          rw [hLi] at c2; cases c2
        rw [if_neg hnk, hrecs]
        exact objOf_ext (recs.take i) (recs.drop i) 0 (fun m hm => by
          simp only [Bool.and_eq_true] at hm
          exact hP m (by simpa using hm.1)) e
    have hs' : coreD E (evalD (TLs n L 0 T0 recs)) (lookL H0 recs L) r.base o.op = some s := by
      rw [← coreD_congr hev]
      exact coreD_mono hview hs hup
    refine coreD_sound hE hs' (fun x _ => evalD_rep S.T x) S.H (fun id h1 h2 => ?_) fun g' w' v' ho' => ?_
    · rw [← hn] at h2
      refine ⟨S.m1 i r hri hLi id h1 h2, ?_⟩
      unfold lookL
      rw [if_neg (by omega), if_neg (by rw [(hown_kill id h1 h2).2]; simp)]
      rcases hobjs L id with ⟨_, e⟩ | ⟨j, q, e1, e2, e3, e4, e5⟩
      · exact e
      · rw [hown id h1 h2] at e1; cases e1
        rw [e5, if_neg (by rw [hLi]; simp)]
    · refine fin g' w' v' _ ho'.le (by rw [hv]; exact ho'.rep) ho'.heap ?_ (fun id hid => ho'.m id (by rw [← hn]; exact hid))
      funext id
      rw [← hnew id]
      unfold Res.heap
      rw [putUpd_none s.upd _ id fun p hp => (hall p hp).1, ← hkl']
      split
      · rfl
      · unfold putNews
        rw [hn]

theorem soft_wp (hE : E.ok) (hok : drawOk ops.toList PL n k = true) (hlen : recs.length = k) {Q : Exit → Act → World → Prop} {g0 : G} {w0 : World}
    (hfact : ∀ (m : Nat) (o : Oper) (r : Rec), (ops.toList.take k)[m]? = some o → recs[m]? = some r → Fact E ops (getP PL) rsv n T0 H0 (recs.take m) o r)
    (htail : ∀ (fuel : Nat) (listed : Array Bool) (g : G) (w : World) (a : Act), k + fuel = ops.size → listed.size = ops.size → (∀ i, i < k → listed.getD i false = true) → (∀ i, k ≤ i → listed.getD i false = false) →
      Soft n T0 H0 recs (fun j => listed.getD j false) g w a → Lw H0.length g0 w0 g w → wpAny E.P .any ops Q fuel listed a w) :
    ∀ (fuel : Nat) (listed : Array Bool) (g : G) (w : World) (a : Act), cntT listed.toList + fuel = ops.size → listed.size = ops.size → (∀ i, k ≤ i → listed.getD i false = false) →
    (∀ i, listed.getD i false = true → ∀ j ∈ getP PL i, listed.getD j false = true) → Soft n T0 H0 recs (fun j => listed.getD j false) g w a → Lw H0.length g0 w0 g w → wpAny E.P .any ops Q fuel listed a w := by
  obtain ⟨hkl, hspec⟩ := drawOk_spec hok
  have hkl : k ≤ ops.size := by simpa using hkl
  intro fuel
  induction fuel with
  | zero =>
    intro listed g w a hc hsz hhi hcl S l0
    have hall := cntT_full listed.toList (by simpa [hsz] using hc)
    have hk : k = ops.size := by
      rcases Nat.lt_or_ge k ops.size with h | h
      · have h1 := hall k (by simpa [hsz] using h)
        have h2 := hhi k (Nat.le_refl _)
        rw [Array.getD_eq_getD_getElem?] at h2
        have h1 : listed[k]? = some true := by simpa using h1
        rw [h1] at h2; cases h2
      · omega
    exact htail 0 listed g w a (by omega) hsz (fun i hi => by
      have h1 := hall i (by simp [hsz]; omega)
      have h1 : listed[i]? = some true := by simpa using h1
      rw [Array.getD_eq_getD_getElem?, h1]; rfl) hhi S l0
  | succ fuel ih =>
    intro listed g w a hc hsz hhi hcl S l0
    by_cases hsoft : ∀ i, i < k → listed.getD i false = true
    · have hcnt : cntT listed.toList = k := cntT_below _ _ (by simpa [hsz] using hkl) (fun i hi => by
        have := hsoft i hi
        rw [Array.getD_eq_getD_getElem?] at this
        rw [Array.getElem?_toList]
        cases hx : listed[i]? <;> rw [hx] at this <;> simp_all) (fun i hi e => by
        have := hhi i hi
        rw [Array.getElem?_toList] at e
        rw [Array.getD_eq_getD_getElem?, e] at this; cases this)
      exact htail (fuel + 1) listed g w a (by omega) hsz hsoft hhi S l0
    · -- the first that is left is ready
      have hsome : ∃ i, i < k ∧ listed.getD i false = false ∧ ∀ j, j < i → listed.getD j false = true := by
        have key : ∀ d i, i + d = k → (∀ j, j < i → listed.getD j false = true) → ∃ i, i < k ∧ listed.getD i false = false ∧ ∀ j, j < i → listed.getD j false = true := by
          intro d
          induction d with
          | zero => intro i hi hj; exact absurd (fun m hm => hj m (by omega)) hsoft
          | succ d ihd =>
            intro i hi hj
            cases hx : listed.getD i false with
            | false => exact ⟨i, by omega, hx, hj⟩
            | true =>
              refine ihd (i + 1) (by omega) fun j hj' => ?_
              rcases Nat.lt_or_ge j i with h | h
              · exact hj j h
              · have : j = i := by omega
                subst this; exact hx
        exact key k 0 (by omega) (fun j hj => absurd hj (Nat.not_lt_zero _))
      obtain ⟨i0, hi0, hl0, hj0⟩ := hsome
      have hget : ∀ i, i < ops.size → listed.getD i false = false → listed.getD i true = false := fun i hi h => by
        rw [Array.getD_eq_getD_getElem?] at h ⊢
        have : i < listed.size := by omega
        rw [Array.getElem?_eq_getElem this] at h ⊢
        exact h
      have ho0 : ops[i0]? = some ops[i0] := Array.getElem?_eq_getElem (by omega)
      have hready : i0 ∈ Region.ready .any ops listed := mem_ready.2 ⟨hget i0 (by omega) hl0, _, ho0, fun e he hb => by
        obtain ⟨s1, _⟩ := hspec i0 ops[i0] (by have h9 : i0 < ops.size := by omega
                                               simp [h9])
        exact hj0 _ (s1 _ (by unfold immOf; exact List.mem_map.2 ⟨e, List.mem_filter.2 ⟨by simpa using he, hb⟩, rfl⟩))⟩
      refine ⟨fun hnil => by rw [hnil] at hready; simp at hready, fun i hi => ?_⟩
      obtain ⟨q1, o, q2, q3⟩ := mem_ready.1 hi
      have hio : i < ops.size := (Array.getElem?_eq_some_iff.1 q2).1
      have hLi : listed.getD i false = false := by
        rw [Array.getD_eq_getD_getElem?] at q1 ⊢
        have : i < listed.size := by omega
        rw [Array.getElem?_eq_getElem this] at q1 ⊢
        exact q1
      have hP := preds_listed hok hcl q2 q3
      have hik : i < k := by
        rcases Nat.lt_or_ge i k with h | h
        · exact h
        · obtain ⟨_, _, _, s4⟩ := hspec i o (by simpa using q2)
          exact absurd (fun m hm => hP m (s4 h m (by omega))) hsoft
      refine soft_step hE hok hlen hfact S hik q2 hLi hcl hP fun g' a' w' le hml S' => ?_
      have hset : ∀ j, (listed.setIfInBounds i true).getD j false = (j == i || listed.getD j false) := fun j => by
        by_cases hji : j = i
        · subst hji
          have : j < listed.size := by omega
          simp [this]
        · rw [getD_set_ne false (fun e => hji e.symm)]
          simp [hji]
      have hfun : (fun j => (listed.setIfInBounds i true).getD j false) = fun j => j == i || listed.getD j false := funext hset
      refine ih (listed.setIfInBounds i true) g' w' a' ?_ (by simp [hsz]) (fun j hj => ?_) (fun j hj m hm => ?_) (by rw [hfun]; exact S') (l0.trans (le.lw hml))
      · have : listed.toList[i]? = some false := by
          rw [Array.getElem?_toList]
          rw [Array.getD_eq_getD_getElem?] at hLi
          have : i < listed.size := by omega
          rw [Array.getElem?_eq_getElem this] at hLi ⊢
          simpa using hLi
        have hcs := cntT_set listed.toList i this
        rw [Array.toList_setIfInBounds, hcs]; omega
      · rw [hset, hhi j hj]
        have : ¬ j = i := by omega
        simp [this]
      · rw [hset] at hj ⊢
        by_cases hji : j = i
        · subst hji; rw [hP m hm]; simp
        · have : listed.getD j false = true := by simpa [hji] using hj
          rw [hcl j this m hm]; simp
end

/-- What was made, one behind the other. -/
def newsAll : List Rec → List DObj
  | [] => []
  | r :: rs => r.news ++ newsAll rs
def killsAll : List Rec → List (Nat × Option DObj)
  | [] => []
  | r :: rs => r.kills.map (fun i => (i, none)) ++ killsAll rs
/-- A region that draws its order: its first k operations in whichever order, the others behind them. -/
def runDraw (E : Env) (ops : Array Oper) (PL : List (List Nat)) (RL : List (Option Nat)) (k : Nat) (st : St) : Option St :=
  match softGo E ops (getP PL) (getR RL) st.n st.H (ops.toList.take k) st.T st.H.length [] with
  | some recs =>
    match updH (killsAll recs) (st.H ++ (newsAll recs).map some) with
    | some H => runL E ops (ops.toList.drop k) { n := st.n, T := TLs st.n (fun _ => true) 0 st.T recs, H := H }
    | none => none
  | none => none

theorem flat_news : ∀ (rs : List Rec) (b : Nat), (∀ (m : Nat) (q : Rec), rs[m]? = some q → q.base = baseOf b (rs.take m)) → (newsAll rs).length + b = baseOf b rs ∧
    ∀ id, b ≤ id → ∀ (H : List (Option DObj)), H.length = b → lookH (H ++ (newsAll rs).map some) id = objOf rs 0 (fun _ => true) id
  | [], b, _ => ⟨by simp [newsAll, baseOf], fun id hid H hH => by
      simp only [newsAll, List.map_nil, List.append_nil, objOf]
      unfold lookH
      rw [List.getElem?_eq_none (by omega)]⟩
  | r :: rs, b, hb => by
    have hb0 : r.base = b := hb 0 r rfl
    have hb' : ∀ (m : Nat) (q : Rec), rs[m]? = some q → q.base = baseOf (b + r.news.length) (rs.take m) := fun m q hq => hb (m + 1) q (by simpa using hq)
    obtain ⟨k1, k2⟩ := flat_news rs (b + r.news.length) hb'
    refine ⟨by simp only [newsAll, baseOf, List.length_append]; omega, fun id hid H hH => ?_⟩
    simp only [newsAll, objOf]
    by_cases hr : r.base ≤ id ∧ id < r.base + r.news.length
    · rw [if_pos hr, if_pos trivial]
      unfold lookH
      rw [List.getElem?_append_right (by omega), List.getElem?_map, List.getElem?_append_left (by omega), hH, ← hb0]
      cases r.news[id - r.base]? <;> rfl
    · rw [if_neg hr]
      have hshift : ∀ (rs : List Rec) (j j' : Nat) (id : Nat), objOf rs j (fun _ => true) id = objOf rs j' (fun _ => true) id := by
        intro rs
        induction rs with
        | nil => intro j j' id; rfl
        | cons r rs ih => intro j j' id; simp only [objOf]; rw [ih (j + 1) (j' + 1)]
      rw [hshift rs (0 + 1) 0, ← k2 id (by omega) (H ++ r.news.map some) (by simp [hH]), List.map_append, List.append_assoc]
theorem killsAll_mem : ∀ (rs : List Rec) (id : Nat), id ∈ (killsAll rs).map (·.1) ↔ ∃ (c : Nat) (r : Rec), rs[c]? = some r ∧ id ∈ r.kills
  | [], id => by simp [killsAll]
  | r :: rs, id => by
    simp only [killsAll, List.map_append, List.mem_append, killsAll_mem rs id]
    constructor
    · rintro (h | ⟨c, q, h1, h2⟩)
      · exact ⟨0, r, rfl, by simpa using h⟩
      · exact ⟨c + 1, q, by simpa using h1, h2⟩
    · rintro ⟨c, q, h1, h2⟩
      cases c with
      | zero => simp at h1; subst h1; exact .inl (by simpa using h2)
      | succ c => exact .inr ⟨c, q, by simpa using h1, h2⟩
theorem killsAll_none : ∀ (rs : List Rec) (p : Nat × Option DObj), p ∈ killsAll rs → p.2 = none
  | [], p, h => by simp [killsAll] at h
  | r :: rs, p, h => by
    simp only [killsAll, List.mem_append] at h
    rcases h with h | h
    · obtain ⟨i, _, rfl⟩ := List.mem_map.1 h; rfl
    · exact killsAll_none rs p h

/-- The rule of a region that draws its order. -/
theorem WpD.draw {p : Nat} {E : Env} (hE : E.ok) (hm : E.P.follows .mixedOrders = true) {id : Nat} {ops : Array Oper} {PL : List (List Nat)} {RL : List (Option Nat)} {k : Nat} {st st' : St} {Q : Exit → St → Prop}
    (hok : drawOk ops.toList PL st.n k = true) (h : runDraw E ops PL RL k st = some st') (hq : Q .normal st') : WpD p E.P (.region id ops true) st Q := by
  intro g w a R
  unfold runDraw at h
  split at h
  · rename_i recs hrecs
    split at h
    · rename_i H' hH'
      obtain ⟨more, e1, e2, hfact⟩ := softGo_facts (T0 := st.T) _ _ _ _ _ hrecs rfl rfl
      simp only [List.nil_append] at e1
      subst e1
      simp only [List.length_nil, Nat.zero_add] at hfact
      obtain ⟨hkl, hspec⟩ := drawOk_spec hok
      have hkl' : k ≤ ops.size := by simpa using hkl
      have hlen : recs.length = k := by rw [e2]; simp; omega
      obtain ⟨u1, u2⟩ := updH_look _ _ _ hH'
      have hbases : ∀ (m : Nat) (q : Rec), recs[m]? = some q → q.base = baseOf st.H.length (recs.take m) := fun m q hq => by
        have hml : m < recs.length := (List.getElem?_eq_some_iff.1 hq).1
        have hmo : m < ops.toList.length := by simp; omega
        exact (hfact m ops.toList[m] q (by rw [List.getElem?_take, if_pos (by omega)]; exact List.getElem?_eq_getElem hmo) hq).2.1
      obtain ⟨n1, n2⟩ := flat_news recs st.H.length hbases
      -- what is there when all of them are done
      have hall : ∀ (L : Nat → Bool), (∀ i, i < k → L i = true) → lookL st.H recs L = lookH H' ∧ TLs st.n L 0 st.T recs = TLs st.n (fun _ => true) 0 st.T recs := fun L hL => by
        constructor
        · funext x
          rw [u1, putUpd_none _ _ x (killsAll_none recs)]
          unfold lookL
          by_cases hx : x < st.H.length
          · rw [if_pos hx]
            have hnk : x ∉ (killsAll recs).map (·.1) := fun hk => by
              obtain ⟨c, q, c1, c2⟩ := (killsAll_mem recs x).1 hk
              have hcl : c < recs.length := (List.getElem?_eq_some_iff.1 c1).1
              have hco : c < ops.toList.length := by simp; omega
              have hf := hfact c ops.toList[c] q (by rw [List.getElem?_take, if_pos (by omega)]; exact List.getElem?_eq_getElem hco) c1
              rcases hf.2.2 with ⟨_, _, _, hk'⟩ | ⟨_, s, _, _, _, hk', _, hall⟩
              · rw [hk'] at c2; simp at c2
              · rw [hk'] at c2
                obtain ⟨p, hp, rfl⟩ := List.mem_map.1 c2
                have := (hall p hp).2.1
                omega
            rw [if_neg hnk]
            unfold lookH
            rw [List.getElem?_append_left hx]
          · rw [if_neg hx]
            have hkiff : killedB L recs 0 x = true ↔ x ∈ (killsAll recs).map (·.1) := by
              rw [killedB_iff, killsAll_mem]
              constructor
              · rintro ⟨c, q, c1, _, c3⟩; exact ⟨c, q, c1, c3⟩
              · rintro ⟨c, q, c1, c3⟩
                exact ⟨c, q, c1, by rw [Nat.zero_add]; exact hL c (by rw [← hlen]; exact (List.getElem?_eq_some_iff.1 c1).1), c3⟩
            by_cases hk : x ∈ (killsAll recs).map (·.1)
            · rw [if_pos hk, if_pos (hkiff.2 hk)]
            · rw [if_neg hk, if_neg (fun h => hk (hkiff.1 h)), n2 x (by omega) st.H rfl]
              have : ∀ (rs : List Rec) (j : Nat), (∀ m, m < rs.length → L (j + m) = true) → objOf rs j L x = objOf rs j (fun _ => true) x := by
                intro rs
                induction rs with
                | nil => intro j _; rfl
                | cons r rs ih =>
                  intro j hj
                  simp only [objOf]
                  rw [ih (j + 1) (fun m hm => by have := hj (m + 1) (by simpa using hm); rwa [show j + 1 + m = j + (m + 1) by omega])]
                  have h0 := hj 0 (by simp)
                  rw [Nat.add_zero] at h0
                  simp [h0]
              exact this recs 0 (fun m hm => by rw [Nat.zero_add]; exact hL m (by omega))
        · have : ∀ (rs : List Rec) (j : Nat) (T : List (Nat × D)), (∀ m, m < rs.length → L (j + m) = true) → TLs st.n L j T rs = TLs st.n (fun _ => true) j T rs := by
            intro rs
            induction rs with
            | nil => intro j T _; rfl
            | cons r rs ih =>
              intro j T hj
              simp only [TLs]
              have h0 := hj 0 (by simp)
              rw [Nat.add_zero] at h0
              rw [if_pos h0, if_pos trivial, ih (j + 1) _ (fun m hm => by have := hj (m + 1) (by simpa using hm); rwa [show j + 1 + m = j + (m + 1) by omega])]
          exact this recs 0 st.T (fun m hm => by rw [Nat.zero_add]; exact hL m (by omega))
      obtain ⟨Hd, ld⟩ := R.H.drew (w.drawn + 1)
      refine wp_region_any hm ?_
      have hrep : ∀ i (d : Bool), (Array.replicate ops.size false).getD i false = false := fun i d => by
        rw [Array.getD_eq_getD_getElem?, Array.getElem?_replicate]; split <;> rfl
      refine soft_wp (PL := PL) (rsv := getR RL) (n := st.n) (k := k) (T0 := st.T) (H0 := st.H) (recs := recs) (g0 := g) (w0 := { w with drawn := w.drawn + 1 }) hE hok hlen hfact ?_ ops.size (Array.replicate ops.size false) g { w with drawn := w.drawn + 1 } a ?_ (by simp) (fun i _ => hrep i true) (fun i hi => by rw [hrep i true] at hi; cases hi) ?_ (.refl _ _)
      · intro fuel listed g' w' a' hf hsz h1 h2 S l0
        obtain ⟨hlk, hT⟩ := hall (fun j => listed.getD j false) h1
        have R' : StRel p g' w' { n := st.n, T := TLs st.n (fun _ => true) 0 st.T recs, H := H' } a' := ⟨S.sz, by rw [← hT]; exact S.T, by rw [← hlk]; exact S.H, fun x hx => S.m2 x (by
          have hx : H'.length ≤ x := hx
          rw [u2] at hx
          simp at hx
          omega), S.defers, (by have hp := R.pin; show p ≤ H'.length; rw [u2]; simp; omega)⟩
        exact tail_wp hE hok st' fuel k listed g' w' a' _ (Nat.le_refl _) hf hsz h1 h2 R' h fun g2 a2 w2 l2 R2 => ⟨st', g2, hq, (ld.lw fun _ _ => rfl).trans ((l0.weak R.pin).trans l2), R2⟩
      · have : ∀ m, cntT (List.replicate m false) = 0 := by
          intro m
          induction m with
          | zero => rfl
          | succ m ih => simp [List.replicate_succ, cntT, ih]
        simp [this]
      · have hT0 : TLs st.n (fun j => (Array.replicate ops.size false).getD j false) 0 st.T recs = st.T := by
          have : ∀ (rs : List Rec) (j : Nat), TLs st.n (fun j => (Array.replicate ops.size false).getD j false) j st.T rs = st.T := by
            intro rs
            induction rs with
            | nil => intro j; rfl
            | cons r rs ih =>
              intro j
              simp only [TLs]
              rw [if_neg (by rw [hrep j true]; simp)]
              exact ih (j + 1)
          exact this recs 0
        have hH0 : lookL st.H recs (fun j => (Array.replicate ops.size false).getD j false) = lookH st.H := by
          funext x
          unfold lookL
          by_cases hx : x < st.H.length
          · rw [if_pos hx]
          · rw [if_neg hx]
            have hnk : ¬ killedB (fun j => (Array.replicate ops.size false).getD j false) recs 0 x = true := fun hk => by
              obtain ⟨c, q, _, c2, _⟩ := (killedB_iff recs 0).1 hk
              rw [hrep _ true] at c2; cases c2
            rw [if_neg hnk]
            have hno : objOf recs 0 (fun j => (Array.replicate ops.size false).getD j false) x = none := by
              cases ho : objOf recs 0 (fun j => (Array.replicate ops.size false).getD j false) x with
              | none => rfl
              | some o =>
                obtain ⟨j, _, hj⟩ := objOf_own _ 0 ho
                rw [hrep j true] at hj; cases hj
            rw [hno]
            unfold lookH
            rw [List.getElem?_eq_none (by omega)]
        refine ⟨R.n, fun t d e => ?_, by rw [hH0]; exact Hd, fun i r hi _ x h1 h2 => R.m x ?_, fun x hx => R.m x (Nat.le_trans (base_ge recs _) hx), R.defers⟩
        · rw [hT0] at e
          obtain ⟨y, hy, ry⟩ := R.T t d e
          exact ⟨y, hy, Rep.mono ld _ _ ry⟩
        · have := hbases i r hi
          have h3 := base_ge (recs.take i) st.H.length
          omega
    · cases h
  · cases h
end Go.Proofs.YtjmhioacbpgalaaDoorV
