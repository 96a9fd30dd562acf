/- Contracts of slices.Clone, slices.Insert and slices.Delete at []int, in the words of the print (rows that are read, rows of the call's own): out of the shelf's contracts. -/
import Derived.Test.YtmfgalcepaaolaaLWMore
import Derived.Test.YtmfgalcepaaolaaLShelf
namespace Go.Proofs.Ytmfgalcepaaolaa.GSl
open Go.RowKit Go.Proofs.YtmfgalcepaaolaaW.PrintWords Go.Proofs.YtmfgalcepaaolaaW.PrintLast Go.Proofs.YtmfgalcepaaolaaW.PrintMore
theorem clone_calls (A0 : Option Addr) (c0 : Nat) (l0 : List Int) (w : World) (hr0 : Kd.C (Kd.int .i64) w A0 l0.length l0) (hl : l0.length < 17592186044416) :
    Calls Try.prog 30 #[.slice A0 l0.length c0] w fun e w' => ∃ v0_ : Value, e = .returned (v0_) ∧ Kd.R (Kd.int .i64) 3 w' w.heap.size (fun _ => True) v0_ l0 ∧ Below w.heap.size w w' := by
  have hR := Kd.reads_of_C (enc := Value.int .i64) (d := (0 : Int)) (h1 := fun _ => rfl) hr0
  rcases A0 with _ | ⟨b, off, spot⟩
  · have h0 : l0 = [] := by
      rcases l0 with _ | ⟨x, l⟩
      · rfl
      · obtain ⟨ad, h, _⟩ := hR.2.2 (by simp)
        cases h
    subst h0
    refine (Try.slices_Clone_int_nil _ _ w).mono ?_
    rintro e w' ⟨rfl, rfl⟩
    exact ⟨_, rfl, Kd.R_nil _ _ _ _ _, Below.refl _ _⟩
  · rcases Nat.eq_zero_or_pos l0.length with h0 | h0
    · obtain rfl : l0 = [] := List.eq_nil_of_length_eq_zero h0
      refine (Try.slices_Clone_int_zero _ _ w).mono ?_
      rintro e w' ⟨v', rfl, hown, _, hb⟩
      exact ⟨v', rfl, Kd.R_of_own (by simpa [encs] using hown) (fun _ _ => trivial), hb⟩
    · obtain ⟨ad, h, hc⟩ := hR.2.2 h0
      injection h with h
      subst h
      obtain rfl : spot = none := by
        have := hc 0 h0
        rcases spot with _ | s
        · rfl
        · unfold World.cell? Addr.add at this
          split at this
          · split at this <;> simp_all
          · simp at this
      refine (Try.slices_Clone_int b off l0.length c0 l0 w (Nat.le_refl _) (by omega) (fun j hj => ?_)).mono ?_
      · have := hc j hj
        have e : (⟨b, off, none⟩ : Addr).add j = ⟨b, off + j, none⟩ := by unfold Addr.add; split <;> simp_all
        rwa [e] at this
      · rintro e w' ⟨v', rfl, hown, _, hb⟩
        exact ⟨v', rfl, Kd.R_of_own (by simpa [encs] using hown) (fun _ _ => trivial), hb⟩
structure Put (w w' : World) (g : Nat) : Prop where
  os : w'.os = w.os
  tape : w'.tape = w.tape
  output : w'.output = w.output
  size : w'.heap.size = w.heap.size
  far : ∀ k, k ≠ g → w'.heap[k]? = w.heap[k]?
theorem Put.refl (w : World) (g : Nat) : Put w w g := ⟨rfl, rfl, rfl, rfl, fun _ _ => rfl⟩
theorem Put.trans {a b c : World} {g : Nat} (h : Put a b g) (k : Put b c g) : Put a c g :=
  ⟨k.os.trans h.os, k.tape.trans h.tape, k.output.trans h.output, k.size.trans h.size, fun i hi => (k.far i hi).trans (h.far i hi)⟩
theorem Put.drew {a b : World} {g : Nat} (h : Put a b g) : Put a b.drew g := ⟨h.os, h.tape, h.output, h.size, h.far⟩
theorem Put.cell (w : World) (g o : Nat) (v : Value) : Put w (w.setCell ⟨g, o, none⟩ v) g :=
  ⟨rfl, rfl, rfl, by simp [World.setCell], fun k hk => Below.heap_setCell w ⟨g, o, none⟩ v k hk⟩
theorem Put.cells (g : Nat) : ∀ (vs : List Value) (o : Nat) (w : World), Put w (w.setCells g o vs) g
  | [], _, w => Put.refl w g
  | v :: r, o, w => (Put.cell w g o v).trans (Put.cells g r (o + 1) _)
theorem set_cells_blk (g : Nat) (e : TypeId) : ∀ (vs : List Value) (o : Nat) (w : World) (cur : Array Value), w.heap[g]? = some (.cells cur e (0, 0)) → o + vs.length ≤ cur.size →
    ∃ cur', (w.setCells g o vs).heap[g]? = some (.cells cur' e (0, 0)) ∧ cur'.size = cur.size ∧ cur'.toList = cur.toList.take o ++ vs ++ cur.toList.drop (o + vs.length)
  | [], o, w, cur, h, _ => ⟨cur, h, rfl, by simp⟩
  | v :: r, o, w, cur, h, ho => by
    have h1 := blk_set h o v
    simp only [List.length_cons] at ho
    obtain ⟨cur', h2, h3, h4⟩ := set_cells_blk g e r (o + 1) _ _ h1 (by simp; omega)
    refine ⟨cur', h2, by simpa using h3, ?_⟩
    rw [h4]
    have hlt : o < cur.toList.length := by simp; omega
    simp only [Array.toList_setIfInBounds, List.length_cons]
    rw [List.take_set, List.drop_set_of_lt (by omega)]
    have e1 : (List.take (o + 1) cur.toList).set o v = cur.toList.take o ++ [v] := by
      rw [List.take_succ_eq_append_getElem hlt, List.set_append_right _ _ (by simp; omega)]
      have e2 : o - (List.take o cur.toList).length = 0 := by simp; omega
      rw [e2]
      rfl
    rw [e1]
    simp [Nat.add_assoc, Nat.add_comm 1]
theorem kept_of_put {w w' : World} {g : Nat} {S : Nat → Prop} (h : Put w w' g) (hS : S g) : Kept w w' S :=
  ⟨Nat.le_of_eq h.size.symm, fun i _ hn => h.far i (fun e => hn (e ▸ hS))⟩
theorem below_of_put {w0 w w' : World} {g : Nat} (hB : Below w0.heap.size w0 w) (h : Put w w' g) (hg : w0.heap.size ≤ g) : Below w0.heap.size w0 w' :=
  ⟨h.os.trans hB.os, h.tape.trans hB.tape, h.output.trans hB.output, by rw [h.size]; exact hB.size, fun k hk => (h.far k (by omega)).trans (hB.block k hk)⟩
theorem own_cell {w : World} {g : Nat} {e : TypeId} {cur : Array Value} {l : List Int} (h : w.heap[g]? = some (.cells cur e (0, 0))) (ht : cur.toList.take (l.length * 1) = encs (Value.int .i64) l) :
    ∀ j v, (encs (Value.int .i64) l)[j]? = some v → w.cell? ⟨g, 0 + j, none⟩ = some v := by
  intro j v hj
  rw [blk_cell h, Nat.zero_add]
  have hlt : j < l.length := by
    have := (List.getElem?_eq_some_iff.1 hj).1
    simpa [encs] using this
  rw [← ht, List.getElem?_take_of_lt (by omega)] at hj
  rw [← hj, Array.getElem?_toList]
theorem encs_len (l : List Int) : (encs (Value.int .i64) l).length = l.length := by simp [encs]
theorem encs_one (l : List Int) : ∀ v ∈ encs (Value.int .i64) l, v.oneCell' = true := by
  intro v hv
  obtain ⟨x, _, rfl⟩ := List.mem_map.1 hv
  rfl
theorem encs_app (a b : List Int) : encs (Value.int .i64) (a ++ b) = encs (Value.int .i64) a ++ encs (Value.int .i64) b := by simp [encs]
theorem encs_drop (a : List Int) (n : Nat) : encs (Value.int .i64) (a.drop n) = (encs (Value.int .i64) a).drop n := by simp [encs]
theorem encs_take (a : List Int) (n : Nat) : encs (Value.int .i64) (a.take n) = (encs (Value.int .i64) a).take n := by simp [encs]
/-- A row that lies in a block. -/
theorem r_mk {w : World} {base g cap : Nat} {cur : Array Value} {l : List Int} {n : Nat} {ok : Nat → Prop} (hb : base ≤ g) (h : w.heap[g]? = some (.cells cur 3 (0, 0))) (hn : n = l.length) (hc : n ≤ cap) (hm : cap ≤ maxLen) (hs : cur.size = cap * 1) (ht : cur.toList.take n = encs (Value.int .i64) l) (hok : ok g) :
    Kd.R (Kd.int .i64) 3 w base ok (.slice (some ⟨g, 0, none⟩) n cap) l := by
  subst hn
  exact Kd.R_of_own ⟨by rw [encs_len, Nat.mul_one], .inr ⟨g, cap, cur, rfl, hb, h, hc, hm, hs, by rw [Nat.mul_one]; exact ht⟩⟩ (fun k hk => by simp [Value.ownBlock] at hk; exact hk ▸ hok)
theorem zero_size (xs : List Value) (k : Nat) : (xs.toArray ++ Builtin.zeroCells (Value.int .i64 0).cells k).size = xs.length + k := by
  simp [size_zeroCells, Value.cells]
theorem zero_take (xs : List Value) (k N : Nat) (h : N = xs.length) : (xs.toArray ++ Builtin.zeroCells (Value.int .i64 0).cells k).toList.take N = xs := by
  subst h
  simp
theorem r_new (W : World) {base N C : Nat} {cells : Array Value} {l : List Int} {ok : Nat → Prop} (hb : base ≤ W.heap.size) (hN : N = l.length) (hC : N ≤ C) (hm : C ≤ maxLen) (hs : cells.size = C) (ht : cells.toList.take N = encs (Value.int .i64) l) (hok : ok W.heap.size) :
    Kd.R (Kd.int .i64) 3 (W.alloc (.cells cells 3)) base ok (.slice (some ⟨W.heap.size, 0, none⟩) N C) l :=
  r_mk hb (blk_new _ _) hN hC hm (by rw [hs, Nat.mul_one]) ht hok
theorem splice_b {α : Type} (X cs vs R : List α) (n m N : Nat) (hn : n ≤ N) (hN : cs.length = N) (hm : vs.length = m) (hX : X.take n = cs.take n) (hL : n + m ≤ X.length) :
    ((X.take (n + m) ++ cs.drop n ++ R).take n ++ vs ++ (X.take (n + m) ++ cs.drop n ++ R).drop (n + m)).take (N + m) = cs.take n ++ vs ++ cs.drop n := by
  subst hN hm
  have e1 : (X.take (n + vs.length)).length = n + vs.length := by simp [Nat.min_eq_left hL]
  have e2 : (X.take (n + vs.length) ++ cs.drop n ++ R).take n = cs.take n := by
    rw [List.append_assoc, List.take_append_of_le_length (by omega), List.take_take, Nat.min_eq_left (by omega), hX]
  have e3 : (X.take (n + vs.length) ++ cs.drop n ++ R).drop (n + vs.length) = cs.drop n ++ R := by
    rw [List.append_assoc]
    conv => lhs; arg 1; rw [← e1]
    rw [List.drop_left]
  rw [e2, e3, ← List.append_assoc]
  rw [List.take_append_of_le_length (by simp; omega), List.take_of_length_le (by simp; omega)]
theorem insert_calls (P0_ : Nat → Prop) (u : Value) (l0 : List Int) (i : Int) (P2_ : Nat → Prop) (u2 : Value) (l2 : List Int) (w0 w : World) (hB : Below w0.heap.size w0 w)
    (ho0 : Kd.R (Kd.int .i64) 3 w w0.heap.size P0_ u l0) (hp02 : ∀ k_, P0_ k_ → ¬ P2_ k_) (ho2 : Kd.R (Kd.int .i64) 3 w w0.heap.size P2_ u2 l2)
    (h0 : 0 ≤ i) (h1 : i ≤ l0.length) (hm : 0 < l2.length) (hl : l0.length + l2.length < 17592186044416) :
    Calls Try.prog 29 #[u, .int .i64 i, u2] w fun e w' => ∃ v0_ : Value, e = .returned (v0_) ∧ Kd.R (Kd.int .i64) 3 w' w0.heap.size (fun k_ => ((P0_ k_ ∨ P2_ k_) ∨ w.heap.size ≤ k_)) v0_ (l0.take i.toNat ++ l2 ++ l0.drop i.toNat) ∧ Below w0.heap.size w0 w' ∧ Kept w w' (fun k_ => P0_ k_ ∨ P2_ k_) := by
  obtain ⟨n, rfl⟩ := Int.eq_ofNat_of_zero_le h0
  simp only [Int.toNat_natCast]
  have h1' : n ≤ l0.length := by omega
  have hoA := Kd.own_of_R (enc := Value.int .i64) (h1 := fun _ => rfl) ho0
  have hoB := Kd.own_of_R (enc := Value.int .i64) (h1 := fun _ => rfl) ho2
  obtain ⟨_, hB2⟩ := hoB
  rcases hB2 with ⟨_, hz⟩ | ⟨g2, cap2, cur2, rfl, hb2, hh2, hn2, hm2, hs2, ht2⟩
  · omega
  have hP2 : P2_ g2 := ho2.1 g2 rfl
  have hvs := own_cell hh2 ht2
  have hbw := hB.size
  have hBw : Below w0.heap.size w0 w.drew := hB.drew
  obtain ⟨_, hA2⟩ := hoA
  have grown : ∀ (c : Nat), c < l0.length + l2.length → (encs (Value.int .i64) (l0 ++ l2)).length = l0.length + l2.length := fun c _ => by simp [encs]
  rcases hA2 with ⟨rfl, hz⟩ | ⟨g, cap, cur, rfl, hb, hh, hn, hcm, hs, ht⟩
  · obtain rfl : l0 = [] := List.eq_nil_of_length_eq_zero hz
    obtain rfl : n = 0 := by simpa using h1'
    have hl' : l2.length < 17592186044416 := by rw [List.length_nil, Nat.zero_add] at hl; exact hl
    refine (Any2.slices_Insert_int_end_grow Try.laysIns21 none 0 0 g2 0 l2.length cap2 [] (encs (Value.int .i64) l2) w hm (by omega) (by omega) (by omega) rfl (encs_len _) (fun _ => rfl) (fun a h => by cases h) hvs (encs_one _)).mono ?_
    rintro e w' ⟨rfl, rfl⟩
    have hg := grownCap_ge w (0 + l2.length) 0 3
    have hg2 := grownCap_le_maxLen w (0 + l2.length) 0 3 (by unfold maxLen; omega)
    rw [show ([] : List Int).take 0 ++ l2 ++ ([] : List Int).drop 0 = l2 by simp]
    refine ⟨_, rfl, r_new w.drew hbw (by omega) hg hg2 ?_ (zero_take _ _ _ (by simp [encs])) (.inr (Nat.le_refl _)), hBw.alloc hbw _, ((Kept.refl w _).drew).alloc _⟩
    · rw [zero_size, List.nil_append, encs_len]
      have : 0 + l2.length ≤ grownCap w (0 + l2.length) 0 (Try.laysIns21_ren.t 3) := hg
      omega
  · obtain rfl | hlt := Nat.eq_or_lt_of_le h1'
    · rcases Nat.lt_or_ge cap (l0.length + l2.length) with hroom | hroom
      · have hg := grownCap_ge w (l0.length + l2.length) cap 3
        have hg2 := grownCap_le_maxLen w (l0.length + l2.length) cap 3 (by unfold maxLen; omega)
        refine (Any2.slices_Insert_int_end_grow Try.laysIns21 (some ⟨g, 0, none⟩) l0.length cap g2 0 l2.length cap2 (encs (Value.int .i64) l0) (encs (Value.int .i64) l2) w hm hn hroom (by omega) (encs_len _) (encs_len _) (fun h => by cases h) (fun a h j v hj => ?_) hvs (encs_one _)).mono ?_
        · injection h with h
          subst h
          have := own_cell hh ht j v hj
          rw [Nat.zero_add] at this
          rw [add_plain]
          exact this
        rintro e w' ⟨rfl, rfl⟩
        rw [show l0.take l0.length ++ l2 ++ l0.drop l0.length = l0 ++ l2 by simp]
        refine ⟨_, rfl, r_new w.drew hbw (by simp) hg hg2 ?_ (by rw [encs_app]; exact zero_take _ _ _ (by simp [encs])) (.inr (Nat.le_refl _)), hBw.alloc hbw _, ((Kept.refl w _).drew).alloc _⟩
        · rw [zero_size, List.length_append, encs_len, encs_len]
          have : l0.length + l2.length ≤ grownCap w (l0.length + l2.length) cap (Try.laysIns21_ren.t 3) := hg
          omega
      · have hle : l0.length + l2.length ≤ cap := hroom
        refine (Any2.slices_Insert_int_end_room Try.laysIns21 g 0 l0.length cap g2 0 l2.length cap2 (encs (Value.int .i64) l2) w hm hroom (by unfold maxLen at hcm; omega) (encs_len _) (fun j hj => ?_) (fun j hj => blk_frozen hh _) hvs (encs_one _)).mono ?_
        · rw [blk_cell hh, Array.getElem?_eq_getElem (by omega)]; rfl
        rintro e w' ⟨rfl, rfl⟩
        obtain ⟨cur', k1, k2, k3⟩ := set_cells_blk g 3 (encs (Value.int .i64) l2) (0 + l0.length) w cur hh (by rw [encs_len]; omega)
        have hp := Put.cells g (encs (Value.int .i64) l2) (0 + l0.length) w
        rw [show l0.take l0.length ++ l2 ++ l0.drop l0.length = l0 ++ l2 by simp]
        refine ⟨_, rfl, r_mk hb k1 (by simp) hle hcm (by omega) ?_ (.inl (.inl (ho0.1 g rfl))), below_of_put hB hp hb, kept_of_put hp (.inl (ho0.1 g rfl))⟩
        rw [Nat.mul_one] at ht
        rw [k3, Nat.zero_add, ht, ← encs_app, List.take_append_of_le_length (by simp [encs]), List.take_of_length_le (by simp [encs])]
    · have hne : g2 ≠ g := fun e => hp02 g (ho0.1 g rfl) (e ▸ hP2)
      have hcs := own_cell hh ht
      rcases Nat.lt_or_ge cap (l0.length + l2.length) with hroom | hroom
      · have hg := grownCap_ge w (l0.length + l2.length) cap 3
        have hg2 := grownCap_le_maxLen w (l0.length + l2.length) cap 3 (by unfold maxLen; omega)
        obtain ⟨cells0, hc0⟩ : ∃ c, c = ((encs (Value.int .i64) l0).take n).toArray ++ Builtin.zeroCells (Value.int .i64 0).cells (l0.length + l2.length - n) ++ Builtin.zeroCells (Value.int .i64 0).cells (grownCap w (l0.length + l2.length) cap 3 - (l0.length + l2.length)) := ⟨_, rfl⟩
        have hs0 : cells0.size = grownCap w (l0.length + l2.length) cap 3 := by
          rw [hc0, Array.size_append, zero_size, size_zeroCells]
          simp [Value.cells, encs_len]
          omega
        have ht0 : cells0.toList.take n = (encs (Value.int .i64) l0).take n := by
          rw [hc0, Array.toList_append, List.take_append_of_le_length (by rw [Array.length_toList, zero_size]; simp [encs_len]; omega)]
          exact zero_take _ _ _ (by simp [encs_len]; omega)
        refine (Any2.slices_Insert_int_grow Try.laysIns21 g 0 l0.length cap n g2 0 l2.length cap2 (encs (Value.int .i64) l0) (encs (Value.int .i64) l2) w hlt hm hn hroom (by omega) (encs_len _) (encs_len _) hcs hvs (encs_one _) (encs_one _)).mono ?_
        rintro e w' ⟨rfl, hw⟩
        replace hw : w' = (((w.alloc (.cells cells0 3)).drew.setCells w.heap.size n (encs (Value.int .i64) l2)).drew).setCells w.heap.size (n + l2.length) ((encs (Value.int .i64) l0).drop n) := by rw [hw, hc0]; rfl
        subst hw
        have hb0 : (w.alloc (.cells cells0 3)).drew.heap[w.heap.size]? = some (.cells cells0 3 (0, 0)) := blk_new w _
        obtain ⟨c2, k1, k2, k3⟩ := set_cells_blk w.heap.size 3 (encs (Value.int .i64) l2) n _ _ hb0 (by rw [encs_len]; omega)
        have hd : ((w.alloc (.cells cells0 3)).drew.setCells w.heap.size n (encs (Value.int .i64) l2)).drew.heap[w.heap.size]? = some (.cells c2 3 (0, 0)) := k1
        obtain ⟨c3, q1, q2, q3⟩ := set_cells_blk w.heap.size 3 ((encs (Value.int .i64) l0).drop n) (n + l2.length) _ _ hd (by rw [k2, hs0]; simp [encs_len]; omega)
        have hp := ((Put.cells w.heap.size (encs (Value.int .i64) l2) n (World.drew (w.alloc (.cells cells0 3)))).drew).trans (Put.cells w.heap.size ((encs (Value.int .i64) l0).drop n) (n + l2.length) _)
        have hB1 : Below w0.heap.size w0 (World.drew (w.alloc (.cells cells0 3))) := (hB.alloc hbw _).drew
        refine ⟨_, rfl, r_mk hbw q1 (by simp; omega) hg hg2 ?_ ?_ (.inr (Nat.le_refl _)), below_of_put hB1 hp hbw, ?_⟩
        · rw [q2, k2, hs0, Nat.mul_one]
          rfl
        · rw [q3, k3, encs_app, encs_app, encs_take, encs_drop]
          simp only [encs_len]
          have hX : n ≤ cells0.toList.length := by simp; omega
          have e1 : (cells0.toList.take n ++ encs (Value.int .i64) l2).length = n + l2.length := by simp [encs_len]; omega
          rw [ht0] at e1
          rw [ht0, List.take_append_of_le_length (Nat.le_of_eq e1.symm), List.take_of_length_le (Nat.le_of_eq e1)]
          rw [List.take_append_of_le_length (by simp [encs_len]; omega), List.take_of_length_le (by simp [encs_len]; omega)]
        · exact ((Kept.refl w _).alloc _).drew.then_ (kept_of_put (S := fun k => k = w.heap.size) hp rfl) (fun k hk => .inr (Nat.le_of_eq hk.symm))
      · have hle : l0.length + l2.length ≤ cap := hroom
        refine (Any2.slices_Insert_int_shift Try.laysIns21 g 0 l0.length cap n g2 0 l2.length cap2 (encs (Value.int .i64) l0) (encs (Value.int .i64) l2) w hlt hm hroom (by unfold maxLen at hcm; omega) hne (encs_len _) (encs_len _) hcs (fun j hj => ?_) (fun j hj => blk_frozen hh _) hvs (encs_one _) (encs_one _) 3 3 cur2.size cur.size (by unfold World.shape?; rw [hh2]) (by unfold World.shape?; rw [hh]) (by omega) (blk_frozen hh2 _) (blk_frozen hh2 _)).mono ?_
        · rw [blk_cell hh, Array.getElem?_eq_getElem (by omega)]; rfl
        rintro e w' ⟨rfl, rfl⟩
        rw [Nat.mul_one] at ht
        obtain ⟨c2, k1, k2, k3⟩ := set_cells_blk g 3 ((encs (Value.int .i64) l0).drop n) (0 + (n + l2.length)) w.drew cur hh (by simp [encs_len]; omega)
        obtain ⟨c3, q1, q2, q3⟩ := set_cells_blk g 3 (encs (Value.int .i64) l2) (0 + n) _ _ k1 (by rw [k2, encs_len]; omega)
        have hp := (Put.cells g ((encs (Value.int .i64) l0).drop n) (0 + (n + l2.length)) w.drew).trans (Put.cells g (encs (Value.int .i64) l2) (0 + n) _)
        refine ⟨_, rfl, r_mk hb q1 (by simp; omega) hle hcm (by omega) ?_ (.inl (.inl (ho0.1 g rfl))), below_of_put hBw hp hb, kept_of_put (w := w.drew) hp (.inl (ho0.1 g rfl))⟩
        rw [q3, k3, encs_app, encs_app, encs_take, encs_drop]
        simp only [Nat.zero_add, encs_len]
        exact splice_b _ _ _ _ n l2.length l0.length h1' (encs_len _) (encs_len _) (by rw [← ht, List.take_take, Nat.min_eq_left h1']) (by simp; omega)
theorem delete_calls (P0_ : Nat → Prop) (u : Value) (l0 : List Int) (i j : Int) (w0 w : World) (hB : Below w0.heap.size w0 w)
    (ho0 : Kd.R (Kd.int .i64) 3 w w0.heap.size P0_ u l0) (h0 : 0 ≤ i) (h1 : i ≤ j) (h2 : j ≤ l0.length) :
    Calls Try.prog 31 #[u, .int .i64 i, .int .i64 j] w fun e w' => ∃ v0_ : Value, e = .returned (v0_) ∧ Kd.R (Kd.int .i64) 3 w' w0.heap.size (fun k_ => (P0_ k_ ∨ w.heap.size ≤ k_)) v0_ (l0.take i.toNat ++ l0.drop j.toNat) ∧ Below w0.heap.size w0 w' ∧ Kept w w' (fun k_ => P0_ k_) := by
  obtain ⟨n, rfl⟩ := Int.eq_ofNat_of_zero_le h0
  obtain ⟨m, rfl⟩ := Int.eq_ofNat_of_zero_le (Int.le_trans h0 h1)
  simp only [Int.toNat_natCast]
  have h1' : n ≤ m := by omega
  have h2' : m ≤ l0.length := by omega
  clear h0 h1 h2
  have hoA := Kd.own_of_R (enc := Value.int .i64) (h1 := fun _ => rfl) ho0
  obtain ⟨_, hA2⟩ := hoA
  rcases hA2 with ⟨rfl, hz⟩ | ⟨g, cap, cur, rfl, hb, hh, hn, hcm, hs, ht⟩
  · obtain rfl : l0 = [] := List.eq_nil_of_length_eq_zero hz
    obtain rfl : m = 0 := by simpa using h2'
    obtain rfl : n = 0 := by simpa using h1'
    refine (Try.slices_Delete_int_empty none 0 w).mono ?_
    rintro e w' ⟨rfl, rfl⟩
    exact ⟨_, rfl, Kd.R_nil _ _ _ _ _, hB, Kept.refl _ _⟩
  · rw [Nat.mul_one] at ht
    refine (Try.slices_Delete_int_cells g 0 l0.length cap n m l0 w (Nat.le_refl _) hn (by unfold maxLen at hcm; omega) h1' h2' (fun j hj => ?_) (fun j _ => blk_frozen hh _)).mono ?_
    · exact own_cell hh (by rw [Nat.mul_one]; exact ht) j _ (by simp [encs, List.getD, List.getElem?_eq_getElem hj])
    rintro e w' ⟨rfl, q, rfl⟩
    rw [List.take_length]
    have hh1 : (w.drewN q).heap[g]? = some (.cells cur 3 (0, 0)) := hh
    have hlen : ((l0.take n ++ l0.drop m ++ List.replicate (m - n) 0).map (Value.int .i64)).length = l0.length := by simp; omega
    obtain ⟨c2, k1, k2, k3⟩ := set_cells_blk g 3 ((l0.take n ++ l0.drop m ++ List.replicate (m - n) 0).map (Value.int .i64)) 0 _ _ hh1 (by rw [hlen]; omega)
    have hp := Put.cells g ((l0.take n ++ l0.drop m ++ List.replicate (m - n) 0).map (Value.int .i64)) 0 (w.drewN q)
    refine ⟨_, rfl, r_mk hb k1 (by simp; omega) (by omega) hcm (by omega) ?_ (.inl (ho0.1 g rfl)), below_of_put (pw_below_drewN hB q) hp hb, kept_of_put (w := w.drewN q) hp (ho0.1 g rfl)⟩
    rw [k3, List.take_zero, List.nil_append, List.take_append_of_le_length (by rw [hlen]; omega), List.map_append, List.take_append_of_le_length (by simp; omega), List.take_of_length_le (by simp; omega)]
    rfl
end Go.Proofs.Ytmfgalcepaaolaa.GSl
