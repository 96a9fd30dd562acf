/- A part of the proof of SpecSeen: what functions do and tell, and words for that. -/
import Derived.Test.YtmfgalcepaaolaaLPRx0
import Derived.Test.YtmfgalcepaaolaaLPRx1
import Derived.Test.YtmfgalcepaaolaaLPRx3
import Derived.Test.YtmfgalcepaaolaaLPRx4
import Derived.Test.YtmfgalcepaaolaaLPRx5
namespace Go.Proofs.Ytmfgalcepaaolaa.PR
open Go.RowKit Go.Proofs.YtmfgalcepaaolaaW.PrintWords Go.Proofs.YtmfgalcepaaolaaW.PrintLast Go.Proofs.YtmfgalcepaaolaaW.PrintMore
set_option linter.unusedVariables false
set_option linter.unusedSimpArgs false
def spec_Do.f (k : Nat) (a0_0 : Int) (l0_1 : List Int) (l0_2 : List Int) (a1_0 : Int) (a1_1 : Int) (a1_2 : Int) (a1_3 : Int) : Option (Int × List Int × List Int × Int × Bool) := if Go.Proofs.Ytmfgalcepaaolaa.GOf.ofV a1_0 = 0 ∨ ¬ Go.Proofs.Ytmfgalcepaaolaa.GOf.ofV a1_0 = a0_0 then (some (a0_0, l0_1, l0_2, 0, false)) else (if a1_0 = 1 then (spec_get.f k a0_0 l0_1 l0_2 a1_0 a1_1 a1_2 a1_3) else (if a1_0 = 2 then (spec_put.f k a0_0 l0_1 l0_2 a1_0 a1_1 a1_2 a1_3) else (if a1_0 = 3 then (spec_del.f k a0_0 l0_1 l0_2 a1_0 a1_1 a1_2 a1_3) else (if a1_0 = 4 then (spec_push.f a0_0 l0_1 l0_2 a1_0 a1_1 a1_2 a1_3) else (if a1_0 = 5 then (spec_first.f a0_0 l0_1 l0_2 a1_0 a1_1 a1_2 a1_3) else (if a1_0 = 6 then (spec_send.f a0_0 l0_1 l0_2 a1_0 a1_1 a1_2 a1_3) else (spec_first.f a0_0 l0_1 l0_2 a1_0 a1_1 a1_2 a1_3)))))))
theorem spec_Do.mono : ∀ a0 a1 a2 a3 a4 a5 a6 k, LeO (spec_Do.f k a0 a1 a2 a3 a4 a5 a6) (spec_Do.f (k + 1) a0 a1 a2 a3 a4 a5 a6) := by
  intro a0 a1 a2 a3 a4 a5 a6 k
  unfold spec_Do.f
  refine LeO.ite (LeO.refl _) (LeO.ite (spec_get.mono _ _ _ _ _ _ _ _) (LeO.ite (spec_put.mono _ _ _ _ _ _ _ _) (LeO.ite (spec_del.mono _ _ _ _ _ _ _ _) (LeO.refl _))))
def spec_Do.deedsV : Value := .agg #[.nilFunc, .func (.func 22) #[] #[], .func (.func 23) #[] #[], .func (.func 24) #[] #[], .func (.func 25) #[] #[], .func (.func 26) #[] #[], .func (.func 27) #[] #[], .func (.func 26) #[] #[]]
set_option maxHeartbeats 1000000 in
theorem spec_Do.deeds_calls (w : World) : Calls Try.prog 20 #[] w fun e w' => e = .returned spec_Do.deedsV ∧ Below w.heap.size w w' := by
  go_enter Try.func20, Try.ntmps20
  go_wp2
  exact bodyPost_ret (v := spec_Do.deedsV) (by simp [results, Try.results20, go_sem, spec_Do.deedsV]) rfl ⟨rfl, (Below.refl _ _).alloc (Nat.le_refl _) _⟩
theorem spec_Do.deed1 (w : World) : (Instr.index 49 spec_Do.deedsV (.int .i64 1)).run Try.prog w = .ok (.func (.func 22) #[] #[]) w := by kernel_rfl
theorem spec_Do.deed2 (w : World) : (Instr.index 49 spec_Do.deedsV (.int .i64 2)).run Try.prog w = .ok (.func (.func 23) #[] #[]) w := by kernel_rfl
theorem spec_Do.deed3 (w : World) : (Instr.index 49 spec_Do.deedsV (.int .i64 3)).run Try.prog w = .ok (.func (.func 24) #[] #[]) w := by kernel_rfl
theorem spec_Do.deed4 (w : World) : (Instr.index 49 spec_Do.deedsV (.int .i64 4)).run Try.prog w = .ok (.func (.func 25) #[] #[]) w := by kernel_rfl
theorem spec_Do.deed5 (w : World) : (Instr.index 49 spec_Do.deedsV (.int .i64 5)).run Try.prog w = .ok (.func (.func 26) #[] #[]) w := by kernel_rfl
theorem spec_Do.deed6 (w : World) : (Instr.index 49 spec_Do.deedsV (.int .i64 6)).run Try.prog w = .ok (.func (.func 27) #[] #[]) w := by kernel_rfl
theorem spec_Do.deed7 (w : World) : (Instr.index 49 spec_Do.deedsV (.int .i64 7)).run Try.prog w = .ok (.func (.func 26) #[] #[]) w := by kernel_rfl
set_option maxHeartbeats 4000000 in
set_option maxRecDepth 100000 in
theorem spec_Do.w0 (a0_0 : Int) (P0_1_ : Nat → Prop) (A0_1 : Option Addr) (c0_1 : Nat) (l0_1 : List Int) (P0_2_ : Nat → Prop) (A0_2 : Option Addr) (c0_2 : Nat) (l0_2 : List Int) (a1_0 : Int) (a1_1 : Int) (a1_2 : Int) (a1_3 : Int) (w : World) (hs0_1 : Kd.V (Kd.int .i64) 3 w w.heap.size (fun k_ => P0_1_ k_) (.slice A0_1 l0_1.length c0_1) l0_1) (hs0_2 : Kd.V (Kd.int .i64) 3 w w.heap.size (fun k_ => P0_2_ k_) (.slice A0_2 l0_2.length c0_2) l0_2) (hg : Go.Proofs.Ytmfgalcepaaolaa.GOf.ofV a1_0 = 0 ∨ ¬ Go.Proofs.Ytmfgalcepaaolaa.GOf.ofV a1_0 = a0_0) :
    Calls Try.prog 11 #[.agg #[.int .i64 a0_0, .slice A0_1 l0_1.length c0_1, .slice A0_2 l0_2.length c0_2], .agg #[.int .i64 a1_0, .int .i64 a1_1, .int .i64 a1_2, .int .i64 a1_3]] w fun e w' => ∃ v1_ v2_ : Value, e = .returned (.tuple #[.agg #[.int .i64 a0_0, v1_, v2_], .int .i64 0, .bool false]) ∧ Kd.V (Kd.int .i64) 3 w' w.heap.size (fun k_ => ((P0_1_ k_ ∨ P0_2_ k_) ∨ w.heap.size ≤ k_)) v1_ l0_1 ∧ Kd.V (Kd.int .i64) 3 w' w.heap.size (fun k_ => ((P0_1_ k_ ∨ P0_2_ k_) ∨ w.heap.size ≤ k_)) v2_ l0_2 ∧ Below w.heap.size w w' := by
  have S1 := Aside0.mk hs0_1
  have S2 := Aside0.mk hs0_2
  clear hs0_1 hs0_2
  obtain ⟨t, ht⟩ : ∃ t, t = Go.Proofs.Ytmfgalcepaaolaa.GOf.ofV a1_0 := ⟨_, rfl⟩
  have hof : ∀ W : World, Calls Try.prog 18 #[.int .i64 a1_0] W fun e w' => e = .returned (.int .i64 t) ∧ Below W.heap.size W w' := fun W => ht ▸ spec_Of.calls _ _ W rfl
  rw [← ht] at hg
  have HO := Aside0.mk hof
  clear hof ht
  by_cases h0 : t = 0
  · have d0 : (t == 0) = true := by simp [h0]
    clear hg h0
    go_enter Try.func11, Try.ntmps11
    go_wp2_with (go_at_call 18; refine (HO.out _).mono ?_; rintro e w1 ⟨rfl, hb1⟩; obtain ⟨hcc, hff⟩ := Go.Proofs.Ytmfgalcepaaolaa.GC.bcell hb1)
    refine bodyPost_ret (v := .tuple #[.agg #[.int .i64 a0_0, .slice A0_1 l0_1.length c0_1, .slice A0_2 l0_2.length c0_2], .int .i64 0, .bool false]) ?_ rfl ?_
    · simp [results, Try.results11, go_sem, hcc]
    refine Go.Proofs.Ytmfgalcepaaolaa.GC.fin_get _ _ _ S1.out S2.out ?_
    have hB1 := below_then (B := w.heap.size) (by repeat (first | refine below_alloc ?_ _ | exact Below.refl _ _)) (by simp; omega) hb1
    repeat (first | refine Below.setCell ?_ (by simp; omega) _ | exact hB1)
  · have h1 : ¬ t = a0_0 := by
      rcases hg with hg | hg
      · exact absurd hg h0
      · exact hg
    have d0 : (t == 0) = false := by simp [h0]
    have d1 : (t != a0_0) = true := by simp [h1]
    have d2 : (t == a0_0) = false := by simp [h1]
    clear hg h0 h1
    go_enter Try.func11, Try.ntmps11
    go_wp2_with (go_at_call 18; refine (HO.out _).mono ?_; rintro e w1 ⟨rfl, hb1⟩; obtain ⟨hcc, hff⟩ := Go.Proofs.Ytmfgalcepaaolaa.GC.bcell hb1)
    refine bodyPost_ret (v := .tuple #[.agg #[.int .i64 a0_0, .slice A0_1 l0_1.length c0_1, .slice A0_2 l0_2.length c0_2], .int .i64 0, .bool false]) ?_ rfl ?_
    · simp [results, Try.results11, go_sem, hcc]
    refine Go.Proofs.Ytmfgalcepaaolaa.GC.fin_get _ _ _ S1.out S2.out ?_
    have hB1 := below_then (B := w.heap.size) (by repeat (first | refine below_alloc ?_ _ | exact Below.refl _ _)) (by simp; omega) hb1
    repeat (first | refine Below.setCell ?_ (by simp; omega) _ | exact hB1)
set_option maxHeartbeats 4000000 in
set_option maxRecDepth 100000 in
theorem spec_Do.w1 (P0_1_ : Nat → Prop) (A0_1 : Option Addr) (c0_1 : Nat) (l0_1 : List Int) (P0_2_ : Nat → Prop) (A0_2 : Option Addr) (c0_2 : Nat) (l0_2 : List Int) (a1_1 : Int) (a1_2 : Int) (a1_3 : Int) (r1 : Int) (r2 : List Int) (r3 : List Int) (r4 : Int) (r5 : Bool) (w : World)
    (hcon : ∀ W : World, Below w.heap.size w W → Calls Try.prog 22 #[.agg #[.int .i64 1, .slice A0_1 l0_1.length c0_1, .slice A0_2 l0_2.length c0_2], .agg #[.int .i64 1, .int .i64 a1_1, .int .i64 a1_2, .int .i64 a1_3]] W fun e w' => ∃ v1_ v2_ : Value, e = .returned (.tuple #[.agg #[.int .i64 r1, v1_, v2_], .int .i64 r4, .bool r5]) ∧ Aside0 (Kd.V (Kd.int .i64) 3 w' W.heap.size (fun k_ => (((P0_1_ k_ ∧ k_ < w.heap.size) ∨ (P0_2_ k_ ∧ k_ < w.heap.size)) ∨ W.heap.size ≤ k_)) v1_ r2) ∧ Aside0 (Kd.V (Kd.int .i64) 3 w' W.heap.size (fun k_ => (((P0_1_ k_ ∧ k_ < w.heap.size) ∨ (P0_2_ k_ ∧ k_ < w.heap.size)) ∨ W.heap.size ≤ k_)) v2_ r3) ∧ Below W.heap.size W w') :
    Calls Try.prog 11 #[.agg #[.int .i64 1, .slice A0_1 l0_1.length c0_1, .slice A0_2 l0_2.length c0_2], .agg #[.int .i64 1, .int .i64 a1_1, .int .i64 a1_2, .int .i64 a1_3]] w fun e w' => ∃ v1_ v2_ : Value, e = .returned (.tuple #[.agg #[.int .i64 r1, v1_, v2_], .int .i64 r4, .bool r5]) ∧ Kd.V (Kd.int .i64) 3 w' w.heap.size (fun k_ => ((P0_1_ k_ ∨ P0_2_ k_) ∨ w.heap.size ≤ k_)) v1_ r2 ∧ Kd.V (Kd.int .i64) 3 w' w.heap.size (fun k_ => ((P0_1_ k_ ∨ P0_2_ k_) ∨ w.heap.size ≤ k_)) v2_ r3 ∧ Below w.heap.size w w' := by
  have hd := spec_Do.deed1
  go_enter Try.func11, Try.ntmps11
  go_wp2_with (go_at_call 18; refine (spec_Of.calls _ _ _ rfl).mono ?_; rintro e w1 ⟨rfl, hb1⟩; obtain ⟨hcc, hff⟩ := Go.Proofs.Ytmfgalcepaaolaa.GC.bcell hb1)
  have hsz : w.heap.size + 1 + 1 < w1.heap.size := by have := hb1.size; simp at this; omega
  have c0 : w1.cell? ⟨w.heap.size, 0, none⟩ = some (.int .i64 1) := by go_simp
  have c1 : w1.cell? ⟨w.heap.size, 1, none⟩ = some (.slice A0_1 l0_1.length c0_1) := by go_simp
  have c2 : w1.cell? ⟨w.heap.size, 2, none⟩ = some (.slice A0_2 l0_2.length c0_2) := by go_simp
  have o0 : w1.cell? ⟨w.heap.size + 1, 0, none⟩ = some (.int .i64 1) := by go_simp
  have o1 : w1.cell? ⟨w.heap.size + 1, 1, none⟩ = some (.int .i64 a1_1) := by go_simp
  have o2 : w1.cell? ⟨w.heap.size + 1, 2, none⟩ = some (.int .i64 a1_2) := by go_simp
  have o3 : w1.cell? ⟨w.heap.size + 1, 3, none⟩ = some (.int .i64 a1_3) := by go_simp
  have hB1 : Below w.heap.size w w1 := below_then (by repeat (first | refine below_alloc ?_ _ | exact Below.refl _ _)) (by simp; omega) hb1
  have q0 : w1.cell? ⟨w.heap.size + 1 + 1, 0, none⟩ = some (.int .i64 0) := by go_simp
  have q1 : w1.cell? ⟨w.heap.size + 1 + 1, 1, none⟩ = some (.slice none 0 0) := by go_simp
  have q2 : w1.cell? ⟨w.heap.size + 1 + 1, 2, none⟩ = some (.slice none 0 0) := by go_simp
  have f0 : w1.frozen? ⟨w.heap.size + 1 + 1, 0, none⟩ = false := by go_simp
  have f1 : w1.frozen? ⟨w.heap.size + 1 + 1, 1, none⟩ = false := by go_simp
  have f2 : w1.frozen? ⟨w.heap.size + 1 + 1, 2, none⟩ = false := by go_simp
  clear hcc hff hb1
  have HC := Aside0.mk hcon
  clear hcon
  have HB1 := Aside0.mk hB1
  clear hB1
  have ne02 : ¬ (w.heap.size + 1 + 1 = w.heap.size) := by omega
  have ne20 : ¬ (w.heap.size = w.heap.size + 1 + 1) := by omega
  go_region_held3 (fun w' => (w'.cell? ⟨w.heap.size, 0, none⟩ = some (.int .i64 1) ∧ w'.cell? ⟨w.heap.size, 1, none⟩ = some (.slice A0_1 l0_1.length c0_1) ∧ w'.cell? ⟨w.heap.size, 2, none⟩ = some (.slice A0_2 l0_2.length c0_2)) ∧
      w'.cell? ⟨w.heap.size + 1, 0, none⟩ = some (.int .i64 1) ∧ w'.cell? ⟨w.heap.size + 1, 1, none⟩ = some (.int .i64 a1_1) ∧ w'.cell? ⟨w.heap.size + 1, 2, none⟩ = some (.int .i64 a1_2) ∧ w'.cell? ⟨w.heap.size + 1, 3, none⟩ = some (.int .i64 a1_3))
    (first
      | exact ⟨⟨c0, c1, c2⟩, o0, o1, o2, o3⟩
      | exact ⟨⟨pw_cell_below hb2 c0, pw_cell_below hb2 c1, pw_cell_below hb2 c2⟩, pw_cell_below hb2 o0, pw_cell_below hb2 o1, pw_cell_below hb2 o2, pw_cell_below hb2 o3⟩
      | exact ⟨⟨pw_cell_below hb3 (pw_cell_below hb2 c0), pw_cell_below hb3 (pw_cell_below hb2 c1), pw_cell_below hb3 (pw_cell_below hb2 c2)⟩, pw_cell_below hb3 (pw_cell_below hb2 o0), pw_cell_below hb3 (pw_cell_below hb2 o1), pw_cell_below hb3 (pw_cell_below hb2 o2), pw_cell_below hb3 (pw_cell_below hb2 o3)⟩
      | go_keep)
    (first
      | (go_at_call 20; refine (spec_Do.deeds_calls _).mono ?_; rintro e w2 ⟨rfl, hb2⟩)
      | (go_at_call 22; refine (HC.out _ (below_then HB1.out.drew (Nat.le_of_lt (Nat.lt_of_le_of_lt (by omega) hsz)) hb2)).mono ?_
         rintro e w3 ⟨v1, v2, rfl, hv1, hv2, hb3⟩
         obtain ⟨A1', d1', rfl⟩ := Kd.V_slice hv1.out
         obtain ⟨A2', d2', rfl⟩ := Kd.V_slice hv2.out
         have q0' := pw_cell_below hb3 (pw_cell_below hb2 q0)
         have q1' := pw_cell_below hb3 (pw_cell_below hb2 q1)
         have q2' := pw_cell_below hb3 (pw_cell_below hb2 q2)
         have f0' := Go.Proofs.Ytmfgalcepaaolaa.GC.fz_below hb3 (pw_cell_below hb2 q0) (Go.Proofs.Ytmfgalcepaaolaa.GC.fz_below hb2 q0 f0)
         have f1' := Go.Proofs.Ytmfgalcepaaolaa.GC.fz_below hb3 (pw_cell_below hb2 q1) (Go.Proofs.Ytmfgalcepaaolaa.GC.fz_below hb2 q1 f1)
         have f2' := Go.Proofs.Ytmfgalcepaaolaa.GC.fz_below hb3 (pw_cell_below hb2 q2) (Go.Proofs.Ytmfgalcepaaolaa.GC.fz_below hb2 q2 f2)))
  go_wp2
  refine bodyPost_ret (v := .tuple #[.agg #[.int .i64 r1, .slice A1' r2.length d1', .slice A2' r3.length d2'], .int .i64 r4, .bool r5]) ?_ rfl ?_
  · have e0 := World.cell?_setCell_same _ _ (.int .i64 r1) q0'
    simp [results, Try.results11, go_sem, q0', q1', q2']
  have hb12 := below_then HB1.out.drew (Nat.le_of_lt (Nat.lt_of_le_of_lt (by omega) hsz)) hb2
  have hb13 := below_then hb12 hb12.size hb3
  have hbf : Below w.heap.size w (((w3.setCell ⟨w.heap.size + 1 + 1, 0, none⟩ (.int .i64 r1)).setCell ⟨w.heap.size + 1 + 1, 1, none⟩ (.slice A1' r2.length d1')).setCell ⟨w.heap.size + 1 + 1, 2, none⟩ (.slice A2' r3.length d2')) := by
    repeat (first | refine Below.setCell ?_ (by simp; omega) _ | exact hb13)
  have hs2 : w.heap.size + 1 + 1 < w2.heap.size := Nat.lt_of_lt_of_le hsz hb2.size
  have far : ∀ k_, (((P0_1_ k_ ∧ k_ < w.heap.size) ∨ (P0_2_ k_ ∧ k_ < w.heap.size)) ∨ w2.heap.size ≤ k_) → k_ ≠ w.heap.size + 1 + 1 := by
    rintro k_ ((⟨_, h⟩ | ⟨_, h⟩) | h) <;> omega
  have up : ∀ k_, (((P0_1_ k_ ∧ k_ < w.heap.size) ∨ (P0_2_ k_ ∧ k_ < w.heap.size)) ∨ w2.heap.size ≤ k_) → ((P0_1_ k_ ∨ P0_2_ k_) ∨ w.heap.size ≤ k_) := by
    rintro k_ ((⟨h, _⟩ | ⟨h, _⟩) | h)
    · exact .inl (.inl h)
    · exact .inl (.inr h)
    · exact .inr (by omega)
  exact ⟨_, _, rfl, Kd.V_mono (Kd.V_far (Kd.V_far (Kd.V_far hv1.out far _) far _) far _) up, Kd.V_mono (Kd.V_far (Kd.V_far (Kd.V_far hv2.out far _) far _) far _) up, hbf⟩
set_option maxHeartbeats 4000000 in
set_option maxRecDepth 100000 in
theorem spec_Do.w2 (P0_1_ : Nat → Prop) (A0_1 : Option Addr) (c0_1 : Nat) (l0_1 : List Int) (P0_2_ : Nat → Prop) (A0_2 : Option Addr) (c0_2 : Nat) (l0_2 : List Int) (a1_1 : Int) (a1_2 : Int) (a1_3 : Int) (r1 : Int) (r2 : List Int) (r3 : List Int) (r4 : Int) (r5 : Bool) (w : World)
    (hcon : ∀ W : World, Below w.heap.size w W → Calls Try.prog 23 #[.agg #[.int .i64 1, .slice A0_1 l0_1.length c0_1, .slice A0_2 l0_2.length c0_2], .agg #[.int .i64 2, .int .i64 a1_1, .int .i64 a1_2, .int .i64 a1_3]] W fun e w' => ∃ v1_ v2_ : Value, e = .returned (.tuple #[.agg #[.int .i64 r1, v1_, v2_], .int .i64 r4, .bool r5]) ∧ Aside0 (Kd.V (Kd.int .i64) 3 w' W.heap.size (fun k_ => (((P0_1_ k_ ∧ k_ < w.heap.size) ∨ (P0_2_ k_ ∧ k_ < w.heap.size)) ∨ W.heap.size ≤ k_)) v1_ r2) ∧ Aside0 (Kd.V (Kd.int .i64) 3 w' W.heap.size (fun k_ => (((P0_1_ k_ ∧ k_ < w.heap.size) ∨ (P0_2_ k_ ∧ k_ < w.heap.size)) ∨ W.heap.size ≤ k_)) v2_ r3) ∧ Below W.heap.size W w') :
    Calls Try.prog 11 #[.agg #[.int .i64 1, .slice A0_1 l0_1.length c0_1, .slice A0_2 l0_2.length c0_2], .agg #[.int .i64 2, .int .i64 a1_1, .int .i64 a1_2, .int .i64 a1_3]] w fun e w' => ∃ v1_ v2_ : Value, e = .returned (.tuple #[.agg #[.int .i64 r1, v1_, v2_], .int .i64 r4, .bool r5]) ∧ Kd.V (Kd.int .i64) 3 w' w.heap.size (fun k_ => ((P0_1_ k_ ∨ P0_2_ k_) ∨ w.heap.size ≤ k_)) v1_ r2 ∧ Kd.V (Kd.int .i64) 3 w' w.heap.size (fun k_ => ((P0_1_ k_ ∨ P0_2_ k_) ∨ w.heap.size ≤ k_)) v2_ r3 ∧ Below w.heap.size w w' := by
  have hd := spec_Do.deed2
  go_enter Try.func11, Try.ntmps11
  go_wp2_with (go_at_call 18; refine (spec_Of.calls _ _ _ rfl).mono ?_; rintro e w1 ⟨rfl, hb1⟩; obtain ⟨hcc, hff⟩ := Go.Proofs.Ytmfgalcepaaolaa.GC.bcell hb1)
  have hsz : w.heap.size + 1 + 1 < w1.heap.size := by have := hb1.size; simp at this; omega
  have c0 : w1.cell? ⟨w.heap.size, 0, none⟩ = some (.int .i64 1) := by go_simp
  have c1 : w1.cell? ⟨w.heap.size, 1, none⟩ = some (.slice A0_1 l0_1.length c0_1) := by go_simp
  have c2 : w1.cell? ⟨w.heap.size, 2, none⟩ = some (.slice A0_2 l0_2.length c0_2) := by go_simp
  have o0 : w1.cell? ⟨w.heap.size + 1, 0, none⟩ = some (.int .i64 2) := by go_simp
  have o1 : w1.cell? ⟨w.heap.size + 1, 1, none⟩ = some (.int .i64 a1_1) := by go_simp
  have o2 : w1.cell? ⟨w.heap.size + 1, 2, none⟩ = some (.int .i64 a1_2) := by go_simp
  have o3 : w1.cell? ⟨w.heap.size + 1, 3, none⟩ = some (.int .i64 a1_3) := by go_simp
  have hB1 : Below w.heap.size w w1 := below_then (by repeat (first | refine below_alloc ?_ _ | exact Below.refl _ _)) (by simp; omega) hb1
  have q0 : w1.cell? ⟨w.heap.size + 1 + 1, 0, none⟩ = some (.int .i64 0) := by go_simp
  have q1 : w1.cell? ⟨w.heap.size + 1 + 1, 1, none⟩ = some (.slice none 0 0) := by go_simp
  have q2 : w1.cell? ⟨w.heap.size + 1 + 1, 2, none⟩ = some (.slice none 0 0) := by go_simp
  have f0 : w1.frozen? ⟨w.heap.size + 1 + 1, 0, none⟩ = false := by go_simp
  have f1 : w1.frozen? ⟨w.heap.size + 1 + 1, 1, none⟩ = false := by go_simp
  have f2 : w1.frozen? ⟨w.heap.size + 1 + 1, 2, none⟩ = false := by go_simp
  clear hcc hff hb1
  have HC := Aside0.mk hcon
  clear hcon
  have HB1 := Aside0.mk hB1
  clear hB1
  have ne02 : ¬ (w.heap.size + 1 + 1 = w.heap.size) := by omega
  have ne20 : ¬ (w.heap.size = w.heap.size + 1 + 1) := by omega
  go_region_held3 (fun w' => (w'.cell? ⟨w.heap.size, 0, none⟩ = some (.int .i64 1) ∧ w'.cell? ⟨w.heap.size, 1, none⟩ = some (.slice A0_1 l0_1.length c0_1) ∧ w'.cell? ⟨w.heap.size, 2, none⟩ = some (.slice A0_2 l0_2.length c0_2)) ∧
      w'.cell? ⟨w.heap.size + 1, 0, none⟩ = some (.int .i64 2) ∧ w'.cell? ⟨w.heap.size + 1, 1, none⟩ = some (.int .i64 a1_1) ∧ w'.cell? ⟨w.heap.size + 1, 2, none⟩ = some (.int .i64 a1_2) ∧ w'.cell? ⟨w.heap.size + 1, 3, none⟩ = some (.int .i64 a1_3))
    (first
      | exact ⟨⟨c0, c1, c2⟩, o0, o1, o2, o3⟩
      | exact ⟨⟨pw_cell_below hb2 c0, pw_cell_below hb2 c1, pw_cell_below hb2 c2⟩, pw_cell_below hb2 o0, pw_cell_below hb2 o1, pw_cell_below hb2 o2, pw_cell_below hb2 o3⟩
      | exact ⟨⟨pw_cell_below hb3 (pw_cell_below hb2 c0), pw_cell_below hb3 (pw_cell_below hb2 c1), pw_cell_below hb3 (pw_cell_below hb2 c2)⟩, pw_cell_below hb3 (pw_cell_below hb2 o0), pw_cell_below hb3 (pw_cell_below hb2 o1), pw_cell_below hb3 (pw_cell_below hb2 o2), pw_cell_below hb3 (pw_cell_below hb2 o3)⟩
      | go_keep)
    (first
      | (go_at_call 20; refine (spec_Do.deeds_calls _).mono ?_; rintro e w2 ⟨rfl, hb2⟩)
      | (go_at_call 23; refine (HC.out _ (below_then HB1.out.drew (Nat.le_of_lt (Nat.lt_of_le_of_lt (by omega) hsz)) hb2)).mono ?_
         rintro e w3 ⟨v1, v2, rfl, hv1, hv2, hb3⟩
         obtain ⟨A1', d1', rfl⟩ := Kd.V_slice hv1.out
         obtain ⟨A2', d2', rfl⟩ := Kd.V_slice hv2.out
         have q0' := pw_cell_below hb3 (pw_cell_below hb2 q0)
         have q1' := pw_cell_below hb3 (pw_cell_below hb2 q1)
         have q2' := pw_cell_below hb3 (pw_cell_below hb2 q2)
         have f0' := Go.Proofs.Ytmfgalcepaaolaa.GC.fz_below hb3 (pw_cell_below hb2 q0) (Go.Proofs.Ytmfgalcepaaolaa.GC.fz_below hb2 q0 f0)
         have f1' := Go.Proofs.Ytmfgalcepaaolaa.GC.fz_below hb3 (pw_cell_below hb2 q1) (Go.Proofs.Ytmfgalcepaaolaa.GC.fz_below hb2 q1 f1)
         have f2' := Go.Proofs.Ytmfgalcepaaolaa.GC.fz_below hb3 (pw_cell_below hb2 q2) (Go.Proofs.Ytmfgalcepaaolaa.GC.fz_below hb2 q2 f2)))
  go_wp2
  refine bodyPost_ret (v := .tuple #[.agg #[.int .i64 r1, .slice A1' r2.length d1', .slice A2' r3.length d2'], .int .i64 r4, .bool r5]) ?_ rfl ?_
  · have e0 := World.cell?_setCell_same _ _ (.int .i64 r1) q0'
    simp [results, Try.results11, go_sem, q0', q1', q2']
  have hb12 := below_then HB1.out.drew (Nat.le_of_lt (Nat.lt_of_le_of_lt (by omega) hsz)) hb2
  have hb13 := below_then hb12 hb12.size hb3
  have hbf : Below w.heap.size w (((w3.setCell ⟨w.heap.size + 1 + 1, 0, none⟩ (.int .i64 r1)).setCell ⟨w.heap.size + 1 + 1, 1, none⟩ (.slice A1' r2.length d1')).setCell ⟨w.heap.size + 1 + 1, 2, none⟩ (.slice A2' r3.length d2')) := by
    repeat (first | refine Below.setCell ?_ (by simp; omega) _ | exact hb13)
  have hs2 : w.heap.size + 1 + 1 < w2.heap.size := Nat.lt_of_lt_of_le hsz hb2.size
  have far : ∀ k_, (((P0_1_ k_ ∧ k_ < w.heap.size) ∨ (P0_2_ k_ ∧ k_ < w.heap.size)) ∨ w2.heap.size ≤ k_) → k_ ≠ w.heap.size + 1 + 1 := by
    rintro k_ ((⟨_, h⟩ | ⟨_, h⟩) | h) <;> omega
  have up : ∀ k_, (((P0_1_ k_ ∧ k_ < w.heap.size) ∨ (P0_2_ k_ ∧ k_ < w.heap.size)) ∨ w2.heap.size ≤ k_) → ((P0_1_ k_ ∨ P0_2_ k_) ∨ w.heap.size ≤ k_) := by
    rintro k_ ((⟨h, _⟩ | ⟨h, _⟩) | h)
    · exact .inl (.inl h)
    · exact .inl (.inr h)
    · exact .inr (by omega)
  exact ⟨_, _, rfl, Kd.V_mono (Kd.V_far (Kd.V_far (Kd.V_far hv1.out far _) far _) far _) up, Kd.V_mono (Kd.V_far (Kd.V_far (Kd.V_far hv2.out far _) far _) far _) up, hbf⟩
set_option maxHeartbeats 4000000 in
set_option maxRecDepth 100000 in
theorem spec_Do.w3 (P0_1_ : Nat → Prop) (A0_1 : Option Addr) (c0_1 : Nat) (l0_1 : List Int) (P0_2_ : Nat → Prop) (A0_2 : Option Addr) (c0_2 : Nat) (l0_2 : List Int) (a1_1 : Int) (a1_2 : Int) (a1_3 : Int) (r1 : Int) (r2 : List Int) (r3 : List Int) (r4 : Int) (r5 : Bool) (w : World)
    (hcon : ∀ W : World, Below w.heap.size w W → Calls Try.prog 24 #[.agg #[.int .i64 1, .slice A0_1 l0_1.length c0_1, .slice A0_2 l0_2.length c0_2], .agg #[.int .i64 3, .int .i64 a1_1, .int .i64 a1_2, .int .i64 a1_3]] W fun e w' => ∃ v1_ v2_ : Value, e = .returned (.tuple #[.agg #[.int .i64 r1, v1_, v2_], .int .i64 r4, .bool r5]) ∧ Aside0 (Kd.V (Kd.int .i64) 3 w' W.heap.size (fun k_ => (((P0_1_ k_ ∧ k_ < w.heap.size) ∨ (P0_2_ k_ ∧ k_ < w.heap.size)) ∨ W.heap.size ≤ k_)) v1_ r2) ∧ Aside0 (Kd.V (Kd.int .i64) 3 w' W.heap.size (fun k_ => (((P0_1_ k_ ∧ k_ < w.heap.size) ∨ (P0_2_ k_ ∧ k_ < w.heap.size)) ∨ W.heap.size ≤ k_)) v2_ r3) ∧ Below W.heap.size W w') :
    Calls Try.prog 11 #[.agg #[.int .i64 1, .slice A0_1 l0_1.length c0_1, .slice A0_2 l0_2.length c0_2], .agg #[.int .i64 3, .int .i64 a1_1, .int .i64 a1_2, .int .i64 a1_3]] w fun e w' => ∃ v1_ v2_ : Value, e = .returned (.tuple #[.agg #[.int .i64 r1, v1_, v2_], .int .i64 r4, .bool r5]) ∧ Kd.V (Kd.int .i64) 3 w' w.heap.size (fun k_ => ((P0_1_ k_ ∨ P0_2_ k_) ∨ w.heap.size ≤ k_)) v1_ r2 ∧ Kd.V (Kd.int .i64) 3 w' w.heap.size (fun k_ => ((P0_1_ k_ ∨ P0_2_ k_) ∨ w.heap.size ≤ k_)) v2_ r3 ∧ Below w.heap.size w w' := by
  have hd := spec_Do.deed3
  go_enter Try.func11, Try.ntmps11
  go_wp2_with (go_at_call 18; refine (spec_Of.calls _ _ _ rfl).mono ?_; rintro e w1 ⟨rfl, hb1⟩; obtain ⟨hcc, hff⟩ := Go.Proofs.Ytmfgalcepaaolaa.GC.bcell hb1)
  have hsz : w.heap.size + 1 + 1 < w1.heap.size := by have := hb1.size; simp at this; omega
  have c0 : w1.cell? ⟨w.heap.size, 0, none⟩ = some (.int .i64 1) := by go_simp
  have c1 : w1.cell? ⟨w.heap.size, 1, none⟩ = some (.slice A0_1 l0_1.length c0_1) := by go_simp
  have c2 : w1.cell? ⟨w.heap.size, 2, none⟩ = some (.slice A0_2 l0_2.length c0_2) := by go_simp
  have o0 : w1.cell? ⟨w.heap.size + 1, 0, none⟩ = some (.int .i64 3) := by go_simp
  have o1 : w1.cell? ⟨w.heap.size + 1, 1, none⟩ = some (.int .i64 a1_1) := by go_simp
  have o2 : w1.cell? ⟨w.heap.size + 1, 2, none⟩ = some (.int .i64 a1_2) := by go_simp
  have o3 : w1.cell? ⟨w.heap.size + 1, 3, none⟩ = some (.int .i64 a1_3) := by go_simp
  have hB1 : Below w.heap.size w w1 := below_then (by repeat (first | refine below_alloc ?_ _ | exact Below.refl _ _)) (by simp; omega) hb1
  have q0 : w1.cell? ⟨w.heap.size + 1 + 1, 0, none⟩ = some (.int .i64 0) := by go_simp
  have q1 : w1.cell? ⟨w.heap.size + 1 + 1, 1, none⟩ = some (.slice none 0 0) := by go_simp
  have q2 : w1.cell? ⟨w.heap.size + 1 + 1, 2, none⟩ = some (.slice none 0 0) := by go_simp
  have f0 : w1.frozen? ⟨w.heap.size + 1 + 1, 0, none⟩ = false := by go_simp
  have f1 : w1.frozen? ⟨w.heap.size + 1 + 1, 1, none⟩ = false := by go_simp
  have f2 : w1.frozen? ⟨w.heap.size + 1 + 1, 2, none⟩ = false := by go_simp
  clear hcc hff hb1
  have HC := Aside0.mk hcon
  clear hcon
  have HB1 := Aside0.mk hB1
  clear hB1
  have ne02 : ¬ (w.heap.size + 1 + 1 = w.heap.size) := by omega
  have ne20 : ¬ (w.heap.size = w.heap.size + 1 + 1) := by omega
  go_region_held3 (fun w' => (w'.cell? ⟨w.heap.size, 0, none⟩ = some (.int .i64 1) ∧ w'.cell? ⟨w.heap.size, 1, none⟩ = some (.slice A0_1 l0_1.length c0_1) ∧ w'.cell? ⟨w.heap.size, 2, none⟩ = some (.slice A0_2 l0_2.length c0_2)) ∧
      w'.cell? ⟨w.heap.size + 1, 0, none⟩ = some (.int .i64 3) ∧ w'.cell? ⟨w.heap.size + 1, 1, none⟩ = some (.int .i64 a1_1) ∧ w'.cell? ⟨w.heap.size + 1, 2, none⟩ = some (.int .i64 a1_2) ∧ w'.cell? ⟨w.heap.size + 1, 3, none⟩ = some (.int .i64 a1_3))
    (first
      | exact ⟨⟨c0, c1, c2⟩, o0, o1, o2, o3⟩
      | exact ⟨⟨pw_cell_below hb2 c0, pw_cell_below hb2 c1, pw_cell_below hb2 c2⟩, pw_cell_below hb2 o0, pw_cell_below hb2 o1, pw_cell_below hb2 o2, pw_cell_below hb2 o3⟩
      | exact ⟨⟨pw_cell_below hb3 (pw_cell_below hb2 c0), pw_cell_below hb3 (pw_cell_below hb2 c1), pw_cell_below hb3 (pw_cell_below hb2 c2)⟩, pw_cell_below hb3 (pw_cell_below hb2 o0), pw_cell_below hb3 (pw_cell_below hb2 o1), pw_cell_below hb3 (pw_cell_below hb2 o2), pw_cell_below hb3 (pw_cell_below hb2 o3)⟩
      | go_keep)
    (first
      | (go_at_call 20; refine (spec_Do.deeds_calls _).mono ?_; rintro e w2 ⟨rfl, hb2⟩)
      | (go_at_call 24; refine (HC.out _ (below_then HB1.out.drew (Nat.le_of_lt (Nat.lt_of_le_of_lt (by omega) hsz)) hb2)).mono ?_
         rintro e w3 ⟨v1, v2, rfl, hv1, hv2, hb3⟩
         obtain ⟨A1', d1', rfl⟩ := Kd.V_slice hv1.out
         obtain ⟨A2', d2', rfl⟩ := Kd.V_slice hv2.out
         have q0' := pw_cell_below hb3 (pw_cell_below hb2 q0)
         have q1' := pw_cell_below hb3 (pw_cell_below hb2 q1)
         have q2' := pw_cell_below hb3 (pw_cell_below hb2 q2)
         have f0' := Go.Proofs.Ytmfgalcepaaolaa.GC.fz_below hb3 (pw_cell_below hb2 q0) (Go.Proofs.Ytmfgalcepaaolaa.GC.fz_below hb2 q0 f0)
         have f1' := Go.Proofs.Ytmfgalcepaaolaa.GC.fz_below hb3 (pw_cell_below hb2 q1) (Go.Proofs.Ytmfgalcepaaolaa.GC.fz_below hb2 q1 f1)
         have f2' := Go.Proofs.Ytmfgalcepaaolaa.GC.fz_below hb3 (pw_cell_below hb2 q2) (Go.Proofs.Ytmfgalcepaaolaa.GC.fz_below hb2 q2 f2)))
  go_wp2
  refine bodyPost_ret (v := .tuple #[.agg #[.int .i64 r1, .slice A1' r2.length d1', .slice A2' r3.length d2'], .int .i64 r4, .bool r5]) ?_ rfl ?_
  · have e0 := World.cell?_setCell_same _ _ (.int .i64 r1) q0'
    simp [results, Try.results11, go_sem, q0', q1', q2']
  have hb12 := below_then HB1.out.drew (Nat.le_of_lt (Nat.lt_of_le_of_lt (by omega) hsz)) hb2
  have hb13 := below_then hb12 hb12.size hb3
  have hbf : Below w.heap.size w (((w3.setCell ⟨w.heap.size + 1 + 1, 0, none⟩ (.int .i64 r1)).setCell ⟨w.heap.size + 1 + 1, 1, none⟩ (.slice A1' r2.length d1')).setCell ⟨w.heap.size + 1 + 1, 2, none⟩ (.slice A2' r3.length d2')) := by
    repeat (first | refine Below.setCell ?_ (by simp; omega) _ | exact hb13)
  have hs2 : w.heap.size + 1 + 1 < w2.heap.size := Nat.lt_of_lt_of_le hsz hb2.size
  have far : ∀ k_, (((P0_1_ k_ ∧ k_ < w.heap.size) ∨ (P0_2_ k_ ∧ k_ < w.heap.size)) ∨ w2.heap.size ≤ k_) → k_ ≠ w.heap.size + 1 + 1 := by
    rintro k_ ((⟨_, h⟩ | ⟨_, h⟩) | h) <;> omega
  have up : ∀ k_, (((P0_1_ k_ ∧ k_ < w.heap.size) ∨ (P0_2_ k_ ∧ k_ < w.heap.size)) ∨ w2.heap.size ≤ k_) → ((P0_1_ k_ ∨ P0_2_ k_) ∨ w.heap.size ≤ k_) := by
    rintro k_ ((⟨h, _⟩ | ⟨h, _⟩) | h)
    · exact .inl (.inl h)
    · exact .inl (.inr h)
    · exact .inr (by omega)
  exact ⟨_, _, rfl, Kd.V_mono (Kd.V_far (Kd.V_far (Kd.V_far hv1.out far _) far _) far _) up, Kd.V_mono (Kd.V_far (Kd.V_far (Kd.V_far hv2.out far _) far _) far _) up, hbf⟩
set_option maxHeartbeats 4000000 in
set_option maxRecDepth 100000 in
theorem spec_Do.w4 (P0_1_ : Nat → Prop) (A0_1 : Option Addr) (c0_1 : Nat) (l0_1 : List Int) (P0_2_ : Nat → Prop) (A0_2 : Option Addr) (c0_2 : Nat) (l0_2 : List Int) (a1_1 : Int) (a1_2 : Int) (a1_3 : Int) (r1 : Int) (r2 : List Int) (r3 : List Int) (r4 : Int) (r5 : Bool) (w : World)
    (hcon : ∀ W : World, Below w.heap.size w W → Calls Try.prog 25 #[.agg #[.int .i64 2, .slice A0_1 l0_1.length c0_1, .slice A0_2 l0_2.length c0_2], .agg #[.int .i64 4, .int .i64 a1_1, .int .i64 a1_2, .int .i64 a1_3]] W fun e w' => ∃ v1_ v2_ : Value, e = .returned (.tuple #[.agg #[.int .i64 r1, v1_, v2_], .int .i64 r4, .bool r5]) ∧ Aside0 (Kd.V (Kd.int .i64) 3 w' W.heap.size (fun k_ => (((P0_1_ k_ ∧ k_ < w.heap.size) ∨ (P0_2_ k_ ∧ k_ < w.heap.size)) ∨ W.heap.size ≤ k_)) v1_ r2) ∧ Aside0 (Kd.V (Kd.int .i64) 3 w' W.heap.size (fun k_ => (((P0_1_ k_ ∧ k_ < w.heap.size) ∨ (P0_2_ k_ ∧ k_ < w.heap.size)) ∨ W.heap.size ≤ k_)) v2_ r3) ∧ Below W.heap.size W w') :
    Calls Try.prog 11 #[.agg #[.int .i64 2, .slice A0_1 l0_1.length c0_1, .slice A0_2 l0_2.length c0_2], .agg #[.int .i64 4, .int .i64 a1_1, .int .i64 a1_2, .int .i64 a1_3]] w fun e w' => ∃ v1_ v2_ : Value, e = .returned (.tuple #[.agg #[.int .i64 r1, v1_, v2_], .int .i64 r4, .bool r5]) ∧ Kd.V (Kd.int .i64) 3 w' w.heap.size (fun k_ => ((P0_1_ k_ ∨ P0_2_ k_) ∨ w.heap.size ≤ k_)) v1_ r2 ∧ Kd.V (Kd.int .i64) 3 w' w.heap.size (fun k_ => ((P0_1_ k_ ∨ P0_2_ k_) ∨ w.heap.size ≤ k_)) v2_ r3 ∧ Below w.heap.size w w' := by
  have hd := spec_Do.deed4
  go_enter Try.func11, Try.ntmps11
  go_wp2_with (go_at_call 18; refine (spec_Of.calls _ _ _ rfl).mono ?_; rintro e w1 ⟨rfl, hb1⟩; obtain ⟨hcc, hff⟩ := Go.Proofs.Ytmfgalcepaaolaa.GC.bcell hb1)
  have hsz : w.heap.size + 1 + 1 < w1.heap.size := by have := hb1.size; simp at this; omega
  have c0 : w1.cell? ⟨w.heap.size, 0, none⟩ = some (.int .i64 2) := by go_simp
  have c1 : w1.cell? ⟨w.heap.size, 1, none⟩ = some (.slice A0_1 l0_1.length c0_1) := by go_simp
  have c2 : w1.cell? ⟨w.heap.size, 2, none⟩ = some (.slice A0_2 l0_2.length c0_2) := by go_simp
  have o0 : w1.cell? ⟨w.heap.size + 1, 0, none⟩ = some (.int .i64 4) := by go_simp
  have o1 : w1.cell? ⟨w.heap.size + 1, 1, none⟩ = some (.int .i64 a1_1) := by go_simp
  have o2 : w1.cell? ⟨w.heap.size + 1, 2, none⟩ = some (.int .i64 a1_2) := by go_simp
  have o3 : w1.cell? ⟨w.heap.size + 1, 3, none⟩ = some (.int .i64 a1_3) := by go_simp
  have hB1 : Below w.heap.size w w1 := below_then (by repeat (first | refine below_alloc ?_ _ | exact Below.refl _ _)) (by simp; omega) hb1
  have q0 : w1.cell? ⟨w.heap.size + 1 + 1, 0, none⟩ = some (.int .i64 0) := by go_simp
  have q1 : w1.cell? ⟨w.heap.size + 1 + 1, 1, none⟩ = some (.slice none 0 0) := by go_simp
  have q2 : w1.cell? ⟨w.heap.size + 1 + 1, 2, none⟩ = some (.slice none 0 0) := by go_simp
  have f0 : w1.frozen? ⟨w.heap.size + 1 + 1, 0, none⟩ = false := by go_simp
  have f1 : w1.frozen? ⟨w.heap.size + 1 + 1, 1, none⟩ = false := by go_simp
  have f2 : w1.frozen? ⟨w.heap.size + 1 + 1, 2, none⟩ = false := by go_simp
  clear hcc hff hb1
  have HC := Aside0.mk hcon
  clear hcon
  have HB1 := Aside0.mk hB1
  clear hB1
  have ne02 : ¬ (w.heap.size + 1 + 1 = w.heap.size) := by omega
  have ne20 : ¬ (w.heap.size = w.heap.size + 1 + 1) := by omega
  go_region_held3 (fun w' => (w'.cell? ⟨w.heap.size, 0, none⟩ = some (.int .i64 2) ∧ w'.cell? ⟨w.heap.size, 1, none⟩ = some (.slice A0_1 l0_1.length c0_1) ∧ w'.cell? ⟨w.heap.size, 2, none⟩ = some (.slice A0_2 l0_2.length c0_2)) ∧
      w'.cell? ⟨w.heap.size + 1, 0, none⟩ = some (.int .i64 4) ∧ w'.cell? ⟨w.heap.size + 1, 1, none⟩ = some (.int .i64 a1_1) ∧ w'.cell? ⟨w.heap.size + 1, 2, none⟩ = some (.int .i64 a1_2) ∧ w'.cell? ⟨w.heap.size + 1, 3, none⟩ = some (.int .i64 a1_3))
    (first
      | exact ⟨⟨c0, c1, c2⟩, o0, o1, o2, o3⟩
      | exact ⟨⟨pw_cell_below hb2 c0, pw_cell_below hb2 c1, pw_cell_below hb2 c2⟩, pw_cell_below hb2 o0, pw_cell_below hb2 o1, pw_cell_below hb2 o2, pw_cell_below hb2 o3⟩
      | exact ⟨⟨pw_cell_below hb3 (pw_cell_below hb2 c0), pw_cell_below hb3 (pw_cell_below hb2 c1), pw_cell_below hb3 (pw_cell_below hb2 c2)⟩, pw_cell_below hb3 (pw_cell_below hb2 o0), pw_cell_below hb3 (pw_cell_below hb2 o1), pw_cell_below hb3 (pw_cell_below hb2 o2), pw_cell_below hb3 (pw_cell_below hb2 o3)⟩
      | go_keep)
    (first
      | (go_at_call 20; refine (spec_Do.deeds_calls _).mono ?_; rintro e w2 ⟨rfl, hb2⟩)
      | (go_at_call 25; refine (HC.out _ (below_then HB1.out.drew (Nat.le_of_lt (Nat.lt_of_le_of_lt (by omega) hsz)) hb2)).mono ?_
         rintro e w3 ⟨v1, v2, rfl, hv1, hv2, hb3⟩
         obtain ⟨A1', d1', rfl⟩ := Kd.V_slice hv1.out
         obtain ⟨A2', d2', rfl⟩ := Kd.V_slice hv2.out
         have q0' := pw_cell_below hb3 (pw_cell_below hb2 q0)
         have q1' := pw_cell_below hb3 (pw_cell_below hb2 q1)
         have q2' := pw_cell_below hb3 (pw_cell_below hb2 q2)
         have f0' := Go.Proofs.Ytmfgalcepaaolaa.GC.fz_below hb3 (pw_cell_below hb2 q0) (Go.Proofs.Ytmfgalcepaaolaa.GC.fz_below hb2 q0 f0)
         have f1' := Go.Proofs.Ytmfgalcepaaolaa.GC.fz_below hb3 (pw_cell_below hb2 q1) (Go.Proofs.Ytmfgalcepaaolaa.GC.fz_below hb2 q1 f1)
         have f2' := Go.Proofs.Ytmfgalcepaaolaa.GC.fz_below hb3 (pw_cell_below hb2 q2) (Go.Proofs.Ytmfgalcepaaolaa.GC.fz_below hb2 q2 f2)))
  go_wp2
  refine bodyPost_ret (v := .tuple #[.agg #[.int .i64 r1, .slice A1' r2.length d1', .slice A2' r3.length d2'], .int .i64 r4, .bool r5]) ?_ rfl ?_
  · have e0 := World.cell?_setCell_same _ _ (.int .i64 r1) q0'
    simp [results, Try.results11, go_sem, q0', q1', q2']
  have hb12 := below_then HB1.out.drew (Nat.le_of_lt (Nat.lt_of_le_of_lt (by omega) hsz)) hb2
  have hb13 := below_then hb12 hb12.size hb3
  have hbf : Below w.heap.size w (((w3.setCell ⟨w.heap.size + 1 + 1, 0, none⟩ (.int .i64 r1)).setCell ⟨w.heap.size + 1 + 1, 1, none⟩ (.slice A1' r2.length d1')).setCell ⟨w.heap.size + 1 + 1, 2, none⟩ (.slice A2' r3.length d2')) := by
    repeat (first | refine Below.setCell ?_ (by simp; omega) _ | exact hb13)
  have hs2 : w.heap.size + 1 + 1 < w2.heap.size := Nat.lt_of_lt_of_le hsz hb2.size
  have far : ∀ k_, (((P0_1_ k_ ∧ k_ < w.heap.size) ∨ (P0_2_ k_ ∧ k_ < w.heap.size)) ∨ w2.heap.size ≤ k_) → k_ ≠ w.heap.size + 1 + 1 := by
    rintro k_ ((⟨_, h⟩ | ⟨_, h⟩) | h) <;> omega
  have up : ∀ k_, (((P0_1_ k_ ∧ k_ < w.heap.size) ∨ (P0_2_ k_ ∧ k_ < w.heap.size)) ∨ w2.heap.size ≤ k_) → ((P0_1_ k_ ∨ P0_2_ k_) ∨ w.heap.size ≤ k_) := by
    rintro k_ ((⟨h, _⟩ | ⟨h, _⟩) | h)
    · exact .inl (.inl h)
    · exact .inl (.inr h)
    · exact .inr (by omega)
  exact ⟨_, _, rfl, Kd.V_mono (Kd.V_far (Kd.V_far (Kd.V_far hv1.out far _) far _) far _) up, Kd.V_mono (Kd.V_far (Kd.V_far (Kd.V_far hv2.out far _) far _) far _) up, hbf⟩
set_option maxHeartbeats 4000000 in
set_option maxRecDepth 100000 in
theorem spec_Do.w5 (P0_1_ : Nat → Prop) (A0_1 : Option Addr) (c0_1 : Nat) (l0_1 : List Int) (P0_2_ : Nat → Prop) (A0_2 : Option Addr) (c0_2 : Nat) (l0_2 : List Int) (a1_1 : Int) (a1_2 : Int) (a1_3 : Int) (r1 : Int) (r2 : List Int) (r3 : List Int) (r4 : Int) (r5 : Bool) (w : World)
    (hcon : ∀ W : World, Below w.heap.size w W → Calls Try.prog 26 #[.agg #[.int .i64 2, .slice A0_1 l0_1.length c0_1, .slice A0_2 l0_2.length c0_2], .agg #[.int .i64 5, .int .i64 a1_1, .int .i64 a1_2, .int .i64 a1_3]] W fun e w' => ∃ v1_ v2_ : Value, e = .returned (.tuple #[.agg #[.int .i64 r1, v1_, v2_], .int .i64 r4, .bool r5]) ∧ Aside0 (Kd.V (Kd.int .i64) 3 w' W.heap.size (fun k_ => (((P0_1_ k_ ∧ k_ < w.heap.size) ∨ (P0_2_ k_ ∧ k_ < w.heap.size)) ∨ W.heap.size ≤ k_)) v1_ r2) ∧ Aside0 (Kd.V (Kd.int .i64) 3 w' W.heap.size (fun k_ => (((P0_1_ k_ ∧ k_ < w.heap.size) ∨ (P0_2_ k_ ∧ k_ < w.heap.size)) ∨ W.heap.size ≤ k_)) v2_ r3) ∧ Below W.heap.size W w') :
    Calls Try.prog 11 #[.agg #[.int .i64 2, .slice A0_1 l0_1.length c0_1, .slice A0_2 l0_2.length c0_2], .agg #[.int .i64 5, .int .i64 a1_1, .int .i64 a1_2, .int .i64 a1_3]] w fun e w' => ∃ v1_ v2_ : Value, e = .returned (.tuple #[.agg #[.int .i64 r1, v1_, v2_], .int .i64 r4, .bool r5]) ∧ Kd.V (Kd.int .i64) 3 w' w.heap.size (fun k_ => ((P0_1_ k_ ∨ P0_2_ k_) ∨ w.heap.size ≤ k_)) v1_ r2 ∧ Kd.V (Kd.int .i64) 3 w' w.heap.size (fun k_ => ((P0_1_ k_ ∨ P0_2_ k_) ∨ w.heap.size ≤ k_)) v2_ r3 ∧ Below w.heap.size w w' := by
  have hd := spec_Do.deed5
  go_enter Try.func11, Try.ntmps11
  go_wp2_with (go_at_call 18; refine (spec_Of.calls _ _ _ rfl).mono ?_; rintro e w1 ⟨rfl, hb1⟩; obtain ⟨hcc, hff⟩ := Go.Proofs.Ytmfgalcepaaolaa.GC.bcell hb1)
  have hsz : w.heap.size + 1 + 1 < w1.heap.size := by have := hb1.size; simp at this; omega
  have c0 : w1.cell? ⟨w.heap.size, 0, none⟩ = some (.int .i64 2) := by go_simp
  have c1 : w1.cell? ⟨w.heap.size, 1, none⟩ = some (.slice A0_1 l0_1.length c0_1) := by go_simp
  have c2 : w1.cell? ⟨w.heap.size, 2, none⟩ = some (.slice A0_2 l0_2.length c0_2) := by go_simp
  have o0 : w1.cell? ⟨w.heap.size + 1, 0, none⟩ = some (.int .i64 5) := by go_simp
  have o1 : w1.cell? ⟨w.heap.size + 1, 1, none⟩ = some (.int .i64 a1_1) := by go_simp
  have o2 : w1.cell? ⟨w.heap.size + 1, 2, none⟩ = some (.int .i64 a1_2) := by go_simp
  have o3 : w1.cell? ⟨w.heap.size + 1, 3, none⟩ = some (.int .i64 a1_3) := by go_simp
  have hB1 : Below w.heap.size w w1 := below_then (by repeat (first | refine below_alloc ?_ _ | exact Below.refl _ _)) (by simp; omega) hb1
  have q0 : w1.cell? ⟨w.heap.size + 1 + 1, 0, none⟩ = some (.int .i64 0) := by go_simp
  have q1 : w1.cell? ⟨w.heap.size + 1 + 1, 1, none⟩ = some (.slice none 0 0) := by go_simp
  have q2 : w1.cell? ⟨w.heap.size + 1 + 1, 2, none⟩ = some (.slice none 0 0) := by go_simp
  have f0 : w1.frozen? ⟨w.heap.size + 1 + 1, 0, none⟩ = false := by go_simp
  have f1 : w1.frozen? ⟨w.heap.size + 1 + 1, 1, none⟩ = false := by go_simp
  have f2 : w1.frozen? ⟨w.heap.size + 1 + 1, 2, none⟩ = false := by go_simp
  clear hcc hff hb1
  have HC := Aside0.mk hcon
  clear hcon
  have HB1 := Aside0.mk hB1
  clear hB1
  have ne02 : ¬ (w.heap.size + 1 + 1 = w.heap.size) := by omega
  have ne20 : ¬ (w.heap.size = w.heap.size + 1 + 1) := by omega
  go_region_held3 (fun w' => (w'.cell? ⟨w.heap.size, 0, none⟩ = some (.int .i64 2) ∧ w'.cell? ⟨w.heap.size, 1, none⟩ = some (.slice A0_1 l0_1.length c0_1) ∧ w'.cell? ⟨w.heap.size, 2, none⟩ = some (.slice A0_2 l0_2.length c0_2)) ∧
      w'.cell? ⟨w.heap.size + 1, 0, none⟩ = some (.int .i64 5) ∧ w'.cell? ⟨w.heap.size + 1, 1, none⟩ = some (.int .i64 a1_1) ∧ w'.cell? ⟨w.heap.size + 1, 2, none⟩ = some (.int .i64 a1_2) ∧ w'.cell? ⟨w.heap.size + 1, 3, none⟩ = some (.int .i64 a1_3))
    (first
      | exact ⟨⟨c0, c1, c2⟩, o0, o1, o2, o3⟩
      | exact ⟨⟨pw_cell_below hb2 c0, pw_cell_below hb2 c1, pw_cell_below hb2 c2⟩, pw_cell_below hb2 o0, pw_cell_below hb2 o1, pw_cell_below hb2 o2, pw_cell_below hb2 o3⟩
      | exact ⟨⟨pw_cell_below hb3 (pw_cell_below hb2 c0), pw_cell_below hb3 (pw_cell_below hb2 c1), pw_cell_below hb3 (pw_cell_below hb2 c2)⟩, pw_cell_below hb3 (pw_cell_below hb2 o0), pw_cell_below hb3 (pw_cell_below hb2 o1), pw_cell_below hb3 (pw_cell_below hb2 o2), pw_cell_below hb3 (pw_cell_below hb2 o3)⟩
      | go_keep)
    (first
      | (go_at_call 20; refine (spec_Do.deeds_calls _).mono ?_; rintro e w2 ⟨rfl, hb2⟩)
      | (go_at_call 26; refine (HC.out _ (below_then HB1.out.drew (Nat.le_of_lt (Nat.lt_of_le_of_lt (by omega) hsz)) hb2)).mono ?_
         rintro e w3 ⟨v1, v2, rfl, hv1, hv2, hb3⟩
         obtain ⟨A1', d1', rfl⟩ := Kd.V_slice hv1.out
         obtain ⟨A2', d2', rfl⟩ := Kd.V_slice hv2.out
         have q0' := pw_cell_below hb3 (pw_cell_below hb2 q0)
         have q1' := pw_cell_below hb3 (pw_cell_below hb2 q1)
         have q2' := pw_cell_below hb3 (pw_cell_below hb2 q2)
         have f0' := Go.Proofs.Ytmfgalcepaaolaa.GC.fz_below hb3 (pw_cell_below hb2 q0) (Go.Proofs.Ytmfgalcepaaolaa.GC.fz_below hb2 q0 f0)
         have f1' := Go.Proofs.Ytmfgalcepaaolaa.GC.fz_below hb3 (pw_cell_below hb2 q1) (Go.Proofs.Ytmfgalcepaaolaa.GC.fz_below hb2 q1 f1)
         have f2' := Go.Proofs.Ytmfgalcepaaolaa.GC.fz_below hb3 (pw_cell_below hb2 q2) (Go.Proofs.Ytmfgalcepaaolaa.GC.fz_below hb2 q2 f2)))
  go_wp2
  refine bodyPost_ret (v := .tuple #[.agg #[.int .i64 r1, .slice A1' r2.length d1', .slice A2' r3.length d2'], .int .i64 r4, .bool r5]) ?_ rfl ?_
  · have e0 := World.cell?_setCell_same _ _ (.int .i64 r1) q0'
    simp [results, Try.results11, go_sem, q0', q1', q2']
  have hb12 := below_then HB1.out.drew (Nat.le_of_lt (Nat.lt_of_le_of_lt (by omega) hsz)) hb2
  have hb13 := below_then hb12 hb12.size hb3
  have hbf : Below w.heap.size w (((w3.setCell ⟨w.heap.size + 1 + 1, 0, none⟩ (.int .i64 r1)).setCell ⟨w.heap.size + 1 + 1, 1, none⟩ (.slice A1' r2.length d1')).setCell ⟨w.heap.size + 1 + 1, 2, none⟩ (.slice A2' r3.length d2')) := by
    repeat (first | refine Below.setCell ?_ (by simp; omega) _ | exact hb13)
  have hs2 : w.heap.size + 1 + 1 < w2.heap.size := Nat.lt_of_lt_of_le hsz hb2.size
  have far : ∀ k_, (((P0_1_ k_ ∧ k_ < w.heap.size) ∨ (P0_2_ k_ ∧ k_ < w.heap.size)) ∨ w2.heap.size ≤ k_) → k_ ≠ w.heap.size + 1 + 1 := by
    rintro k_ ((⟨_, h⟩ | ⟨_, h⟩) | h) <;> omega
  have up : ∀ k_, (((P0_1_ k_ ∧ k_ < w.heap.size) ∨ (P0_2_ k_ ∧ k_ < w.heap.size)) ∨ w2.heap.size ≤ k_) → ((P0_1_ k_ ∨ P0_2_ k_) ∨ w.heap.size ≤ k_) := by
    rintro k_ ((⟨h, _⟩ | ⟨h, _⟩) | h)
    · exact .inl (.inl h)
    · exact .inl (.inr h)
    · exact .inr (by omega)
  exact ⟨_, _, rfl, Kd.V_mono (Kd.V_far (Kd.V_far (Kd.V_far hv1.out far _) far _) far _) up, Kd.V_mono (Kd.V_far (Kd.V_far (Kd.V_far hv2.out far _) far _) far _) up, hbf⟩
set_option maxHeartbeats 4000000 in
set_option maxRecDepth 100000 in
theorem spec_Do.w6 (P0_1_ : Nat → Prop) (A0_1 : Option Addr) (c0_1 : Nat) (l0_1 : List Int) (P0_2_ : Nat → Prop) (A0_2 : Option Addr) (c0_2 : Nat) (l0_2 : List Int) (a1_1 : Int) (a1_2 : Int) (a1_3 : Int) (r1 : Int) (r2 : List Int) (r3 : List Int) (r4 : Int) (r5 : Bool) (w : World)
    (hcon : ∀ W : World, Below w.heap.size w W → Calls Try.prog 27 #[.agg #[.int .i64 3, .slice A0_1 l0_1.length c0_1, .slice A0_2 l0_2.length c0_2], .agg #[.int .i64 6, .int .i64 a1_1, .int .i64 a1_2, .int .i64 a1_3]] W fun e w' => ∃ v1_ v2_ : Value, e = .returned (.tuple #[.agg #[.int .i64 r1, v1_, v2_], .int .i64 r4, .bool r5]) ∧ Aside0 (Kd.V (Kd.int .i64) 3 w' W.heap.size (fun k_ => (((P0_1_ k_ ∧ k_ < w.heap.size) ∨ (P0_2_ k_ ∧ k_ < w.heap.size)) ∨ W.heap.size ≤ k_)) v1_ r2) ∧ Aside0 (Kd.V (Kd.int .i64) 3 w' W.heap.size (fun k_ => (((P0_1_ k_ ∧ k_ < w.heap.size) ∨ (P0_2_ k_ ∧ k_ < w.heap.size)) ∨ W.heap.size ≤ k_)) v2_ r3) ∧ Below W.heap.size W w') :
    Calls Try.prog 11 #[.agg #[.int .i64 3, .slice A0_1 l0_1.length c0_1, .slice A0_2 l0_2.length c0_2], .agg #[.int .i64 6, .int .i64 a1_1, .int .i64 a1_2, .int .i64 a1_3]] w fun e w' => ∃ v1_ v2_ : Value, e = .returned (.tuple #[.agg #[.int .i64 r1, v1_, v2_], .int .i64 r4, .bool r5]) ∧ Kd.V (Kd.int .i64) 3 w' w.heap.size (fun k_ => ((P0_1_ k_ ∨ P0_2_ k_) ∨ w.heap.size ≤ k_)) v1_ r2 ∧ Kd.V (Kd.int .i64) 3 w' w.heap.size (fun k_ => ((P0_1_ k_ ∨ P0_2_ k_) ∨ w.heap.size ≤ k_)) v2_ r3 ∧ Below w.heap.size w w' := by
  have hd := spec_Do.deed6
  go_enter Try.func11, Try.ntmps11
  go_wp2_with (go_at_call 18; refine (spec_Of.calls _ _ _ rfl).mono ?_; rintro e w1 ⟨rfl, hb1⟩; obtain ⟨hcc, hff⟩ := Go.Proofs.Ytmfgalcepaaolaa.GC.bcell hb1)
  have hsz : w.heap.size + 1 + 1 < w1.heap.size := by have := hb1.size; simp at this; omega
  have c0 : w1.cell? ⟨w.heap.size, 0, none⟩ = some (.int .i64 3) := by go_simp
  have c1 : w1.cell? ⟨w.heap.size, 1, none⟩ = some (.slice A0_1 l0_1.length c0_1) := by go_simp
  have c2 : w1.cell? ⟨w.heap.size, 2, none⟩ = some (.slice A0_2 l0_2.length c0_2) := by go_simp
  have o0 : w1.cell? ⟨w.heap.size + 1, 0, none⟩ = some (.int .i64 6) := by go_simp
  have o1 : w1.cell? ⟨w.heap.size + 1, 1, none⟩ = some (.int .i64 a1_1) := by go_simp
  have o2 : w1.cell? ⟨w.heap.size + 1, 2, none⟩ = some (.int .i64 a1_2) := by go_simp
  have o3 : w1.cell? ⟨w.heap.size + 1, 3, none⟩ = some (.int .i64 a1_3) := by go_simp
  have hB1 : Below w.heap.size w w1 := below_then (by repeat (first | refine below_alloc ?_ _ | exact Below.refl _ _)) (by simp; omega) hb1
  have q0 : w1.cell? ⟨w.heap.size + 1 + 1, 0, none⟩ = some (.int .i64 0) := by go_simp
  have q1 : w1.cell? ⟨w.heap.size + 1 + 1, 1, none⟩ = some (.slice none 0 0) := by go_simp
  have q2 : w1.cell? ⟨w.heap.size + 1 + 1, 2, none⟩ = some (.slice none 0 0) := by go_simp
  have f0 : w1.frozen? ⟨w.heap.size + 1 + 1, 0, none⟩ = false := by go_simp
  have f1 : w1.frozen? ⟨w.heap.size + 1 + 1, 1, none⟩ = false := by go_simp
  have f2 : w1.frozen? ⟨w.heap.size + 1 + 1, 2, none⟩ = false := by go_simp
  clear hcc hff hb1
  have HC := Aside0.mk hcon
  clear hcon
  have HB1 := Aside0.mk hB1
  clear hB1
  have ne02 : ¬ (w.heap.size + 1 + 1 = w.heap.size) := by omega
  have ne20 : ¬ (w.heap.size = w.heap.size + 1 + 1) := by omega
  go_region_held3 (fun w' => (w'.cell? ⟨w.heap.size, 0, none⟩ = some (.int .i64 3) ∧ w'.cell? ⟨w.heap.size, 1, none⟩ = some (.slice A0_1 l0_1.length c0_1) ∧ w'.cell? ⟨w.heap.size, 2, none⟩ = some (.slice A0_2 l0_2.length c0_2)) ∧
      w'.cell? ⟨w.heap.size + 1, 0, none⟩ = some (.int .i64 6) ∧ w'.cell? ⟨w.heap.size + 1, 1, none⟩ = some (.int .i64 a1_1) ∧ w'.cell? ⟨w.heap.size + 1, 2, none⟩ = some (.int .i64 a1_2) ∧ w'.cell? ⟨w.heap.size + 1, 3, none⟩ = some (.int .i64 a1_3))
    (first
      | exact ⟨⟨c0, c1, c2⟩, o0, o1, o2, o3⟩
      | exact ⟨⟨pw_cell_below hb2 c0, pw_cell_below hb2 c1, pw_cell_below hb2 c2⟩, pw_cell_below hb2 o0, pw_cell_below hb2 o1, pw_cell_below hb2 o2, pw_cell_below hb2 o3⟩
      | exact ⟨⟨pw_cell_below hb3 (pw_cell_below hb2 c0), pw_cell_below hb3 (pw_cell_below hb2 c1), pw_cell_below hb3 (pw_cell_below hb2 c2)⟩, pw_cell_below hb3 (pw_cell_below hb2 o0), pw_cell_below hb3 (pw_cell_below hb2 o1), pw_cell_below hb3 (pw_cell_below hb2 o2), pw_cell_below hb3 (pw_cell_below hb2 o3)⟩
      | go_keep)
    (first
      | (go_at_call 20; refine (spec_Do.deeds_calls _).mono ?_; rintro e w2 ⟨rfl, hb2⟩)
      | (go_at_call 27; refine (HC.out _ (below_then HB1.out.drew (Nat.le_of_lt (Nat.lt_of_le_of_lt (by omega) hsz)) hb2)).mono ?_
         rintro e w3 ⟨v1, v2, rfl, hv1, hv2, hb3⟩
         obtain ⟨A1', d1', rfl⟩ := Kd.V_slice hv1.out
         obtain ⟨A2', d2', rfl⟩ := Kd.V_slice hv2.out
         have q0' := pw_cell_below hb3 (pw_cell_below hb2 q0)
         have q1' := pw_cell_below hb3 (pw_cell_below hb2 q1)
         have q2' := pw_cell_below hb3 (pw_cell_below hb2 q2)
         have f0' := Go.Proofs.Ytmfgalcepaaolaa.GC.fz_below hb3 (pw_cell_below hb2 q0) (Go.Proofs.Ytmfgalcepaaolaa.GC.fz_below hb2 q0 f0)
         have f1' := Go.Proofs.Ytmfgalcepaaolaa.GC.fz_below hb3 (pw_cell_below hb2 q1) (Go.Proofs.Ytmfgalcepaaolaa.GC.fz_below hb2 q1 f1)
         have f2' := Go.Proofs.Ytmfgalcepaaolaa.GC.fz_below hb3 (pw_cell_below hb2 q2) (Go.Proofs.Ytmfgalcepaaolaa.GC.fz_below hb2 q2 f2)))
  go_wp2
  refine bodyPost_ret (v := .tuple #[.agg #[.int .i64 r1, .slice A1' r2.length d1', .slice A2' r3.length d2'], .int .i64 r4, .bool r5]) ?_ rfl ?_
  · have e0 := World.cell?_setCell_same _ _ (.int .i64 r1) q0'
    simp [results, Try.results11, go_sem, q0', q1', q2']
  have hb12 := below_then HB1.out.drew (Nat.le_of_lt (Nat.lt_of_le_of_lt (by omega) hsz)) hb2
  have hb13 := below_then hb12 hb12.size hb3
  have hbf : Below w.heap.size w (((w3.setCell ⟨w.heap.size + 1 + 1, 0, none⟩ (.int .i64 r1)).setCell ⟨w.heap.size + 1 + 1, 1, none⟩ (.slice A1' r2.length d1')).setCell ⟨w.heap.size + 1 + 1, 2, none⟩ (.slice A2' r3.length d2')) := by
    repeat (first | refine Below.setCell ?_ (by simp; omega) _ | exact hb13)
  have hs2 : w.heap.size + 1 + 1 < w2.heap.size := Nat.lt_of_lt_of_le hsz hb2.size
  have far : ∀ k_, (((P0_1_ k_ ∧ k_ < w.heap.size) ∨ (P0_2_ k_ ∧ k_ < w.heap.size)) ∨ w2.heap.size ≤ k_) → k_ ≠ w.heap.size + 1 + 1 := by
    rintro k_ ((⟨_, h⟩ | ⟨_, h⟩) | h) <;> omega
  have up : ∀ k_, (((P0_1_ k_ ∧ k_ < w.heap.size) ∨ (P0_2_ k_ ∧ k_ < w.heap.size)) ∨ w2.heap.size ≤ k_) → ((P0_1_ k_ ∨ P0_2_ k_) ∨ w.heap.size ≤ k_) := by
    rintro k_ ((⟨h, _⟩ | ⟨h, _⟩) | h)
    · exact .inl (.inl h)
    · exact .inl (.inr h)
    · exact .inr (by omega)
  exact ⟨_, _, rfl, Kd.V_mono (Kd.V_far (Kd.V_far (Kd.V_far hv1.out far _) far _) far _) up, Kd.V_mono (Kd.V_far (Kd.V_far (Kd.V_far hv2.out far _) far _) far _) up, hbf⟩
set_option maxHeartbeats 4000000 in
set_option maxRecDepth 100000 in
theorem spec_Do.w7 (P0_1_ : Nat → Prop) (A0_1 : Option Addr) (c0_1 : Nat) (l0_1 : List Int) (P0_2_ : Nat → Prop) (A0_2 : Option Addr) (c0_2 : Nat) (l0_2 : List Int) (a1_1 : Int) (a1_2 : Int) (a1_3 : Int) (r1 : Int) (r2 : List Int) (r3 : List Int) (r4 : Int) (r5 : Bool) (w : World)
    (hcon : ∀ W : World, Below w.heap.size w W → Calls Try.prog 26 #[.agg #[.int .i64 3, .slice A0_1 l0_1.length c0_1, .slice A0_2 l0_2.length c0_2], .agg #[.int .i64 7, .int .i64 a1_1, .int .i64 a1_2, .int .i64 a1_3]] W fun e w' => ∃ v1_ v2_ : Value, e = .returned (.tuple #[.agg #[.int .i64 r1, v1_, v2_], .int .i64 r4, .bool r5]) ∧ Aside0 (Kd.V (Kd.int .i64) 3 w' W.heap.size (fun k_ => (((P0_1_ k_ ∧ k_ < w.heap.size) ∨ (P0_2_ k_ ∧ k_ < w.heap.size)) ∨ W.heap.size ≤ k_)) v1_ r2) ∧ Aside0 (Kd.V (Kd.int .i64) 3 w' W.heap.size (fun k_ => (((P0_1_ k_ ∧ k_ < w.heap.size) ∨ (P0_2_ k_ ∧ k_ < w.heap.size)) ∨ W.heap.size ≤ k_)) v2_ r3) ∧ Below W.heap.size W w') :
    Calls Try.prog 11 #[.agg #[.int .i64 3, .slice A0_1 l0_1.length c0_1, .slice A0_2 l0_2.length c0_2], .agg #[.int .i64 7, .int .i64 a1_1, .int .i64 a1_2, .int .i64 a1_3]] w fun e w' => ∃ v1_ v2_ : Value, e = .returned (.tuple #[.agg #[.int .i64 r1, v1_, v2_], .int .i64 r4, .bool r5]) ∧ Kd.V (Kd.int .i64) 3 w' w.heap.size (fun k_ => ((P0_1_ k_ ∨ P0_2_ k_) ∨ w.heap.size ≤ k_)) v1_ r2 ∧ Kd.V (Kd.int .i64) 3 w' w.heap.size (fun k_ => ((P0_1_ k_ ∨ P0_2_ k_) ∨ w.heap.size ≤ k_)) v2_ r3 ∧ Below w.heap.size w w' := by
  have hd := spec_Do.deed7
  go_enter Try.func11, Try.ntmps11
  go_wp2_with (go_at_call 18; refine (spec_Of.calls _ _ _ rfl).mono ?_; rintro e w1 ⟨rfl, hb1⟩; obtain ⟨hcc, hff⟩ := Go.Proofs.Ytmfgalcepaaolaa.GC.bcell hb1)
  have hsz : w.heap.size + 1 + 1 < w1.heap.size := by have := hb1.size; simp at this; omega
  have c0 : w1.cell? ⟨w.heap.size, 0, none⟩ = some (.int .i64 3) := by go_simp
  have c1 : w1.cell? ⟨w.heap.size, 1, none⟩ = some (.slice A0_1 l0_1.length c0_1) := by go_simp
  have c2 : w1.cell? ⟨w.heap.size, 2, none⟩ = some (.slice A0_2 l0_2.length c0_2) := by go_simp
  have o0 : w1.cell? ⟨w.heap.size + 1, 0, none⟩ = some (.int .i64 7) := by go_simp
  have o1 : w1.cell? ⟨w.heap.size + 1, 1, none⟩ = some (.int .i64 a1_1) := by go_simp
  have o2 : w1.cell? ⟨w.heap.size + 1, 2, none⟩ = some (.int .i64 a1_2) := by go_simp
  have o3 : w1.cell? ⟨w.heap.size + 1, 3, none⟩ = some (.int .i64 a1_3) := by go_simp
  have hB1 : Below w.heap.size w w1 := below_then (by repeat (first | refine below_alloc ?_ _ | exact Below.refl _ _)) (by simp; omega) hb1
  have q0 : w1.cell? ⟨w.heap.size + 1 + 1, 0, none⟩ = some (.int .i64 0) := by go_simp
  have q1 : w1.cell? ⟨w.heap.size + 1 + 1, 1, none⟩ = some (.slice none 0 0) := by go_simp
  have q2 : w1.cell? ⟨w.heap.size + 1 + 1, 2, none⟩ = some (.slice none 0 0) := by go_simp
  have f0 : w1.frozen? ⟨w.heap.size + 1 + 1, 0, none⟩ = false := by go_simp
  have f1 : w1.frozen? ⟨w.heap.size + 1 + 1, 1, none⟩ = false := by go_simp
  have f2 : w1.frozen? ⟨w.heap.size + 1 + 1, 2, none⟩ = false := by go_simp
  clear hcc hff hb1
  have HC := Aside0.mk hcon
  clear hcon
  have HB1 := Aside0.mk hB1
  clear hB1
  have ne02 : ¬ (w.heap.size + 1 + 1 = w.heap.size) := by omega
  have ne20 : ¬ (w.heap.size = w.heap.size + 1 + 1) := by omega
  go_region_held3 (fun w' => (w'.cell? ⟨w.heap.size, 0, none⟩ = some (.int .i64 3) ∧ w'.cell? ⟨w.heap.size, 1, none⟩ = some (.slice A0_1 l0_1.length c0_1) ∧ w'.cell? ⟨w.heap.size, 2, none⟩ = some (.slice A0_2 l0_2.length c0_2)) ∧
      w'.cell? ⟨w.heap.size + 1, 0, none⟩ = some (.int .i64 7) ∧ w'.cell? ⟨w.heap.size + 1, 1, none⟩ = some (.int .i64 a1_1) ∧ w'.cell? ⟨w.heap.size + 1, 2, none⟩ = some (.int .i64 a1_2) ∧ w'.cell? ⟨w.heap.size + 1, 3, none⟩ = some (.int .i64 a1_3))
    (first
      | exact ⟨⟨c0, c1, c2⟩, o0, o1, o2, o3⟩
      | exact ⟨⟨pw_cell_below hb2 c0, pw_cell_below hb2 c1, pw_cell_below hb2 c2⟩, pw_cell_below hb2 o0, pw_cell_below hb2 o1, pw_cell_below hb2 o2, pw_cell_below hb2 o3⟩
      | exact ⟨⟨pw_cell_below hb3 (pw_cell_below hb2 c0), pw_cell_below hb3 (pw_cell_below hb2 c1), pw_cell_below hb3 (pw_cell_below hb2 c2)⟩, pw_cell_below hb3 (pw_cell_below hb2 o0), pw_cell_below hb3 (pw_cell_below hb2 o1), pw_cell_below hb3 (pw_cell_below hb2 o2), pw_cell_below hb3 (pw_cell_below hb2 o3)⟩
      | go_keep)
    (first
      | (go_at_call 20; refine (spec_Do.deeds_calls _).mono ?_; rintro e w2 ⟨rfl, hb2⟩)
      | (go_at_call 26; refine (HC.out _ (below_then HB1.out.drew (Nat.le_of_lt (Nat.lt_of_le_of_lt (by omega) hsz)) hb2)).mono ?_
         rintro e w3 ⟨v1, v2, rfl, hv1, hv2, hb3⟩
         obtain ⟨A1', d1', rfl⟩ := Kd.V_slice hv1.out
         obtain ⟨A2', d2', rfl⟩ := Kd.V_slice hv2.out
         have q0' := pw_cell_below hb3 (pw_cell_below hb2 q0)
         have q1' := pw_cell_below hb3 (pw_cell_below hb2 q1)
         have q2' := pw_cell_below hb3 (pw_cell_below hb2 q2)
         have f0' := Go.Proofs.Ytmfgalcepaaolaa.GC.fz_below hb3 (pw_cell_below hb2 q0) (Go.Proofs.Ytmfgalcepaaolaa.GC.fz_below hb2 q0 f0)
         have f1' := Go.Proofs.Ytmfgalcepaaolaa.GC.fz_below hb3 (pw_cell_below hb2 q1) (Go.Proofs.Ytmfgalcepaaolaa.GC.fz_below hb2 q1 f1)
         have f2' := Go.Proofs.Ytmfgalcepaaolaa.GC.fz_below hb3 (pw_cell_below hb2 q2) (Go.Proofs.Ytmfgalcepaaolaa.GC.fz_below hb2 q2 f2)))
  go_wp2
  refine bodyPost_ret (v := .tuple #[.agg #[.int .i64 r1, .slice A1' r2.length d1', .slice A2' r3.length d2'], .int .i64 r4, .bool r5]) ?_ rfl ?_
  · have e0 := World.cell?_setCell_same _ _ (.int .i64 r1) q0'
    simp [results, Try.results11, go_sem, q0', q1', q2']
  have hb12 := below_then HB1.out.drew (Nat.le_of_lt (Nat.lt_of_le_of_lt (by omega) hsz)) hb2
  have hb13 := below_then hb12 hb12.size hb3
  have hbf : Below w.heap.size w (((w3.setCell ⟨w.heap.size + 1 + 1, 0, none⟩ (.int .i64 r1)).setCell ⟨w.heap.size + 1 + 1, 1, none⟩ (.slice A1' r2.length d1')).setCell ⟨w.heap.size + 1 + 1, 2, none⟩ (.slice A2' r3.length d2')) := by
    repeat (first | refine Below.setCell ?_ (by simp; omega) _ | exact hb13)
  have hs2 : w.heap.size + 1 + 1 < w2.heap.size := Nat.lt_of_lt_of_le hsz hb2.size
  have far : ∀ k_, (((P0_1_ k_ ∧ k_ < w.heap.size) ∨ (P0_2_ k_ ∧ k_ < w.heap.size)) ∨ w2.heap.size ≤ k_) → k_ ≠ w.heap.size + 1 + 1 := by
    rintro k_ ((⟨_, h⟩ | ⟨_, h⟩) | h) <;> omega
  have up : ∀ k_, (((P0_1_ k_ ∧ k_ < w.heap.size) ∨ (P0_2_ k_ ∧ k_ < w.heap.size)) ∨ w2.heap.size ≤ k_) → ((P0_1_ k_ ∨ P0_2_ k_) ∨ w.heap.size ≤ k_) := by
    rintro k_ ((⟨h, _⟩ | ⟨h, _⟩) | h)
    · exact .inl (.inl h)
    · exact .inl (.inr h)
    · exact .inr (by omega)
  exact ⟨_, _, rfl, Kd.V_mono (Kd.V_far (Kd.V_far (Kd.V_far hv1.out far _) far _) far _) up, Kd.V_mono (Kd.V_far (Kd.V_far (Kd.V_far hv2.out far _) far _) far _) up, hbf⟩
set_option maxHeartbeats 1000000 in
theorem spec_Do.calls (k : Nat) (a0_0 : Int) (P0_1_ : Nat → Prop) (A0_1 : Option Addr) (c0_1 : Nat) (l0_1 : List Int) (P0_2_ : Nat → Prop) (A0_2 : Option Addr) (c0_2 : Nat) (l0_2 : List Int) (a1_0 : Int) (a1_1 : Int) (a1_2 : Int) (a1_3 : Int) (r1 : Int) (r2 : List Int) (r3 : List Int) (r4 : Int) (r5 : Bool) (w : World) (hs0_1 : Kd.V (Kd.int .i64) 3 w w.heap.size (fun k_ => P0_1_ k_) (.slice A0_1 l0_1.length c0_1) l0_1) (hs0_2 : Kd.V (Kd.int .i64) 3 w w.heap.size (fun k_ => P0_2_ k_) (.slice A0_2 l0_2.length c0_2) l0_2) (h : spec_Do.f k a0_0 l0_1 l0_2 a1_0 a1_1 a1_2 a1_3 = some (r1, r2, r3, r4, r5)) :
    Calls Try.prog 11 #[.agg #[.int .i64 a0_0, .slice A0_1 l0_1.length c0_1, .slice A0_2 l0_2.length c0_2], .agg #[.int .i64 a1_0, .int .i64 a1_1, .int .i64 a1_2, .int .i64 a1_3]] w fun e w' => ∃ v1_ v2_ : Value, e = .returned (.tuple #[.agg #[.int .i64 r1, v1_, v2_], .int .i64 r4, .bool r5]) ∧ Kd.V (Kd.int .i64) 3 w' w.heap.size (fun k_ => ((P0_1_ k_ ∨ P0_2_ k_) ∨ w.heap.size ≤ k_)) v1_ r2 ∧ Kd.V (Kd.int .i64) 3 w' w.heap.size (fun k_ => ((P0_1_ k_ ∨ P0_2_ k_) ∨ w.heap.size ≤ k_)) v2_ r3 ∧ Below w.heap.size w w' := by
  unfold spec_Do.f at h
  split at h
  · rename_i hg
    simp only [Option.some.injEq, Prod.mk.injEq] at h
    obtain ⟨rfl, rfl, rfl, rfl, rfl⟩ := h
    exact spec_Do.w0 a0_0 P0_1_ A0_1 c0_1 l0_1 P0_2_ A0_2 c0_2 l0_2 a1_0 a1_1 a1_2 a1_3 w hs0_1 hs0_2 hg
  rename_i hg
  have hg0 : ¬ Go.Proofs.Ytmfgalcepaaolaa.GOf.ofV a1_0 = 0 := fun h_ => hg (.inl h_)
  have hg1 : Go.Proofs.Ytmfgalcepaaolaa.GOf.ofV a1_0 = a0_0 := Decidable.byContradiction fun h_ => hg (.inr h_)
  clear hg
  have h17 : a1_0 = 1 ∨ a1_0 = 2 ∨ a1_0 = 3 ∨ a1_0 = 4 ∨ a1_0 = 5 ∨ a1_0 = 6 ∨ a1_0 = 7 := by
    refine Decidable.byContradiction fun h_ => hg0 ?_
    unfold Go.Proofs.Ytmfgalcepaaolaa.GOf.ofV
    rw [if_neg (by omega), if_neg (by omega), if_neg (by omega)]
  rcases h17 with rfl | rfl | rfl | rfl | rfl | rfl | rfl
  · obtain rfl : 1 = a0_0 := hg1
    simp only [Int.reduceEq, if_true, if_false, reduceIte] at h
    exact spec_Do.w1 P0_1_ A0_1 c0_1 l0_1 P0_2_ A0_2 c0_2 l0_2 a1_1 a1_2 a1_3 _ _ _ _ _ w (fun W hb => ((spec_get.calls k _ (fun k_ => P0_1_ k_ ∧ k_ < w.heap.size) A0_1 c0_1 l0_1 (fun k_ => P0_2_ k_ ∧ k_ < w.heap.size) A0_2 c0_2 l0_2 _ a1_1 a1_2 a1_3 _ _ _ _ _ W (Kd.V_below (Kd.V_bound hs0_1) hb) (Kd.V_below (Kd.V_bound hs0_2) hb) h).mono (fun e w' ⟨v1, v2, he, h1, h2, h3⟩ => ⟨v1, v2, he, ⟨h1⟩, ⟨h2⟩, h3⟩)))
  · obtain rfl : 1 = a0_0 := hg1
    simp only [Int.reduceEq, if_true, if_false, reduceIte] at h
    exact spec_Do.w2 P0_1_ A0_1 c0_1 l0_1 P0_2_ A0_2 c0_2 l0_2 a1_1 a1_2 a1_3 _ _ _ _ _ w (fun W hb => ((spec_put.calls k _ (fun k_ => P0_1_ k_ ∧ k_ < w.heap.size) A0_1 c0_1 l0_1 (fun k_ => P0_2_ k_ ∧ k_ < w.heap.size) A0_2 c0_2 l0_2 _ a1_1 a1_2 a1_3 _ _ _ _ _ W (Kd.V_below (Kd.V_bound hs0_1) hb) (Kd.V_below (Kd.V_bound hs0_2) hb) h).mono (fun e w' ⟨v1, v2, he, h1, h2, h3⟩ => ⟨v1, v2, he, ⟨h1⟩, ⟨h2⟩, h3⟩)))
  · obtain rfl : 1 = a0_0 := hg1
    simp only [Int.reduceEq, if_true, if_false, reduceIte] at h
    exact spec_Do.w3 P0_1_ A0_1 c0_1 l0_1 P0_2_ A0_2 c0_2 l0_2 a1_1 a1_2 a1_3 _ _ _ _ _ w (fun W hb => ((spec_del.calls k _ (fun k_ => P0_1_ k_ ∧ k_ < w.heap.size) A0_1 c0_1 l0_1 (fun k_ => P0_2_ k_ ∧ k_ < w.heap.size) A0_2 c0_2 l0_2 _ a1_1 a1_2 a1_3 _ _ _ _ _ W (Kd.V_below (Kd.V_bound hs0_1) hb) (Kd.V_below (Kd.V_bound hs0_2) hb) h).mono (fun e w' ⟨v1, v2, he, h1, h2, h3⟩ => ⟨v1, v2, he, ⟨h1⟩, ⟨h2⟩, h3⟩)))
  · obtain rfl : 2 = a0_0 := hg1
    simp only [Int.reduceEq, if_true, if_false, reduceIte] at h
    exact spec_Do.w4 P0_1_ A0_1 c0_1 l0_1 P0_2_ A0_2 c0_2 l0_2 a1_1 a1_2 a1_3 _ _ _ _ _ w (fun W hb => ((spec_push.calls _ (fun k_ => P0_1_ k_ ∧ k_ < w.heap.size) A0_1 c0_1 l0_1 A0_2 c0_2 l0_2 _ a1_1 a1_2 a1_3 _ _ _ _ _ W (Kd.V_below (Kd.V_bound hs0_1) hb) (Kd.C_below (Kd.V_reads' hs0_2).2.2 hb) (Kd.V_reads' hs0_2).2.1 h).mono (fun e w' ⟨v1, v2, he, h1, h2, h3⟩ => ⟨v1, v2, he, ⟨Kd.V_mono h1 (fun _ hk => Or.imp_left .inl hk.1)⟩, ⟨Kd.V_mono (Kd.R_V h2) (fun _ hk => .inr hk)⟩, h3⟩)))
  · obtain rfl : 2 = a0_0 := hg1
    simp only [Int.reduceEq, if_true, if_false, reduceIte] at h
    exact spec_Do.w5 P0_1_ A0_1 c0_1 l0_1 P0_2_ A0_2 c0_2 l0_2 a1_1 a1_2 a1_3 _ _ _ _ _ w (fun W hb => ((spec_first.calls _ (fun k_ => P0_1_ k_ ∧ k_ < w.heap.size) A0_1 c0_1 l0_1 (fun k_ => P0_2_ k_ ∧ k_ < w.heap.size) A0_2 c0_2 l0_2 _ a1_1 a1_2 a1_3 _ _ _ _ _ W (Kd.V_below (Kd.V_bound hs0_1) hb) (Kd.V_below (Kd.V_bound hs0_2) hb) h).mono (fun e w' ⟨v1, v2, he, h1, h2, h3⟩ => ⟨v1, v2, he, ⟨h1⟩, ⟨h2⟩, h3⟩)))
  · obtain rfl : 3 = a0_0 := hg1
    simp only [Int.reduceEq, if_true, if_false, reduceIte] at h
    exact spec_Do.w6 P0_1_ A0_1 c0_1 l0_1 P0_2_ A0_2 c0_2 l0_2 a1_1 a1_2 a1_3 _ _ _ _ _ w (fun W hb => ((spec_send.calls _ (fun k_ => P0_1_ k_ ∧ k_ < w.heap.size) A0_1 c0_1 l0_1 A0_2 c0_2 l0_2 _ a1_1 a1_2 a1_3 _ _ _ _ _ W (Kd.V_below (Kd.V_bound hs0_1) hb) (Kd.C_below (Kd.V_reads' hs0_2).2.2 hb) (Kd.V_reads' hs0_2).2.1 h).mono (fun e w' ⟨v1, v2, he, h1, h2, h3⟩ => ⟨v1, v2, he, ⟨Kd.V_mono h1 (fun _ hk => Or.imp_left .inl hk.1)⟩, ⟨Kd.V_mono (Kd.R_V h2) (fun _ hk => .inr hk)⟩, h3⟩)))
  · obtain rfl : 3 = a0_0 := hg1
    simp only [Int.reduceEq, if_true, if_false, reduceIte] at h
    exact spec_Do.w7 P0_1_ A0_1 c0_1 l0_1 P0_2_ A0_2 c0_2 l0_2 a1_1 a1_2 a1_3 _ _ _ _ _ w (fun W hb => ((spec_first.calls _ (fun k_ => P0_1_ k_ ∧ k_ < w.heap.size) A0_1 c0_1 l0_1 (fun k_ => P0_2_ k_ ∧ k_ < w.heap.size) A0_2 c0_2 l0_2 _ a1_1 a1_2 a1_3 _ _ _ _ _ W (Kd.V_below (Kd.V_bound hs0_1) hb) (Kd.V_below (Kd.V_bound hs0_2) hb) h).mono (fun e w' ⟨v1, v2, he, h1, h2, h3⟩ => ⟨v1, v2, he, ⟨h1⟩, ⟨h2⟩, h3⟩)))
end Go.Proofs.Ytmfgalcepaaolaa.PR
