/- Small words that contracts by hand use: a row of numbers lies plainly; a result of two shared rows; what is below. -/
import Derived.Test.YtmfgalcepaaolaaLWMore
namespace Go.Proofs.Ytmfgalcepaaolaa.GC
open Go.RowKit Go.Proofs.YtmfgalcepaaolaaW.PrintWords Go.Proofs.YtmfgalcepaaolaaW.PrintLast Go.Proofs.YtmfgalcepaaolaaW.PrintMore
theorem int_plain {k : IntKind} {w : World} {A : Option Addr} {xs : List Int} (h : Kd.C (Kd.int k) w A xs.length xs) (hp : 0 < xs.length) : ∃ b off, A = some ⟨b, off, none⟩ ∧ ∀ j, j < xs.length → w.cell? ⟨b, off + j, none⟩ = some (.int k (rd xs j)) := by
  have hR := Kd.reads_of_C (enc := Value.int k) (d := (0 : Int)) (h1 := fun _ => rfl) h
  obtain ⟨⟨b, off, sp⟩, rfl, hc⟩ := hR.2.2 hp
  obtain rfl : sp = none := by
    have := hc 0 hp
    rcases sp with _ | s
    · rfl
    · unfold World.cell? Addr.add at this
      split at this
      · split at this <;> simp_all
      · simp at this
  refine ⟨b, off, rfl, fun j hj => ?_⟩
  have := hc j hj
  rw [Addr.add_lit] at this
  exact this
/-- A content handed back: its rows are what came in. -/
theorem fin_get {e : Nat} {P0_1_ P0_2_ : Nat → Prop} {v1 v2 : Value} {l1 l2 : List Int} {w W : World} (r1 : Int) (r4 : Int) (r5 : Bool) (S1 : Kd.V (Kd.int .i64) e w w.heap.size (fun k_ => P0_1_ k_) v1 l1) (S2 : Kd.V (Kd.int .i64) e w w.heap.size (fun k_ => P0_2_ k_) v2 l2) (hb : Below w.heap.size w W) :
   ∃ v1_ v2_ : Value, Ending.returned (.tuple #[.agg #[.int .i64 r1, v1, v2], .int .i64 r4, .bool r5]) = .returned (.tuple #[.agg #[.int .i64 r1, v1_, v2_], .int .i64 r4, .bool r5]) ∧ Kd.V (Kd.int .i64) e W w.heap.size (fun k_ => ((P0_1_ k_ ∨ P0_2_ k_) ∨ w.heap.size ≤ k_)) v1_ l1 ∧ Kd.V (Kd.int .i64) e W w.heap.size (fun k_ => ((P0_1_ k_ ∨ P0_2_ k_) ∨ w.heap.size ≤ k_)) v2_ l2 ∧ Below w.heap.size w W :=
  ⟨v1, v2, rfl, Kd.V_mono (Kd.V_below S1 hb) (fun _ h => .inl (.inl h)), Kd.V_mono (Kd.V_below S2 hb) (fun _ h => .inl (.inr h)), hb⟩
theorem fz_below {w w1 : World} (h : Below w.heap.size w w1) {a : Addr} {v : Value} (hc : w.cell? a = some v) (hf : w.frozen? a = false) : w1.frozen? a = false := (h.frozen (World.block_lt_of_cell? w a hc)).trans hf
theorem bcell {W w1 : World} (hb : Below W.heap.size W w1) : (∀ b o, b < W.heap.size → w1.cell? ⟨b, o, none⟩ = W.cell? ⟨b, o, none⟩) ∧ (∀ b o, b < W.heap.size → w1.frozen? ⟨b, o, none⟩ = W.frozen? ⟨b, o, none⟩) :=
  ⟨fun b o h => hb.cell (p := ⟨b, o, none⟩) h, fun b o h => hb.frozen (p := ⟨b, o, none⟩) h⟩
end Go.Proofs.Ytmfgalcepaaolaa.GC
