/- Data of this seat's types, read: what they are in the print's kinds. -/
import Derived.Test.YtmfgalcepaaolaaCGOpen
import Derived.Test.YtmfgalcepaaolaaCPSx0
import Derived.Test.YtmfgalcepaaolaaRows
namespace Go.Proofs.Ytmfgalcepaaolaa.RwT
open Go.ChangeShapes Go.WideShapes Go.Deep Go.RowKit Go.Proofs.YtmfgalcepaaolaaW.PrintWords Go.Proofs.YtmfgalcepaaolaaW.PrintLast Go.Proofs.YtmfgalcepaaolaaW.PrintMore Go.Proofs.Ytmfgalcepaaolaa.GOpen Go.Proofs.Ytmfgalcepaaolaa.PS
theorem oi : Opens Try.prog 3 (Kd.int .i64) (fun n => (Lit.int .i64 n).wf = true) := opens_int Try.underlying3
theorem ois : Opens Try.prog 22 (Kd.slice 3 (Kd.int .i64)) (fun l => l.length ≤ maxLen ∧ ∀ x ∈ l, (Lit.int .i64 x).wf = true) := opens_slice Try.underlying22 (by kernel_rfl) oi
theorem oc : Opens Try.prog 24 k24 (fun x => (Lit.int .i64 x.f0).wf = true ∧ (x.f1.length ≤ maxLen ∧ ∀ y ∈ x.f1, (Lit.int .i64 y).wf = true) ∧ (x.f2.length ≤ maxLen ∧ ∀ y ∈ x.f2, (Lit.int .i64 y).wf = true)) :=
  by refine opens_imp (opens_iso (opens_struct (n := 3) Try.underlying24 (by kernel_rfl) (row_cons (n := 1) (by kernel_rfl) oi (row_cons (n := 1) (by kernel_rfl) ois (row_last (n := 1) (by kernel_rfl) ois)))) (fun x : S24 => (x.f0, x.f1, x.f2)) (fun p => ⟨p.1, p.2.1, p.2.2⟩) (fun _ => rfl)) ?_; exact fun _ h => h
theorem oo : Opens Try.prog 26 k26 (fun x => (Lit.int .i64 x.f0).wf = true ∧ (Lit.int .i64 x.f1).wf = true ∧ (Lit.int .i64 x.f2).wf = true ∧ (Lit.int .i64 x.f3).wf = true) :=
  by refine opens_imp (opens_iso (opens_struct (n := 4) Try.underlying26 (by kernel_rfl) (row_cons (n := 1) (by kernel_rfl) oi (row_cons (n := 1) (by kernel_rfl) oi (row_cons (n := 1) (by kernel_rfl) oi (row_last (n := 1) (by kernel_rfl) oi))))) (fun x : S26 => (x.f0, x.f1, x.f2, x.f3)) (fun p => ⟨p.1, p.2.1, p.2.2.1, p.2.2.2⟩) (fun _ => rfl)) ?_; exact fun _ h => h
end Go.Proofs.Ytmfgalcepaaolaa.RwT
