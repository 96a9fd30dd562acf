/- Data of this seat's types, read: what they are in the print's kinds. -/
import Derived.Test.YtmfgalcepaaolaaBGOpen
import Derived.Test.YtmfgalcepaaolaaBPSx0
import Derived.Test.YtmfgalcepaaolaaRows
namespace Go.Proofs.Ytmfgalcepaaolaa.RwT
open Go.ChangeShapes Go.WideShapes Go.Deep Go.RowKit Go.Proofs.YtmfgalcepaaolaaW.PrintWords Go.Proofs.YtmfgalcepaaolaaW.PrintLast Go.Proofs.YtmfgalcepaaolaaW.PrintMore Go.Proofs.Ytmfgalcepaaolaa.GOpen Go.Proofs.Ytmfgalcepaaolaa.PS
theorem oi : Opens Try.prog 3 (Kd.int .i64) (fun n => (Lit.int .i64 n).wf = true) := opens_int Try.underlying3
theorem oo : Opens Try.prog 26 k26 (fun x => (Lit.int .i64 x.f0).wf = true ∧ (Lit.int .i64 x.f1).wf = true ∧ (Lit.int .i64 x.f2).wf = true ∧ (Lit.int .i64 x.f3).wf = true) :=
  by refine opens_imp (opens_iso (opens_struct (n := 4) Try.underlying26 (by kernel_rfl) (row_cons (n := 1) (by kernel_rfl) oi (row_cons (n := 1) (by kernel_rfl) oi (row_cons (n := 1) (by kernel_rfl) oi (row_last (n := 1) (by kernel_rfl) oi))))) (fun x : S26 => (x.f0, x.f1, x.f2, x.f3)) (fun p => ⟨p.1, p.2.1, p.2.2.1, p.2.2.2⟩) (fun _ => rfl)) ?_; exact fun _ h => h
theorem oos : Opens Try.prog 33 (Kd.slice 26 k26) (fun l => l.length ≤ maxLen ∧ ∀ x ∈ l, (Lit.int .i64 x.f0).wf = true ∧ (Lit.int .i64 x.f1).wf = true ∧ (Lit.int .i64 x.f2).wf = true ∧ (Lit.int .i64 x.f3).wf = true) := opens_slice Try.underlying33 (by kernel_rfl) oo
end Go.Proofs.Ytmfgalcepaaolaa.RwT
