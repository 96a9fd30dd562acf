import Derived.Test.YtjmhioacbpgalaaDoorT3
namespace Go.Proofs.YtjmhioacbpgalaaDoor.S
open Go Go.Proofs.YtjmhioacbpgalaaDoorV
set_option linter.unusedVariables false
def pickT : Ty := .st (.cons (.int .i64) (.cons (.int .i64) (.cons (.int .i64) .nil)))
def toPk (p : Int × Int × Int) : Pk := ⟨p.1, p.2.1, p.2.2⟩
theorem encs_pk (l : List (Int × Int × Int)) : Ty.enc (.slice pickT) l = rowsL (l.map toPk) := by
  simp only [Ty.enc, rowsL, List.map_map]; rfl
theorem wf_i64 {n : Int} (h : (Lit.int .i64 n).wf = true) : -9223372036854775808 ≤ n ∧ n ≤ 9223372036854775807 := by
  simp [Lit.wf, IntKind.min, IntKind.max, IntKind.signed, IntKind.bits] at h
  omega
def args7 : Tys := .cons (.int .i64) (.cons (.slice pickT) .nil)
theorem law7' (seats : Int) (l : List (Int × Int × Int)) (h : (Lit.int .i64 seats).wf = true) : Fits Tryd.prog 7 [.v (.int .i64 seats), Ty.enc (.slice pickT) l] (.v (.bool true)) [] := by
  rw [encs_pk]
  exact twice seats (wf_i64 h).2 _
theorem law7 : Law Tryd.prog 7 args7 := fun x hx => law7' x.1 x.2 hx.1
end Go.Proofs.YtjmhioacbpgalaaDoor.S
