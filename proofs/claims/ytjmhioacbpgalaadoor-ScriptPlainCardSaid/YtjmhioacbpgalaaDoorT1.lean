import Derived.Test.YtjmhioacbpgalaaDoorS8
import Derived.Test.YtjmhioacbpgalaaDoorVZ
namespace Go.Proofs.YtjmhioacbpgalaaDoor.S
open Go Go.Proofs.YtjmhioacbpgalaaDoorV
set_option linter.unusedSimpArgs false
set_option linter.unusedVariables false
set_option maxRecDepth 100000
set_option maxHeartbeats 4000000
instance encPk : Enc Pk where
  w := 3
  ag := true
  vals p := [.int .i64 p.k, .int .i64 p.a, .int .i64 p.b]
  len _ := rfl
  inj x y h := by cases x; cases y; simpa using h
  cellv x v h := by simp at h; rcases h with rfl | rfl | rfl <;> rfl
  pos := by decide
  one h := by cases h
theorem enc_pk (p : Pk) : enc p = .agg [.v (.int .i64 p.k), .v (.int .i64 p.a), .v (.int .i64 p.b)] := rfl
theorem cellsE_pk (p : Pk) : cellsE p = [.v (.int .i64 p.k), .v (.int .i64 p.a), .v (.int .i64 p.b)] := rfl
theorem encPk_enc (p : Pk) : Pk.enc p = enc p := rfl
theorem rowsPk (l : List Pk) : D.sl 3 (l.map Pk.enc) = rowsL l := rfl
theorem cellsPk (l : List Pk) : cellsP l = cellsL l := rfl
theorem ety26 : ETy Tryd.prog 26 Pk := ⟨ts26, ag26, agB26⟩
theorem agB3 : isAggB Tryd.prog 3 = false := by kernel_rfl
theorem ety3 : ETy Tryd.prog 3 Int := ⟨ts3, ag3, agB3⟩
theorem ety4 : ETy Tryd.prog 4 Bool := ⟨ts4, ag4, agB4⟩
theorem len22 {look : Nat → Option DObj} {l : List Pk} : opLen Tryd.prog look 22 (rowsL l) = some { val := .v (.int .i64 l.length) } := len_rowsL Tryd.underlying22
theorem len22r {look : Nat → Option DObj} {id n : Nat} : opLen Tryd.prog look 22 (refL Pk id n) = some { val := .v (.int .i64 n) } := len_refL Tryd.underlying22
theorem len22n {look : Nat → Option DObj} : opLen Tryd.prog look 22 (.v (.slice none 0 0)) = some { val := .v (.int .i64 0) } := len_nil Tryd.underlying22
theorem idx22 {l : List Pk} {j : Nat} {x : Pk} {k : IntKind} (h : l[j]? = some x) : opIndexAddr Tryd.prog 22 (rowsL l) (.v (.int k (j : Int))) = some { val := .eaddr (cellsE x) } := idx_rowsL Tryd.underlying22 ety26 (Int.natCast_nonneg j) (by simpa using h)
theorem idx22r {id n j : Nat} {k : IntKind} (h : j < n) : opIndexAddr Tryd.prog 22 (refL Pk id n) (.v (.int k (j : Int))) = some { val := ptrL Pk id j } := by rw [idx_refL Tryd.underlying22 ety26 (Int.natCast_nonneg j) (by omega), Int.toNat_natCast]
attribute [go_sem] len22 len22r len22n
theorem ld26e {look : Nat → Option DObj} {x : Pk} : opLoad Tryd.prog look 26 (.eaddr (cellsE x)) = some { val := enc x } := load_eaddrE ety26
theorem ld26p {look : Nat → Option DObj} {l : List Pk} {id j : Nat} {s : Bool} {x : Pk} (h : look id = some (.cells (cellsL l) s)) (hx : l[j]? = some x) : opLoad Tryd.prog look 26 (ptrL Pk id j) = some { val := enc x } := load_ptrL ety26 h hx
attribute [go_sem] ld26e
theorem len23 {look : Nat → Option DObj} {l : List Bool} : opLen Tryd.prog look 23 (rowsL l) = some { val := .v (.int .i64 l.length) } := len_rowsL Tryd.underlying23
theorem len23r {look : Nat → Option DObj} {id n : Nat} : opLen Tryd.prog look 23 (refL Bool id n) = some { val := .v (.int .i64 n) } := len_refL Tryd.underlying23
theorem len23n {look : Nat → Option DObj} : opLen Tryd.prog look 23 (.v (.slice none 0 0)) = some { val := .v (.int .i64 0) } := len_nil Tryd.underlying23
theorem idx23 {l : List Bool} {j : Nat} {x : Bool} {k : IntKind} (h : l[j]? = some x) : opIndexAddr Tryd.prog 23 (rowsL l) (.v (.int k (j : Int))) = some { val := .eaddr (cellsE x) } := idx_rowsL Tryd.underlying23 ety4 (Int.natCast_nonneg j) (by simpa using h)
theorem idx23r {id n j : Nat} {k : IntKind} (h : j < n) : opIndexAddr Tryd.prog 23 (refL Bool id n) (.v (.int k (j : Int))) = some { val := ptrL Bool id j } := by rw [idx_refL Tryd.underlying23 ety4 (Int.natCast_nonneg j) (by omega), Int.toNat_natCast]
attribute [go_sem] len23 len23r len23n
theorem ld4e {look : Nat → Option DObj} {x : Bool} : opLoad Tryd.prog look 4 (.eaddr (cellsE x)) = some { val := enc x } := load_eaddrE ety4
theorem ld4p {look : Nat → Option DObj} {l : List Bool} {id j : Nat} {s : Bool} {x : Bool} (h : look id = some (.cells (cellsL l) s)) (hx : l[j]? = some x) : opLoad Tryd.prog look 4 (ptrL Bool id j) = some { val := enc x } := load_ptrL ety4 h hx
attribute [go_sem] ld4e
attribute [go_sem] enc_pk cellsE_pk Tryd.underlying23
theorem plain' (seats : Int) (l : List Pk) (hl : l.length ≤ 400) : Fits Tryd.prog 15 [.v (.int .i64 seats), rowsL l] (refL Pk 0 (plainS seats l).length) [.cells (cellsL (plainS seats l)) false] := by
  have h := plain seats l hl
  cases ho : plainS seats l with
  | nil => rw [ho] at h; exact Fits.nilrow Pk h
  | cons p o => rw [ho] at h; exact h
def ctrRight : Ctr Tryd.prog where
  f := 12
  A := Int × Pk
  pre _ := True
  args x := [.v (.int .i64 x.1), enc x.2]
  res x := .v (.bool (rightS x.1 x.2))
  objs _ := []
  inj a b h := by
    simp only [List.cons.injEq, D.v.injEq, Value.int.injEq, true_and, and_true] at h
    have : a = b := Prod.ext h.1 (enc_inj h.2)
    rw [this]; exact ⟨rfl, rfl⟩
  enter := enter_of Tryd.func12 rfl rfl
  fits x _ := right x.1 x.2.k x.2.a x.2.b
def ctrPlain : Ctr Tryd.prog where
  f := 15
  A := Int × List Pk
  pre x := x.2.length ≤ 400
  args x := [.v (.int .i64 x.1), rowsL x.2]
  res x := refL Pk 0 (plainS x.1 x.2).length
  objs x := [.cells (cellsL (plainS x.1 x.2)) false]
  inj a b h := by
    simp only [List.cons.injEq, D.v.injEq, Value.int.injEq, true_and, and_true] at h
    have : a = b := Prod.ext h.1 (rowsL_inj h.2)
    rw [this]; exact ⟨rfl, rfl⟩
  enter := enter_of Tryd.func15 rfl rfl
  fits x h := plain' x.1 x.2 h
def ctrSame : Ctr Tryd.prog where
  f := 14
  A := List Pk
  pre x := x.length ≤ 400
  args x := [rowsL x, rowsL x]
  res _ := .v (.bool true)
  objs _ := []
  inj _ _ _ := ⟨rfl, rfl⟩
  enter := enter_of Tryd.func14 rfl rfl
  fits x h := same _ _ x (RdP.sl x) (RdP.sl x) h
def ctrAlive : Ctr Tryd.prog where
  f := 11
  A := Unit
  pre _ := True
  args _ := []
  res _ := .v (.bool true)
  objs _ := []
  inj _ _ _ := ⟨rfl, rfl⟩
  enter := enter_of Tryd.func11 rfl rfl
  fits _ _ := alive
end Go.Proofs.YtjmhioacbpgalaaDoor.S
