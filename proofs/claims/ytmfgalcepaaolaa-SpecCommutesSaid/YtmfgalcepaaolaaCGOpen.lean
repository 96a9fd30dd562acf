/- Arguments of whatever data: what a reading of a datum says in the print's kinds. -/
import Derived.Test.YtmfgalcepaaolaaCWMore
import Derived.Deep.Slices
import Derived.Deep.Fields
import Derived.ChangeSame
import Derived.ProofKit
namespace Go.Proofs.Ytmfgalcepaaolaa.GOpen
open Go.ChangeShapes Go.WideShapes Go.Deep Go.RowKit Go.Proofs.YtmfgalcepaaolaaW.PrintWords Go.Proofs.YtmfgalcepaaolaaW.PrintLast Go.Proofs.YtmfgalcepaaolaaW.PrintMore
structure Opens {α : Type} (P : Program) (t : TypeId) (d : Kd α) (W : α → Prop) : Prop where
  h : ∀ {H : Type} {enc : TypeId × Value → H} {w : World} {base : Nat} {spare : Nat → Bool} {held : Bool} {fuel : Nat} {cs : List Value} {x : DataW H × List MemPlace}, DataW.trod enc P w base spare held fuel t cs = some x → ∃ y, W y ∧ d.K w y cs
variable {P : Program} {α β : Type} {t e : TypeId}
theorem opens_int {k : IntKind} (ht : P.underlying t = some (.int k)) : Opens P t (Kd.int k) (fun n => (Lit.int k n).wf = true) := .mk fun h => by
  obtain ⟨n, rfl, _, hw⟩ := DataW.trod_int ht h
  exact ⟨n, hw, rfl⟩
theorem list_of {Q : Nat → α → Prop} : ∀ n, (∀ i, i < n → ∃ y, Q i y) → ∃ l : List α, l.length = n ∧ ∀ j y, l[j]? = some y → Q j y
  | 0, _ => ⟨[], rfl, fun j y h => by simp at h⟩
  | n + 1, h => by
    obtain ⟨l, hl, hq⟩ := list_of n (fun i hi => h i (by omega))
    obtain ⟨y, hy⟩ := h n (by omega)
    refine ⟨l ++ [y], by simp [hl], fun j z hz => ?_⟩
    rcases Nat.lt_or_ge j n with hj | hj
    · rw [List.getElem?_append_left (by omega)] at hz
      exact hq j z hz
    · have hj' : j < n + 1 := by
        have := (List.getElem?_eq_some_iff.1 hz).1
        simp [hl] at this
        omega
      obtain rfl : j = n := by omega
      rw [List.getElem?_append_right (by omega)] at hz
      simp [hl] at hz
      exact hz ▸ hy
theorem opens_slice {d : Kd α} {W : α → Prop} (ht : P.underlying t = some (.slice e)) (hC : P.cellsOf e = d.sz) (ho : Opens P e d W) : Opens P t (Kd.slice e d) (fun l => l.length ≤ maxLen ∧ ∀ x ∈ l, W x) := .mk fun {H enc w base spare held fuel cs x} h => by
  rcases open_slice ht h with ⟨rfl, _⟩ | ⟨a, len, cap, m, n, D, Pl, rfl, _, hl, hm, hmm, _, hi⟩
  · exact ⟨[], ⟨by simp, fun x hx => by cases hx⟩, none, 0, rfl, Nat.le_refl _, Kd.C_nil _ _⟩
  · have hlm : len ≤ m := by rw [hmm]; split <;> omega
    obtain ⟨l, hll, hq⟩ := list_of (Q := fun i y => W y ∧ ∃ cs', w.cells? base (a.add (i * P.cellsOf e)) (P.cellsOf e) = some cs' ∧ d.K w y cs') len (fun i hi' => by
      obtain ⟨cs', hc, ht'⟩ := hi i (by omega)
      obtain ⟨y, hy, hk⟩ := ho.h ht'
      exact ⟨y, hy, cs', hc, hk⟩)
    refine ⟨l, ⟨by unfold maxLen at hm ⊢; omega, fun y hy => ?_⟩, some a, cap, by rw [hll], by omega, ?_⟩
    · obtain ⟨j, hj⟩ := List.getElem?_of_mem hy
      exact (hq j y hj).1
    · refine ⟨rfl, by unfold maxLen at hm; omega, fun _ => ⟨a, rfl, fun j p hp => ?_⟩⟩
      obtain ⟨_, cs', hc, hk⟩ := hq j p hp
      obtain ⟨_, hcl, hat⟩ := World.cells?_some hc
      refine ⟨cs', d.K_len hk, hk, fun i u hu => ?_⟩
      have hlt : i < cs'.length := (List.getElem?_eq_some_iff.1 hu).1
      have := hat i (by omega)
      rw [← hC, ← Go.Deep.add_add, this, hu]
/-- Fields from an offset on. -/
structure OpensRow {α : Type} (P : Program) (fs : List Field) (o n : Nat) (d : Kd α) (W : α → Prop) : Prop where
  h : ∀ {H : Type} {enc : TypeId × Value → H} {w : World} {base : Nat} {spare : Nat → Bool} {held : Bool} {fuel : Nat} {cs : List Value}, (∀ f ∈ fs, ∃ x, DataW.trod enc P w base spare held fuel f.type ((cs.drop f.offset).take (P.cellsOf f.type)) = some x) → ∃ y, W y ∧ d.K w y ((cs.drop o).take n)
theorem row_last {d : Kd α} {W : α → Prop} {f : Field} {n o : Nat} (hn : P.cellsOf f.type = n) (ho : Opens P f.type d W) (hf : f.offset = o := by rfl) : OpensRow P [f] o n d W := .mk fun h => by
  subst hf
  obtain ⟨x, hx⟩ := h f (by simp)
  rw [hn] at hx
  exact ho.h hx
theorem row_cons {d : Kd α} {W : α → Prop} {d2 : Kd β} {W2 : β → Prop} {f : Field} {fs : List Field} {n n2 N o o2 : Nat} (hn : P.cellsOf f.type = n) (ho : Opens P f.type d W) (hr : OpensRow P fs o2 n2 d2 W2) (hf : f.offset = o := by rfl) (h2 : o + n = o2 := by rfl) (hN : n + n2 = N := by rfl) : OpensRow P (f :: fs) o N (Kd.pair d d2) (fun p => W p.1 ∧ W2 p.2) := .mk fun h => by
  subst hf h2 hN
  obtain ⟨x, hx⟩ := h f (by simp)
  rw [hn] at hx
  obtain ⟨y, hy, hk⟩ := ho.h hx
  obtain ⟨y2, hy2, hk2⟩ := hr.h (fun g hg => h g (by simp [hg]))
  refine ⟨(y, y2), ⟨hy, hy2⟩, _, _, ?_, hk, hk2⟩
  rw [List.take_add, List.drop_drop]
theorem opens_struct {d : Kd α} {W : α → Prop} {fs : Array Field} {n : Nat} (ht : P.underlying t = some (.struct fs)) (hn : P.cellsOf t = n) (hr : OpensRow P fs.toList 0 n d W) : Opens P t d W := .mk fun {H enc w base spare held fuel cs x} h => by
  obtain ⟨xs, m, _, _, hl, hlen, hf⟩ := DataW.trod_struct ht h
  have := hr.h (H := H) (enc := enc) (w := w) (base := base) (spare := spare) (held := held) (fuel := m) (cs := cs) (fun f hf' => by
    obtain ⟨i, hi⟩ := List.getElem?_of_mem hf'
    rw [Array.getElem?_toList] at hi
    have h1 := hf i f hi
    have hlt : i < fs.size := (Array.getElem?_eq_some_iff.1 hi).1
    exact ⟨_, h1.trans (List.getElem?_eq_getElem (by omega))⟩)
  rw [List.drop_zero, List.take_of_length_le (by omega)] at this
  exact this
theorem opens_iso {d : Kd α} {W : α → Prop} (h : Opens P t d W) (f : β → α) (g : α → β) (hfg : ∀ x, f (g x) = x) : Opens P t (Kd.iso d f) (fun y => W (f y)) := .mk fun hx => by
  obtain ⟨y, hy, hk⟩ := h.h hx
  exact ⟨g y, by show W (f (g y)); rw [hfg]; exact hy, by show d.K _ (f (g y)) _; rw [hfg]; exact hk⟩
theorem opens_imp {d : Kd α} {W W2 : α → Prop} (h : Opens P t d W) (hw : ∀ y, W y → W2 y) : Opens P t d W2 := .mk fun hx => by
  obtain ⟨y, hy, hk⟩ := h.h hx
  exact ⟨y, hw y hy, hk⟩
end Go.Proofs.Ytmfgalcepaaolaa.GOpen
