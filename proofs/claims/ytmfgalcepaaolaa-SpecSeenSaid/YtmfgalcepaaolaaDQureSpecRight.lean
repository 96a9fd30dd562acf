/- What is done to what is right is right: the law SpecRight's answer is true, whatever comes in. -/
import Derived.Test.YtmfgalcepaaolaaDQureSpec
namespace Go.Proofs.Ytmfgalcepaaolaa.PureSpec
open Go.RowKit Go.Proofs.Ytmfgalcepaaolaa.PureMap Go.Proofs.Ytmfgalcepaaolaa.PR Go.Proofs.YtmfgalcepaaolaaW.PrintWords Go.Proofs.YtmfgalcepaaolaaW.PrintLast Go.Proofs.YtmfgalcepaaolaaW.PrintMore
/-- What one operation does to what is right. -/
theorem do_right (kd : Int) (ks vs : List Int) (ho : Ok kd ks vs) (hn : vs.length ≤ 1000000) (op o1 a b : Int) (k : Nat) (hk : vs.length < k) :
    ∃ (ks' vs' : List Int) (v : Int) (is : Bool), spec_Do.f k kd ks vs op o1 a b = some (kd, ks', vs', v, is) ∧ Ok kd ks' vs' ∧ vs'.length ≤ vs.length + 1 ∧ vs.length ≤ vs'.length + 1 ∧ ks'.length ≤ vs.length + 1 ∧ (is = false → v = 0 ∧ ks' = ks ∧ vs' = vs) := by
  by_cases hof : Go.Proofs.Ytmfgalcepaaolaa.GOf.ofV op = 0 ∨ ¬ Go.Proofs.Ytmfgalcepaaolaa.GOf.ofV op = kd
  · refine ⟨ks, vs, 0, false, do_other k kd ks vs op o1 a b hof, ho, by omega, by omega, ?_, fun _ => ⟨rfl, rfl, rfl⟩⟩
    rcases ho with ⟨_, _, h⟩ | ⟨_, rfl⟩
    · omega
    · simp
  · have hofk : Go.Proofs.Ytmfgalcepaaolaa.GOf.ofV op = kd := by
      by_cases h : Go.Proofs.Ytmfgalcepaaolaa.GOf.ofV op = kd
      · exact h
      · exact absurd (.inr h) hof
    rcases ho with ⟨rfl, hs, hl⟩ | ⟨hkd, rfl⟩
    · have hop : op = 1 ∨ op = 2 ∨ op = 3 := by
        unfold Go.Proofs.Ytmfgalcepaaolaa.GOf.ofV at hofk
        by_cases h : op = 1 ∨ op = 2 ∨ op = 3
        · exact h
        · rw [if_neg h] at hofk
          split at hofk <;> first | omega | (split at hofk <;> omega)
      obtain ⟨L, rfl, rfl⟩ : ∃ L : Row, ks = L.map (·.1) ∧ vs = L.map (·.2) := ⟨ks.zip vs, by rw [List.map_fst_zip (by omega)], by rw [List.map_snd_zip (by omega)]⟩
      have hL : Asc L := hs
      simp only [List.length_map] at hn hk ⊢
      refine ⟨_, _, _, _, do_map L hL hn op o1 a b hop k hk, .inl ⟨rfl, asc_mDo hL op a b, by simp⟩, ?_⟩
      simp only [List.length_map]
      obtain ⟨A, B, f, rfl, _, hA, hB⟩ := place_cut L hL a hn
      rcases hB with ⟨_, hB⟩ | ⟨_, y, B', rfl, hB⟩
      · have hlk := cut_none hA hB
        rcases hop with rfl | rfl | rfl <;> simp [mDo, hlk, cut_put hA hB] <;> omega
      · have hlk := cut_look (B := B') (y := y) hA
        rcases hop with rfl | rfl | rfl <;> simp [mDo, hlk, cut_del hA hB] <;> omega
    · rcases hkd with rfl | rfl
      · have hop : op = 4 ∨ op = 5 := by
          unfold Go.Proofs.Ytmfgalcepaaolaa.GOf.ofV at hofk
          split at hofk
          · omega
          · split at hofk
            · omega
            · split at hofk <;> omega
        rcases hop with rfl | rfl
        · refine ⟨[], _, _, _, do_push k [] vs hn o1 a b, .inr ⟨.inl rfl, rfl⟩, by simp, by simp; omega, by simp, by simp⟩
        · refine ⟨[], _, _, _, do_pop k [] vs hn o1 a b, .inr ⟨.inl rfl, rfl⟩, by simp; omega, by simp; omega, by simp, ?_⟩
          cases vs <;> simp
      · have hop : op = 6 ∨ op = 7 := by
          unfold Go.Proofs.Ytmfgalcepaaolaa.GOf.ofV at hofk
          split at hofk
          · omega
          · split at hofk
            · omega
            · split at hofk <;> omega
        rcases hop with rfl | rfl
        · refine ⟨[], _, _, _, do_send k [] vs hn o1 a b, .inr ⟨.inr rfl, rfl⟩, by simp, by simp; omega, by simp, by simp⟩
        · refine ⟨[], _, _, _, do_recv k [] vs hn o1 a b, .inr ⟨.inr rfl, rfl⟩, by simp; omega, by simp; omega, by simp, ?_⟩
          cases vs <;> simp
end Go.Proofs.Ytmfgalcepaaolaa.PureSpec
