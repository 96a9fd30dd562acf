/- Operations on abstract values, more: append and make, done. -/
import Derived.Test.YtjmhioacbpgalaaDoorV7
namespace Go.Proofs.YtjmhioacbpgalaaDoorV
open Go Go.RowKit
set_option linter.unusedVariables false
set_option linter.unusedSimpArgs false
section
variable {P : Program} {ev : Operand → Value} {g : G} {w : World} {look : Nat → Option DObj} {base : Nat}

theorem exec_builtin {o : Oper} {c : Call} {b : Builtin} (hop : o.op = .call c) (hc : c.callee = .builtin b) :
    (execOp ev o).run P w = (builtin b c.argTypes o.type (c.args.map fun | .const _ => true | _ => false) (c.args.map ev)).run P w := by
  simp only [execOp, hop, resolve, hc, Sem.run_bind, Sem.run_pure, Result.andThen, invoke]
  rfl

theorem run_append {ts tx : TypeId} {e : TypeId} {a : Value} {x : Value} {ty : TypeId} {consts : Array Bool} (hu : P.underlying ts = some (.slice e)) {xd : TypeDesc} (hx : P.underlying tx = some xd) (hxi : ∀ k, xd ≠ .int k) :
    (builtin .append #[ts, tx] ty consts #[a, x]).run P w = ((Builtin.append_ #[ts, tx] ty #[a, x]).run P w).andThen fun v w' => .ok (.value v) w' := by
  simp [builtin]

theorem opAppend_sound {o : Oper} {c : Call} {ts tx : TypeId} {a b : Operand} {da db : D} {r : Res} (hop : o.op = .call c) (hc : c.callee = .builtin .append) (hargs : c.args = #[a, b]) (hty : c.argTypes = #[ts, tx])
    (ha : Rep g w da (ev a)) (hb : Rep g w db (ev b)) (h : opAppend P look base ts tx da db = some r) (H : HeapRel g w look) (hm : r.news ≠ [] → g.m base = none) (hl : r.news ≠ [] → look base = none) : Ran P ev o g w look base r := by
  unfold opAppend at h
  split at h
  · rename_i e e' hu hu'
    split at h
    · rename_i n bytes zs hn hby hz
      split at h
      · rename_i hcond
        obtain ⟨hn0, hzl⟩ := hcond
        split at h
        · rename_i k cs hs
          obtain ⟨vs, s1, s2, s3, s4, s5, s6⟩ := srcD_sound (P := P) H hs hb
          obtain ⟨z, hz1, rfl, hzc⟩ := run_zero hz
          have hzs : z.cells.size = n := by simpa using hzl
          have hinfo : ∃ i, P.info? e = some i ∧ i.bytes = bytes := by
            unfold tbytes at hby
            cases hi : P.info? e with
            | none => rw [hi] at hby; cases hby
            | some i => rw [hi] at hby; cases hby; exact ⟨i, rfl, rfl⟩
          obtain ⟨inf, hi, rfl⟩ := hinfo
          have hex : ∀ v w', (Builtin.append_ #[ts, tx] o.type #[ev a, ev b]).run P w = .ok v w' → (execOp ev o).run P w = .ok (.value v) w' := fun v w' he => by
            rw [exec_builtin hop hc, hargs, hty]
            have e2 : (#[a, b] : Array Operand).map ev = #[ev a, ev b] := by simp
            rw [e2]
            simp only [builtin, Sem.run_bind, he, Result.andThen, Sem.run_pure]
          have hcellv : ∀ v ∈ vs, (∀ cs, v ≠ .agg cs) ∧ (∀ cs, v ≠ .tuple cs) := fun v hv => by
            obtain ⟨j, hj⟩ := List.mem_iff_getElem?.1 hv
            obtain ⟨d', hd', r'⟩ := s1.get' hj
            exact D.cell_ne (List.all_eq_true.1 s6 d' (List.mem_of_getElem? hd')) r'
          have nz : ∀ (α : Type) (p q : Sem α) , (match TypeDesc.slice e' with | .int _ => p | _ => q) = q := fun _ _ _ => rfl
          -- what append does, the source known
          have same : ∀ base' len cap, ev a = .slice base' len cap → len ≤ cap → k = 0 → (Builtin.append_ #[ts, tx] o.type #[ev a, ev b]).run P w = .ok (ev a) w := by
            intro base' len cap ea hlc hk
            subst hk
            have hvs : vs = [] := List.eq_nil_of_length_eq_zero (by simpa using s2)
            subst hvs
            simp only [Builtin.append_, ea, Sem.run_bind, run_underlying hu, run_underlying hu', run_sizeOf hn, Result.andThen, Sem.run_pure, s4 w, List.getElem?_toArray, List.getElem?_cons_zero, List.getElem?_cons_succ]
            simp only [Bool.false_eq_true, if_false, Bool.not_false, if_true, Sem.run_bind, s4 w, Result.andThen, Nat.add_zero]
            rw [if_pos hlc]
            simp only [Sem.run_bind, s3 w (fun _ _ => trivial) rfl, Result.andThen]
            cases base' <;> simp [storeCells]
          have grow : ∀ base' len cap (old : List Value), ev a = .slice base' len cap → cap < len + k → roomB inf.bytes (len + k) = true →
              (∀ w' : World, w'.heap = w.heap → (Builtin.firstCells n len (.slice base' len cap)).run P w' = .ok old.toArray w') → old.length = len * n →
              ∃ cap' nd, len + k ≤ cap' ∧ (Builtin.append_ #[ts, tx] o.type #[ev a, ev b]).run P w = .ok (.slice (some ⟨w.heap.size, 0, none⟩) (len + k) cap')
                { ({ w with drawn := nd } : World) with heap := w.heap.push (.cells (old ++ vs ++ (Builtin.zeroCells z.cells (cap' - (len + k))).toList).toArray e) } := by
            intro base' len cap old ea hlt hroom hold holdl
            unfold roomB at hroom
            have hroom := of_decide_eq_true hroom
            have hbig : ¬ (Builtin.nextslicecap (len + k) cap * inf.bytes > 2 ^ 48) := by
              have := nextslicecap_le (len + k) cap hlt
              have : Builtin.nextslicecap (len + k) cap * inf.bytes ≤ (2 * (len + k) + 192) * inf.bytes := Nat.mul_le_mul_right _ this
              omega
            have hsmall : len + k < 2 ^ 62 := by
              have : (2 * (len + k) + 192) * 1 ≤ (2 * (len + k) + 192) * inf.bytes := Nat.mul_le_mul_left _ hroom.1
              omega
            have hmax : IntKind.i64.max = 9223372036854775807 := by decide
            have hti : ∀ w', (typeInfo e).run P w' = .ok inf w' := fun w' => by simp [typeInfo, hi]
            refine ⟨(Question.appendCap (len + k) cap e).cut (w.tape w.drawn (.appendCap (len + k) cap e)), w.drawn + 1, by simp [Question.cut], ?_⟩
            simp only [Builtin.append_, ea, Sem.run_bind, run_underlying hu, run_underlying hu', run_sizeOf hn, Result.andThen, Sem.run_pure, s4 w, List.getElem?_toArray, List.getElem?_cons_zero, List.getElem?_cons_succ]
            simp only [Bool.false_eq_true, if_false, Bool.not_false, if_true, Sem.run_bind, s4 w, Result.andThen]
            rw [if_neg (by omega)]
            simp only [hti, Sem.run_bind, Result.andThen, Sem.run_pure]
            rw [if_neg (by rintro ⟨h1, h2⟩; omega)]
            simp only [hti, Sem.run_bind, Result.andThen, Sem.run_pure]
            rw [if_neg hbig]
            simp only [hti, Sem.run_bind, choose, Sem.run, Question.forced, Bool.false_eq_true, if_false, Result.andThen]
            have ask : ∀ (m : Nat) (w' : World), (askRoom m).run P w' = .ok () w' := fun m w' => by
              unfold askRoom; split <;> simp [mark, Sem.run]
            simp only [ask, Result.andThen, hold { w with drawn := w.drawn + 1 } rfl, s3 { w with drawn := w.drawn + 1 } (fun _ _ => trivial) rfl, hz1, newRow, newObj, Sem.run_bind, Sem.run, Sem.run_pure]
            have e3 : ∀ zz : Array Value, (old ++ vs ++ zz.toList).toArray = old.toArray ++ vs.toArray ++ zz := fun zz => by apply Array.toList_inj.1; simp
            rw [e3]
          -- the new row
          have done_new : ∀ base' len cap (old : List Value) (oldD : List D) ag, ev a = .slice base' len cap → cap < len + k → roomB inf.bytes (len + k) = true →
              (∀ w' : World, w'.heap = w.heap → (Builtin.firstCells n len (.slice base' len cap)).run P w' = .ok old.toArray w') → old.length = len * n → oldD.all (·.cell) = true → RepAll g w oldD old → ∀ (look' : Nat → Option DObj), HeapRel g w look' → g.m base = none → look' base = none →
              Ran P ev o g w look' base { val := .ref base 0 (len + k) n ag, news := [.cells (oldD ++ cs) false] } := by
            intro base' len cap old oldD ag ea hlt hroom hold holdl hoc hrep look' H' hm hl'
            obtain ⟨cap', nd, hcap, hrun⟩ := grow base' len cap old ea hlt hroom hold holdl
            obtain ⟨H2, le2⟩ := H'.drew nd
            have hlen : (oldD ++ cs).length = (old ++ vs).length := by simp [← hrep.length, ← s1.length]
            have hmul : (len + k) * n = len * n + k * n := Nat.add_mul _ _ _
            obtain ⟨g', h2⟩ := out_row (g := g) (w := { w with drawn := nd }) (cs := oldD ++ cs) (vs := old ++ vs ++ (Builtin.zeroCells z.cells (cap' - (len + k))).toList) (el := e) (d := .ref base 0 (len + k) n ag) (v := .slice (some ⟨w.heap.size, 0, none⟩) (len + k) cap') H2 hm hl' (by rw [List.all_append, hoc, s6]; rfl)
              (by rw [hlen, List.take_append_of_le_length (Nat.le_refl _), List.take_length]; exact (RepAll.mono le2 _ _ hrep).append (RepAll.mono le2 _ _ s1)) (by rw [hlen]; simp)
              (fun g' w' e' => .inl ⟨_, _, _, _, 0, e', rfl, hcap, .inr rfl, by
                have : (cap' - (len + k)) * n + (len + k) * n = cap' * n := by rw [← Nat.add_mul]; congr 1; omega
                simp [zeroCells_size, hzs, holdl, s2]; omega⟩)
            exact ⟨_, _, g', .inl (hex _ _ hrun), h2.trans_le le2 rfl⟩
          split at h
          · have ea : ev a = .slice none 0 0 := ha
            split at h
            · rename_i hk
              cases h
              refine ⟨ev a, w, g, .inl (hex _ _ (same none 0 0 ea (Nat.le_refl _) hk)), out_pure H ha⟩
            · rename_i hk
              split at h
              · rename_i hroom
                cases h
                have := done_new none 0 0 [] [] (isAggB P e) ea (by omega) (by simpa using hroom) (fun w' _ => by simp [Builtin.firstCells]) (by simp) rfl rfl look H (hm (by simp)) (hl (by simp))
                simpa using this
              · cases h
          · rename_i id off len m ag
            split at h
            · rename_i old hlook
              split at h
              · rename_i hc'
                obtain ⟨rfl, holen⟩ := hc'
                have ha' := ha
                rcases ha with ⟨b', p, sz, cap, q, q1, q2, q3, q4, q5⟩ | ⟨q1, a0, q2⟩
                case inr =>
                  subst q1
                  split at h
                  · rename_i hk
                    cases h
                    exact ⟨ev a, w, g, .inl (hex _ _ (same a0 0 0 q2 (Nat.le_refl _) hk)), out_pure H ha'⟩
                  · rename_i hk
                    split at h
                    · rename_i hroom
                      cases h
                      have hne : id ≠ base := fun e => by have hl := hl (by simp); subst e; rw [hl] at hlook; cases hlook
                      obtain ⟨v', w', g', k1, k2, k3, k4, k5⟩ := done_new a0 0 0 [] [] ag q2 (by omega) (by simpa using hroom) (fun w' _ => by cases a0 <;> simp [Builtin.firstCells, loadCells, loadCellsFrom]) (by simp) rfl rfl (fun i => if i = id then none else look i)
                        (H.less fun i o' e => by split at e; · cases e
                                                 · exact e) (hm (by simp)) (by rw [if_neg (fun e => hne e.symm)]; exact hl (by simp))
                      refine ⟨v', w', g', k1, k2, by simpa using k3, ?_, k5⟩
                      have : Res.heap { val := D.ref base 0 (0 + k) m ag, news := [DObj.cells ([] ++ cs) false] } (fun i => if i = id then none else look i) base
                          = Res.heap { val := D.ref base 0 (0 + k) m ag, news := [DObj.cells (List.take (0 * m) (List.drop off old) ++ cs) false], upd := [(id, none)] } look base := by
                        funext i
                        simp only [Res.heap, putUpd, Nat.zero_mul, List.take_zero]
                        by_cases hi : i = id
                        · subst hi; rw [if_pos rfl, putNews_ne hne, if_pos rfl]
                        · rw [if_neg hi]
                          by_cases hb : i = base
                          · subst hb; rw [putNews_get, putNews_get]
                          · rw [putNews_ne hb, putNews_ne hb, if_neg hi]
                      rw [← this]; exact k4
                    · cases h
                split at h
                · rename_i hk
                  cases h
                  exact ⟨ev a, w, g, .inl (hex _ _ (same _ _ _ q2 q3 hk)), out_pure H ha'⟩
                · rename_i hk
                  split at h
                  · rename_i hroom
                    cases h
                    have hne : id ≠ base := fun e => by have hl := hl (by simp); subst e; rw [hl] at hlook; cases hlook
                    obtain ⟨vs0, t1, t2, t3, t4, t5, t6⟩ := srcD_sound (P := P) H (n := m) (k := len) (cs := (old.drop off).take (len * m)) (d := .ref id off len m ag) (y := ev a) (by simp [srcD, hlook, holen]) ha'
                    by_cases hcap : len + k ≤ cap
                    · -- in place
                      have hq : q = p + off := q4.resolve_left (by omega)
                      subst hq
                      obtain ⟨bq, pq, szq, c2, el2, fr2, vs2, m1, m2, m3, m4, m5, m6, m7⟩ := (H.obj id _ hlook).real q1
                      rw [q1] at m1; cases m1
                      rw [if_neg (by simp)] at m7
                      obtain ⟨f1, f2, rfl⟩ := m7
                      have hne' := hcellv
                      have hmul : (len + k) * m ≤ cap * m := Nat.mul_le_mul_right _ hcap
                      have hmul' : (len + k) * m = len * m + k * m := Nat.add_mul _ _ _
                      obtain ⟨c', r1, r2, r3⟩ := run_storeCells (P := P) (b := b') (o := p + off + len * m) (el := el2) vs 0 w c2 m2 (by rw [s2]; omega) hne'
                      have hlen1 : ((old.drop off).take (len * m)).length = len * m := by simp; omega
                      obtain ⟨le, hh⟩ := heap_grow (off := off) (c' := c') (cs' := (old.drop off).take (len * m) ++ cs) (vs' := (vs2.drop off).take (len * m) ++ vs) H hlook q1 m2 r2 (hm (by simp)) (hl (by simp)) (by rw [List.all_append, t6, s6]; rfl)
                        (by rw [List.length_append, hlen1, s5]; omega)
                        (fun j v e => by
                          rw [r3]
                          have hvl : ((vs2.drop off).take (len * m)).length = len * m := by simp [m6.length]; omega
                          rw [List.getElem?_append] at e
                          split at e
                          · rename_i hj
                            rw [hvl] at hj
                            rw [if_neg (by omega)]
                            rw [List.getElem?_take, if_pos hj, List.getElem?_drop] at e
                            rw [show p + off + j = p + (off + j) by omega]
                            exact m5 _ _ e
                          · rename_i hj
                            rw [hvl] at hj e
                            have hjl : j - len * m < vs.length := (List.getElem?_eq_some_iff.1 e).1
                            rw [if_pos (by omega), show p + off + j - (p + off + len * m + 0) = j - len * m by omega]
                            exact e)
                        (((m6.drop off).take _).append s1)
                      refine ⟨.slice (some ⟨b', p + off, none⟩) (len + k) cap, _, _, .inl (hex _ _ ?_), le, .inl ⟨b', p + off, c2.size, cap, p + off, by rw [← m3]; exact put_m, rfl, hcap, .inr rfl, by rw [m3]; exact q5⟩, hh, fun i hi => put_m_ne (by simp at hi; omega)⟩
                      simp only [Builtin.append_, q2, Sem.run_bind, run_underlying hu, run_underlying hu', run_sizeOf hn, Result.andThen, Sem.run_pure, s4 w, List.getElem?_toArray, List.getElem?_cons_zero, List.getElem?_cons_succ]
                      simp only [Bool.false_eq_true, if_false, Bool.not_false, if_true, Sem.run_bind, s4 w, Result.andThen]
                      rw [if_pos hcap]
                      simp only [Sem.run_bind, s3 w (fun _ _ => trivial) rfl, Result.andThen, add_none, List.toList_toArray, r1, Sem.run_pure]
                    · have := done_new _ len cap vs0 ((old.drop off).take (len * m)) ag q2 (by omega) hroom (fun w' hw => by rw [← q2]; exact t3 w' (fun _ _ => trivial) hw) t2 t6 t1 (fun i => if i = id then none else look i)
                        (H.less fun i o' e => by split at e; · cases e
                                                 · exact e) (hm (by simp)) (by rw [if_neg (fun e => hne e.symm)]; exact hl (by simp))
                      obtain ⟨v', w', g', k1, k2, k3, k4, k5⟩ := this
                      refine ⟨v', w', g', k1, k2, k3, ?_, k5⟩
                      have : Res.heap { val := D.ref base 0 (len + k) m ag, news := [DObj.cells (List.take (len * m) (List.drop off old) ++ cs) false] } (fun i => if i = id then none else look i) base
                          = Res.heap { val := D.ref base 0 (len + k) m ag, news := [DObj.cells (List.take (len * m) (List.drop off old) ++ cs) false], upd := [(id, none)] } look base := by
                        funext i
                        simp only [Res.heap, putUpd]
                        by_cases hi : i = id
                        · subst hi; rw [if_pos rfl, putNews_ne hne, if_pos rfl]
                        · rw [if_neg hi]
                          by_cases hb : i = base
                          · subst hb; rw [putNews_get, putNews_get]
                          · rw [putNews_ne hb, putNews_ne hb, if_neg hi]
                      rw [← this]; exact k4
                  · cases h
              · cases h
            · cases h
          · cases h
        · cases h
      · cases h
    · cases h
  · cases h
end
end Go.Proofs.YtjmhioacbpgalaaDoorV
