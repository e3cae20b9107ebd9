/- The abstract layer, part 9: each operation does what it says: the rest. -/
import Derived.Test.YtbpgebfejebmlaaGreatDoorA8
namespace Go.Proofs.YtbpgebfejebmlaaGreatDoor
open Go Go.RowKit
set_option linter.unusedSimpArgs false
set_option linter.unusedVariables false

variable {C : Ctx} {st st' : St} {g : Gh} {a : Act} {w : World}

theorem Rep.cellsF {d : D} {v : Value} (h : Rep g w d v) (hs : d.fixed = true) : Reps g w d.cells v.cells.toList := by
  cases d
  case agg ds =>
    simp only [D.cells]
    simp only [Rep] at h
    obtain ⟨vs, rfl, hr⟩ := h
    simpa [Value.cells] using hr
  all_goals exact h.cells (by simpa [D.cells, D.fixed] using hs)

theorem snd_box {o : Oper} {e : TypeId} {x : Operand} (ho : o.op = .box e x) : Sound C o (.box e x) := by
  intro hdw st g a w d st' hs he
  simp only [AOp.ex] at he
  split at he
  · rename_i n hn
    split at he
    · rename_i hf
      cases he
      have h1 := hs.drop n (C.wrok n (hdw n hn)).2
      have hc : Reps (g.noBx n) w (D.drops n (st.ev x).cells) (a.eval x).cells.toList :=
        Reps.dropped (g := g) (g' := g.noBx n) (fun m b hm e => by simp only [hm, if_false]; exact e) (fun _ _ h => h) (Ex.refl _ _) ((hs.ev x).cellsF hf)
      obtain ⟨h2, h3⟩ := SR.newbox h1 n (by simp) (a.eval x).cells e _ hc
      refine ⟨(fun h => by cases h), _, _, _, ?_, h2, SF.newbox hs hn rfl h3.ex, .inl ⟨.pointer (some ⟨w.heap.size, 0, none⟩), rfl, ?_⟩⟩
      · unfold execOp
        simp only [ho, Instr.box, Sem.run_bind, Result.andThen_ok, Sem.run_pure, newVar_run]
      · simp only [Rep]
        exact ⟨w.heap.size, by simp, rfl⟩
    · cases he
  · cases he

/-- Parts are put into a struct's cells. -/
theorem fill_run (place : Nat → Option (Nat × Nat)) : ∀ (ps : List (Nat × Nat × Nat × Value)) (cells : Array Value) (zs : List D) (ds : List D) (cs : List (List D)),
    (∀ p ∈ ps, place p.1 = some (p.2.1, p.2.2.1)) → Reps g w zs cells.toList → cs.length = ps.length →
    (∀ (j : Nat) (p : Nat × Nat × Nat × Value) (c : List D), ps[j]? = some p → cs[j]? = some c → Reps g w c p.2.2.2.cells.toList) →
    fillD zs ((ps.zip cs).map fun q => (q.1.2.1, q.1.2.2.1, q.2)) = some ds →
    ∃ r, Instr.fill place cells (ps.map fun p => (p.1, p.2.2.2)) = some r ∧ Reps g w ds r.toList
  | [], cells, zs, ds, cs, _, hz, _, _, hf => by
    simp only [List.zip_nil_left, List.map_nil, fillD, Option.some.injEq] at hf
    subst hf
    exact ⟨cells, rfl, hz⟩
  | p :: ps, cells, zs, ds, [], _, _, hl, _, _ => by simp at hl
  | p :: ps, cells, zs, ds, c :: cs, hp, hz, hl, hc, hf => by
    simp only [List.zip_cons_cons, List.map_cons, fillD] at hf
    split at hf
    · rename_i hsz
      have h0 := hc 0 p c (by simp) (by simp)
      have hlen : p.2.2.2.cells.size = p.2.2.1 := by rw [← Array.length_toList, h0.length]; exact hsz.1
      have hzl : cells.size = zs.length := by rw [← Array.length_toList, hz.length]
      obtain ⟨f1, f2⟩ := Go.Great.foldl_set p.2.1 p.2.2.2.cells.toList 0 cells
      have hset : ∃ cells' : Array Value, p.2.2.2.cells.zipIdx.foldl (fun cs (x : Value × Nat) => cs.setIfInBounds (p.2.1 + x.2) x.1) cells = cells' ∧
          cells'.toList = cells.toList.take p.2.1 ++ (p.2.2.2.cells.toList ++ cells.toList.drop (p.2.1 + p.2.2.1)) := by
        refine ⟨_, rfl, ?_⟩
        rw [← Array.foldl_toList, Array.toList_zipIdx]
        refine List.ext_getElem? fun k => ?_
        have := f2 k
        rw [← Array.getElem?_toList] at this
        rw [this]
        have hcl : p.2.2.2.cells.toList.length = p.2.2.1 := by rw [Array.length_toList]; exact hlen
        rw [hcl, Nat.add_zero]
        by_cases h1 : k < p.2.1
        · rw [if_neg (by omega), List.getElem?_append_left (by rw [List.length_take, Array.length_toList]; omega), List.getElem?_take, if_pos h1, Array.getElem?_toList]
        · rw [List.getElem?_append_right (by rw [List.length_take, Array.length_toList]; omega), List.length_take, Array.length_toList, Nat.min_eq_left (by omega)]
          by_cases h2 : k < p.2.1 + p.2.2.1
          · rw [if_pos ⟨by omega, h2, by omega⟩, List.getElem?_append_left (by rw [hcl]; omega)]
          · rw [if_neg (by omega), List.getElem?_append_right (by rw [hcl]; omega), hcl, List.getElem?_drop, Array.getElem?_toList]
            congr 1
            omega
      obtain ⟨cells', hs1, hs2⟩ := hset
      obtain ⟨r, hr, hrr⟩ := fill_run place ps cells' _ ds cs (fun q hq => hp q (List.mem_cons_of_mem _ hq)) (by
        rw [hs2]
        exact (hz.take _).append (h0.append (hz.drop _))) (by simpa using hl) (fun j q e hq he => hc (j + 1) q e (by simpa using hq) (by simpa using he)) hf
      refine ⟨r, ?_, hrr⟩
      simp only [List.map_cons, Instr.fill, hp p List.mem_cons_self]
      split
      · rename_i hbad
        exfalso
        simp at hbad
        omega
      · rw [← hs1] at hr
        exact hr
    · cases hf

theorem partsOf_spec {P : Program} {fs : Array Field} : ∀ {parts : List (Nat × Operand)} {ps : List (Nat × Nat × Operand)}, partsOf P fs parts = some ps →
    ps.length = parts.length ∧ ∀ (j : Nat) (p : Nat × Operand) (q : Nat × Nat × Operand), parts[j]? = some p → ps[j]? = some q → p.2 = q.2.2 ∧ ∃ f i, fs[p.1]? = some f ∧ P.info? f.type = some i ∧ q.1 = f.offset ∧ q.2.1 = i.size
  | [], _, h => by
    simp only [partsOf, Option.some.injEq] at h
    subst h
    exact ⟨rfl, fun j p q hp _ => by simp at hp⟩
  | (k, x) :: r, _, h => by
    simp only [partsOf] at h
    split at h
    · rename_i f rs h1 h2
      split at h
      · rename_i i h3
        cases h
        obtain ⟨e1, e2⟩ := partsOf_spec h2
        refine ⟨by simp [e1], fun j p q hp hq => ?_⟩
        cases j with
        | zero => simp at hp hq; subst hp; subst hq; exact ⟨rfl, f, i, h1, h3, rfl, rfl⟩
        | succ j => exact e2 j p q (by simpa using hp) (by simpa using hq)
      · cases h
    · cases h

theorem rangeAt_of_box {b : Nat} {cs : Array Value} {t : TypeId} {fr : Nat × Nat} (h : w.heap[b]? = some (.cells cs t fr)) (off k : Nat) : w.rangeAt b off ((cs.toList.drop off).take k) := by
  intro j v hj
  rw [List.getElem?_take] at hj
  split at hj
  · rw [List.getElem?_drop, Array.getElem?_toList] at hj
    simp [World.cell?, h, hj]
  · cases hj

theorem aggSize_none {P : Program} {t : TypeId} (h : aggSize P t = some none) : ∃ d, P.underlying t = some d ∧ d.isRow = false := by
  unfold aggSize at h
  split at h
  · cases h
  · cases h
  · rename_i d i h1 h2 h3 h4
    refine ⟨d, h3, ?_⟩
    cases d <;> first | rfl | exact (h1 _ rfl).elim | exact (h2 _ _ rfl).elim
  · cases h

end Go.Proofs.YtbpgebfejebmlaaGreatDoor
