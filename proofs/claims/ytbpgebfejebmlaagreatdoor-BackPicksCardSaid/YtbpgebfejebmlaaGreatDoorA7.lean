/- The abstract layer, part 7: each operation does what it says over abstract states. -/
import Derived.Test.YtbpgebfejebmlaaGreatDoorA6
namespace Go.Proofs.YtbpgebfejebmlaaGreatDoor
open Go Go.RowKit
set_option linter.unusedSimpArgs false
set_option linter.unusedVariables false

variable {C : Ctx} {st st' : St} {g : Gh} {a : Act} {w : World}

theorem cD0_rep (g : Gh) (w : World) (v : Value) : Rep g w (cD0 v) v := by
  unfold cD0
  split <;> simp only [Rep]
  rename_i h1 h2 h3
  refine .raw v ?_
  cases v <;> first | rfl | exact absurd rfl (h2 _) | exact absurd rfl (h3 _)

theorem cD0s_rep (g : Gh) (w : World) : ∀ l : List Value, Reps g w (l.map cD0) l
  | [] => by simp [Reps]
  | v :: l => by simp only [List.map_cons, Reps]; exact ⟨v, l, rfl, cD0_rep g w v, cD0s_rep g w l⟩

theorem cD_rep (g : Gh) (w : World) (v : Value) : Rep g w (cD v) v := by
  unfold cD
  split
  · rename_i cs
    simp only [Rep]
    exact ⟨cs.toList, by simp, cD0s_rep g w _⟩
  · exact cD0_rep g w v

theorem SR.ev (h : SR C st g a w) (x : Operand) : Rep g w (st.ev x) (a.eval x) := by
  cases x with
  | tmp t =>
    simp only [St.ev, St.get, Act.eval]
    cases hl : lk st.fr t with
    | none => simp only [Option.getD_none, Rep]
    | some d => exact (h.rep t d hl).2
  | const v => exact cD_rep g w v
  | func f => simp only [St.ev, Act.eval, Rep]; exact ⟨[], rfl, rfl⟩
  | global n => simp only [St.ev, Rep]

theorem Rep.cells {d : D} {v : Value} (h : Rep g w d v) (hs : d.cells.all D.sc = true) : Reps g w d.cells v.cells.toList := by
  cases d <;> simp only [D.cells] at hs ⊢
  case agg ds =>
    simp only [Rep] at h
    obtain ⟨vs, rfl, hr⟩ := h
    simpa [Value.cells] using hr
  all_goals
    have h1 : v.oneCell' = true := h.one (by simpa using hs)
    have h2 : v.cells = #[v] := by cases v <;> first | rfl | (simp [Value.oneCell'] at h1)
    rw [h2]
    simp only [Reps]
    exact ⟨v, [], rfl, h, rfl⟩

theorem Rep.toPD {d : D} {v : Value} {x : PD} (h : Rep g w d v) (hx : d.toPD = some x) : PRep g.Fz w v x := by
  cases d <;> simp only [D.toPD, Option.some.injEq, reduceCtorEq] at hx
  · subst hx; simpa only [Rep] using h
  · subst hx; simp only [Rep] at h; subst h; exact .empty _ _
  · subst hx; simp only [Rep] at h; exact h.1

theorem Reps.toPDs : ∀ {ds : List D} {vs : List Value} {xs : List PD}, Reps g w ds vs → D.toPDs ds = some xs → PReps g.Fz w vs xs
  | [], _, _, h, hx => by
    simp only [D.toPDs, Option.some.injEq] at hx
    simp only [Reps] at h
    subst hx; subst h; exact .nil
  | d :: ds, _, _, h, hx => by
    simp only [Reps] at h
    obtain ⟨v, vs', rfl, hv, hr⟩ := h
    simp only [D.toPDs] at hx
    split at hx
    · rename_i x xs h1 h2
      cases hx
      exact .cons _ _ _ _ (hv.toPD h1) (Reps.toPDs hr h2)
    · cases hx

theorem toPD_sc {d : D} {x : PD} (h : d.toPD = some x) : d.sc = true := by cases d <;> simp [D.toPD] at h <;> rfl

theorem toPDs_sc : ∀ {ds : List D} {xs : List PD}, D.toPDs ds = some xs → ds.all D.sc = true
  | [], _, _ => rfl
  | d :: ds, _, hx => by
    simp only [D.toPDs] at hx
    split at hx
    · rename_i x xs h1 h2
      simp [toPD_sc h1, toPDs_sc h2]
    · cases hx

theorem Rep.els {d : D} {v : Value} {els : List (List PD)} (h : Rep g w d v) (hx : d.els = some els) : PRep g.Fz w v (.slice els) := by
  cases d <;> simp only [D.els, Option.some.injEq, reduceCtorEq] at hx
  case pd x =>
    cases x <;> simp only [Option.some.injEq, reduceCtorEq] at hx
    subst hx; simpa only [Rep] using h
  case nils => subst hx; simp only [Rep] at h; subst h; exact .empty _ _
  case own => subst hx; simp only [Rep] at h; exact h.1

theorem Reps.caps : ∀ {ds : List D} {vs : List Value} {cs : List (Nat × Nat)}, Reps g w ds vs → D.caps ds = some cs → Caps g cs vs
  | [], _, _, h, hx => by
    simp only [D.caps, Option.some.injEq] at hx
    simp only [Reps] at h
    subst hx; subst h; rfl
  | d :: ds, _, _, h, hx => by
    simp only [Reps] at h
    obtain ⟨v, vs', rfl, hv, hr⟩ := h
    cases d <;> simp only [D.caps, Option.map_eq_some_iff, reduceCtorEq] at hx
    obtain ⟨cs, h1, rfl⟩ := hx
    simp only [Rep] at hv
    obtain ⟨b, hb, rfl⟩ := hv
    exact ⟨b, vs', rfl, hb, Reps.caps hr h1⟩

theorem Reps.evs (h : SR C st g a w) : ∀ xs : List Operand, Reps g w (xs.map st.ev) (xs.map a.eval)
  | [] => by simp [Reps]
  | x :: xs => by simp only [List.map_cons, Reps]; exact ⟨_, _, rfl, h.ev x, Reps.evs h xs⟩

theorem raw_inv {v u : Value} (h : Rep g w (.pd (.raw u)) v) : v = u := by
  simp only [Rep] at h
  cases h; rfl

/-- What an operation that reads only needs of another world. -/
structure Keep (g : Gh) (r : Option Nat) (w w' : World) : Prop where
  fz : ∀ b o, g.Fz b o → w'.cell? ⟨b, o, none⟩ = w.cell? ⟨b, o, none⟩
  bx : ∀ n b, r = some n → g.bx n = some b → w'.heap[b]? = w.heap[b]?

theorem Keep.refl (g : Gh) (r : Option Nat) (w : World) : Keep g r w w := ⟨fun _ _ _ => rfl, fun _ _ _ _ => rfl⟩

/-- What an operation is to do. -/
def Sound (C : Ctx) (o : Oper) (ao : AOp) : Prop := (∀ d, o.dst = some d → C.wr d = true) → ∀ st g a w d st', SR C st g a w → ao.ex o.dst st = some (d, st') →
  (ao.quiet = true → st' = st ∧ ∃ v, (∀ w', Keep g (ao.reads st) w w' → (execOp a.eval o).run C.P w' = .ok (.value v) w') ∧ Rep g w d v) ∧
  ∃ nx w' g', (execOp a.eval o).run C.P w = .ok nx w' ∧ SR C st' g' a w' ∧ SF g w g' w' (ao.touch o.dst st) ∧ ((∃ v, nx = .value v ∧ Rep g' w' d v) ∨ (nx = .skip ∧ d = .any))

/-- One that leaves the state as it is. -/
theorem Sound.quiet {o : Oper} {ao : AOp} (h : ∀ st g a w d st', SR C st g a w → ao.ex o.dst st = some (d, st') → st' = st ∧ ∃ v, (∀ w', Keep g (ao.reads st) w w' → (execOp a.eval o).run C.P w' = .ok (.value v) w') ∧ Rep g w d v) : Sound C o ao := by
  intro _ st g a w d st' hs he
  obtain ⟨rfl, v, h1, h2⟩ := h st g a w d st' hs he
  exact ⟨fun _ => ⟨rfl, v, h1, h2⟩, _, w, g, h1 w (Keep.refl _ _ _), hs, SF.refl _ _ _, .inl ⟨v, rfl, h2⟩⟩

theorem snd_mv {o : Oper} {x : Operand} (ho : o.op = .move x ∨ o.op = .assign x) : Sound C o (.mv x) := by
  refine Sound.quiet fun st g a w d st' hs he => ?_
  simp only [AOp.ex, Option.some.injEq, Prod.mk.injEq] at he
  obtain ⟨rfl, rfl⟩ := he
  refine ⟨rfl, a.eval x, ?_, hs.ev x⟩
  intro w' _
  rcases ho with ho | ho <;> (unfold execOp; simp only [ho, Sem.run_pure])

theorem newVar_run (P : Program) (w : World) (t : TypeId) (v : Value) : (newVar t v).run P w = .ok ⟨w.heap.size, 0, none⟩ (w.alloc (.cells v.cells t)) := by
  simp only [newVar, newRow, Sem.run_bind, run_newObj, Result.andThen_ok, Sem.run_pure]
  rfl

theorem SF.newbox (hs : SR C st g a w) {dst : Option Nat} {n : Nat} (hn : dst = some n) {t : Option Nat} (ht : t = dst) {o : Obj} (hx : Ex g.Fz w g.Fz (w.alloc o)) : SF g w ((g.noBx n).withBx n w.heap.size) (w.alloc o) t := by
  refine ⟨hx, fun m b hm hb => ?_⟩
  rw [ht, hn] at hm
  have hmn : m ≠ n := fun e => hm (by rw [e])
  refine ⟨by simp [hmn, hb], ?_⟩
  exact (World.grownBy_alloc w o none).block b (hs.mem.bxok m b hb).1 (fun e => by cases e)

theorem snd_alloc {o : Oper} {e : TypeId} {i : TypeInfo} {z : Value} (ho : o.op = .alloc e) (hi : C.P.info? e = some i) (hz : i.zero = some z) : Sound C o (.alloc e (z.cells.toList.map cD0)) := by
  intro hdw st g a w d st' hs he
  simp only [AOp.ex] at he
  split at he
  · rename_i n hn
    cases he
    have h1 := hs.drop n (C.wrok n (hdw n hn)).2
    obtain ⟨h2, h3⟩ := SR.newbox h1 n (by simp) z.cells e (z.cells.toList.map cD0) (cD0s_rep _ _ _)
    refine ⟨(fun h => by cases h), _, _, _, ?_, h2, SF.newbox hs hn rfl h3.ex, .inl ⟨.pointer (some ⟨w.heap.size, 0, none⟩), rfl, ?_⟩⟩
    · unfold execOp
      simp only [ho, Instr.alloc, zeroValue, typeInfo, Sem.run_bind, run_program, Result.andThen_ok, hi, hz, Sem.run_pure, newVar_run]
    · simp only [Rep]
      exact ⟨w.heap.size, by simp, rfl⟩
  · cases he

end Go.Proofs.YtbpgebfejebmlaaGreatDoor
