/- The abstract layer, part 11: each operation does what it says: values. -/
import Derived.Test.YtbpgebfejebmlaaGreatDoorB1
namespace Go.Proofs.YtbpgebfejebmlaaGreatDoor
open Go Go.RowKit
set_option linter.unusedSimpArgs false
set_option linter.unusedVariables false

variable {C : Ctx} {st st' : St} {g : Gh} {a : Act} {w : World}

theorem snd_ncheck {o : Oper} {x : Operand} (ho : o.op = .nilCheck x) : Sound C o (.ncheck x) := by
  refine Sound.quiet fun st g a w d st' hs he => ?_
  have hx := hs.ev x
  simp only [AOp.ex] at he
  split at he
  · rename_i n off hev
    cases he
    rw [hev] at hx
    have hx' := hx
    simp only [Rep] at hx'
    obtain ⟨b, hb, hv⟩ := hx'
    exact ⟨rfl, a.eval x, fun w' _ => by unfold execOp; simp [ho, hv], hx⟩
  · rename_i cs hev
    cases he
    rw [hev] at hx
    have hx' := hx
    simp only [Rep] at hx'
    obtain ⟨b, off, vs, hv, _⟩ := hx'
    exact ⟨rfl, a.eval x, fun w' _ => by unfold execOp; simp [ho, hv], hx⟩
  · rename_i f caps hev
    cases he
    rw [hev] at hx
    have hx' := hx
    simp only [Rep] at hx'
    obtain ⟨cv, hv, _⟩ := hx'
    exact ⟨rfl, a.eval x, fun w' _ => by unfold execOp; simp [ho, hv], hx⟩
  · cases he

theorem binV_one {op : BinOp} {a b v : Value} (h : binV op a b = some v) : v.oneCell' = true := by
  unfold binV at h
  split at h <;> first | (split at h <;> cases h <;> rfl) | (cases h; rfl) | cases h

theorem binV_run {P : Program} {op : BinOp} {a b v : Value} (h : binV op a b = some v) (t : TypeId) (x y : Operand) (w : World) :
    (do eqGuard op t x y a b; binOp op t a b : Sem Value).run P w = .ok v w := by
  unfold binV at h
  split at h
  iterate 3
    · split at h
      · rename_i e; subst e; cases h; simp [eqGuard, binOp, Op.intArith]
      · cases h
  · split at h
    · rename_i e; obtain ⟨e1, e2⟩ := e; subst e1; cases h; simp [eqGuard, binOp, Op.intDiv, e2]
    · cases h
  iterate 6
    · split at h
      · rename_i e; subst e; cases h; simp [eqGuard, binOp, Op.intCmp]; try rfl
      · cases h
  · split at h
    · rename_i e
      cases h
      have e' : ¬ (((_ : Nat) : Int) > IntKind.i64.max) := Int.not_lt.2 (Int.ofNat_le.2 e)
      simp only [eqGuard, binOp, Op.stringOp, Sem.run_bind, if_neg e']
      simp
    · cases h
  iterate 6
    · cases h
      simp [eqGuard, binOp, Op.stringOp, bytes_eq]
  · cases h

end Go.Proofs.YtbpgebfejebmlaaGreatDoor
