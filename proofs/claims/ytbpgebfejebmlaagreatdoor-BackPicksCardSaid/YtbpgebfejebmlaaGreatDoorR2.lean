/- Arguments of a law, as abstract values. -/
import Derived.Test.YtbpgebfejebmlaaGreatDoorR1
import Derived.Test.YtbpgebfejebmlaaGreatDoorRows
import Derived.WalkKit
import Derived.ProofKit
import Derived.OpenShut
import Derived.LaidMore
import Derived.Lay
import Derived.Carry
import Derived.SevenTiedAt
import Derived.ChangeOld
import Derived.Below
import Derived.Stop.Joined
namespace Go.Proofs.YtbpgebfejebmlaaGreatDoor
open Go Go.RowKit Go.ChangeShapes Go.WideShapes Go.ChangeAt Go.WideMaps Go.WideElems
set_option linter.unusedSimpArgs false
set_option linter.unusedVariables false

theorem own_ : ownKnob Tryz.prog.godebug = none := by kernel_rfl
theorem laidOut_ : laidOutB Tryz.prog = true := by kernel_rfl

/-- All cells of a world. -/
abbrev allFz (W : World) : Nat → Nat → Prop := fun b _ => b < W.heap.size

theorem allFz_cell {W : World} (b o : Nat) (v : Value) (h : W.cell? ⟨b, o, none⟩ = some v) : allFz W b o := by
  unfold World.cell? at h
  split at h
  · rename_i hh; exact (Array.getElem?_eq_some_iff.1 hh).1
  · cases h

theorem shs_row {s : List Sh} {r : List PD} (h : HasShs s r) : r.length = s.length := by
  induction s generalizing r with
  | nil => cases h; rfl
  | cons s ss ih => cases h with | cons _ d _ ds _ hs => simp [ih hs]

section
variable {H : Type} {enc : TypeId × Value → H} {P : Program} {W : World} {base : Nat} {spare : Nat → Bool} {held : Bool}

/-- A slice among the arguments. -/
theorem arg_slice {t e : TypeId} {v : Value} {d : DataW H} {ps : List MemPlace} {n : Nat} {s : List Sh} (hu : P.underlying t = some (.slice e)) (hv : Value.okWide P W .any base t v) (h : DataW.Trod enc P W 0 spare held t v d ps)
    (hs : shp P n t = some [.slice s]) : ∃ els, PRep (allFz W) W v (.slice els) ∧ els.length ≤ maxLen ∧ ∀ r ∈ els, HasShs s r := by
  obtain ⟨a, len, cap, rfl⟩ := okWide_slice hu hv
  obtain ⟨fuel, hf⟩ := h
  obtain ⟨ds, h1, h2⟩ := read (Fz := allFz W) allFz_cell n n (Nat.le_refl _) t _ fuel _ _ hs hf
  cases h2 with
  | cons _ d1 _ ds1 h3 h4 =>
    cases h4
    cases h3 with
    | slice _ els hm hr =>
      have h5 : PReps (allFz W) W [Value.slice a len cap] [.slice els] := h1
      cases h5 with
      | cons _ _ _ _ h6 _ => exact ⟨els, h6, hm, hr⟩

theorem ints_of {els : List (List PD)} (h : ∀ r ∈ els, HasShs [.int .i64] r) : ∃ ws : List Int, els = ints ws := by
  induction els with
  | nil => exact ⟨[], rfl⟩
  | cons r els ih =>
    obtain ⟨ws, rfl⟩ := ih (fun r hr => h r (List.mem_cons_of_mem _ hr))
    have h0 := h r List.mem_cons_self
    cases h0 with
    | cons _ d _ ds h1 h2 =>
      cases h2
      cases h1 with
      | int _ n hw => exact ⟨n :: ws, rfl⟩

theorem goals_of {els : List (List PD)} (h : ∀ r ∈ els, HasShs [.int .i64, .str, .str, .int .i64, .int .i64, .bool] r) : ∃ gs : List AGoal, els = rows AGoal.pd gs := by
  induction els with
  | nil => exact ⟨[], rfl⟩
  | cons r els ih =>
    obtain ⟨gs, rfl⟩ := ih (fun r hr => h r (List.mem_cons_of_mem _ hr))
    have h0 := h r List.mem_cons_self
    cases h0 with
    | cons _ d1 _ _ a1 h0 => cases h0 with
    | cons _ d2 _ _ a2 h0 => cases h0 with
    | cons _ d3 _ _ a3 h0 => cases h0 with
    | cons _ d4 _ _ a4 h0 => cases h0 with
    | cons _ d5 _ _ a5 h0 => cases h0 with
    | cons _ d6 _ _ a6 h0 =>
      cases h0
      cases a1 with
      | int _ k _ => cases a2 with
      | str sp _ => cases a3 with
      | str nm _ => cases a4 with
      | int _ po _ => cases a5 with
      | int _ we _ => cases a6 with
      | bool b => exact ⟨⟨⟨k, sp, nm⟩, po, we, b⟩ :: gs, rfl⟩

/-- The law's answer. -/
theorem law_true {f : FuncId} {args : List D} {vs : List Value} (hp : Pure P f args (fun d => d = bln true)) (hr : Reps (gh0 (allFz W)) W args vs) :
    Calls P f vs.toArray W fun e w' => e = .returned (.bool true) ∧ Below W.heap.size W w' :=
  (hp (allFz W) W vs (fun _ _ h => h) hr).mono fun e w' ⟨v, d, Fz', h1, h2, _, h4, _, _, _, h8⟩ => by
    subst h2
    refine ⟨?_, h4⟩
    rw [h1]
    have := raw_inv h8
    rw [this]
end

end Go.Proofs.YtbpgebfejebmlaaGreatDoor
