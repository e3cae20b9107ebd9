/- Texts of the prover's, joined: JB Q0 Q1 FB FA Q2 Q3 Q4 Q5 E7 FF Q6 Q7 FH FL J1 L3 Q8 QA J2 J3 J4 J8 J9 J5 JK J6 QB JM Q9 QC QH QI QJ QK QL. -/
import Derived.Test.YtbjaopoipkphnaaGreatDoorWT5
import Derived.Shelf.SlSortCmp.InsertionK
import Derived.Lib.Small
import Derived.Deep.LoopGhost
import Derived.StillTailTactics
import Derived.Shelf.SlSortCmp.NoneTotal
import Derived.Lib.SlicesCompact
import Derived.Deep.QuietTactic
import Derived.BigQuiet
import Derived.Shelf.SlicesQ.Reverse

namespace Go.Proofs.YtbjaopoipkphnaaGreatDoor
open Go Go.RowKit
set_option linter.unusedSimpArgs false
set_option linter.unusedVariables false
set_option maxRecDepth 100000

theorem lessL_total : ∀ x y : List UInt8, (Op.bytesLess x y || decide (x = y)) = !Op.bytesLess y x
 | [], [] => rfl
 | [], b :: y => rfl
 | a :: x, [] => rfl
 | a :: x, b :: y => by
   have ih := lessL_total x y
   simp only [Op.bytesLess]
   by_cases h1 : a < b
   ·have h2 : ¬ b < a := fun h => by have := UInt8.lt_iff_toNat_lt.1 h; have := UInt8.lt_iff_toNat_lt.1 h1; omega
    have h3 : (b == a) = false := by
     rw [beq_eq_false_iff_ne]
     rintro rfl
     exact h2 h1
    simp [h1, h2, h3]
   ·by_cases h2 : b < a
    ·have h3 : (a == b) = false := by
      rw [beq_eq_false_iff_ne]
      rintro rfl
      exact h1 h2
     have h4 : ¬ a = b := by simpa using h3
     simp [h1, h2, h3, h4]
    ·have h3 : a = b := UInt8.toNat_inj.1 (by
      have := mt UInt8.lt_iff_toNat_lt.2 h1
      have := mt UInt8.lt_iff_toNat_lt.2 h2
      omega)
     subst h3
     simpa [h1] using ih

theorem less_total (a b : ByteArray) : (Op.bytesLess a.toList b.toList || decide (a = b)) = !Op.bytesLess b.toList a.toList := by
 rw [← lessL_total]
 congr 1
 rw [Bool.eq_iff_iff, decide_eq_true_eq, decide_eq_true_eq]
 constructor
 ·rintro rfl; rfl
 ·intro h
  have := bytes_eq a b
  rw [h] at this
  simpa using this


theorem bl_irrefl : ∀ x : List UInt8, Op.bytesLess x x = false
 | [] => rfl
 | a :: x => by
   have h : ¬ a < a := fun h => by have := UInt8.lt_iff_toNat_lt.1 h; omega
   simp [Op.bytesLess, h, bl_irrefl x]

theorem bl_trans : ∀ {x y z : List UInt8}, Op.bytesLess x y = true → Op.bytesLess y z = true → Op.bytesLess x z = true
 | x, [], _, h, _ => by simp [Op.bytesLess] at h
 | _, _ :: _, [], _, h => by simp [Op.bytesLess] at h
 | [], _ :: _, _ :: _, _, _ => rfl
 | a :: x, b :: y, c :: z, h, k => by
   simp only [Op.bytesLess, Bool.or_eq_true, decide_eq_true_eq, Bool.and_eq_true, beq_iff_eq] at h k ⊢
   rcases h with h | ⟨rfl, h⟩
   ·rcases k with k | ⟨rfl, k⟩
    ·left
     have h1 := UInt8.lt_iff_toNat_lt.1 h
     have h2 := UInt8.lt_iff_toNat_lt.1 k
     exact UInt8.lt_iff_toNat_lt.2 (by omega)
    ·exact .inl h
   ·rcases k with k | ⟨rfl, k⟩
    ·exact .inl k
    ·exact .inr ⟨rfl, bl_trans h k⟩

def bl (a b : ByteArray) : Bool := Op.bytesLess a.toList b.toList

theorem bl_self (a : ByteArray) : bl a a = false := bl_irrefl _
theorem bl_tr {a b c : ByteArray} (h : bl a b = true) (k : bl b c = true) : bl a c = true := bl_trans h k
theorem bl_tri {a b : ByteArray} (h : bl a b = false) (k : bl b a = false) : a = b := by
 have := less_total a b
 unfold bl at h k
 rw [h, k] at this
 simpa using this
def refLt (a b : ARef) : Bool := if a.kind = b.kind then (if a.space = b.space then bl a.name b.name else bl a.space b.space) else decide (a.kind < b.kind)

theorem refLt_iff {a b : ARef} : refLt a b = true ↔ a.kind < b.kind ∨ (a.kind = b.kind ∧ (bl a.space b.space = true ∨ (a.space = b.space ∧ bl a.name b.name = true))) := by
 unfold refLt
 by_cases h1 : a.kind = b.kind
 ·by_cases h2 : a.space = b.space
  ·have : bl a.space b.space = false := by rw [h2]; exact bl_self _
   rw [if_pos h1, if_pos h2, this]
   simp [h1, h2]
  ·rw [if_pos h1, if_neg h2]
   simp [h1, h2]
 ·rw [if_neg h1]
  simp [h1]

theorem refLt_self (a : ARef) : refLt a a = false := by simp [refLt, bl_self]

theorem refLt_tr {a b c : ARef} (h : refLt a b = true) (k : refLt b c = true) : refLt a c = true := by
 rw [refLt_iff] at h k ⊢
 rcases h with h | ⟨h1, h | ⟨h2, h⟩⟩ <;> rcases k with k | ⟨k1, k | ⟨k2, k⟩⟩
 ·exact .inl (by omega)
 ·exact .inl (by omega)
 ·exact .inl (by omega)
 ·exact .inl (by omega)
 ·exact .inr ⟨by omega, .inl (bl_tr h k)⟩
 ·exact .inr ⟨by omega, .inl (k2 ▸ h)⟩
 ·exact .inl (by omega)
 ·exact .inr ⟨by omega, .inl (h2 ▸ k)⟩
 ·exact .inr ⟨by omega, .inr ⟨h2.trans k2, bl_tr h k⟩⟩

theorem refLt_tri {a b : ARef} (h : refLt a b = false) (k : refLt b a = false) : a = b := by
 unfold refLt at h k
 by_cases h1 : a.kind = b.kind
 ·rw [if_pos h1] at h
  rw [if_pos h1.symm] at k
  by_cases h2 : a.space = b.space
  ·rw [if_pos h2] at h
   rw [if_pos h2.symm] at k
   have h3 := bl_tri h k
   obtain ⟨a1, a2, a3⟩ := a
   obtain ⟨b1, b2, b3⟩ := b
   simp only at h1 h2 h3
   rw [h1, h2, h3]
  ·rw [if_neg h2] at h
   rw [if_neg (Ne.symm h2)] at k
   exact absurd (bl_tri h k) h2
 ·rw [if_neg h1] at h
  rw [if_neg (Ne.symm h1)] at k
  simp only [decide_eq_false_iff_not] at h k
  omega

theorem refLt_asym {a b : ARef} (h : refLt a b = true) : refLt b a = false := by
 cases k : refLt b a with
 | false => rfl
 | true => have := refLt_tr h k; rw [refLt_self] at this; cases this

def refCmp (a b : ARef) : Int := if a = b then 0 else if refLt a b = true then -1 else 1

theorem refCmp_lt (a b : ARef) : ltOf refCmp a b = refLt a b := by
 unfold ltOf refCmp
 by_cases h : a = b
 ·subst h; rw [if_pos rfl, refLt_self]; rfl
 ·rw [if_neg h]
  cases refLt a b <;> rfl

theorem refSWO : Sort.SWO (ltOf refCmp) where
 irrefl := fun x => by rw [refCmp_lt]; exact refLt_self x
 trans := fun x y z h k => by rw [refCmp_lt] at *; exact refLt_tr h k
 ntrans := fun x y z h k => by
  rw [refCmp_lt] at *
  cases hz : refLt x z with
  | false => rfl
  | true =>
    exfalso
    cases hy : refLt y x with
    | true => have := refLt_tr hy hz; rw [this] at k; cases k
    | false => rw [refLt_tri h hy] at hz; rw [hz] at k; cases k

theorem refTotal (x y : ARef) (h : ltOf refCmp x y = false) (k : ltOf refCmp y x = false) : x = y := by
 rw [refCmp_lt] at *
 exact refLt_tri h k

def cmpB (x y : ByteArray) : Int := if bl x y = true then -1 else if bl y x = true then 1 else 0

theorem cmpB_eq (a : ByteArray) : cmpB a a = 0 := by simp [cmpB, bl_self]
theorem cmpB_ne {a b : ByteArray} (h : ¬ a = b) : cmpB a b = if bl a b = true then -1 else 1 := by
 unfold cmpB
 cases k1 : bl a b with
 | true => rfl
 | false =>
   cases k2 : bl b a with
   | true => rfl
   | false => exact absurd (bl_tri k1 k2) h

theorem refCmp_or (a b : ARef) : refCmp a b = if ¬ Lib.compareInt a.kind b.kind = 0 then Lib.compareInt a.kind b.kind else if ¬ cmpB a.space b.space = 0 then cmpB a.space b.space else cmpB a.name b.name := by
 unfold refCmp
 by_cases h1 : a.kind = b.kind
 ·have e1 : Lib.compareInt a.kind b.kind = 0 := by unfold Lib.compareInt; rw [if_neg (by omega), if_neg (by omega)]
  simp only [e1, not_true_eq_false, if_false]
  by_cases h2 : a.space = b.space
  ·have e2 : cmpB a.space b.space = 0 := by rw [h2]; exact cmpB_eq _
   simp only [e2, not_true_eq_false, if_false]
   have e3 : refLt a b = bl a.name b.name := by unfold refLt; rw [if_pos h1, if_pos h2]
   by_cases h3 : a.name = b.name
   ·have hab : a = b := by
     obtain ⟨a1, a2, a3⟩ := a
     obtain ⟨b1, b2, b3⟩ := b
     simp only at h1 h2 h3
     rw [h1, h2, h3]
    rw [if_pos hab, h3, cmpB_eq]
   ·have hab : ¬ a = b := fun e => h3 (by rw [e])
    rw [if_neg hab, e3, cmpB_ne h3]
  ·have e3 : refLt a b = bl a.space b.space := by unfold refLt; rw [if_pos h1, if_neg h2]
   have hab : ¬ a = b := fun e => h2 (by rw [e])
   rw [if_neg hab, e3, cmpB_ne h2]
   cases bl a.space b.space <;> simp
 ·have e3 : refLt a b = decide (a.kind < b.kind) := by unfold refLt; rw [if_neg h1]
  have hab : ¬ a = b := fun e => h1 (by rw [e])
  rw [if_neg hab, e3]
  unfold Lib.compareInt
  by_cases h2 : a.kind < b.kind
  ·simp [h2]
  ·have h3 : a.kind > b.kind := by omega
   simp [h2, h3]


abbrev encR (x : ARef) : List Value := [.int .i64 x.kind, .string x.space, .string x.name]

theorem mem_isNaN_i (x : Int) (w : World) : Calls Tryz.prog 114 #[.int .i64 x] w fun e w' => e = .returned (.bool false) ∧ w' = w := by
 go_enter Tryz.func114, Tryz.ntmps114
 go_wp2
 go_ret
 exact ⟨by simp, rfl⟩

theorem mem_isNaN_s (x : ByteArray) (w : World) : Calls Tryz.prog 115 #[.string x] w fun e w' => e = .returned (.bool false) ∧ w' = w := by
 go_enter Tryz.func115, Tryz.ntmps115
 go_wp2
 go_ret
 exact ⟨by simp, rfl⟩

set_option maxHeartbeats 1000000 in
theorem mem_Compare_i (x y : Int) (w : World) : Calls Tryz.prog 65 #[.int .i64 x, .int .i64 y] w fun e w' => e = .returned (.int .i64 (Lib.compareInt x y)) ∧ w' = w := by
 go_enter Tryz.func65, Tryz.ntmps65
 go_wp2_with (go_at_call 114; refine (mem_isNaN_i _ _).mono ?_; rintro e w' ⟨rfl, hw⟩; rw [hw])
 all_goals (go_ret; refine ⟨?_, rfl⟩; unfold Lib.compareInt; (repeat' split) <;> first | rfl | (exfalso; omega))

set_option maxHeartbeats 1000000 in
theorem mem_Compare_s (x y : ByteArray) (w : World) : Calls Tryz.prog 66 #[.string x, .string y] w fun e w' => e = .returned (.int .i64 (cmpB x y)) ∧ w' = w := by
 have hg : ∀ w : World, Sem.run Tryz.prog (binOp .gtr 9 (.string x) (.string y)) w = .ok (.bool (bl y x)) w := fun w => by
  have := less_total x y
  unfold bl
  simp only [binOp, Op.stringOp, Sem.run_pure, bytes_eq]
  rw [← Bool.not_not (Op.bytesLess y.toList x.toList), ← this]
 go_enter Tryz.func66, Tryz.ntmps66
 go_wp2_with (go_at_call 115; refine (mem_isNaN_s _ _).mono ?_; rintro e w' ⟨rfl, hw⟩; rw [hw])
 all_goals (go_ret; refine ⟨?_, rfl⟩; unfold cmpB; unfold bl at *; simp [*])

set_option maxHeartbeats 1000000 in
theorem mem_Or (a b c : Int) (W : World) (blk : Nat) (h0 : W.cell? ⟨blk, 0, none⟩ = some (.int .i64 a)) (h1 : W.cell? ⟨blk, 1, none⟩ = some (.int .i64 b)) (h2 : W.cell? ⟨blk, 2, none⟩ = some (.int .i64 c)) :
 Calls Tryz.prog 64 #[.slice (some ⟨blk, 0, none⟩) 3 3] W fun e w' => e = .returned (.int .i64 (if ¬ a = 0 then a else if ¬ b = 0 then b else c)) ∧ ∃ q, w' = W.drewN q := by
 generalize hr : (if ¬ a = 0 then a else if ¬ b = 0 then b else c) = r
 go_enter Tryz.func64, Tryz.ntmps64
 go_wp2
 refine wp_loop_rounds 4 ?_
 rw [rounds_succ]
 go_wp2
 ·go_ret
  exact ⟨by rw [← hr]; simp_all, 0, rfl⟩
 rw [rounds_succ]
 go_wp2
 ·go_ret
  exact ⟨by rw [← hr]; simp_all, 0, rfl⟩
 rw [rounds_succ]
 go_wp2
 ·go_ret
  exact ⟨by rw [← hr]; simp_all, 0, rfl⟩
 rw [rounds_succ]
 go_wp2
 go_ret
 exact ⟨by rw [← hr]; simp_all, 0, rfl⟩

theorem cell_new (W : World) (cs : Array Value) (t : TypeId) (j : Nat) : (W.alloc (.cells cs t)).cell? ⟨W.heap.size, j, none⟩ = cs[j]? := by
 have h : (W.alloc (.cells cs t)).heap[W.heap.size]? = some (.cells cs t (0, 0)) := by
  show (W.heap.push _)[W.heap.size]? = _
  rw [Array.getElem?_push, if_pos rfl]
 simp only [World.cell?, h]
 rfl

set_option maxHeartbeats 2000000 in
theorem mem_Order (x y : ARef) (W : World) : Calls Tryz.prog 20 #[.agg #[.int .i64 x.kind, .string x.space, .string x.name], .agg #[.int .i64 y.kind, .string y.space, .string y.name]] W fun e w' => e = .returned (.int .i64 (refCmp x y)) ∧ ∃ q os', w' = Sort.grow (W.drewN q) os' := by
 rw [refCmp_or]
 have c1 := fun W => mem_Compare_i x.kind y.kind W
 have c2 := fun W => mem_Compare_s x.space y.space W
 have c3 := fun W => mem_Compare_s x.name y.name W
 have c4 := fun W blk => mem_Or (Lib.compareInt x.kind y.kind) (cmpB x.space y.space) (cmpB x.name y.name) W blk
 generalize Lib.compareInt x.kind y.kind = r1 at c1 c4 ⊢
 generalize cmpB x.space y.space = r2 at c2 c4 ⊢
 generalize cmpB x.name y.name = r3 at c3 c4 ⊢
 generalize (if ¬ r1 = 0 then r1 else if ¬ r2 = 0 then r2 else r3) = r at c4 ⊢
 go_enter Tryz.func20, Tryz.ntmps20
 go_wp2
 generalize hW2 : (W.alloc (Obj.cells #[Value.int IntKind.i64 x.kind, Value.string x.space, Value.string x.name] 23)).alloc (Obj.cells #[Value.int IntKind.i64 y.kind, Value.string y.space, Value.string y.name] 23) = W2
 have e1 : W2.heap[W.heap.size]? = some (Obj.cells #[Value.int IntKind.i64 x.kind, Value.string x.space, Value.string x.name] 23 (0, 0)) := by
  rw [← hW2]
  show ((W.heap.push _).push _)[W.heap.size]? = _
  rw [Array.getElem?_push, if_neg (by rw [Array.size_push]; omega), Array.getElem?_push, if_pos rfl]
 have e2 : W2.heap[W.heap.size + 1]? = some (Obj.cells #[Value.int IntKind.i64 y.kind, Value.string y.space, Value.string y.name] 23 (0, 0)) := by
  rw [← hW2]
  show ((W.heap.push _).push _)[W.heap.size + 1]? = _
  rw [Array.getElem?_push, if_pos (by rw [Array.size_push])]
 have hx : ∀ j v, (encR x)[j]? = some v → W2.drew.cell? ⟨W.heap.size, j, none⟩ = some v := fun j v hv => by
  simp only [World.cell?, World.drew, e1]
  rw [← List.getElem?_toArray] at hv
  exact hv
 have hy : ∀ j v, (encR y)[j]? = some v → W2.drew.cell? ⟨W.heap.size + 1, j, none⟩ = some v := fun j v hv => by
  simp only [World.cell?, World.drew, e2]
  rw [← List.getElem?_toArray] at hv
  exact hv
 have hg : W2.drew = Sort.grow (W.drewN 1) #[Obj.cells #[Value.int IntKind.i64 x.kind, Value.string x.space, Value.string x.name] 23, Obj.cells #[Value.int IntKind.i64 y.kind, Value.string y.space, Value.string y.name] 23] := by
  rw [← hW2, Sort.alloc_eq_grow, Sort.alloc_eq_grow, Sort.grow_grow]
  rfl
 refine wp_region_still_tail 15 (by kernel_rfl) (by kernel_rfl) ?_
 change wpStill _ _ W2.drew (fun a' => wpList _ _ _ _ a' W2.drew) _ _
 have hx0 := hx 0 _ rfl
 have hx1 := hx 1 _ rfl
 have hx2 := hx 2 _ rfl
 have hy0 := hy 0 _ rfl
 have hy1 := hy 1 _ rfl
 have hy2 := hy 2 _ rfl
 clear hx hy hW2 e1 e2
 generalize W2.drew = W3 at hx0 hx1 hx2 hy0 hy1 hy2 hg ⊢
 have HG : Aside (W3 = Sort.grow (W.drewN 1) #[Obj.cells #[Value.int IntKind.i64 x.kind, Value.string x.space, Value.string x.name] 23, Obj.cells #[Value.int IntKind.i64 y.kind, Value.string y.space, Value.string y.name] 23]) := hg
 clear hg
 simp only [List.take_succ_cons, List.take_zero, List.drop_succ_cons, List.drop_zero]
 repeat still_step
 still_call (c1 _)
 repeat still_step
 still_call (c2 _)
 repeat still_step
 still_call (c3 _)
 refine wpStill_nil ?_
 go_wp2_with (go_at_call 64; refine (c4 _ _ (cell_new _ _ _ 0) (cell_new _ _ _ 1) (cell_new _ _ _ 2)).mono ?_; rintro e w' ⟨rfl, q, rfl⟩)
 go_ret
 obtain rfl : W3 = _ := HG
 refine ⟨rfl, 1 + q, #[Obj.cells #[Value.int IntKind.i64 x.kind, Value.string x.space, Value.string x.name] 23, Obj.cells #[Value.int IntKind.i64 y.kind, Value.string y.space, Value.string y.name] 23] ++ #[Obj.cells #[Value.int IntKind.i64 r1, Value.int IntKind.i64 r2, Value.int IntKind.i64 r3] 3], ?_⟩
 rw [Sort.alloc_eq_grow, Sort.grow_grow]
 show Sort.grow ((W.drewN 1).drewN q) _ = _
 rw [World.drewN_drewN]


theorem thing_class (o : AObj) : Full Tryz.prog 34 [.ptr 500001 0] [(500001, o.ds)] true (fun d bs => d = bln true ∧ bs = [(500001,
 [int o.ref.kind, str o.ref.space, str o.ref.name, bln false, .pd (.slice (rows APair.pd o.labels)), .pd (.slice (ints o.ports)), str o.cls, .pd (.slice (rows AListener.pd o.listeners)),
  .pd (.slice (rows AParent.pd o.parents)), .pd (.slice (strs o.hosts)), .pd (.slice (rows ARule.pd o.rules)), .pd (.slice (rows ASide.pd o.from_)), .pd (.slice (rows ASide.pd o.to_))])]) := by
 refine full_of_run follows an_zk71m Tryz.func34 rfl ok_zk71m.1 ok_zk71m.2 (by simp [Tryz.ntmps34]) (by simp [Tryz.ntmps34]) (.inl rfl) ?_
 rw [run_start]
 simp only [ac_zk71m, go_sem, simprocAttr]
 simp only [retK, fullK, resD, retL, oneD, simprocAttr, Tryz.results34]
 exact ⟨_, _, rfl, by simp [lessL, lk], rfl, rfl⟩

theorem thing_space (o : AObj) (h : o.ok) : Full Tryz.prog 35 [.ptr 500001 0] [(500001, o.ds)] true (fun d bs => d = bln (labelsMay o.labels) ∧ bs = [(500001,
 [int o.ref.kind, str o.ref.space, str o.ref.name, bln o.good, .nils, .pd (.slice (ints o.ports)), str o.cls, .pd (.slice (rows AListener.pd o.listeners)),
  .pd (.slice (rows AParent.pd o.parents)), .pd (.slice (strs o.hosts)), .pd (.slice (rows ARule.pd o.rules)), .pd (.slice (rows ASide.pd o.from_)), .pd (.slice (rows ASide.pd o.to_))])]) := by
 refine full_of_run follows an_zag3z Tryz.func35 rfl ok_zag3z.1 ok_zag3z.2 (by simp [Tryz.ntmps35]) (by simp [Tryz.ntmps35]) (.inl rfl) ?_
 rw [run_start]
 simp only [ac_zag3z, go_sem, simprocAttr]
 refine (label_May o.labels h.la).callW (enters_of Tryz.func76 rfl rfl) _ rfl rfl ?_
 rintro d rfl
 simp only [go_sem, simprocAttr]
 simp only [retK, fullK, resD, retL, oneD, simprocAttr, Tryz.results35]
 exact ⟨_, _, rfl, by simp [lessL, lk], rfl, rfl⟩

def serviceMay (l : List Int) : Bool := decide (0 < l.length) && every oport l 8 && sortedInts l && !twice intSame l

theorem thing_service (o : AObj) (h : o.ok) : Full Tryz.prog 36 [.ptr 500001 0] [(500001, o.ds)] true (fun d bs => d = bln (serviceMay o.ports) ∧ bs = [(500001,
 [int o.ref.kind, str o.ref.space, str o.ref.name, bln o.good, .pd (.slice (rows APair.pd o.labels)), .nils, str o.cls, .pd (.slice (rows AListener.pd o.listeners)),
  .pd (.slice (rows AParent.pd o.parents)), .pd (.slice (strs o.hosts)), .pd (.slice (rows ARule.pd o.rules)), .pd (.slice (rows ASide.pd o.from_)), .pd (.slice (rows ASide.pd o.to_))])]) := by
 refine full_of_run follows an_zxlfl Tryz.func36 rfl ok_zxlfl.1 ok_zxlfl.2 (by simp [Tryz.ntmps36]) (by simp [Tryz.ntmps36]) (.inl rfl) ?_
 rw [run_start]
 simp only [ac_zxlfl, go_sem, simprocAttr]
 (repeat' (first | (refine GifP.mk (fun _ => ?_) (fun _ => ?_)) | (refine Gif.mk (fun _ => ?_) (fun _ => ?_)) | ((first | refine (every_int oport _ (enters_of Tryz.func78 rfl rfl) o.ports h.po 8 (fun x _ => object_port x)).callW (enters_of Tryz.func77 rfl rfl) _ rfl rfl ?_ | refine (slices_IsSorted_int o.ports h.po).callW (enters_of Tryz.func79 rfl rfl) _ rfl rfl ?_ | refine (twice_int intSame _ (enters_of Tryz.func81 rfl rfl) o.ports h.po (fun x _ y _ => thing_service_1 x y)).callW (enters_of Tryz.func80 rfl rfl) _ rfl rfl ?_); rintro _ rfl; try simp only [go_sem, simprocAttr]))) <;> (simp only [retK, fullK, resD, retL, oneD, simprocAttr, Tryz.results36]; exact ⟨_, _, rfl, by simp [lessL, lk], congrArg bln (by first | rfl | (rw [Bool.eq_iff_iff]; simp only [serviceMay]; (first | (simp; done) | (simp; omega) | (simp [*]; done) | (simp [*]; omega))) | (simp_all [serviceMay]; done) | (exfalso; omega)), rfl⟩)

def gatewayMay (s : ByteArray) (l : List AListener) : Bool := dname s && decide (0 < l.length) && every listenerMay l 8 && !twice lisName l

theorem thing_gateway (o : AObj) (h : o.ok) : Full Tryz.prog 37 [.ptr 500001 0] [(500001, o.ds)] true (fun d bs => d = bln (gatewayMay o.cls o.listeners) ∧ bs = [(500001,
 [int o.ref.kind, str o.ref.space, str o.ref.name, bln o.good, .pd (.slice (rows APair.pd o.labels)), .pd (.slice (ints o.ports)), str ⟨#[]⟩, .nils,
  .pd (.slice (rows AParent.pd o.parents)), .pd (.slice (strs o.hosts)), .pd (.slice (rows ARule.pd o.rules)), .pd (.slice (rows ASide.pd o.from_)), .pd (.slice (rows ASide.pd o.to_))])]) := by
 refine full_of_run follows an_zqquk Tryz.func37 rfl ok_zqquk.1 ok_zqquk.2 (by simp [Tryz.ntmps37]) (by simp [Tryz.ntmps37]) (.inl rfl) ?_
 rw [run_start]
 simp only [ac_zqquk, go_sem, simprocAttr, go_sem, rows_len]
 (repeat' (first | (refine GifP.mk (fun _ => ?_) (fun _ => ?_)) | (refine Gif.mk (fun _ => ?_) (fun _ => ?_)) | ((first | refine (dns_Name _).callW (enters_of Tryz.func70 rfl rfl) _ rfl rfl ?_ | refine (every_Listener listenerMay _ (enters_of Tryz.func84 rfl rfl) o.listeners h.li 8 (fun x hx => object_listener x (h.lis x hx))).callW (enters_of Tryz.func83 rfl rfl) _ rfl rfl ?_ | refine (twice_Listener lisName _ (enters_of Tryz.func82 rfl rfl) o.listeners h.li (fun x _ y _ => thing_gateway_1 x y)).callW (enters_of Tryz.func85 rfl rfl) _ rfl rfl ?_); rintro _ rfl; try simp only [go_sem, simprocAttr]))) <;> (simp only [retK, fullK, resD, retL, oneD, simprocAttr, Tryz.results37]; exact ⟨_, _, rfl, by simp [lessL, lk], congrArg bln (by first | rfl | (rw [Bool.eq_iff_iff]; simp only [gatewayMay]; (first | (simp; done) | (simp; omega) | (simp [*]; done) | (simp [*]; omega))) | (simp_all [gatewayMay]; done) | (exfalso; omega)), rfl⟩)

def routeMay (ps : List AParent) (hs : List ByteArray) (rs : List ARule) : Bool :=
 !(twice parSame ps || twice strSame hs) && every parentMay ps 4 && every patMay hs 4 && every ruleMay rs 6

theorem thing_route (o : AObj) (h : o.ok) : Full Tryz.prog 38 [.ptr 500001 0] [(500001, o.ds)] true (fun d bs => d = bln (routeMay o.parents o.hosts o.rules) ∧ bs = [(500001,
 [int o.ref.kind, str o.ref.space, str o.ref.name, bln o.good, .pd (.slice (rows APair.pd o.labels)), .pd (.slice (ints o.ports)), str o.cls, .pd (.slice (rows AListener.pd o.listeners)),
  .nils, .nils, .nils, .pd (.slice (rows ASide.pd o.from_)), .pd (.slice (rows ASide.pd o.to_))])]) := by
 refine full_of_run follows an_ztpho Tryz.func38 rfl ok_ztpho.1 ok_ztpho.2 (by simp [Tryz.ntmps38]) (by simp [Tryz.ntmps38]) (.inl rfl) ?_
 rw [run_start]
 simp (maxSteps := 5000000) only [ac_ztpho, go_sem, simprocAttr, go_sem, rows_len]
 (repeat' (first | (refine GifP.mk (fun _ => ?_) (fun _ => ?_)) | (refine Gif.mk (fun _ => ?_) (fun _ => ?_)) | ((first | refine (twice_Parent parSame _ (enters_of Tryz.func87 rfl rfl) o.parents h.pa (fun x _ y _ => thing_route_1 x y)).callW (enters_of Tryz.func86 rfl rfl) _ rfl rfl ?_ | refine (twice_string strSame _ (enters_of Tryz.func89 rfl rfl) o.hosts h.ho (fun x _ y _ => thing_route_2 x y)).callW (enters_of Tryz.func88 rfl rfl) _ rfl rfl ?_ | refine (every_Parent parentMay _ (enters_of Tryz.func93 rfl rfl) o.parents h.pa 4 (fun x _ => object_parent x)).callW (enters_of Tryz.func92 rfl rfl) _ rfl rfl ?_ | refine (every_string patMay _ (enters_of Tryz.func90 rfl rfl) o.hosts h.ho 4 (fun x _ => thing_route_3 x)).callW (enters_of Tryz.func94 rfl rfl) _ rfl rfl ?_ | refine (every_Rule ruleMay _ (enters_of Tryz.func96 rfl rfl) o.rules h.ru 6 (fun x hx => object_ruled x (h.rus x hx))).callW (enters_of Tryz.func95 rfl rfl) _ rfl rfl ?_); rintro _ rfl; try simp only [go_sem, simprocAttr]))) <;> (simp only [retK, fullK, resD, retL, oneD, simprocAttr, Tryz.results38]; exact ⟨_, _, rfl, by simp [lessL, lk], congrArg bln (by first | rfl | (rw [Bool.eq_iff_iff]; simp only [routeMay]; (first | (simp; done) | (simp; omega) | (simp [*]; done) | (simp [*]; omega))) | (simp_all [routeMay]; done) | (exfalso; omega)), rfl⟩)

def grantMay (f t : List ASide) : Bool := decide (0 < f.length) && decide (0 < t.length) && every sideFrom f 4 && every sideTo t 4

theorem thing_grant (o : AObj) (h : o.ok) : Full Tryz.prog 39 [.ptr 500001 0] [(500001, o.ds)] true (fun d bs => d = bln (grantMay o.from_ o.to_) ∧ bs = [(500001,
 [int o.ref.kind, str o.ref.space, str o.ref.name, bln o.good, .pd (.slice (rows APair.pd o.labels)), .pd (.slice (ints o.ports)), str o.cls, .pd (.slice (rows AListener.pd o.listeners)),
  .pd (.slice (rows AParent.pd o.parents)), .pd (.slice (strs o.hosts)), .pd (.slice (rows ARule.pd o.rules)), .nils, .nils])]) := by
 refine full_of_run follows an_zlbax Tryz.func39 rfl ok_zlbax.1 ok_zlbax.2 (by simp [Tryz.ntmps39]) (by simp [Tryz.ntmps39]) (.inl rfl) ?_
 rw [run_start]
 simp only [ac_zlbax, go_sem, simprocAttr, go_sem, rows_len]
 (repeat' (first | (refine GifP.mk (fun _ => ?_) (fun _ => ?_)) | (refine Gif.mk (fun _ => ?_) (fun _ => ?_)) | ((first | refine (every_Side sideFrom _ (enters_of Tryz.func97 rfl rfl) o.from_ h.fr 4 (fun x _ => thing_grant_1 x)).callW (enters_of Tryz.func99 rfl rfl) _ rfl rfl ?_ | refine (every_Side sideTo _ (enters_of Tryz.func98 rfl rfl) o.to_ h.to 4 (fun x _ => thing_grant_2 x)).callW (enters_of Tryz.func99 rfl rfl) _ rfl rfl ?_); rintro _ rfl; try simp only [go_sem, simprocAttr]))) <;> (simp only [retK, fullK, resD, retL, oneD, simprocAttr, Tryz.results39]; exact ⟨_, _, rfl, by simp [lessL, lk], congrArg bln (by first | rfl | (rw [Bool.eq_iff_iff]; simp only [grantMay]; (first | (simp; done) | (simp; omega) | (simp [*]; done) | (simp [*]; omega))) | (simp_all [grantMay]; done) | (exfalso; omega)), rfl⟩)


def AObj.zero (r : ARef) : AObj := ⟨r, false, [], [], ⟨#[]⟩, [], [], [], [], [], []⟩

theorem AObj.zero_ok (r : ARef) : (AObj.zero r).ok := ⟨by simp [AObj.zero], by simp [AObj.zero], by simp [AObj.zero], by simp [AObj.zero], by simp [AObj.zero], by simp [AObj.zero], by simp [AObj.zero], by simp [AObj.zero], by simp [AObj.zero], by simp [AObj.zero]⟩

def AObj.strip (o : AObj) : AObj :=
 if o.ref.kind = 1 ∨ o.ref.kind = 4 then { o with good := false }
 else if o.ref.kind = 2 then { o with labels := [] }
 else if o.ref.kind = 3 then { o with ports := [] }
 else if o.ref.kind = 5 then { o with listeners := [], cls := ⟨#[]⟩ }
 else if o.ref.kind = 6 then { o with parents := [], hosts := [], rules := [] }
 else { o with from_ := [], to_ := [] }

def kindMay (o : AObj) : Bool :=
 if o.ref.kind = 1 ∨ o.ref.kind = 4 then true
 else if o.ref.kind = 2 then labelsMay o.labels
 else if o.ref.kind = 3 then serviceMay o.ports
 else if o.ref.kind = 5 then gatewayMay o.cls o.listeners
 else if o.ref.kind = 6 then routeMay o.parents o.hosts o.rules
 else grantMay o.from_ o.to_

def objMay (o : AObj) : Bool := mayRef o.ref && kindMay o && objSame o.strip (AObj.zero o.ref)

theorem mayRef_kind {r : ARef} (h : mayRef r = true) : r.kind = 1 ∨ r.kind = 2 ∨ r.kind = 3 ∨ r.kind = 4 ∨ r.kind = 5 ∨ r.kind = 6 ∨ r.kind = 7 := by
 unfold mayRef at h
 split at h
 ·omega
 ·split at h
  ·omega
  ·simp [okind] at h; omega

theorem strip_ok {o s : AObj} (h : o.ok) (h1 : s.labels = o.labels ∨ s.labels = []) (h2 : s.ports = o.ports ∨ s.ports = []) (h3 : s.listeners = o.listeners ∨ s.listeners = []) (h4 : s.parents = o.parents ∨ s.parents = []) (h5 : s.hosts = o.hosts ∨ s.hosts = [])
 (h6 : s.rules = o.rules ∨ s.rules = []) (h7 : s.from_ = o.from_ ∨ s.from_ = []) (h8 : s.to_ = o.to_ ∨ s.to_ = []) : s.ok where
 la := by rcases h1 with e | e <;> rw [e] <;> first | exact h.la | simp
 po := by rcases h2 with e | e <;> rw [e] <;> first | exact h.po | simp
 li := by rcases h3 with e | e <;> rw [e] <;> first | exact h.li | simp
 pa := by rcases h4 with e | e <;> rw [e] <;> first | exact h.pa | simp
 ho := by rcases h5 with e | e <;> rw [e] <;> first | exact h.ho | simp
 ru := by rcases h6 with e | e <;> rw [e] <;> first | exact h.ru | simp
 fr := by rcases h7 with e | e <;> rw [e] <;> first | exact h.fr | simp
 to := by rcases h8 with e | e <;> rw [e] <;> first | exact h.to | simp
 lis := by rcases h3 with e | e <;> rw [e] <;> first | exact h.lis | simp
 rus := by rcases h6 with e | e <;> rw [e] <;> first | exact h.rus | simp

set_option maxHeartbeats 4000000 in
theorem object_May (o : AObj) (h : o.ok) : Pure Tryz.prog 11 [o.d] (fun d => d = bln (objMay o)) := by
 refine pure_of_run follows an_zfwje Tryz.func11 rfl ok_zfwje.1 ok_zfwje.2 (by simp [Tryz.ntmps11]) ?_
 rw [run_start]
 simp (maxSteps := 5000000) only [ac_zfwje, go_sem, simprocAttr, go_sem]
 refine (object_MayRef o.ref).callX (enters_of Tryz.func25 rfl rfl) _ rfl rfl ?_
 rintro d rfl
 by_cases hm : mayRef o.ref = true
 ·have stop : kindMay o = false → objMay o = false := fun e => by simp [objMay, e]
  have go : ∀ s : AObj, o.strip = s → kindMay o = true → objMay o = objSame s (AObj.zero o.ref) := fun s e1 e2 => by simp [objMay, hm, e1, e2]
  rcases mayRef_kind hm with hk | hk | hk | hk | hk | hk | hk
  ·obtain ⟨⟨kd, sp, nm⟩, gd, la, po, cl, li, pa, ho, ru, fr, to⟩ := o
   simp only at hk
   subst hk
   simp (maxSteps := 5000000) only [go_sem, simprocAttr, go_sem, hm]
   refine (thing_class ⟨⟨1, sp, nm⟩, gd, la, po, cl, li, pa, ho, ru, fr, to⟩).callW (enters_of Tryz.func34 rfl rfl) _ false [(9, 500001)] [] [] [] rfl rfl rfl ?_
   rintro d bs ⟨rfl, rfl⟩
   simp (maxSteps := 5000000) only [go_sem, simprocAttr, go_sem]
   have hs : (⟨⟨1, sp, nm⟩, gd, la, po, cl, li, pa, ho, ru, fr, to⟩ : AObj).strip = { (⟨⟨1, sp, nm⟩, gd, la, po, cl, li, pa, ho, ru, fr, to⟩ : AObj) with good := false } := by simp [AObj.strip]
   have hkm : kindMay (⟨⟨1, sp, nm⟩, gd, la, po, cl, li, pa, ho, ru, fr, to⟩ : AObj) = true := by simp [kindMay]
   refine (object_Same ({ (⟨⟨1, sp, nm⟩, gd, la, po, cl, li, pa, ho, ru, fr, to⟩ : AObj) with good := false } : AObj) (AObj.zero ⟨1, sp, nm⟩) (strip_ok h (by simp) (by simp) (by simp) (by simp) (by simp) (by simp) (by simp) (by simp)) (AObj.zero_ok ⟨1, sp, nm⟩)).callX (enters_of Tryz.func13 rfl rfl) _ rfl rfl ?_
   rintro d rfl
   simp (maxSteps := 5000000) only [go_sem, simprocAttr, go_sem]
   simp only [retK, resD, retL, oneD, simprocAttr, Tryz.results11]
   exact ⟨_, rfl, rfl, congrArg bln (go _ hs (by rw [hkm])).symm⟩
  ·obtain ⟨⟨kd, sp, nm⟩, gd, la, po, cl, li, pa, ho, ru, fr, to⟩ := o
   simp only at hk
   subst hk
   simp (maxSteps := 5000000) only [go_sem, simprocAttr, go_sem, hm]
   refine (thing_space ⟨⟨2, sp, nm⟩, gd, la, po, cl, li, pa, ho, ru, fr, to⟩ h).callW (enters_of Tryz.func35 rfl rfl) _ false [(9, 500001)] [] [] [] rfl rfl rfl ?_
   rintro d bs ⟨rfl, rfl⟩
   simp (maxSteps := 5000000) only [go_sem, simprocAttr, go_sem]
   have hs : (⟨⟨2, sp, nm⟩, gd, la, po, cl, li, pa, ho, ru, fr, to⟩ : AObj).strip = { (⟨⟨2, sp, nm⟩, gd, la, po, cl, li, pa, ho, ru, fr, to⟩ : AObj) with labels := [] } := by simp [AObj.strip]
   have hkm : kindMay (⟨⟨2, sp, nm⟩, gd, la, po, cl, li, pa, ho, ru, fr, to⟩ : AObj) = labelsMay la := by simp [kindMay]
   refine Gif.mk (fun h1 => ?_) (fun h1 => ?_)
   ·refine (object_Same ({ (⟨⟨2, sp, nm⟩, gd, la, po, cl, li, pa, ho, ru, fr, to⟩ : AObj) with labels := [] } : AObj) (AObj.zero ⟨2, sp, nm⟩) (strip_ok h (by simp) (by simp) (by simp) (by simp) (by simp) (by simp) (by simp) (by simp)) (AObj.zero_ok ⟨2, sp, nm⟩)).callX (enters_of Tryz.func13 rfl rfl) _ rfl rfl ?_
    rintro d rfl
    simp (maxSteps := 5000000) only [go_sem, simprocAttr, go_sem]
    simp only [retK, resD, retL, oneD, simprocAttr, Tryz.results11]
    exact ⟨_, rfl, rfl, congrArg bln (go _ hs (by rw [hkm]; exact h1)).symm⟩
   ·simp only [retK, resD, retL, oneD, simprocAttr, Tryz.results11]
    exact ⟨_, rfl, rfl, congrArg bln (stop (by rw [hkm]; exact h1)).symm⟩
  ·obtain ⟨⟨kd, sp, nm⟩, gd, la, po, cl, li, pa, ho, ru, fr, to⟩ := o
   simp only at hk
   subst hk
   simp (maxSteps := 5000000) only [go_sem, simprocAttr, go_sem, hm]
   refine (thing_service ⟨⟨3, sp, nm⟩, gd, la, po, cl, li, pa, ho, ru, fr, to⟩ h).callW (enters_of Tryz.func36 rfl rfl) _ false [(9, 500001)] [] [] [] rfl rfl rfl ?_
   rintro d bs ⟨rfl, rfl⟩
   simp (maxSteps := 5000000) only [go_sem, simprocAttr, go_sem]
   have hs : (⟨⟨3, sp, nm⟩, gd, la, po, cl, li, pa, ho, ru, fr, to⟩ : AObj).strip = { (⟨⟨3, sp, nm⟩, gd, la, po, cl, li, pa, ho, ru, fr, to⟩ : AObj) with ports := [] } := by simp [AObj.strip]
   have hkm : kindMay (⟨⟨3, sp, nm⟩, gd, la, po, cl, li, pa, ho, ru, fr, to⟩ : AObj) = serviceMay po := by simp [kindMay]
   refine Gif.mk (fun h1 => ?_) (fun h1 => ?_)
   ·refine (object_Same ({ (⟨⟨3, sp, nm⟩, gd, la, po, cl, li, pa, ho, ru, fr, to⟩ : AObj) with ports := [] } : AObj) (AObj.zero ⟨3, sp, nm⟩) (strip_ok h (by simp) (by simp) (by simp) (by simp) (by simp) (by simp) (by simp) (by simp)) (AObj.zero_ok ⟨3, sp, nm⟩)).callX (enters_of Tryz.func13 rfl rfl) _ rfl rfl ?_
    rintro d rfl
    simp (maxSteps := 5000000) only [go_sem, simprocAttr, go_sem]
    simp only [retK, resD, retL, oneD, simprocAttr, Tryz.results11]
    exact ⟨_, rfl, rfl, congrArg bln (go _ hs (by rw [hkm]; exact h1)).symm⟩
   ·simp only [retK, resD, retL, oneD, simprocAttr, Tryz.results11]
    exact ⟨_, rfl, rfl, congrArg bln (stop (by rw [hkm]; exact h1)).symm⟩
  ·obtain ⟨⟨kd, sp, nm⟩, gd, la, po, cl, li, pa, ho, ru, fr, to⟩ := o
   simp only at hk
   subst hk
   simp (maxSteps := 5000000) only [go_sem, simprocAttr, go_sem, hm]
   refine (thing_class ⟨⟨4, sp, nm⟩, gd, la, po, cl, li, pa, ho, ru, fr, to⟩).callW (enters_of Tryz.func34 rfl rfl) _ false [(9, 500001)] [] [] [] rfl rfl rfl ?_
   rintro d bs ⟨rfl, rfl⟩
   simp (maxSteps := 5000000) only [go_sem, simprocAttr, go_sem]
   have hs : (⟨⟨4, sp, nm⟩, gd, la, po, cl, li, pa, ho, ru, fr, to⟩ : AObj).strip = { (⟨⟨4, sp, nm⟩, gd, la, po, cl, li, pa, ho, ru, fr, to⟩ : AObj) with good := false } := by simp [AObj.strip]
   have hkm : kindMay (⟨⟨4, sp, nm⟩, gd, la, po, cl, li, pa, ho, ru, fr, to⟩ : AObj) = true := by simp [kindMay]
   refine (object_Same ({ (⟨⟨4, sp, nm⟩, gd, la, po, cl, li, pa, ho, ru, fr, to⟩ : AObj) with good := false } : AObj) (AObj.zero ⟨4, sp, nm⟩) (strip_ok h (by simp) (by simp) (by simp) (by simp) (by simp) (by simp) (by simp) (by simp)) (AObj.zero_ok ⟨4, sp, nm⟩)).callX (enters_of Tryz.func13 rfl rfl) _ rfl rfl ?_
   rintro d rfl
   simp (maxSteps := 5000000) only [go_sem, simprocAttr, go_sem]
   simp only [retK, resD, retL, oneD, simprocAttr, Tryz.results11]
   exact ⟨_, rfl, rfl, congrArg bln (go _ hs (by rw [hkm])).symm⟩
  ·obtain ⟨⟨kd, sp, nm⟩, gd, la, po, cl, li, pa, ho, ru, fr, to⟩ := o
   simp only at hk
   subst hk
   simp (maxSteps := 5000000) only [go_sem, simprocAttr, go_sem, hm]
   refine (thing_gateway ⟨⟨5, sp, nm⟩, gd, la, po, cl, li, pa, ho, ru, fr, to⟩ h).callW (enters_of Tryz.func37 rfl rfl) _ false [(9, 500001)] [] [] [] rfl rfl rfl ?_
   rintro d bs ⟨rfl, rfl⟩
   simp (maxSteps := 5000000) only [go_sem, simprocAttr, go_sem]
   have hs : (⟨⟨5, sp, nm⟩, gd, la, po, cl, li, pa, ho, ru, fr, to⟩ : AObj).strip = { (⟨⟨5, sp, nm⟩, gd, la, po, cl, li, pa, ho, ru, fr, to⟩ : AObj) with listeners := [], cls := ⟨#[]⟩ } := by simp [AObj.strip]
   have hkm : kindMay (⟨⟨5, sp, nm⟩, gd, la, po, cl, li, pa, ho, ru, fr, to⟩ : AObj) = gatewayMay cl li := by simp [kindMay]
   refine Gif.mk (fun h1 => ?_) (fun h1 => ?_)
   ·refine (object_Same ({ (⟨⟨5, sp, nm⟩, gd, la, po, cl, li, pa, ho, ru, fr, to⟩ : AObj) with listeners := [], cls := ⟨#[]⟩ } : AObj) (AObj.zero ⟨5, sp, nm⟩) (strip_ok h (by simp) (by simp) (by simp) (by simp) (by simp) (by simp) (by simp) (by simp)) (AObj.zero_ok ⟨5, sp, nm⟩)).callX (enters_of Tryz.func13 rfl rfl) _ rfl rfl ?_
    rintro d rfl
    simp (maxSteps := 5000000) only [go_sem, simprocAttr, go_sem]
    simp only [retK, resD, retL, oneD, simprocAttr, Tryz.results11]
    exact ⟨_, rfl, rfl, congrArg bln (go _ hs (by rw [hkm]; exact h1)).symm⟩
   ·simp only [retK, resD, retL, oneD, simprocAttr, Tryz.results11]
    exact ⟨_, rfl, rfl, congrArg bln (stop (by rw [hkm]; exact h1)).symm⟩
  ·obtain ⟨⟨kd, sp, nm⟩, gd, la, po, cl, li, pa, ho, ru, fr, to⟩ := o
   simp only at hk
   subst hk
   simp (maxSteps := 5000000) only [go_sem, simprocAttr, go_sem, hm]
   refine (thing_route ⟨⟨6, sp, nm⟩, gd, la, po, cl, li, pa, ho, ru, fr, to⟩ h).callW (enters_of Tryz.func38 rfl rfl) _ false [(9, 500001)] [] [] [] rfl rfl rfl ?_
   rintro d bs ⟨rfl, rfl⟩
   simp (maxSteps := 5000000) only [go_sem, simprocAttr, go_sem]
   have hs : (⟨⟨6, sp, nm⟩, gd, la, po, cl, li, pa, ho, ru, fr, to⟩ : AObj).strip = { (⟨⟨6, sp, nm⟩, gd, la, po, cl, li, pa, ho, ru, fr, to⟩ : AObj) with parents := [], hosts := [], rules := [] } := by simp [AObj.strip]
   have hkm : kindMay (⟨⟨6, sp, nm⟩, gd, la, po, cl, li, pa, ho, ru, fr, to⟩ : AObj) = routeMay pa ho ru := by simp [kindMay]
   refine Gif.mk (fun h1 => ?_) (fun h1 => ?_)
   ·refine (object_Same ({ (⟨⟨6, sp, nm⟩, gd, la, po, cl, li, pa, ho, ru, fr, to⟩ : AObj) with parents := [], hosts := [], rules := [] } : AObj) (AObj.zero ⟨6, sp, nm⟩) (strip_ok h (by simp) (by simp) (by simp) (by simp) (by simp) (by simp) (by simp) (by simp)) (AObj.zero_ok ⟨6, sp, nm⟩)).callX (enters_of Tryz.func13 rfl rfl) _ rfl rfl ?_
    rintro d rfl
    simp (maxSteps := 5000000) only [go_sem, simprocAttr, go_sem]
    simp only [retK, resD, retL, oneD, simprocAttr, Tryz.results11]
    exact ⟨_, rfl, rfl, congrArg bln (go _ hs (by rw [hkm]; exact h1)).symm⟩
   ·simp only [retK, resD, retL, oneD, simprocAttr, Tryz.results11]
    exact ⟨_, rfl, rfl, congrArg bln (stop (by rw [hkm]; exact h1)).symm⟩
  ·obtain ⟨⟨kd, sp, nm⟩, gd, la, po, cl, li, pa, ho, ru, fr, to⟩ := o
   simp only at hk
   subst hk
   simp (maxSteps := 5000000) only [go_sem, simprocAttr, go_sem, hm]
   refine (thing_grant ⟨⟨7, sp, nm⟩, gd, la, po, cl, li, pa, ho, ru, fr, to⟩ h).callW (enters_of Tryz.func39 rfl rfl) _ false [(9, 500001)] [] [] [] rfl rfl rfl ?_
   rintro d bs ⟨rfl, rfl⟩
   simp (maxSteps := 5000000) only [go_sem, simprocAttr, go_sem]
   have hs : (⟨⟨7, sp, nm⟩, gd, la, po, cl, li, pa, ho, ru, fr, to⟩ : AObj).strip = { (⟨⟨7, sp, nm⟩, gd, la, po, cl, li, pa, ho, ru, fr, to⟩ : AObj) with from_ := [], to_ := [] } := by simp [AObj.strip]
   have hkm : kindMay (⟨⟨7, sp, nm⟩, gd, la, po, cl, li, pa, ho, ru, fr, to⟩ : AObj) = grantMay fr to := by simp [kindMay]
   refine Gif.mk (fun h1 => ?_) (fun h1 => ?_)
   ·refine (object_Same ({ (⟨⟨7, sp, nm⟩, gd, la, po, cl, li, pa, ho, ru, fr, to⟩ : AObj) with from_ := [], to_ := [] } : AObj) (AObj.zero ⟨7, sp, nm⟩) (strip_ok h (by simp) (by simp) (by simp) (by simp) (by simp) (by simp) (by simp) (by simp)) (AObj.zero_ok ⟨7, sp, nm⟩)).callX (enters_of Tryz.func13 rfl rfl) _ rfl rfl ?_
    rintro d rfl
    simp (maxSteps := 5000000) only [go_sem, simprocAttr, go_sem]
    simp only [retK, resD, retL, oneD, simprocAttr, Tryz.results11]
    exact ⟨_, rfl, rfl, congrArg bln (go _ hs (by rw [hkm]; exact h1)).symm⟩
   ·simp only [retK, resD, retL, oneD, simprocAttr, Tryz.results11]
    exact ⟨_, rfl, rfl, congrArg bln (stop (by rw [hkm]; exact h1)).symm⟩
 ·have hm' : mayRef o.ref = false := by simpa using hm
  simp (maxSteps := 5000000) only [go_sem, simprocAttr, go_sem, hm']
  simp only [retK, resD, retL, oneD, simprocAttr, Tryz.results11]
  exact ⟨_, rfl, rfl, congrArg bln (by simp [objMay, hm'])⟩


def refZ : ARef := ⟨0, ⟨#[]⟩, ⟨#[]⟩⟩

instance : Inhabited ARef := ⟨refZ⟩

theorem encR_one (x : ARef) : ∀ v ∈ encR x, v.oneCell' = true := fun v hv => by
 simp only [encR, List.mem_cons, List.not_mem_nil, or_false] at hv
 rcases hv with rfl | rfl | rfl <;> rfl

theorem encR_inv {Fz : Nat → Nat → Prop} {w : World} {vs : List Value} {x : ARef} (h : PReps Fz w vs (ARef.pd x)) : vs = encR x := by
 cases h with
 | cons v _ vs _ h hs =>
   cases hs with
   | cons v' _ vs' _ h' hs' =>
     cases hs' with
     | cons v'' _ vs'' _ h'' hs'' =>
       cases hs''
       cases h; cases h'; cases h''
       rfl

theorem encR_rep {Fz : Nat → Nat → Prop} {w : World} (x : ARef) : PReps Fz w (encR x) (ARef.pd x) :=
 .cons _ _ _ _ (.raw _ rfl) (.cons _ _ _ _ (.raw _ rfl) (.cons _ _ _ _ (.raw _ rfl) .nil))

structure RowR (Fz : Nat → Nat → Prop) (w : World) (b len cap : Nat) (l : List ARef) : Prop where
 hlen : l.length = len
 hcap : len ≤ cap
 hmax : len ≤ maxLen
 hcell : ∀ j i x u, l[j]? = some x → (encR x)[i]? = some u → w.cell? ⟨b, j * 3 + i, none⟩ = some u ∧ Fz b (j * 3 + i)

theorem RowR.of {Fz : Nat → Nat → Prop} {w : World} {b len cap : Nat} {l : List ARef} (hl : l ≠ []) (h : PRep Fz w (.slice (some ⟨b, 0, none⟩) len cap) (.slice (rows ARef.pd l))) : RowR Fz w b len cap l := by
 generalize hE : rows ARef.pd l = E at h
 cases h with
 | empty => exact absurd (List.map_eq_nil_iff.1 hE) hl
 | slice _ _ _ _ sz _ vals hn hpos hcap hmax hlen hc hr =>
   have hll : l.length = len := by rw [← hn, ← hE]; simp [rows]
   have hv : ∀ j x, l[j]? = some x → vals j = encR x := fun j x hx => by
    have hj : j < len := by have := (List.getElem?_eq_some_iff.1 hx).1; omega
    have h1 := hr j hj
    rw [← hE, List.getD_eq_getElem?_getD, rows, List.getElem?_map, hx] at h1
    exact encR_inv h1
   have hsz : sz = 3 := by
    obtain ⟨x, hx⟩ := at_lt (l := l) (i := 0) (by omega)
    rw [← hlen 0 hpos, hv 0 x hx]
    rfl
   subst hsz
   refine ⟨hll, hcap, hmax, fun j i x u hx hu => ?_⟩
   have hj : j < len := by have := (List.getElem?_eq_some_iff.1 hx).1; omega
   have := hc j i u hj (by rw [hv j x hx]; exact hu)
   rwa [Nat.zero_add] at this

theorem RowR.rep {Fz : Nat → Nat → Prop} {w : World} {b len cap : Nat} {l : List ARef} (h : RowR Fz w b len cap l) (hl : l ≠ []) : PRep Fz w (.slice (some ⟨b, 0, none⟩) len cap) (.slice (rows ARef.pd l)) := by
 have hpos : 0 < len := by have := List.length_pos_iff.2 hl; have := h.hlen; omega
 refine .slice b 0 len cap 3 _ (fun j => encR (l.getD j refZ)) (by rw [← h.hlen]; simp [rows]) hpos h.hcap h.hmax (fun _ _ => rfl) (fun j i u hj hu => ?_) (fun j hj => ?_)
 ·obtain ⟨x, hx⟩ := at_lt (l := l) (i := j) (by have := h.hlen; omega)
  rw [List.getD_eq_getElem?_getD, hx] at hu
  rw [Nat.zero_add]
  exact h.hcell j i x u hx hu
 ·obtain ⟨x, hx⟩ := at_lt (l := l) (i := j) (by have := h.hlen; omega)
  rw [List.getD_eq_getElem?_getD, List.getD_eq_getElem?_getD, rows, List.getElem?_map, hx]
  exact encR_rep x

theorem RowR.holds {Fz : Nat → Nat → Prop} {w : World} {b len cap : Nat} {l : List ARef} (h : RowR Fz w b len cap l) {cur : Array Value} {e : TypeId} (hb : w.heap[b]? = some (.cells cur e (0, 0))) : Sort.HoldsK encR 3 w b 0 l.toArray := by
 intro t ht
 rw [Sort.size_flatK] at ht
 have ht' : t < l.length * 3 := by simpa using ht
 obtain ⟨x, hx⟩ := at_lt (l := l) (i := t / 3) (by omega)
 have h3 : t % 3 < 3 := Nat.mod_lt _ (by decide)
 have h1 := h.hcell (t / 3) (t % 3) x (encR x)[t % 3] hx (List.getElem?_eq_getElem (by simpa using h3))
 rw [Nat.div_add_mod' t 3] at h1
 rw [Sort.get_flatK _ _ _ _ (by simpa using ht'), Nat.zero_add]
 refine ⟨h1.1.trans ?_, by simp [World.frozen?, hb]⟩
 have e1 : l.toArray[t / 3]! = x := by
  rw [getElem!_pos _ _ (by simpa using (List.getElem?_eq_some_iff.1 hx).1)]
  simpa using (List.getElem?_eq_some_iff.1 hx).2
 rw [e1]
 simp only [id]
 rw [getElem!_pos _ _ (by simpa using h3)]

theorem RowR.of_holds {Fz : Nat → Nat → Prop} {w w' : World} {b len cap : Nat} {l l' : List ARef} (h : RowR Fz w b len cap l) (hl : l'.length = l.length) (hH : Sort.HoldsK encR 3 w' b 0 l'.toArray) : RowR Fz w' b len cap l' where
 hlen := hl.trans h.hlen
 hcap := h.hcap
 hmax := h.hmax
 hcell := fun j i x u hx hu => by
  have hj : j < l'.length := (List.getElem?_eq_some_iff.1 hx).1
  have hi : i < 3 := by simpa using (List.getElem?_eq_some_iff.1 hu).1
  obtain ⟨y, hy⟩ := at_lt (l := l) (i := j) (by omega)
  have h1 := (h.hcell j i y (encR y)[i] hy (List.getElem?_eq_getElem (by simpa using hi))).2
  have h2 := (hH.cell (i := j) (c := i) (by simpa using hj) hi).1
  rw [Nat.zero_add] at h2
  refine ⟨h2.trans ?_, h1⟩
  have e1 : l'.toArray[j]! = x := by
   rw [getElem!_pos _ _ (by simpa using hj)]
   simpa using (List.getElem?_eq_some_iff.1 hx).2
  rw [e1, getElem!_pos _ _ (by simpa using hi)]
  exact (List.getElem?_eq_getElem _).symm.trans hu

theorem grownBy_K {w : World} {b n : Nat} {os : Array Obj} (F : Array Value) : w.grownBy (Sort.grow (Sort.putRow id (Sort.ahead w n) b 0 F) os) (some b) := by
 refine ⟨rfl, rfl, rfl, by simp, fun k hk hne => ?_⟩
 rw [Sort.heap_grow_old _ _ (by simpa using hk)]
 have : b ≠ k := fun e => hne (by rw [e])
 simp [Sort.putRow, Sort.mapBlock, Sort.ahead, Array.getElem?_modify, this]

theorem heap_K {w : World} {b n : Nat} {os : Array Obj} {cur : Array Value} {e : TypeId} {fr : Nat × Nat} (F : Array Value) (hb : w.heap[b]? = some (.cells cur e fr)) :
 (Sort.grow (Sort.putRow id (Sort.ahead w n) b 0 F) os).heap[b]? = some (.cells (Sort.putCells id 0 F cur) e fr) := by
 have hg : b < w.heap.size := (Array.getElem?_eq_some_iff.1 hb).1
 rw [Sort.heap_grow_old _ _ (by simpa using hg)]
 simp [Sort.putRow, Sort.mapBlock, Sort.ahead, Array.getElem?_modify, hb, Sort.onCells]

def refSort (l : List ARef) : List ARef := l.mergeSort fun x y => !refLt y x

theorem sort_callW {SF OF : FuncId} (hSF : ∀ (vs : Array Value) (w : World), (callFunc SF vs).run Tryz.prog w = .ok (.enter SF vs) w)
 (hs0 : ∀ (b cap : Nat) (l : List ARef) (w : World), Sort.HoldsK encR 3 w b 0 l.toArray → b < w.heap.size → l.length < 4611686018427387904 → Calls Tryz.prog SF #[.slice (some ⟨b, 0, none⟩) l.length cap, .func (.func OF) #[] #[]] w fun e w' => e = .returned (.tuple #[]) ∧ ∃ n os, w' = sortWorldK encR 3 w b 0 n (refSort l).toArray os)
 {st : St} {l : List ARef} (hl : l ≠ []) (hle : l.length ≤ 1000000) {t : Nat} {e : TypeId} (hsolo : st.hs = .solo) {K : D → St → Prop}
 (hk : K (.tup []) ⟨updG t e 3 (rows ARef.pd (refSort l)) st.fr, updB t e 3 (rows ARef.pd (refSort l)) st.bs, [], st.hs⟩) :
 CallW Tryz.prog SF [.own e 3 (rows ARef.pd l) t, .fn OF []] st K := by
 refine ⟨hSF, fun C g a w vs hP hs hr => ?_⟩
 simp only [Reps] at hr
 obtain ⟨v0, vs0, rfl, h0, v1, vs1, rfl, h1, rfl⟩ := hr
 simp only [Rep] at h0 h1
 obtain ⟨hpr, htk, hlens⟩ := h0
 obtain ⟨cv, rfl, hcv⟩ := h1
 simp only [Caps] at hcv
 subst hcv
 have m := hs.mem
 obtain ⟨ie, n, xs, hie, hpos, hown, hfz⟩ := m.tks t _ _ htk
 obtain ⟨hxl, hform⟩ := hown
 rcases hform with ⟨rfl, hn0, _⟩ | ⟨b, cap, cur, rfl, hb0, hold, hnc, hcm, hcs, htake⟩
 ·exfalso
  generalize hE : rows ARef.pd l = E at hpr
  cases hpr with
  | empty => exact hl (List.map_eq_nil_iff.1 hE)
 have hR := RowR.of hl hpr
 have hlen := hR.hlen
 have hmax := hR.hmax
 have hbl : b < w.heap.size := (Array.getElem?_eq_some_iff.1 hold).1
 have hsl : (refSort l).length = l.length := List.length_mergeSort _
 have hsl' : refSort l ≠ [] := fun e => hl (List.length_eq_zero_iff.1 (by rw [← hsl, e]; rfl))
 subst hlen
 refine (hs0 b cap l w (hR.holds hold) hbl (by omega)).mono ?_
 rintro ex w' ⟨rfl, q, os, rfl⟩
 have hH : Sort.HoldsK encR 3 (sortWorldK encR 3 w b 0 q (refSort l).toArray os) b 0 (refSort l).toArray := by
  unfold sortWorldK
  refine Sort.holdsK_grow _ _ _ _ _ _ _ (by simpa [Sort.putRowK] using hbl) (Sort.holdsK_putRowK _ _ _ _ _ l.toArray _ (Sort.holdsK_ahead _ _ _ _ _ _ _ (hR.holds hold)) (by simpa using hsl))
 exact ⟨.tuple #[], .tup [], _, g, rfl, hk, hs.newrow htk hsolo (grownBy_K _) hold (heap_K _ hold) (by simp [Sort.putCells]) ((hR.of_holds hsl hH).rep hsl') (rows_row (f := ARef.pd) (n := 3) (fun _ => rfl) _), by simp [Rep, Reps]⟩

end Go.Proofs.YtbjaopoipkphnaaGreatDoor



namespace Go.Proofs.YtbjaopoipkphnaaGreatDoor
open Go Go.RowKit Go.Shelf
set_option linter.unusedSimpArgs false
set_option linter.unusedVariables false
set_option maxRecDepth 100000

def Tryz.sortRef_ren : Go.Shelf.Ren := ⟨fun | 6 => 60 | 15 => 113 | 14 => 112 | 28 => 162 | 29 => 163 | 20 => 154 | 21 => 155 | 22 => 156 | 23 => 157 | 24 => 158 | 25 => 159 | 26 => 160 | 27 => 161 | 46 => 202 | 47 => 203 | 48 => 204 | 49 => 205 | 50 => 206 | 57 => 230 | n => n, fun | 22 => 38 | 24 => 23 | 25 => 43 | 3 => 3 | 39 => 145 | 0 => 0 | 53 => 179 | 55 => 181 | 4 => 4 | 46 => 172 | 45 => 171 | 50 => 176 | 5 => 5 | 9 => 9 | 66 => 202 | 70 => 206 | 76 => 224 | 77 => 225 | n => n, fun | n => n⟩
theorem Tryz.sortRef : Go.Proofs.SlLaysF0.n6 Tryz.prog Tryz.sortRef_ren := {
 mixed := by kernel_rfl
 f6 := ⟨Tryz.f60.name, by decide, Tryz.func60.trans (congrArg some (by kernel_rfl))⟩
 f14 := ⟨Tryz.f112.name, by decide, Tryz.func112.trans (congrArg some (by kernel_rfl))⟩
 f15 := Tryz.func113.trans (congrArg some (by kernel_rfl))
 f20 := ⟨Tryz.f154.name, by decide, Tryz.func154.trans (congrArg some (by kernel_rfl))⟩
 f21 := ⟨Tryz.f155.name, by decide, Tryz.func155.trans (congrArg some (by kernel_rfl))⟩
 f22 := ⟨Tryz.f156.name, by decide, Tryz.func156.trans (congrArg some (by kernel_rfl))⟩
 f23 := ⟨Tryz.f157.name, by decide, Tryz.func157.trans (congrArg some (by kernel_rfl))⟩
 f24 := ⟨Tryz.f158.name, by decide, Tryz.func158.trans (congrArg some (by kernel_rfl))⟩
 f25 := ⟨Tryz.f159.name, by decide, Tryz.func159.trans (congrArg some (by kernel_rfl))⟩
 f26 := ⟨Tryz.f160.name, by decide, Tryz.func160.trans (congrArg some (by kernel_rfl))⟩
 f27 := ⟨Tryz.f161.name, by decide, Tryz.func161.trans (congrArg some (by kernel_rfl))⟩
 f28 := Tryz.func162.trans (congrArg some (by kernel_rfl))
 f29 := Tryz.func163.trans (congrArg some (by kernel_rfl))
 f46 := ⟨Tryz.f202.name, by decide, Tryz.func202.trans (congrArg some (by kernel_rfl))⟩
 f47 := Tryz.func203.trans (congrArg some (by kernel_rfl))
 f48 := Tryz.func204.trans (congrArg some (by kernel_rfl))
 f49 := ⟨Tryz.f205.name, by decide, Tryz.func205.trans (congrArg some (by kernel_rfl))⟩
 f50 := ⟨Tryz.f206.name, by decide, Tryz.func206.trans (congrArg some (by kernel_rfl))⟩
 f57 := ⟨Tryz.f230.name, by decide, Tryz.func230.trans (congrArg some (by kernel_rfl))⟩
 t0 := Tryz.underlying0
 a0 := Tryz.isAgg0
 z0 := Tryz.sizeOf0
 v0 := Tryz.zeroValue0
 t3 := Tryz.underlying3
 a3 := Tryz.isAgg3
 z3 := Tryz.sizeOf3
 v3 := Tryz.zeroValue3
 t4 := Tryz.underlying4
 a4 := Tryz.isAgg4
 z4 := Tryz.sizeOf4
 v4 := Tryz.zeroValue4
 t5 := Tryz.underlying5
 a5 := Tryz.isAgg5
 z5 := Tryz.sizeOf5
 v5 := Tryz.zeroValue5
 t9 := Tryz.underlying9
 a9 := Tryz.isAgg9
 z9 := Tryz.sizeOf9
 v9 := Tryz.zeroValue9
 t22 := Tryz.underlying38
 a22 := Tryz.isAgg38
 z22 := Tryz.sizeOf38
 v22 := Tryz.zeroValue38
 t25 := Tryz.underlying43
 a25 := Tryz.isAgg43
 z25 := Tryz.sizeOf43
 v25 := Tryz.zeroValue43
 t39 := Tryz.underlying145
 a39 := Tryz.isAgg145
 z39 := Tryz.sizeOf145
 v39 := Tryz.zeroValue145
 t45 := Tryz.underlying171
 a45 := Tryz.isAgg171
 z45 := Tryz.sizeOf171
 v45 := Tryz.zeroValue171
 t46 := Tryz.underlying172
 a46 := Tryz.isAgg172
 z46 := Tryz.sizeOf172
 v46 := Tryz.zeroValue172
 t50 := Tryz.underlying176
 a50 := Tryz.isAgg176
 z50 := Tryz.sizeOf176
 v50 := Tryz.zeroValue176
 t53 := Tryz.underlying179
 a53 := Tryz.isAgg179
 z53 := Tryz.sizeOf179
 v53 := Tryz.zeroValue179
 t55 := Tryz.underlying181
 a55 := Tryz.isAgg181
 z55 := Tryz.sizeOf181
 v55 := Tryz.zeroValue181
 t66 := Tryz.underlying202
 a66 := Tryz.isAgg202
 z66 := Tryz.sizeOf202
 v66 := Tryz.zeroValue202
 t70 := Tryz.underlying206
 a70 := Tryz.isAgg206
 z70 := Tryz.sizeOf206
 v70 := Tryz.zeroValue206
 t76 := Tryz.underlying224
 a76 := Tryz.isAgg224
 z76 := Tryz.sizeOf224
 v76 := Tryz.zeroValue224
 t77 := Tryz.underlying225
 a77 := Tryz.isAgg225
 z77 := Tryz.sizeOf225
 v77 := Tryz.zeroValue225 }

theorem refs_sorted (b cap : Nat) (l : List ARef) (w : World) (hH : Sort.HoldsK encR 3 w b 0 l.toArray) (hb : b < w.heap.size) (hl : l.length < 4611686018427387904) :
 Calls Tryz.prog 60 #[.slice (some ⟨b, 0, none⟩) l.length cap, .func (.func 20) #[] #[]] w fun e w' => e = .returned (.tuple #[]) ∧ ∃ n os, w' = sortWorldK encR 3 w b 0 n (refSort l).toArray os := by
 have h := AnyQ.slices_SortFunc_total Tryz.sortRef 3 Tryz.isAgg23 Tryz.sizeOf23 encR (fun _ => rfl) encR_one refCmp refSWO 20 #[] b 0 cap l.toArray w (enters_of Tryz.func20 (by kernel_rfl) rfl) (fun _ _ _ _ x y => mem_Order x y _) hH hb (by simpa using hl) refTotal
 have e1 : l.toArray.size = l.length := by simp
 rw [e1] at h
 refine h.mono ?_
 rintro e w' ⟨h1, n, os, h2⟩
 refine ⟨h1, n, os, ?_⟩
 rw [h2]
 congr 1
 unfold refSort
 congr 2
 funext x y
 rw [refCmp_lt]


abbrev aggR (x : ARef) : Value := .agg #[.int .i64 x.kind, .string x.space, .string x.name]

theorem eql_R (x y : ARef) (w : World) : Sem.run Tryz.prog (Op.equal 23 (aggR x) (aggR y)) w = .ok (decide (x = y)) w := by
 have h := (eq_run (P := Tryz.prog) w 40 23 [.int, .str, .str] (by kernel_rfl) Op.maxDepth (by decide) (encR x) (encR y) (decide (x = y)) (by simp only [encR, eqVs, eqV, if_true]; exact congrArg some (by rw [Bool.eq_iff_iff]; obtain ⟨a1, a2, a3⟩ := x; obtain ⟨b1, b2, b3⟩ := y; simp))).1 _ Tryz.underlying23
 exact h

theorem eqop_R (x y : ARef) (w : World) : Sem.run Tryz.prog (binOp .eql 23 (aggR x) (aggR y)) w = .ok (.bool (decide (x = y))) w := by
 rw [binOp_eql_agg]
 have := eql_R x y w
 simp only [aggR] at this
 simp [this]
theorem neqop_R (x y : ARef) (w : World) : Sem.run Tryz.prog (binOp .neq 23 (aggR x) (aggR y)) w = .ok (.bool (!decide (x = y))) w := by
 rw [binOp_neq_agg]
 have := eql_R x y w
 simp only [aggR] at this
 simp [this]

theorem HoldsR.cells {w : World} {b : Nat} {d : Array ARef} (h : Sort.HoldsK encR 3 w b 0 d) {i : Nat} (hi : i < d.size) :
 (w.cell? ⟨b, i * 3, none⟩ = some (.int .i64 d[i]!.kind) ∧ w.cell? ⟨b, i * 3 + 1, none⟩ = some (.string d[i]!.space) ∧ w.cell? ⟨b, i * 3 + 2, none⟩ = some (.string d[i]!.name)) ∧
 w.frozen? ⟨b, i * 3, none⟩ = false ∧ w.frozen? ⟨b, i * 3 + 1, none⟩ = false ∧ w.frozen? ⟨b, i * 3 + 2, none⟩ = false := by
 have h0 := h.cell (i := i) (c := 0) hi (by decide)
 have h1 := h.cell (i := i) (c := 1) hi (by decide)
 have h2 := h.cell (i := i) (c := 2) hi (by decide)
 simp only [Nat.zero_add, Nat.add_zero] at h0 h1 h2
 exact ⟨⟨h0.1, h1.1, h2.1⟩, h0.2, h1.2, h2.2⟩

section
open Go.Sort Go.Lib

theorem setMany_one (d : Array ARef) (i : Nat) (x : ARef) (hi : i < d.size) : setMany (flatK encR 3 d) (i * 3) (encR x) = flatK encR 3 (d.setIfInBounds i x) := by
 refine ext_get! (by simp) fun t ht => ?_
 have ht' : t < d.size * 3 := by simpa using ht
 rw [get_setMany _ _ _ t (by simpa using ht'), get_flatK _ _ _ t ht', get_flatK _ _ _ t (by simpa using ht'), show (encR x).length = 3 from rfl]
 by_cases a : t / 3 = i
 ·rw [if_pos ((blk_iff 3 i t (by decide)).2 a), a, getElem!_set_same d i x hi, show t - i * 3 = t % 3 by rw [← a, Nat.mod_eq_sub_div_mul]]
 ·rw [if_neg (fun h => a ((blk_iff 3 i t (by decide)).1 h)), getElem!_set_other d i (t / 3) x a]

theorem lay_size {α : Type} : ∀ (xs : List α) (d : Array α) (k : Nat), (lay d k xs).size = d.size
 | [], _, _ => rfl
 | x :: r, d, k => by rw [lay, lay_size r]; simp

theorem repl_get (m j : Nat) : (Array.replicate m refZ)[j]! = refZ := by
 by_cases h : j < m
 ·rw [getElem!_pos _ _ (by simpa using h)]
  simp
 ·rw [getElem!_neg _ _ (by simpa using h)]
  rfl

theorem setMany_lay (dk : Array ARef) (kk m : Nat) (h : kk + m ≤ dk.size) : setMany (flatK encR 3 dk) (kk * 3) (flatK encR 3 (Array.replicate m refZ)).toList = flatK encR 3 (lay dk kk (List.replicate m refZ)) := by
 refine ext_get! (by simp [lay_size]) fun t ht => ?_
 have ht' : t < dk.size * 3 := by simpa using ht
 have hl : t / 3 < (lay dk kk (List.replicate m refZ)).size := by rw [lay_size]; omega
 rw [get_setMany _ _ _ t (by simpa using ht'), get_flatK _ _ _ t ht', get_flatK _ _ _ t (by rw [lay_size]; exact ht')]
 have hg := lay_get? (List.replicate m refZ) dk kk (t / 3) (by simpa using h)
 rw [Array.getElem?_eq_getElem hl] at hg
 rw [getElem!_pos (lay dk kk (List.replicate m refZ)) (t / 3) hl]
 simp only [Array.length_toList, size_flatK, Array.size_replicate]
 simp only [List.length_replicate] at hg
 by_cases a : kk ≤ t / 3 ∧ t / 3 < kk + m
 ·rw [if_pos a, List.getElem?_replicate, if_pos (by omega)] at hg
  rw [if_pos (by omega), Option.some.inj hg]
  have e1 : t - kk * 3 < m * 3 := by omega
  have e2 : (flatK encR 3 (Array.replicate m refZ)).toList[t - kk * 3]! = (flatK encR 3 (Array.replicate m refZ))[t - kk * 3]! := by
   rw [getElem!_pos _ _ (by simpa using e1), getElem!_pos _ _ (by simpa using e1)]
   rfl
  rw [e2, get_flatK _ _ _ _ (by simpa using e1), repl_get, show (t - kk * 3) % 3 = t % 3 by omega]
 ·rw [if_neg a, Array.getElem?_eq_getElem (by omega)] at hg
  rw [if_neg (by omega), Option.some.inj hg, getElem!_pos dk _ (by omega)]

theorem store_R {w wr : World} {n q b : Nat} {dk : Array ARef} {i : Nat} (hi : i < dk.size) (hwr : wr = putRowK encR 3 (Sort.ahead w n) b 0 dk) (x : ARef) :
 ((((wr.drewN q).setCell ⟨b, i * 3, none⟩ (.int .i64 x.kind)).setCell ⟨b, i * 3 + 1, none⟩ (.string x.space)).setCell ⟨b, i * 3 + 2, none⟩ (.string x.name)) = putRowK encR 3 (Sort.ahead w (n + q)) b 0 (dk.setIfInBounds i x) := by
 subst hwr
 rw [putRowK_drewN]
 have h := setCells_putRow (Sort.ahead w (n + q)) b 0 (encR x) (i * 3) (flatK encR 3 dk) (by simp; omega)
 rw [Nat.zero_add, setMany_one dk i x hi] at h
 exact h

theorem zero_R (n : Nat) : (Builtin.zeroCells (aggR refZ).cells n) = flatK encR 3 (Array.replicate n refZ) := by
 unfold Builtin.zeroCells flatK
 have h : (aggR refZ).cells = #[.int .i64 0, .string ⟨#[]⟩, .string ⟨#[]⟩] := rfl
 rw [h, Array.size_replicate]
 show (Array.range (n * 3)).map _ = (Array.range (n * 3)).map _
 congr 1
 funext t
 rw [repl_get]
 show (#[Value.int .i64 0, .string ⟨#[]⟩, .string ⟨#[]⟩])[t % 3]! = [Value.int .i64 0, .string ⟨#[]⟩, .string ⟨#[]⟩][t % 3]!
 have h3 : t % 3 < 3 := Nat.mod_lt _ (by decide)
 rcases h4 : t % 3 with _ | _ | _ | j
 ·rfl
 ·rfl
 ·rfl
 ·omega

theorem run_clear_R (w : World) (t ty : TypeId) (ht : Tryz.prog.underlying t = some (.slice 23)) (b c kk m : Nat) (hm : 0 < m) (dk : Array ARef) (hH : HoldsK encR 3 w b 0 dk) (hk : kk + m ≤ dk.size) :
 (Builtin.clear_ #[t] ty #[.slice (some ⟨b, kk * 3, none⟩) m c]).run Tryz.prog w = .ok (.tuple #[]) (w.setCells b (kk * 3) (flatK encR 3 (Array.replicate m refZ)).toList) := by
 have hv := Tryz.zeroValue23
 have hst := stores_of_holds Tryz.prog (W := w) (blk := b) (off := 0) hH (kk * 3) (flatK encR 3 (Array.replicate m refZ)).toList (by simp; omega) (fun v hv => by
  obtain ⟨i, hi, rfl⟩ := List.getElem_of_mem hv
  have hi' : i < m * 3 := by simpa using hi
  have e : (flatK encR 3 (Array.replicate m refZ)).toList[i] = (encR refZ)[i % 3]! := by
   have := get_flatK encR 3 (Array.replicate m refZ) i (by simpa using hi')
   rw [repl_get, getElem!_pos _ _ (by simpa using hi')] at this
   simpa using this
  rw [e]
  refine encR_one refZ _ ?_
  have h3 : i % 3 < 3 := Nat.mod_lt _ (by decide)
  rw [getElem!_pos _ _ (by simpa using h3)]
  exact List.getElem_mem _)
 simp only [Nat.zero_add] at hst
 rw [← zero_R] at hst ⊢
 obtain ⟨m, rfl⟩ : ∃ k, m = k + 1 := ⟨m - 1, by omega⟩
 simp only [aggR, refZ] at hst ⊢
 simp [Builtin.clear_, run_underlying ht, hv, hst]
end

open Go.Lib Go.Sort in
set_option maxHeartbeats 4000000 in
set_option maxRecDepth 1000000 in
theorem mem_Compact (b cap : Nat) (d : Array ARef) (w : World) (hH : Sort.HoldsK encR 3 w b 0 d) (hsz : d.size ≤ 1000000) (hcap : d.size ≤ cap) :
 Calls Tryz.prog 61 #[.slice (some ⟨b, 0, none⟩) d.size cap] w fun e w' => e = .returned (.slice (some ⟨b, 0, none⟩) (Lib.compactUpTo d d.size).length cap) ∧ ∃ q, w' = Sort.putRowK encR 3 (Sort.ahead w q) b 0 (Lib.compactUpTo d d.size ++ List.replicate (d.size - (Lib.compactUpTo d d.size).length) refZ).toArray := by
 have heq' := eqop_R
 have hne' := neqop_R
 have same : ∀ q, (∀ j, j < d.size → keeps d j = true) → (compactUpTo d d.size).length = d.size ∧ w.drewN q = putRowK encR 3 (Sort.ahead w q) b 0 (compactUpTo d d.size ++ List.replicate (d.size - (compactUpTo d d.size).length) refZ).toArray := by
  intro q hall
  have e : compactUpTo d d.size = d.toList := by rw [compactUpTo_all d _ hall, range_map_get]
  rw [e]
  refine ⟨by simp, ?_⟩
  simp only [Array.length_toList, Nat.sub_self, List.replicate_zero, List.append_nil, Array.toArray_toList]
  exact (putRowK_self encR 3 (Sort.ahead w q) b 0 d (holdsK_ahead encR 3 w q b 0 d hH)).symm
 have HS : Aside (∀ q, (∀ j, j < d.size → keeps d j = true) → (compactUpTo d d.size).length = d.size ∧ w.drewN q = putRowK encR 3 (Sort.ahead w q) b 0 (compactUpTo d d.size ++ List.replicate (d.size - (compactUpTo d d.size).length) refZ).toArray) := same
 clear same
 by_cases h2 : d.size < 2
 ·have HH : Aside (HoldsK encR 3 w b 0 d) := hH
  clear hH
  go_enter Tryz.func61, Tryz.ntmps61
  go_wp2
  go_ret
  obtain ⟨e1, e2⟩ := HS.out 0 (fun j hj => keeps_lt_one d j (by omega))
  exact ⟨by rw [e1]; rfl, 0, e2⟩
 ·go_enter Tryz.func61, Tryz.ntmps61
  go_wp2
  go_loopg [3] d.size (fun g s3 wr => ∃ k q : Nat, 1 ≤ k ∧ k ≤ d.size ∧ d.size - k ≤ g ∧ s3 = .int .i64 k ∧ wr = w.drewN q ∧ ∀ j, j < k → keeps d j = true)
  case atStart => exact ⟨1, 0, Nat.le_refl _, by omega, by omega, rfl, rfl, keeps_lt_one d⟩
  case round =>
   obtain ⟨k, q, hk1, hk, hg, rfl, rfl, hall⟩ := hrel
   by_cases hlt : k < d.size
   ·have A : Aside (∀ j, j < k → keeps d j = true) := hall
    have HH : Aside (HoldsK encR 3 w b 0 d) := hH
    clear hall hH
    obtain ⟨⟨p0, p1, p2⟩, _⟩ := HoldsR.cells (w := w.drewN q) (b := b) (show HoldsK encR 3 (w.drewN q) b 0 d from HH) hlt
    obtain ⟨⟨r0, r1, r2⟩, _⟩ := HoldsR.cells (w := w.drewN q) (b := b) (show HoldsK encR 3 (w.drewN q) b 0 d from HH) (show k - 1 < d.size by omega)
    generalize hxk : d[k]! = x at p0 p1 p2
    generalize hyk : d[k - 1]! = y at r0 r1 r2
    have B : Aside (d[k]! = x ∧ d[k - 1]! = y) := ⟨hxk, hyk⟩
    clear hxk hyk
    generalize hwq : w.drewN q = wq at p0 p1 p2 r0 r1 r2 ⊢
    by_cases hdup : x = y
    ·have hD : Sem.run Tryz.prog (binOp .eql 23 (aggR x) (aggR y)) = fun w => .ok (.bool true) w := by funext w; rw [heq', decide_eq_true hdup]
     simp only [aggR] at hD
     go_wp2_with fail
     go_quiet (fail)
     go_wp2
     clear p0 p1 p2 r0 r1 r2 hD
     subst hwq
     go_loopg [3, 5] d.size (fun g s3 s5 wr => ∃ (kk k2 q2 : Nat) (dk : Array ARef), s3 = .int .i64 kk ∧ s5 = .int .i64 k2 ∧ 1 ≤ k2 ∧ k + k2 ≤ d.size ∧ d.size - (k + k2) ≤ g ∧ wr = putRowK encR 3 (Sort.ahead w q2) b 0 dk ∧ CompInv d (k + k2) kk dk)
     case atStart => exact ⟨k, 1, q + nq, d, rfl, rfl, Nat.le_refl _, by omega, by omega, (putRowK_self encR 3 (Sort.ahead w (q + nq)) b 0 d (holdsK_ahead encR 3 w (q + nq) b 0 d HH.out)).symm ▸ (by rw [World.drewN_drewN]; rfl), CompInv.start A.out (keeps_neg (by omega) (by rw [B.out.1, B.out.2, hdup]))⟩
     case round =>
      obtain ⟨kk, k2, q2, dk, rfl, rfl, h1, hle, hg2, hwr, hI⟩ := hrel
      have hkk := hI.lt
      have hds := hI.size
      have hHk : HoldsK encR 3 wr b 0 dk := by rw [hwr]; exact holdsK_putRowK encR 3 _ b 0 d dk (holdsK_ahead encR 3 w q2 b 0 d HH.out) hds
      have W2 : Aside (wr = putRowK encR 3 (Sort.ahead w q2) b 0 dk) := hwr
      have I2 : Aside (CompInv d (k + k2) kk dk) := hI
      clear hwr
      by_cases hlt2 : k + k2 < d.size
      ·obtain ⟨⟨m0, m1, m2⟩, _⟩ := HoldsR.cells hHk (i := k + k2) (by omega)
       obtain ⟨⟨r0, r1, r2⟩, _⟩ := HoldsR.cells hHk (i := k + (k2 - 1)) (by omega)
       obtain ⟨⟨c0, c1, c2⟩, f0, f1, f2⟩ := HoldsR.cells hHk (i := kk) (by omega)
       rw [hI.high (k + k2) (by omega), Nat.add_mul] at m0 m1 m2
       rw [hI.high (k + (k2 - 1)) (by omega), Nat.add_mul] at r0 r1 r2
       clear hHk hI
       generalize hu : d[k + k2]! = u at m0 m1 m2
       generalize hv : d[k + (k2 - 1)]! = v at r0 r1 r2
       generalize dk[kk]! = old at c0 c1 c2
       have C : Aside (d[k + k2]! = u ∧ d[k + k2 - 1]! = v) := ⟨hu, by rw [← hv, show k + k2 - 1 = k + (k2 - 1) by omega]⟩
       clear hu hv
       by_cases huv : u = v
       ·have hD : Sem.run Tryz.prog (binOp .neq 23 (aggR u) (aggR v)) = fun w => .ok (.bool false) w := by funext w; rw [hne', decide_eq_true huv]; rfl
        simp only [aggR] at hD
        go_wp2_with fail
        go_quiet (fail)
        go_wp2
        go_roundg (d.size - (k + (k2 + 1)))
        case measure => omega
        case rel => exact ⟨kk, k2 + 1, q2 + nq, dk, rfl, by go_num, by omega, by omega, Nat.le_refl _, by rw [show wr = _ from W2]; exact putRowK_drewN encR 3 w q2 nq b 0 dk, I2.out.skip (keeps_neg (by omega) (by rw [C.out.1, C.out.2, huv]))⟩
       ·have hD : Sem.run Tryz.prog (binOp .neq 23 (aggR u) (aggR v)) = fun w => .ok (.bool true) w := by funext w; rw [hne', decide_eq_false huv]; rfl
        simp only [aggR] at hD
        go_wp2_with fail
        go_quiet (fail)
        go_wp2_with fail
        go_roundg (d.size - (k + (k2 + 1)))
        case measure => omega
        case rel => exact ⟨kk + 1, k2 + 1, q2 + nq, dk.setIfInBounds kk u, by go_num, by go_num, by omega, by omega, Nat.le_refl _, store_R (by omega) W2 u, by have := I2.out.keep hlt2 (keeps_pos (by rw [C.out.1, C.out.2]; exact huv)); rwa [C.out.1] at this⟩
      ·have hend : k + k2 = d.size := by omega
       have hcl : ∀ ty, (Builtin.clear_ #[38] ty #[.slice (some ⟨b, kk * 3, none⟩) (d.size - kk) (cap - kk)]).run Tryz.prog wr = .ok (.tuple #[]) (wr.setCells b (kk * 3) (flatK encR 3 (Array.replicate (d.size - kk) refZ)).toList) :=
        fun ty => run_clear_R wr _ ty Tryz.underlying38 b _ kk (d.size - kk) (by omega) dk hHk (by omega)
       clear hHk hI
       go_wp2
       go_ret
       have hI := I2.out
       rw [hend] at hI
       refine ⟨by rw [hI.len]; rfl, q2, ?_⟩
       rw [hI.len, ← hI.done refZ, show wr = _ from W2]
       have h := setCells_putRow (Sort.ahead w q2) b 0 (flatK encR 3 (Array.replicate (d.size - kk) refZ)).toList (kk * 3) (flatK encR 3 dk) (by simp; omega)
       rw [Nat.zero_add, setMany_lay dk kk _ (by omega)] at h
       exact h
    ·have hD : Sem.run Tryz.prog (binOp .eql 23 (aggR x) (aggR y)) = fun w => .ok (.bool false) w := by funext w; rw [heq', decide_eq_false hdup]
     simp only [aggR] at hD
     go_wp2_with fail
     go_quiet (fail)
     go_wp2
     go_roundg (d.size - (k + 1))
     case measure => omega
     case rel =>
      refine ⟨k + 1, q + nq, by omega, by omega, Nat.le_refl _, by go_num, by rw [← hwq, World.drewN_drewN], fun j hj => ?_⟩
      by_cases e : j = k
      ·subst e
       exact keeps_pos (by rw [B.out.1, B.out.2]; exact hdup)
      ·exact A.out j (by omega)
   ·have : k = d.size := by omega
    subst this
    have HH : Aside (HoldsK encR 3 w b 0 d) := hH
    clear hH
    go_wp2
    go_ret
    obtain ⟨e1, e2⟩ := HS.out q hall
    exact ⟨by rw [e1]; rfl, q, e2⟩


abbrev refComp (l : List ARef) : List ARef := Lib.compact l

theorem empty_inv {Fz : Nat → Nat → Prop} {w : World} {v : Value} (h : PRep Fz w v (.slice [])) : ∃ a cap, v = .slice a 0 cap := by
 generalize hE : ([] : List (List PD)) = E at h
 cases h with
 | empty a cap => exact ⟨a, cap, rfl⟩
 | slice _ _ n _ _ _ _ hn hpos => rw [← hE] at hn; simp at hn; omega

theorem sort_none {st : St} {t : Nat} {e : TypeId} {K : D → St → Prop} (hk : K (.tup []) st) :
 CallW Tryz.prog 60 [.own e 3 (rows ARef.pd []) t, .fn 20 []] st K := by
 refine ⟨enters_of Tryz.func60 rfl rfl, fun C g a w vs hP hs hr => ?_⟩
 simp only [Reps] at hr
 obtain ⟨v0, vs0, rfl, h0, v1, vs1, rfl, h1, rfl⟩ := hr
 simp only [Rep] at h0 h1
 obtain ⟨cv, rfl, hcv⟩ := h1
 simp only [Caps] at hcv
 subst hcv
 obtain ⟨p, cap, rfl⟩ := empty_inv h0.1
 refine (AnyF.slices_SortFunc_none Tryz.sortRef p cap _ w).mono ?_
 rintro ex w' ⟨rfl, rfl⟩
 exact ⟨.tuple #[], .tup [], st, g, rfl, hk, hs, by simp [Rep, Reps]⟩

theorem sort_effect {st : St} {l : List ARef} (hl : l ≠ []) (hle : l.length ≤ 1000000) {t : Nat} {e : TypeId} (hsolo : st.hs = .solo) {K : D → St → Prop}
 (hk : K (.tup []) ⟨updG t e 3 (rows ARef.pd (refSort l)) st.fr, updB t e 3 (rows ARef.pd (refSort l)) st.bs, [], st.hs⟩) :
 CallW Tryz.prog 60 [.own e 3 (rows ARef.pd l) t, .fn 20 []] st K :=
 sort_callW (enters_of Tryz.func60 rfl rfl) refs_sorted hl hle hsolo hk

theorem mem_Compact_none (p : Option Addr) (cap : Nat) (w : World) : Calls Tryz.prog 61 #[.slice p 0 cap] w fun e w' => e = .returned (.slice p 0 cap) ∧ w' = w := by
 go_enter Tryz.func61, Tryz.ntmps61
 go_wp2
 go_ret
 exact ⟨rfl, rfl⟩

theorem compact_none {st : St} {t : Nat} {e : TypeId} {K : D → St → Prop} (hk : K (.pd (.slice (rows ARef.pd []))) st) :
 CallW Tryz.prog 61 [.own e 3 (rows ARef.pd []) t] st K := by
 refine ⟨enters_of Tryz.func61 rfl rfl, fun C g a w vs hP hs hr => ?_⟩
 simp only [Reps] at hr
 obtain ⟨v0, vs0, rfl, h0, rfl⟩ := hr
 simp only [Rep] at h0
 obtain ⟨p, cap, rfl⟩ := empty_inv h0.1
 refine (mem_Compact_none p cap w).mono ?_
 rintro ex w' ⟨rfl, rfl⟩
 exact ⟨_, .pd (.slice (rows ARef.pd [])), st, g, rfl, hk, hs, by simp only [Rep]; exact h0.1⟩

theorem compact_len (l : List ARef) : (refComp l).length ≤ l.length := by
 unfold refComp Lib.compact Lib.compactUpTo
 rw [List.length_map]
 exact Nat.le_trans (List.length_filter_le _ _) (by simp)

theorem compact_effect {st : St} {l : List ARef} (hl : l ≠ []) (hle : l.length ≤ 1000000) {t : Nat} {e : TypeId} (hsolo : st.hs = .solo) {K : D → St → Prop}
 (hk : ∀ r, K (.pd (.slice (rows ARef.pd (refComp l)))) ⟨updG t e 3 r st.fr, updB t e 3 r st.bs, [], st.hs⟩) :
 CallW Tryz.prog 61 [.own e 3 (rows ARef.pd l) t] st K := by
 refine ⟨enters_of Tryz.func61 rfl rfl, fun C g a w vs hP hs hr => ?_⟩
 simp only [Reps] at hr
 obtain ⟨v0, vs0, rfl, h0, rfl⟩ := hr
 simp only [Rep] at h0
 obtain ⟨hpr, htk, hlens⟩ := h0
 have m := hs.mem
 obtain ⟨ie, n, xs, hie, hpos, hown, hfz⟩ := m.tks t _ _ htk
 obtain ⟨hxl, hform⟩ := hown
 rcases hform with ⟨rfl, hn0, _⟩ | ⟨b, cap, cur, rfl, hb0, hold, hnc, hcm, hcs, htake⟩
 ·exfalso
  generalize hE : rows ARef.pd l = E at hpr
  cases hpr with
  | empty => exact hl (List.map_eq_nil_iff.1 hE)
 have hR := RowR.of hl hpr
 have hlen := hR.hlen
 have hmax := hR.hmax
 have hcap := hR.hcap
 have hbl : b < w.heap.size := (Array.getElem?_eq_some_iff.1 hold).1
 subst hlen
 have hc := mem_Compact b cap l.toArray w (hR.holds hold) (by simpa using hle) (by simpa using hcap)
 have e1 : l.toArray.size = l.length := by simp
 rw [e1] at hc
 refine hc.mono ?_
 rintro ex w' ⟨rfl, q, rfl⟩
 have hcl := compact_len l
 obtain ⟨l', hl'⟩ : ∃ l', l' = refComp l ++ List.replicate (l.length - (refComp l).length) refZ := ⟨_, rfl⟩
 have hll : l'.length = l.length := by rw [hl', List.length_append, List.length_replicate]; omega
 have hne : l' ≠ [] := fun e => hl (List.length_eq_zero_iff.1 (by rw [← hll, e]; rfl))
 rw [show (Lib.compactUpTo l.toArray l.length ++ List.replicate (l.length - (Lib.compactUpTo l.toArray l.length).length) refZ) = l' from hl'.symm]
 have hH : Sort.HoldsK encR 3 (Sort.putRowK encR 3 (Sort.ahead w q) b 0 l'.toArray) b 0 l'.toArray :=
  Sort.holdsK_putRowK _ _ _ _ _ l.toArray _ (Sort.holdsK_ahead _ _ _ _ _ _ _ (hR.holds hold)) (by simpa using hll)
 have hR' := hR.of_holds hll hH
 have hg := grownBy_K (w := w) (b := b) (n := q) (os := #[]) (Sort.flatK encR 3 l'.toArray)
 have hh := heap_K (n := q) (os := #[]) (Sort.flatK encR 3 l'.toArray) hold
 rw [Sort.grow_empty] at hg hh
 refine ⟨_, .pd (.slice (rows ARef.pd (refComp l))), _, g, rfl, hk (rows ARef.pd l'), hs.newrow htk hsolo hg hold hh (by simp [Sort.putCells]) (hR'.rep hne) (rows_row (f := ARef.pd) (n := 3) (fun _ => rfl) _), ?_⟩
 simp only [Rep]
 by_cases hc0 : refComp l = []
 ·rw [hc0, show (Lib.compactUpTo l.toArray l.length).length = 0 by rw [show Lib.compactUpTo l.toArray l.length = refComp l from rfl, hc0]; rfl]
  exact .empty _ _
 ·refine RowR.rep (l := refComp l) ⟨rfl, by rw [show Lib.compactUpTo l.toArray l.length = refComp l from rfl]; omega, by rw [show Lib.compactUpTo l.toArray l.length = refComp l from rfl]; omega, fun j i x u hx hu => ?_⟩ hc0
  exact hR'.hcell j i x u (by rw [hl', List.getElem?_append_left (List.getElem?_eq_some_iff.1 hx).1]; exact hx) hu

end Go.Proofs.YtbjaopoipkphnaaGreatDoor



namespace Go.Proofs.YtbjaopoipkphnaaGreatDoor
open Go Go.RowKit
set_option linter.unusedSimpArgs false
set_option linter.unusedVariables false
set_option maxRecDepth 100000

def few (s : ByteArray) : ByteArray := if s.size ≤ 100 then s else s.extract 0 100

set_option maxRecDepth 100000 in
theorem law1_Few (s : ByteArray) : Pure Tryz.prog 21 [str s] (fun d => d = str (few s)) := by
 refine pure_of_run follows an_zba9k Tryz.func21 rfl ok_zba9k.1 ok_zba9k.2 (by simp [Tryz.ntmps21]) ?_
 rw [run_start]
 by_cases h : 100 < s.size
 ·have h1 : (100 : Int) < (s.size : Int) := by omega
  have h2 : 100 ≤ s.size := by omega
  simp only [ac_zba9k, go_sem, simprocAttr, h1, h2]
  simp only [retK, resD, retL, oneD, simprocAttr, Tryz.results21]
  exact ⟨_, rfl, rfl, by simp [few, show ¬ s.size ≤ 100 by omega, D.pub]⟩
 ·have h1 : ¬ (100 : Int) < (s.size : Int) := by omega
  simp only [ac_zba9k, go_sem, simprocAttr, h1]
  simp only [retK, resD, retL, oneD, simprocAttr, Tryz.results21]
  exact ⟨_, rfl, rfl, by simp [few, show s.size ≤ 100 by omega, D.pub]⟩

def fewRef (r : ARef) : ARef := ⟨r.kind, few r.space, few r.name⟩

set_option maxRecDepth 100000 in
theorem law9_FewRef (r : ARef) : Pure Tryz.prog 19 [r.d] (fun d => d = (fewRef r).d) := by
 refine pure_of_run follows an_zn42u Tryz.func19 rfl ok_zn42u.1 ok_zn42u.2 (by simp [Tryz.ntmps19]) ?_
 rw [run_start]
 simp only [ac_zn42u, go_sem, simprocAttr, go_sem]
 refine (law1_Few r.space).callX (enters_of Tryz.func21 rfl rfl) _ rfl rfl ?_
 rintro d rfl
 simp only [go_sem, simprocAttr, go_sem]
 refine (law1_Few r.name).callX (enters_of Tryz.func21 rfl rfl) _ rfl rfl ?_
 rintro d rfl
 simp only [go_sem, simprocAttr, go_sem]
 simp only [retK, resD, resA, AOp.ex, St.ev, retL, oneD, simprocAttr, ret_zn42u]
 exact ⟨_, rfl, rfl, rfl⟩


theorem Reps.tell {g : Gh} {w : World} {d : D} : ∀ {ds : List D} {vs : List Value} (_ : Reps g w ds vs) (i : Nat) (_ : ∀ v, vs[i]? = some v → Rep g w d v), Reps g w (ds.set i d) vs
 | [], _, h, _, _ => by simpa using h
 | e :: ds, _, h, i, hd => by
   simp only [Reps] at h
   obtain ⟨v, vs', rfl, hv, hs⟩ := h
   cases i with
   | zero => exact ⟨v, vs', rfl, hd v rfl, hs⟩
   | succ i => exact ⟨v, vs', rfl, hv, Reps.tell hs i (fun u hu => hd u (by simpa using hu))⟩

theorem SR.tellB {C : Ctx} {st : St} {g : Gh} {a : Act} {w : World} (h : SR C st g a w) {n : Nat} {ds ds' : List D} (hn : lk st.bs n = some ds) (hd : ∀ vs, Reps g w ds vs → Reps g w ds' vs) : SR C { st with bs := (n, ds') :: st.bs } g a w := by
 have m := h.mem
 refine ⟨h.defers, h.size, h.rep, { m with bxs := fun k es hk => ?_ }, h.x, h.fix⟩
 simp only [lk] at hk
 split at hk
 ·rename_i hkn
  subst hkn
  cases hk
  obtain ⟨b, cs, t, h1, h2, h3⟩ := m.bxs _ ds hn
  exact ⟨b, cs, t, h1, h2, hd _ h3⟩
 ·exact m.bxs k es hk

theorem purges_at : ∀ (t : Nat) (ds : List D) (i : Nat), ds[i]? = some .nils → (D.purges t ds)[i]? = some .nils
 | _, [], _, h => by simp at h
 | t, d :: ds, 0, h => by
   simp only [List.getElem?_cons_zero, Option.some.injEq] at h
   subst h
   simp [D.purges, D.purge]
 | t, d :: ds, i + 1, h => by
   simp only [List.getElem?_cons_succ] at h
   simpa [D.purges] using purges_at t ds i h

theorem lk_purge {st : St} {t n : Nat} {ds : List D} (h : lk st.bs n = some ds) : lk (st.purge t).bs n = some (D.purges t ds) := by
 simp only [St.purge]
 rw [lk_map (fun ds => D.purges t ds) st.bs n, h]; rfl

theorem Weak.ownB0 {P : Program} {st : St} (n i t : Nat) (e : TypeId) {ti : TypeInfo} (hi : P.info? e = some ti) (hpos : 0 < ti.size) {ds : List D} (h : lk st.bs n = some ds) (hn : ds[i]? = some .nils) :
 Weak P st { st.purge t with bs := (n, (D.purges t ds).set i (.own e ti.size [] t)) :: (st.purge t).bs } := by
 intro C g a w hP hs
 subst hP
 have h1 := hs.purge t
 obtain ⟨h2, _⟩ := SR.owned h1 t (by simp) (grownBy_same w none) _ h1.x (fun k e => by cases e) (fun _ h => h) (fun k e => by cases e) e ti hi hpos (.slice none 0 0) 0 [] (World.ownsRow_nil _ _ _ _) (fun b hb => by cases hb) (fun b o _ hb => by cases hb)
 refine ⟨_, h2.tellB (lk_purge h) fun vs hv => ?_⟩
 refine hv.tell i fun v hvi => ?_
 obtain ⟨u, hu, hr⟩ := hv.get i _ (purges_at t ds i hn)
 rw [hvi] at hu
 cases hu
 simp only [Rep] at hr
 rw [hr]
 simp only [Rep]
 exact ⟨.empty _ _, by simp, by simp⟩

theorem Weak.ownB {P : Program} {st st' : St} (n i t : Nat) (e : TypeId) (sz : Nat) (hi : (P.info? e).map (·.size) = some sz) (hpos : 0 < sz) {ds : List D} (h : lk st.bs n = some ds) (hn : ds[i]? = some .nils)
 (hf : lessL st'.fr (st.purge t).fr) (hb : lessL st'.bs ((n, (D.purges t ds).set i (.own e sz [] t)) :: (st.purge t).bs)) (hm : lessL st'.ms st.ms) (hh : st'.hs = st.hs) : Weak P st st' := by
 obtain ⟨ti, h1, rfl⟩ := Option.map_eq_some_iff.1 hi
 exact (Weak.ownB0 n i t e h1 hpos h hn).trans (Weak.less hf hb hm hh)

theorem few_size (s : ByteArray) : (few s).size ≤ 100 := by
 unfold few
 split
 ·assumption
 ·simp [ByteArray.size_extract]; omega


def nearR (r : ARef) (s : ByteArray) : ARef := if r.space = ⟨#[]⟩ ∧ 2 < r.kind then { r with space := s } else r

set_option maxHeartbeats 2000000 in
theorem add_own (r : ARef) (o : AObj) (L : List ARef) (hL : L.length ≤ 1000000) :
 Full Tryz.prog 59 [r.d, .ptr 1000001 0, .ptr 500003 0] [(1000001, o.ds), (500003, [.own 23 3 (rows ARef.pd L) 500001])] true
  (fun d bs => d = .tup [] ∧ bs = [(500003, [.own 23 3 (rows ARef.pd (L ++ [nearR r o.ref.space])) 19])]) := by
 refine full_of_run follows an_zvrbp Tryz.func59 rfl ok_zvrbp.1 ok_zvrbp.2 (by simp [Tryz.ntmps59]) (by simp [Tryz.ntmps59]) (.inl rfl) ?_
 rw [run_start]
 simp only [ac_zvrbp, go_sem, simprocAttr]
 refine GifP.mk (fun h1 => ?_) (fun h1 => ?_)
 ·refine GifP.mk (fun h2 => ?_) (fun h2 => ?_)
  ·have e : nearR r o.ref.space = ⟨r.kind, o.ref.space, r.name⟩ := by unfold nearR; rw [if_pos ⟨h1, h2⟩]
   rw [e]
   refine ⟨by simp, by unfold maxLen; omega, by omega, ?_⟩
   rw [show rows ARef.pd L ++ [[PD.raw (Value.int IntKind.i64 r.kind), PD.raw (Value.string o.ref.space), PD.raw (Value.string r.name)]] = rows ARef.pd (L ++ [⟨r.kind, o.ref.space, r.name⟩]) from rows_one L ⟨r.kind, o.ref.space, r.name⟩]
   simp only [retK, fullK, resD, retL, oneD, simprocAttr, Tryz.results59]
   exact ⟨_, _, rfl, by simp [lessL, lk], rfl, rfl⟩
  ·have e : nearR r o.ref.space = r := by unfold nearR; rw [if_neg (fun h => h2 h.2)]
   rw [e]
   refine ⟨by simp, by unfold maxLen; omega, by omega, ?_⟩
   rw [show rows ARef.pd L ++ [[PD.raw (Value.int IntKind.i64 r.kind), PD.raw (Value.string r.space), PD.raw (Value.string r.name)]] = rows ARef.pd (L ++ [r]) from rows_one L r]
   simp only [retK, fullK, resD, retL, oneD, simprocAttr, Tryz.results59]
   exact ⟨_, _, rfl, by simp [lessL, lk], rfl, rfl⟩
 ·have e : nearR r o.ref.space = r := by unfold nearR; rw [if_neg (fun h => h1 h.1)]
  rw [e]
  refine ⟨by simp, by unfold maxLen; omega, by omega, ?_⟩
  rw [show rows ARef.pd L ++ [[PD.raw (Value.int IntKind.i64 r.kind), PD.raw (Value.string r.space), PD.raw (Value.string r.name)]] = rows ARef.pd (L ++ [r]) from rows_one L r]
  simp only [retK, fullK, resD, retL, oneD, simprocAttr, Tryz.results59]
  exact ⟨_, _, rfl, by simp [lessL, lk], rfl, rfl⟩

set_option maxHeartbeats 2000000 in
theorem add_nil (r : ARef) (o : AObj) :
 Full Tryz.prog 59 [r.d, .ptr 1000001 0, .ptr 500003 0] [(1000001, o.ds), (500003, [.nils])] true
  (fun d bs => d = .tup [] ∧ bs = [(500003, [.own 23 3 (rows ARef.pd [nearR r o.ref.space]) 19])]) := by
 refine full_of_run follows an_zvrbp Tryz.func59 rfl ok_zvrbp.1 ok_zvrbp.2 (by simp [Tryz.ntmps59]) (by simp [Tryz.ntmps59]) (.inl rfl) ?_
 rw [run_start]
 simp only [ac_zvrbp, go_sem, simprocAttr]
 refine GifP.mk (fun h1 => ?_) (fun h1 => ?_)
 ·refine GifP.mk (fun h2 => ?_) (fun h2 => ?_)
  ·have e : nearR r o.ref.space = ⟨r.kind, o.ref.space, r.name⟩ := by unfold nearR; rw [if_pos ⟨h1, h2⟩]
   rw [e]
   refine ⟨by simp, by simp [maxLen], ?_⟩
   simp only [retK, fullK, resD, retL, oneD, simprocAttr, Tryz.results59]
   exact ⟨_, _, rfl, by simp [lessL, lk], rfl, rfl⟩
  ·have e : nearR r o.ref.space = r := by unfold nearR; rw [if_neg (fun h => h2 h.2)]
   rw [e]
   refine ⟨by simp, by simp [maxLen], ?_⟩
   simp only [retK, fullK, resD, retL, oneD, simprocAttr, Tryz.results59]
   exact ⟨_, _, rfl, by simp [lessL, lk], rfl, rfl⟩
 ·have e : nearR r o.ref.space = r := by unfold nearR; rw [if_neg (fun h => h1 h.1)]
  rw [e]
  refine ⟨by simp, by simp [maxLen], ?_⟩
  simp only [retK, fullK, resD, retL, oneD, simprocAttr, Tryz.results59]
  exact ⟨_, _, rfl, by simp [lessL, lk], rfl, rfl⟩

structure AObj.few (o : AObj) : Prop where
 li : o.listeners.length ≤ 100
 pa : o.parents.length ≤ 100
 ru : o.rules.length ≤ 100
 ba : ∀ r ∈ o.rules, r.backends.length ≤ 100

theorem fstep {α : Type} {p : α → Bool} {l : List α} {i : Nat} {x : α} (hx : l[i]? = some x) : (l.take (i + 1)).filter p = (l.take i).filter p ++ if p x = true then [x] else [] := by
 rw [take_at hx, List.filter_append]
 cases h : p x <;> simp [h]

def refsCls (o : AObj) : List ARef := if o.cls = ⟨#[]⟩ then [] else [nearR ⟨1, ⟨#[]⟩, o.cls⟩ o.ref.space]
def refsLis (s : ByteArray) (l : List AListener) : List ARef := (l.filter fun x => x.tls).map fun x => nearR x.cert s
def refsPar (s : ByteArray) (l : List AParent) : List ARef := l.map fun p => nearR ⟨5, p.space, p.name⟩ s
def refsBack (s : ByteArray) (l : List ABackend) : List ARef := l.map fun b => nearR b.ref s
def refsRul (s : ByteArray) (l : List ARule) : List ARef := l.flatMap fun r => refsBack s r.backends
def refsOwn (o : AObj) : List ARef := if o.ref.kind = 6 then [nearR ⟨2, ⟨#[]⟩, o.ref.space⟩ o.ref.space] else []
def refsList (o : AObj) : List ARef := refsCls o ++ refsLis o.ref.space o.listeners ++ refsPar o.ref.space o.parents ++ refsRul o.ref.space o.rules ++ refsOwn o

theorem refs_nil : refComp (refSort []) = [] := by simp [refSort, refComp, Lib.compact, Lib.compactUpTo]

def refsOf (o : AObj) : List ARef := if objMay o = true then refComp (refSort (refsList o)) else []

set_option maxHeartbeats 8000000 in
theorem object_Refs (o : AObj) (h : o.ok) (hf : o.few) : Pure Tryz.prog 17 [o.d] (fun d => d = .pd (.slice (rows ARef.pd (refsOf o)))) := by
 have hl1 := hf.li
 have hl2 := hf.pa
 have hl3 := hf.ru
 refine pure_of_run_solo follows an_znvpm Tryz.func17 rfl ok_znvpm.1 ok_znvpm.2 (by simp [Tryz.ntmps17]) ?_
 rw [run_start]
 simp only [ac_znvpm, go_sem, simprocAttr]
 refine (object_May o h).callW (enters_of Tryz.func11 rfl rfl) _ rfl rfl ?_
 rintro _ rfl
 unfold refsOf
 cases objMay o
 ·simp only [go_sem, simprocAttr]
  simp only [retK, resD, retL, oneD, simprocAttr, Tryz.results17]
  exact ⟨_, rfl, rfl, rfl⟩
 rw [if_pos rfl]
 obtain ⟨A, hA⟩ : ∃ A, A = refsCls o := ⟨_, rfl⟩
 have hAl : A.length ≤ 1 := by rw [hA]; unfold refsCls; split <;> simp
 by_cases hc : o.cls = ⟨#[]⟩
 case' pos =>
  have hc' := eq_true hc
  have hA0 : A = [] := by rw [hA]; unfold refsCls; rw [if_pos hc]
  simp only [go_sem, simprocAttr, hc', rows_len]
 case' neg =>
  have hc' := eq_false hc
  have hA0 : A = [nearR ⟨1, ⟨#[]⟩, o.cls⟩ o.ref.space] := by rw [hA]; unfold refsCls; rw [if_neg hc]
  simp only [go_sem, simprocAttr, hc']
  refine (add_nil ⟨1, ⟨#[]⟩, o.cls⟩ o).callW (enters_of Tryz.func59 rfl rfl) _ true [(1, 1000001), (3, 500003)] [] [] [(19, 27)] rfl rfl rfl ?_
  rintro d bs ⟨rfl, rfl⟩
  simp only [go_sem, simprocAttr]
 all_goals
  refine loopS (fun k st => ∃ (i : Nat) (L : List ARef), k = o.listeners.length - i ∧ i ≤ o.listeners.length ∧ L = A ++ refsLis o.ref.space (o.listeners.take i) ∧ L.length ≤ 1 + i ∧
   st = ⟨[(1, .ptr 1 0), (3, .ptr 3 0), (4, .fn 59 [(1, 0), (3, 0)]), (26, .pd (.slice (rows AListener.pd o.listeners))), (27, int o.listeners.length), (28, int i)], [(1, o.ds), (3, [.own 23 3 (rows ARef.pd L) 27])], [], .solo⟩) o.listeners.length _ ?_ ⟨0, A, rfl, by omega, by simp [refsLis], by omega, rfl⟩ ?_
  ·rw [hA0]
   first
    | exact Weak.ownB 3 0 27 23 3 (by kernel_rfl) (by decide) rfl rfl (by simp [lessL, lk, St.purge, D.purge, rows]) (by simp [lessL, lk, St.purge, D.purges, D.purge, rows]) (by simp [lessL]) rfl
    | exact Weak.less (by simp [lessL, lk]) (by simp [lessL, lk, rows]) (by simp [lessL, lk]) rfl
  rintro k st ⟨i, L, rfl, hi, hL, hLl, rfl⟩
  have hw := i64_succ (show i < 1000000000 by omega)
  by_cases hlt : i < o.listeners.length
  ·obtain ⟨x, hx⟩ := at_lt hlt
   have h1 : ((i : Int) < (o.listeners.length : Int)) = True := eq_true (by omega)
   have hfs := fstep (p := fun x : AListener => x.tls) hx
   cases ht : x.tls
   ·have hL' : L = A ++ refsLis o.ref.space (o.listeners.take (i + 1)) := by rw [hL]; unfold refsLis; rw [hfs, ht, if_neg (by simp), List.append_nil]
    simp only [go_sem, simprocAttr, rows_get hx, h1, ht, hw]
    refine ⟨o.listeners.length - (i + 1), _, by omega, ?_, i + 1, L, rfl, by omega, hL', by omega, rfl⟩
    exact lessA
   ·have hL' : L ++ [nearR x.cert o.ref.space] = A ++ refsLis o.ref.space (o.listeners.take (i + 1)) := by rw [hL]; unfold refsLis; rw [hfs, ht, if_pos rfl, List.map_append, List.append_assoc]; rfl
    simp only [go_sem, simprocAttr, rows_get hx, h1, ht]
    refine (add_own x.cert o L (by omega)).callW (enters_of Tryz.func59 rfl rfl) _ false [(1, 1000001), (3, 500003)] [(27, 500001)] [] [(19, 27)] rfl rfl rfl ?_
    rintro d bs ⟨rfl, rfl⟩
    simp only [go_sem, simprocAttr, hw]
    refine ⟨o.listeners.length - (i + 1), _, by omega, ?_, i + 1, _, rfl, by omega, hL', by simp; omega, rfl⟩
    exact lessA
  have h1 : ((i : Int) < (o.listeners.length : Int)) = False := eq_false (by omega)
  rw [List.take_of_length_le (by omega)] at hL
  obtain ⟨B, hB⟩ : ∃ B, B = L := ⟨_, rfl⟩
  rw [← hB] at hL hLl ⊢
  clear hB L
  have hBe := hL
  have hBl := hLl
  clear hL hLl
  simp only [go_sem, simprocAttr, h1]
  refine loopS (fun k st => ∃ (i : Nat) (L : List ARef), k = o.parents.length - i ∧ i ≤ o.parents.length ∧ L = B ++ refsPar o.ref.space (o.parents.take i) ∧ L.length ≤ 101 + i ∧
   st = ⟨[(1, .ptr 1 0), (3, .ptr 3 0), (4, .fn 59 [(1, 0), (3, 0)]), (40, .pd (.slice (rows AParent.pd o.parents))), (41, int o.parents.length), (42, int i)], [(1, o.ds), (3, [.own 23 3 (rows ARef.pd L) 27])], [], .solo⟩) o.parents.length _ ?_ ⟨0, B, rfl, by omega, by simp [refsPar], by omega, rfl⟩ ?_
  ·exact lessA
  rintro k st ⟨i, L, rfl, hi, hL, hLl, rfl⟩
  have hw := i64_succ (show i < 1000000000 by omega)
  by_cases hlt : i < o.parents.length
  ·obtain ⟨x, hx⟩ := at_lt hlt
   have h1 : ((i : Int) < (o.parents.length : Int)) = True := eq_true (by omega)
   have hL' : L ++ [nearR ⟨5, x.space, x.name⟩ o.ref.space] = B ++ refsPar o.ref.space (o.parents.take (i + 1)) := by rw [hL]; unfold refsPar; rw [take_at hx, List.map_append, List.append_assoc]; rfl
   simp only [go_sem, simprocAttr, rows_get hx, h1]
   refine (add_own ⟨5, x.space, x.name⟩ o L (by omega)).callW (enters_of Tryz.func59 rfl rfl) _ false [(1, 1000001), (3, 500003)] [(27, 500001)] [] [(19, 27)] rfl rfl rfl ?_
   rintro d bs ⟨rfl, rfl⟩
   simp only [go_sem, simprocAttr, hw]
   refine ⟨o.parents.length - (i + 1), _, by omega, ?_, i + 1, _, rfl, by omega, hL', by simp; omega, rfl⟩
   exact lessA
  have h1 : ((i : Int) < (o.parents.length : Int)) = False := eq_false (by omega)
  rw [List.take_of_length_le (by omega)] at hL
  obtain ⟨C, hC⟩ : ∃ C, C = L := ⟨_, rfl⟩
  rw [← hC] at hL hLl ⊢
  clear hC L
  have hCe := hL
  have hCl := hLl
  clear hL hLl
  simp only [go_sem, simprocAttr, h1]
  refine loopS (fun k st => ∃ (i : Nat) (L : List ARef), k = o.rules.length - i ∧ i ≤ o.rules.length ∧ L = C ++ refsRul o.ref.space (o.rules.take i) ∧ L.length ≤ 201 + i * 100 ∧
   st = ⟨[(1, .ptr 1 0), (3, .ptr 3 0), (4, .fn 59 [(1, 0), (3, 0)]), (55, .pd (.slice (rows ARule.pd o.rules))), (56, int o.rules.length), (57, int i)], [(1, o.ds), (3, [.own 23 3 (rows ARef.pd L) 27])], [], .solo⟩) o.rules.length _ ?_ ⟨0, C, rfl, by omega, by simp [refsRul], by omega, rfl⟩ ?_
  ·exact lessA
  rintro k st ⟨i, L, rfl, hi, hL, hLl, rfl⟩
  have hw := i64_succ (show i < 1000000000 by omega)
  by_cases hlt : i < o.rules.length
  ·obtain ⟨x, hx⟩ := at_lt hlt
   have h1 : ((i : Int) < (o.rules.length : Int)) = True := eq_true (by omega)
   have hb := hf.ba x (List.mem_of_getElem? hx)
   have hL' : L ++ refsBack o.ref.space x.backends = C ++ refsRul o.ref.space (o.rules.take (i + 1)) := by rw [hL]; unfold refsRul; rw [take_at hx, List.flatMap_append, List.append_assoc]; simp
   simp only [go_sem, simprocAttr, rows_get hx, h1]
   refine loopS (fun k st => ∃ (j : Nat) (M : List ARef), k = x.backends.length - j ∧ j ≤ x.backends.length ∧ M = L ++ refsBack o.ref.space (x.backends.take j) ∧ M.length ≤ 201 + i * 100 + j ∧
    st = ⟨[(1, .ptr 1 0), (3, .ptr 3 0), (4, .fn 59 [(1, 0), (3, 0)]), (55, .pd (.slice (rows ARule.pd o.rules))), (56, int o.rules.length), (57, int i), (62, .pd (.slice (rows ABackend.pd x.backends))), (63, int x.backends.length), (64, int j)], [(1, o.ds), (3, [.own 23 3 (rows ARef.pd M) 27])], [], .solo⟩) x.backends.length _ ?_ ⟨0, L, rfl, by omega, by simp [refsBack], by omega, rfl⟩ ?_
   ·exact lessA
   rintro k st ⟨j, M, rfl, hj, hM, hMl, rfl⟩
   have hwj := i64_succ (show j < 1000000000 by omega)
   by_cases hjl : j < x.backends.length
   ·obtain ⟨y, hy⟩ := at_lt hjl
    have h2 : ((j : Int) < (x.backends.length : Int)) = True := eq_true (by omega)
    have hM' : M ++ [nearR y.ref o.ref.space] = L ++ refsBack o.ref.space (x.backends.take (j + 1)) := by rw [hM]; unfold refsBack; rw [take_at hy, List.map_append, List.append_assoc]; rfl
    simp only [go_sem, simprocAttr, rows_get hy, h2]
    refine (add_own y.ref o M (by omega)).callW (enters_of Tryz.func59 rfl rfl) _ false [(1, 1000001), (3, 500003)] [(27, 500001)] [] [(19, 27)] rfl rfl rfl ?_
    rintro d bs ⟨rfl, rfl⟩
    simp only [go_sem, simprocAttr, hwj]
    refine ⟨x.backends.length - (j + 1), _, by omega, ?_, j + 1, _, rfl, by omega, hM', by simp; omega, rfl⟩
    exact lessA
   have h2 : ((j : Int) < (x.backends.length : Int)) = False := eq_false (by omega)
   rw [List.take_of_length_le (by omega)] at hM
   simp only [go_sem, simprocAttr, h2, hw]
   refine ⟨o.rules.length - (i + 1), _, by omega, ?_, i + 1, M, rfl, by omega, hM.trans hL', by omega, rfl⟩
   exact lessA
  have h1 : ((i : Int) < (o.rules.length : Int)) = False := eq_false (by omega)
  rw [List.take_of_length_le (by omega)] at hL
  by_cases h6 : o.ref.kind = 6
  case' pos =>
   have h6' := eq_true h6
   simp only [go_sem, simprocAttr, h1, h6']
   refine (add_own ⟨2, ⟨#[]⟩, o.ref.space⟩ o L (by omega)).callW (enters_of Tryz.func59 rfl rfl) _ false [(1, 1000001), (3, 500003)] [(27, 500001)] [] [(19, 27)] rfl rfl rfl ?_
   rintro d bs ⟨rfl, rfl⟩
   have hall : refsList o = L ++ [nearR ⟨2, ⟨#[]⟩, o.ref.space⟩ o.ref.space] := by unfold refsList refsOwn; rw [if_pos h6, hL, hCe, hBe, hA]
   have hlen : (L ++ [nearR ⟨2, ⟨#[]⟩, o.ref.space⟩ o.ref.space]).length ≤ 1000000 := by simp; omega
   generalize L ++ [nearR ⟨2, ⟨#[]⟩, o.ref.space⟩ o.ref.space] = M at hall hlen ⊢
   simp only [go_sem, simprocAttr]
  case' neg =>
   have h6' := eq_false h6
   have hall : refsList o = L := by unfold refsList refsOwn; rw [if_neg h6, List.append_nil, hL, hCe, hBe, hA]
   have hlen : L.length ≤ 1000000 := by omega
   generalize L = M at hall hlen ⊢
   simp only [go_sem, simprocAttr, h1, h6']
  all_goals
   rw [hall]
   by_cases hM : M = []
   ·subst hM
    refine sort_none ?_
    simp only [go_sem, simprocAttr]
    refine compact_none ?_
    simp only [go_sem, simprocAttr]
    simp only [retK, resD, retL, oneD, simprocAttr, Tryz.results17]
    exact ⟨_, rfl, rfl, by rw [refs_nil]; rfl⟩
   ·have hs : (refSort M).length = M.length := List.length_mergeSort _
    have hM' : refSort M ≠ [] := fun e => hM (List.length_eq_zero_iff.1 (by rw [← hs, e]; rfl))
    refine sort_effect hM hlen rfl ?_
    simp only [updG, updB, List.map_cons, List.map_nil, updR, if_true, go_sem, simprocAttr]
    refine compact_effect hM' (by omega) rfl (fun q => ?_)
    simp only [updG, updB, List.map_cons, List.map_nil, updR, if_true, go_sem, simprocAttr]
    simp only [retK, resD, retL, oneD, simprocAttr, Tryz.results17]
    exact ⟨_, rfl, rfl, rfl⟩


def keyMay (s n : ByteArray) : Bool := (decide (s = ⟨#[]⟩) || label s) && dname n
def keyOf (s n : ByteArray) : ByteArray := s ++ ⟨#[47]⟩ ++ n

theorem dns_Key (s n : ByteArray) : Pure Tryz.prog 67 [str s, str n] (fun d => d = if keyMay s n = true then .tup [str (keyOf s n), int 0] else .tup [str ⟨#[]⟩, int 1]) := by
 refine pure_of_run follows an_z77de Tryz.func67 rfl ok_z77de.1 ok_z77de.2 (by simp [Tryz.ntmps67]) ?_
 rw [run_start]
 by_cases h : keyMay s n = true
 ·rw [if_pos h]
  simp only [keyMay, Bool.and_eq_true, Bool.or_eq_true, decide_eq_true_eq] at h
  obtain ⟨h1, h2⟩ := h
  have z1 : s.size ≤ 20 := by
   rcases h1 with rfl | h1
   ·decide
   ·exact ((label_iff s).1 h1).2.1
  have z2 : n.size ≤ 60 := by
   simp only [dname, Bool.and_eq_true, decide_eq_true_eq] at h2
   exact h2.1
  have c1 : (s.size + #[(47 : UInt8)].size ≤ 9223372036854775807) = True := eq_true (by have : #[(47 : UInt8)].size = 1 := rfl; omega)
  have c2 : (s.size + #[(47 : UInt8)].size + n.size ≤ 9223372036854775807) = True := eq_true (by have : #[(47 : UInt8)].size = 1 := rfl; omega)
  have cN := dns_Name n
  rw [h2] at cN
  by_cases hs : s = ⟨#[]⟩
  ·have hs' := eq_true hs
   simp only [ac_z77de, go_sem, simprocAttr, hs']
   refine cN.callW (enters_of Tryz.func70 rfl rfl) _ rfl rfl ?_
   rintro _ rfl
   simp only [go_sem, simprocAttr, c1, c2]
   simp only [retK, resD, retL, oneD, simprocAttr, Tryz.results67]
   exact ⟨_, rfl, rfl, rfl⟩
  ·have hs' := eq_false hs
   have cL := dns_Label s
   rw [h1.resolve_left hs] at cL
   simp only [ac_z77de, go_sem, simprocAttr, hs']
   refine cL.callW (enters_of Tryz.func71 rfl rfl) _ rfl rfl ?_
   rintro _ rfl
   simp only [go_sem, simprocAttr]
   refine cN.callW (enters_of Tryz.func70 rfl rfl) _ rfl rfl ?_
   rintro _ rfl
   simp only [go_sem, simprocAttr, c1, c2]
   simp only [retK, resD, retL, oneD, simprocAttr, Tryz.results67]
   exact ⟨_, rfl, rfl, rfl⟩
 ·rw [if_neg h]
  have cN := dns_Name n
  have cL := dns_Label s
  by_cases hs : s = ⟨#[]⟩
  ·have hs' := eq_true hs
   have hn : dname n = false := by simpa [keyMay, hs] using h
   rw [hn] at cN
   simp only [ac_z77de, go_sem, simprocAttr, hs']
   refine cN.callW (enters_of Tryz.func70 rfl rfl) _ rfl rfl ?_
   rintro _ rfl
   simp only [go_sem, simprocAttr]
   simp only [retK, resD, retL, oneD, simprocAttr, Tryz.results67]
   exact ⟨_, rfl, rfl, rfl⟩
  ·have hs' := eq_false hs
   simp only [ac_z77de, go_sem, simprocAttr, hs']
   refine cL.callW (enters_of Tryz.func71 rfl rfl) _ rfl rfl ?_
   rintro _ rfl
   cases hl : label s
   ·simp only [go_sem, simprocAttr]
    simp only [retK, resD, retL, oneD, simprocAttr, Tryz.results67]
    exact ⟨_, rfl, rfl, rfl⟩
   ·have hn : dname n = false := by simpa [keyMay, hs, hl] using h
    rw [hn] at cN
    simp only [go_sem, simprocAttr]
    refine cN.callW (enters_of Tryz.func70 rfl rfl) _ rfl rfl ?_
    rintro _ rfl
    simp only [go_sem, simprocAttr]
    simp only [retK, resD, retL, oneD, simprocAttr, Tryz.results67]
    exact ⟨_, rfl, rfl, rfl⟩

theorem index_none {c : UInt8} : ∀ {l : List UInt8}, c ∉ l → Lib.indexByte l c < 0
 | [], _ => by show (-1 : Int) < 0; decide
 | b :: l, h => by
   have h1 : ¬ b = c := fun e => h (by rw [e]; exact List.mem_cons_self)
   have h2 := index_none (l := l) (fun e => h (List.mem_cons_of_mem _ e))
   have h3 := Lib.indexByte_ge l c
   unfold Lib.indexByte
   simp [h1]
   omega

theorem label_name {s : ByteArray} (h : label s = true) : dname s = true := by
 obtain ⟨h1, h2, h3⟩ := (label_iff s).1 h
 have hn : (46 : UInt8) ∉ s.data.toList := fun hm => by
  obtain ⟨j, hj⟩ := List.mem_iff_getElem?.1 hm
  have := h3 j 46 (by rw [bytes_get]; exact hj)
  unfold labAt at this
  simp at this
 simp only [dname, Bool.and_eq_true, decide_eq_true_eq]
 refine ⟨by omega, ?_⟩
 rw [splitB_end (index_none hn)]
 simp [h]

theorem may_key {r : ARef} (h : mayRef r = true) : keyMay r.space r.name = true := by
 simp only [keyMay, Bool.and_eq_true, Bool.or_eq_true, decide_eq_true_eq]
 unfold mayRef at h
 split at h
 ·simp only [Bool.and_eq_true, decide_eq_true_eq] at h
  exact ⟨.inl h.1, h.2⟩
 ·split at h
  ·simp only [Bool.and_eq_true, decide_eq_true_eq] at h
   exact ⟨.inl h.1, label_name h.2⟩
  ·simp only [Bool.and_eq_true] at h
   exact ⟨.inr h.1.2, h.2⟩

def textOf (r : ARef) : ByteArray := ⟨#[UInt8.ofNat (48 + r.kind.toNat)]⟩ ++ ⟨#[32]⟩ ++ keyOf r.space r.name

set_option maxHeartbeats 4000000 in
theorem object_Text (r : ARef) : Pure Tryz.prog 22 [r.d] (fun d => d = if mayRef r = true then .tup [str (textOf r), int 0] else .tup [str ⟨#[]⟩, int 1]) := by
 refine pure_of_run follows an_zngfe Tryz.func22 rfl ok_zngfe.1 ok_zngfe.2 (by simp [Tryz.ntmps22]) ?_
 rw [run_start]
 simp only [ac_zngfe, go_sem, simprocAttr]
 refine (object_MayRef r).callW (enters_of Tryz.func25 rfl rfl) _ rfl rfl ?_
 rintro _ rfl
 cases hm : mayRef r
 ·simp only [go_sem, simprocAttr]
  simp only [retK, resD, retL, oneD, simprocAttr, Tryz.results22]
  exact ⟨_, rfl, rfl, rfl⟩
 rw [if_pos rfl]
 have cK := dns_Key r.space r.name
 rw [if_pos (may_key hm)] at cK
 have hk := may_key hm
 simp only [keyMay, Bool.and_eq_true, Bool.or_eq_true, decide_eq_true_eq] at hk
 have z1 : r.space.size ≤ 20 := by
  rcases hk.1 with h1 | h1
  ·rw [h1]; decide
  ·exact ((label_iff _).1 h1).2.1
 have z2 : r.name.size ≤ 60 := by
  have := hk.2
  simp only [dname, Bool.and_eq_true, decide_eq_true_eq] at this
  exact this.1
 have z3 : (keyOf r.space r.name).size ≤ 81 := by
  have : (ByteArray.mk #[47]).size = 1 := rfl
  unfold keyOf
  rw [ByteArray.size_append, ByteArray.size_append]
  omega
 generalize hkey : keyOf r.space r.name = key at cK z3
 simp only [go_sem, simprocAttr]
 refine cK.callW (enters_of Tryz.func67 rfl rfl) _ rfl rfl ?_
 rintro _ rfl
 simp only [go_sem, simprocAttr]
 have hw : IntKind.i64.wrap (48 + r.kind) = 48 + r.kind := IntWalk.i64_in _ (by have := mayRef_kind hm; omega)
 have hw2 : IntKind.u8.wrap (48 + r.kind) = ((UInt8.ofNat (48 + r.kind.toNat)).toNat : Int) := by
  rcases mayRef_kind hm with e | e | e | e | e | e | e <;> rw [e] <;> decide
 have hb : octStr [((UInt8.ofNat (48 + r.kind.toNat)).toNat : Int)] = ⟨#[UInt8.ofNat (48 + r.kind.toNat)]⟩ := by
  rcases mayRef_kind hm with e | e | e | e | e | e | e <;> rw [e] <;> decide
 rw [hw, hw2, hb]
 have ht : textOf r = ⟨#[UInt8.ofNat (48 + r.kind.toNat)]⟩ ++ ⟨#[32]⟩ ++ key := by unfold textOf; rw [hkey]
 rw [ht]
 generalize UInt8.ofNat (48 + r.kind.toNat) = b
 have e1 : #[b].size = 1 := rfl
 have e2 : #[(32 : UInt8)].size = 1 := rfl
 have d1 : (#[b].size + #[(32 : UInt8)].size ≤ 9223372036854775807) = True := eq_true (by omega)
 have d2 : (#[b].size + #[(32 : UInt8)].size + key.size ≤ 9223372036854775807) = True := eq_true (by omega)
 simp only [go_sem, simprocAttr, d1, d2]
 simp only [retK, resD, retL, oneD, simprocAttr, Tryz.results22]
 exact ⟨_, rfl, rfl, rfl⟩




theorem res_no {p : Prop} [Decidable p] (h : ¬p) : bln false = bln (decide p) := by rw [decide_eq_false h]
theorem res_yes {p : Prop} [Decidable p] (h : p) : bln true = bln (decide p) := by rw [decide_eq_true h]
theorem take_step {α : Type} {l m : List α} {i : Nat} {x y : α} (h : l.take i = m.take i) (hx : l[i]? = some x) (hy : m[i]? = some y) (e : x = y) : l.take (i + 1) = m.take (i + 1) := by
 rw [take_at hx, take_at hy, h, e]
theorem take_end {α : Type} {l m : List α} {i : Nat} (h : l.take i = m.take i) (hl : l.length = m.length) (hi : ¬ i < l.length) : l = m := by
 rwa [List.take_of_length_le (by omega), List.take_of_length_le (by omega)] at h


set_option maxHeartbeats 2000000 in
theorem ref9_SameRefs (a b : List ARef) (ha : a.length ≤ 1000000) : Pure Tryz.prog 16 [.pd (.slice (rows ARef.pd a)), .pd (.slice (rows ARef.pd b))] (fun d => d = bln (decide (a = b))) := by
 refine pure_of_run follows an_zvzmk Tryz.func16 rfl ok_zvzmk.1 ok_zvzmk.2 (by simp [Tryz.ntmps16]) ?_
 rw [run_start]
 simp only [ac_zvzmk, go_sem, simprocAttr]
 refine GifP.mk (fun hl => ?_) (fun hl => ?_)
 rotate_left
 ·simp only [retK, resD, retL, oneD, simprocAttr, Tryz.results16]
  exact ⟨_, rfl, rfl, res_no (fun e => hl (by rw [e]))⟩
 have hL : a.length = b.length := by omega
 refine loopS (fun k st => ∃ i : Nat, k = a.length - i ∧ i ≤ a.length ∧ a.take i = b.take i ∧ st = ⟨[(0, .pd (.slice (rows ARef.pd a))), (1, .pd (.slice (rows ARef.pd b))), (5, int i)], [], [], .no⟩) a.length _ ?_ ⟨0, rfl, by omega, rfl, rfl⟩ ?_
 ·exact lessA
 rintro k st ⟨i, rfl, hi, hT, rfl⟩
 have hw := i64_succ (show i < 1000000000 by omega)
 by_cases hlt : i < a.length
 ·obtain ⟨x, hx⟩ := at_lt hlt
  obtain ⟨y, hy⟩ := at_lt (show i < b.length by omega)
  have h1 : ((i : Int) < (a.length : Int)) = True := eq_true (by omega)
  simp only [go_sem, simprocAttr, rows_get hx, rows_get hy, h1, hw, eqVs, eqV, eq_Ref]
  ·repeat' (first | refine GifP.mk (fun _ => ?_) (fun _ => ?_) | refine Gif.mk (fun _ => ?_) (fun _ => ?_) | refine And.intro ?_ ?_)
   all_goals first
    | (refine ⟨a.length - (i + 1), _, by omega, ?_, i + 1, rfl, by omega, take_step hT hx hy (by first | assumption | (cases x; cases y; simp_all)), rfl⟩; exact lessA)
    | (simp only [retK, resD, retL, oneD, simprocAttr, Tryz.results16]; exact ⟨_, rfl, rfl, res_no (fun e => by subst e; have hxy := Option.some.inj (hx.symm.trans hy); subst hxy; first | contradiction | simp_all)⟩)
 have h1 : ((i : Int) < (a.length : Int)) = False := eq_false (by omega)
 have hE := take_end hT (by omega) hlt
 clear hT hi hw
 simp only [go_sem, simprocAttr, h1]
 clear h1 hlt i
 simp only [retK, resD, retL, oneD, simprocAttr, Tryz.results16]
 exact ⟨_, rfl, rfl, res_yes hE⟩


theorem refSort_eq {l s : List ARef} (hp : s.Perm l) (hs : s.Pairwise fun x y => refLt y x = false) : refSort l = s := by
 refine List.Perm.eq_of_pairwise (le := fun x y => refLt y x = false) (fun a b _ _ h1 h2 => refLt_tri h2 h1) ?_ hs ((List.mergeSort_perm _ _).trans hp.symm)
 have h := List.pairwise_mergeSort (le := fun x y => !refLt y x) (fun a b c h1 h2 => by
  simp only [Bool.not_eq_true'] at *
  cases h3 : refLt c a with
  | false => rfl
  | true =>
    exfalso
    cases h4 : refLt b a with
    | true => rw [h4] at h1; cases h1
    | false =>
      cases h5 : refLt a b with
      | true => have := refLt_tr h3 h5; rw [this] at h2; cases h2
      | false => rw [refLt_tri h5 h4] at h3; rw [h3] at h2; cases h2) (fun a b => by
  cases h1 : refLt b a with
  | false => rfl
  | true => rw [refLt_asym h1]; rfl) l
 exact h.imp fun {a b} h => by simpa using h

abbrev tWeb : ByteArray := ⟨#[119, 101, 98]⟩
abbrev tApp : ByteArray := ⟨#[97, 112, 112]⟩
abbrev tApi : ByteArray := ⟨#[97, 112, 105]⟩
abbrev tGw : ByteArray := ⟨#[103, 119]⟩

def rt9 : AObj := ⟨⟨6, tWeb, ⟨#[97]⟩⟩, false, [], [], ⟨#[]⟩, [], [⟨⟨#[]⟩, tGw, ⟨#[]⟩, 0⟩], [], [⟨[], [], [⟨⟨3, tApp, tApi⟩, 0, 0⟩]⟩], [], []⟩
def gw9 : AObj := ⟨⟨5, tWeb, tGw⟩, false, [], [], ⟨#[99]⟩, [], [], [], [], [], []⟩

theorem rt9_ok : rt9.ok := by
 constructor
 all_goals first
  | (simp [rt9]; done)
  | (intro r hr
     simp only [rt9, List.mem_singleton] at hr
     subst hr
     constructor <;> simp)
theorem gw9_ok : gw9.ok := by constructor <;> simp [gw9]
theorem rt9_few : rt9.few := by constructor <;> simp [rt9]
theorem rt9_refs : refsOf rt9 = [⟨2, ⟨#[]⟩, tWeb⟩, ⟨3, tApp, tApi⟩, ⟨5, tWeb, tGw⟩] := by
 have h1 : objMay rt9 = true := by decide +kernel
 have h2 : refsList rt9 = [⟨5, tWeb, tGw⟩, ⟨3, tApp, tApi⟩, ⟨2, ⟨#[]⟩, tWeb⟩] := by decide +kernel
 unfold refsOf
 rw [if_pos h1, h2, refSort_eq (s := [⟨2, ⟨#[]⟩, tWeb⟩, ⟨3, tApp, tApi⟩, ⟨5, tWeb, tGw⟩]) (by decide) (by decide +kernel)]
 decide +kernel

theorem law9_route : Pure Tryz.prog 58 [] (fun d => d = rt9.d) := by
 refine pure_of_run follows an_zlfbg Tryz.func58 rfl ok_zlfbg.1 ok_zlfbg.2 (by simp [Tryz.ntmps58]) ?_
 rw [run_start]
 simp only [ac_zlfbg, go_sem, simprocAttr]
 simp only [retK, resD, resA, AOp.ex, St.ev, retL, oneD, simprocAttr, ret_zlfbg]
 exact ⟨_, rfl, rfl, rfl⟩

set_option maxHeartbeats 2000000 in
theorem awake9 : Pure Tryz.prog 15 [] (fun d => d = bln true) := by
 have cT := object_Text rt9.ref
 rw [if_pos (show mayRef rt9.ref = true by decide +kernel), show textOf rt9.ref = ⟨#[54, 32, 119, 101, 98, 47, 97]⟩ by decide +kernel] at cT
 have cM := object_May gw9 gw9_ok
 rw [show objMay gw9 = false by decide +kernel] at cM
 have cR := object_Refs rt9 rt9_ok rt9_few
 rw [rt9_refs] at cR
 have cS := ref9_SameRefs [⟨2, ⟨#[]⟩, tWeb⟩, ⟨3, tApp, tApi⟩, ⟨5, tWeb, tGw⟩] [⟨2, ⟨#[]⟩, tWeb⟩, ⟨3, tApp, tApi⟩, ⟨5, tWeb, tGw⟩] (by decide)
 rw [decide_eq_true rfl] at cS
 refine pure_of_run follows an_z7f18 Tryz.func15 rfl ok_z7f18.1 ok_z7f18.2 (by simp [Tryz.ntmps15]) ?_
 rw [run_start]
 simp only [ac_z7f18, go_sem, simprocAttr]
 refine law9_route.callW (enters_of Tryz.func58 rfl rfl) _ rfl rfl ?_
 rintro _ rfl
 simp only [rt9, go_sem, simprocAttr]
 refine cT.callW (enters_of Tryz.func22 rfl rfl) _ rfl rfl ?_
 rintro _ rfl
 simp only [go_sem, simprocAttr]
 refine cM.callW (enters_of Tryz.func11 rfl rfl) _ rfl rfl ?_
 rintro _ rfl
 simp only [go_sem, simprocAttr]
 refine law9_route.callW (enters_of Tryz.func58 rfl rfl) _ rfl rfl ?_
 rintro _ rfl
 simp only [rt9, go_sem, simprocAttr]
 refine cR.callW (enters_of Tryz.func17 rfl rfl) _ rfl rfl ?_
 rintro _ rfl
 simp only [go_sem, simprocAttr]
 refine cS.callW (enters_of Tryz.func16 rfl rfl) _ rfl rfl ?_
 rintro _ rfl
 simp only [go_sem, simprocAttr]
 simp only [retK, resD, retL, oneD, simprocAttr, Tryz.results15]
 exact ⟨_, rfl, rfl, rfl⟩



theorem labAt_true {n j : Nat} {b : UInt8} : labAt n j b = true ↔ ((97 ≤ b.toNat ∧ b.toNat ≤ 122) ∨ (48 ≤ b.toNat ∧ b.toNat ≤ 57)) ∨ (b.toNat = 45 ∧ ¬ (j = 0 ∨ j + 1 = n)) := by
 simp [labAt]
theorem labAt_false {n j : Nat} {b : UInt8} : labAt n j b = false ↔ ¬ (((97 ≤ b.toNat ∧ b.toNat ≤ 122) ∨ (48 ≤ b.toNat ∧ b.toNat ≤ 57)) ∨ (b.toNat = 45 ∧ ¬ (j = 0 ∨ j + 1 = n))) := by
 rw [← labAt_true]; simp
theorem bool_no {b : Bool} (h : ¬ b = true) : bln false = bln b := by cases b <;> simp_all
set_option maxHeartbeats 1000000 in
theorem ref1_Label (s : ByteArray) (hs : s.size ≤ 1000000) : Pure Tryz.prog 74 [str s] (fun d => d = bln (label s)) := by
 refine pure_of_run follows an_z4drv Tryz.func74 rfl ok_z4drv.1 ok_z4drv.2 (by simp [Tryz.ntmps74]) ?_
 rw [run_start]
 simp only [ac_z4drv, go_sem, simprocAttr]
 refine loopS (fun k st => ∃ i : Nat, k = s.size - i ∧ i ≤ s.size ∧ (∀ (j : Nat) (b : UInt8), j < i → s[j]? = some b → labAt s.size j b = true) ∧ st = ⟨[(0, str s), (3, int i)], [], [], .no⟩) s.size _ ?_ ⟨0, rfl, by omega, fun _ _ h => absurd h (Nat.not_lt_zero _), rfl⟩ ?_
 ·exact lessA
 rintro k st ⟨i, rfl, hi, hT, rfl⟩
 have hw := i64_succ (show i < 1000000000 by omega)
 have hw1 : IntKind.i64.wrap ((s.size : Int) - 1) = (s.size : Int) - 1 := IntWalk.i64_in _ (by omega)
 by_cases hlt : i < s.size
 ·obtain ⟨b, hb⟩ := at_byte hlt
  have h1 : ((i : Int) < (s.size : Int)) = True := eq_true (by omega)
  have bad : labAt s.size i b = false → bln false = bln (label s) := fun h => bool_no fun e => by
   have := ((label_iff s).1 e).2.2 i b hb
   rw [h] at this
   cases this
  have good : labAt s.size i b = true → ∀ st, Weak Tryz.prog st ⟨[(0, str s), (3, int (i + 1 : Nat))], [], [], .no⟩ → Round Tryz.prog (fun k st => ∃ i : Nat, k = s.size - i ∧ i ≤ s.size ∧ (∀ (j : Nat) (b : UInt8), j < i → s[j]? = some b → labAt s.size j b = true) ∧ st = ⟨[(0, str s), (3, int i)], [], [], .no⟩) (s.size - i) st := fun h st hw =>
   ⟨s.size - (i + 1), _, by omega, hw, i + 1, rfl, by omega, fun j b' hj hb' => by
    rcases Nat.lt_or_ge j i with h2 | h2
    ·exact hT j b' h2 hb'
    ·obtain rfl : j = i := by omega
     rw [hb] at hb'; cases hb'; exact h, rfl⟩
  simp only [go_sem, simprocAttr, h1, hb, hw, hw1]
  repeat' (first | refine GifP.mk (fun _ => ?_) (fun _ => ?_) | refine Gif.mk (fun _ => ?_) (fun _ => ?_))
  all_goals first
   | (refine good (labAt_true.2 (by omega)) _ ?_; exact lessA)
   | (simp only [retK, resD, retL, oneD, simprocAttr, Tryz.results74]; exact ⟨_, rfl, rfl, bad (labAt_false.2 (by omega))⟩)
 have h1 : ((i : Int) < (s.size : Int)) = False := eq_false (by omega)
 obtain rfl : i = s.size := by omega
 clear hw hw1
 simp only [go_sem, simprocAttr, h1]
 clear h1
 repeat' (first | refine GifP.mk (fun _ => ?_) (fun _ => ?_) | refine Gif.mk (fun _ => ?_) (fun _ => ?_))
 all_goals
  simp only [retK, resD, retL, oneD, simprocAttr, Tryz.results74]
  first
   | exact ⟨_, rfl, rfl, bool_no fun e => by obtain ⟨e1, e2, _⟩ := (label_iff s).1 e; omega⟩
   | exact ⟨_, rfl, rfl, congrArg bln (Bool.eq_iff_iff.2 ⟨fun h => (label_iff s).2 ⟨by omega, by have := of_decide_eq_true h; omega, fun j b hb => hT j b (by rw [bytes_get] at hb; exact (List.getElem?_eq_some_iff.1 hb).1) hb⟩, fun h => decide_eq_true (by have := ((label_iff s).1 h).2.1; omega)⟩)⟩

set_option maxHeartbeats 1000000 in
theorem ref1_Split (s : ByteArray) (hs : s.size ≤ 1000000) (c : UInt8) (k : Int) (hk : k = c.toNat) : Pure Tryz.prog 117 [str s, u8 k] (fun d => d = .pd (.slice (rows cStr (splitB c s.size s)))) := by
 subst hk
 refine pure_of_run_solo follows an_zwnk2 Tryz.func117 rfl ok_zwnk2.1 ok_zwnk2.2 (by simp [Tryz.ntmps117]) ?_
 rw [run_start]
 simp only [ac_zwnk2, go_sem, simprocAttr]
 refine loopS (fun k st => ∃ (i : Nat) (t : Nat), (t = 7 ∨ t = 21) ∧ k = s.size - i ∧ i ≤ s.size ∧ st = ⟨[(0, str s), (1, u8 c.toNat), (5, .own 9 1 (rows cStr (splitR c (s.data.toList.take i))) t), (6, int i)], [], [], .solo⟩) s.size _ ?_ ⟨0, 7, .inl rfl, rfl, by omega, rfl⟩ ?_
 ·have h0 : rows cStr (splitR c (s.data.toList.take 0)) = [[.raw (.string ⟨#[]⟩)]] := rfl
  rw [h0]; exact lessA
 rintro k st ⟨i, t, ht, rfl, hi, rfl⟩
 have hw := i64_succ (show i < 1000000000 by omega)
 obtain ⟨out, hout⟩ : ∃ out, splitR c (s.data.toList.take i) = out := ⟨_, rfl⟩
 have hlen := splitR_len c (s.data.toList.take i)
 have hsz := splitR_size c (s.data.toList.take i)
 rw [hout, List.length_take, size_list] at hlen
 rw [hout, List.length_take, size_list] at hsz
 rw [hout]
 by_cases hlt : i < s.size
 ·obtain ⟨b, hb⟩ := at_byte hlt
  have h1 : ((i : Int) < (s.size : Int)) = True := eq_true (by omega)
  have hst := splitR_step c hb
  rw [hout] at hst
  obtain ⟨m, hm⟩ : ∃ m, out.length = m + 1 := ⟨out.length - 1, by omega⟩
  obtain ⟨z, hz⟩ := at_lt (show m < out.length by omega)
  have hwl : IntKind.i64.wrap ((out.length : Int) - 1) = (m : Int) := by rw [IntWalk.i64_in _ (by omega)]; omega
  have hm0 : ((0 : Int) ≤ (m : Int)) = True := eq_true (by omega)
  have hzs := hsz z (List.mem_of_getElem? hz)
  have hcat : (z.size + #[b].size ≤ 9223372036854775807) = True := eq_true (by have : #[b].size = 1 := rfl; omega)
  have hs1 : (i ≤ i + 1) = True := eq_true (by omega)
  have hs2 : (i + 1 ≤ s.size) = True := eq_true (by omega)
  have hfl : flatR (rows cStr out) := fun r hr => by
   obtain ⟨x, _, rfl⟩ := List.mem_map.1 hr
   exact ⟨.string x, rfl⟩
  have e1 : b = c → rows cStr out ++ [[PD.raw (Value.string ⟨#[]⟩)]] = rows cStr (splitR c (s.data.toList.take (i + 1))) := fun e => by
   rw [hst, stepR, if_pos e]
   simp [rows]
  have e2 : ¬ b = c → (rows cStr out).set m [PD.raw (Value.string (z ++ ⟨#[b]⟩))] = rows cStr (splitR c (s.data.toList.take (i + 1))) := fun e => by
   have h3 : out.length - 1 = m := by omega
   rw [hst, stepR, if_neg e, h3, List.getD_eq_getElem?_getD, hz, rows, rows, List.map_set]
   rfl
  rcases ht with rfl | rfl
  all_goals
   simp only [go_sem, simprocAttr, h1, hb, hw, rows_len, hwl, rows_get hz, hm0, byte_one hb, hcat, hs1, hs2]
   refine GifP.mk (fun he => ?_) (fun he => ?_)
  ·refine ⟨by simp, by simp only [maxLen]; omega, by omega, s.size - (i + 1), _, by omega, ?_, i + 1, 21, .inr rfl, rfl, by omega, rfl⟩
   rw [e1 (by apply UInt8.toNat_inj.1; omega)]
   exact lessA
  ·refine ⟨rfl, by omega, hfl, s.size - (i + 1), _, by omega, ?_, i + 1, 7, .inl rfl, rfl, by omega, rfl⟩
   rw [e2 (fun e => he (by rw [e]))]
   exact lessA
  ·refine ⟨by simp, by simp only [maxLen]; omega, by omega, s.size - (i + 1), _, by omega, ?_, i + 1, 21, .inr rfl, rfl, by omega, rfl⟩
   rw [e1 (by apply UInt8.toNat_inj.1; omega)]
   exact lessA
  ·refine ⟨rfl, by omega, hfl, s.size - (i + 1), _, by omega, ?_, i + 1, 21, .inr rfl, rfl, by omega, rfl⟩
   rw [e2 (fun e => he (by rw [e]))]
   exact lessA
 have h1 : ((i : Int) < (s.size : Int)) = False := eq_false (by omega)
 obtain rfl : i = s.size := by omega
 have hE : splitB c s.size s = out := by rw [← splitR_eq, ← hout, List.take_of_length_le (Nat.le_of_eq (size_list s))]
 rcases ht with rfl | rfl
 all_goals
  simp only [go_sem, simprocAttr, h1]
  simp only [retK, resD, retL, oneD, simprocAttr, Tryz.results117]
  rw [hE]
  exact ⟨_, rfl, rfl, rfl⟩

set_option maxHeartbeats 1000000 in
theorem ref1_Name (s : ByteArray) : Pure Tryz.prog 73 [str s] (fun d => d = bln (dname s)) := by
 refine pure_of_run follows an_zvp8y Tryz.func73 rfl ok_zvp8y.1 ok_zvp8y.2 (by simp [Tryz.ntmps73]) ?_
 rw [run_start]
 simp only [ac_zvp8y, go_sem, simprocAttr]
 refine GifP.mk (fun h => ?_) (fun h => ?_)
 ·simp only [retK, resD, retL, oneD, simprocAttr, Tryz.results73]
  exact ⟨_, rfl, rfl, congrArg bln (by simp only [dname]; simp; omega)⟩
 have h60 : s.size ≤ 60 := by omega
 refine (ref1_Split s (by omega) 46 46 rfl).callW (enters_of Tryz.func117 rfl rfl) _ rfl rfl ?_
 rintro d rfl
 simp only [go_sem, simprocAttr]
 obtain ⟨l, hl⟩ : ∃ l, splitB 46 s.size s = l := ⟨_, rfl⟩
 have hln : l.length ≤ 61 := by
  have h1 := splitR_len 46 s.data.toList
  rw [splitR_eq, hl, size_list] at h1
  omega
 have hsz : ∀ x ∈ l, x.size ≤ 1000000 := fun x hx => by
  have h1 := splitR_size 46 s.data.toList
  rw [splitR_eq, hl, size_list] at h1
  have := h1 x hx
  omega
 rw [hl]
 refine loopS (fun k st => ∃ i : Nat, k = l.length - i ∧ i ≤ l.length ∧ (l.drop i).all label = l.all label ∧ st = ⟨[(3, .pd (.slice (rows cStr l))), (4, int i)], [], [], .no⟩) l.length _ ?_ ⟨0, rfl, by omega, rfl, rfl⟩ ?_
 ·exact lessA
 rintro k st ⟨i, rfl, hi, hT, rfl⟩
 have hw := i64_succ (show i < 1000000000 by omega)
 by_cases hlt : i < l.length
 ·obtain ⟨x, hx⟩ := at_lt hlt
  have h1 : ((i : Int) < (l.length : Int)) = True := eq_true (by omega)
  rw [drop_at hx, List.all_cons] at hT
  simp only [go_sem, simprocAttr, rows_get hx, h1, hw]
  refine (ref1_Label x (hsz x (List.mem_of_getElem? hx))).callW (enters_of Tryz.func74 rfl rfl) _ rfl rfl ?_
  rintro d rfl
  simp only [go_sem, simprocAttr]
  refine Gif.mk (fun hl' => ?_) (fun hl' => ?_)
  ·refine ⟨l.length - (i + 1), _, by omega, ?_, i + 1, rfl, by omega, by rw [hl', Bool.true_and] at hT; exact hT, rfl⟩
   simp only [hw]
   exact lessA
  ·simp only [retK, resD, retL, oneD, simprocAttr, Tryz.results73]
   refine ⟨_, rfl, rfl, congrArg bln ?_⟩
   rw [hl', Bool.false_and] at hT
   simp [dname, hl, ← hT]
 have h1 : ((i : Int) < (l.length : Int)) = False := eq_false (by omega)
 rw [List.drop_eq_nil_of_le (by omega), List.all_nil] at hT
 simp only [go_sem, simprocAttr, h1]
 simp only [retK, resD, retL, oneD, simprocAttr, Tryz.results73]
 exact ⟨_, rfl, rfl, congrArg bln (by simp [dname, hl, ← hT, h60])⟩


def wide (p : ByteArray) : Bool := hasPrefix p ⟨#[42, 46]⟩





structure AObj.sok (o : AObj) : Prop where
 rs : o.ref.space.size ≤ 1000000
 rn : o.ref.name.size ≤ 1000000
 lv : ∀ p ∈ o.labels, p.val.size ≤ 1000000
 ln : ∀ l ∈ o.listeners, l.name.size ≤ 1000000 ∧ l.cert.space.size ≤ 1000000 ∧ ∀ n ∈ l.needs, ∀ s ∈ n.vals, s.size ≤ 1000000
 pa : ∀ p ∈ o.parents, p.space.size ≤ 1000000 ∧ p.section_.size ≤ 1000000
 ru : ∀ r ∈ o.rules, (∀ m ∈ r.matches_, m.method.size ≤ 1000000) ∧ (∀ f ∈ r.filters, f.host.size ≤ 1000000 ∧ f.path.size ≤ 1000000) ∧ ∀ b ∈ r.backends, b.ref.space.size ≤ 1000000
 si : ∀ s ∈ o.from_, s.space.size ≤ 1000000

theorem mayRef_iff (r : ARef) : mayRef r = true ↔ (r.kind = 1 ∧ r.space = ⟨#[]⟩ ∧ dname r.name = true) ∨ (r.kind = 2 ∧ r.space = ⟨#[]⟩ ∧ label r.name = true) ∨ (3 ≤ r.kind ∧ r.kind ≤ 7 ∧ label r.space = true ∧ dname r.name = true) := by
 unfold mayRef
 split
 ·rename_i h
  simp [h]
 ·split
  ·rename_i h1 h
   simp [h]
  ·rename_i h1 h2
   simp only [okind, Bool.and_eq_true, decide_eq_true_eq]
   constructor
   ·rintro ⟨⟨⟨h3, h4⟩, h5⟩, h6⟩
    exact .inr (.inr ⟨by omega, h4, h5, h6⟩)
   ·rintro (⟨h3, _⟩ | ⟨h3, _⟩ | ⟨h3, h4, h5, h6⟩)
    ·exact absurd h3 h1
    ·exact absurd h3 h2
    ·exact ⟨⟨⟨by omega, h4⟩, h5⟩, h6⟩

set_option maxHeartbeats 2000000 in
theorem ref9_MayRef (r : ARef) (h1 : r.space.size ≤ 1000000) (h2 : r.name.size ≤ 1000000) : Pure Tryz.prog 26 [r.d] (fun d => d = bln (mayRef r)) := by
 refine pure_of_run follows an_zvuu8 Tryz.func26 rfl ok_zvuu8.1 ok_zvuu8.2 (by simp [Tryz.ntmps26]) ?_
 rw [run_start]
 simp only [ac_zvuu8, go_sem, simprocAttr]
 (repeat' (first | (refine GifP.mk (fun _ => ?_) (fun _ => ?_)) | (refine Gif.mk (fun _ => ?_) (fun _ => ?_)) | ((first | refine (ref1_Label r.name h2).callW (enters_of Tryz.func74 rfl rfl) _ rfl rfl ?_ | refine (ref1_Label r.space h1).callW (enters_of Tryz.func74 rfl rfl) _ rfl rfl ?_ | refine (ref1_Name r.name).callW (enters_of Tryz.func73 rfl rfl) _ rfl rfl ?_); rintro _ rfl; try simp only [go_sem, simprocAttr]))) <;> (simp only [retK, resD, retL, oneD, simprocAttr, Tryz.results26]; exact ⟨_, rfl, rfl, congrArg bln (by rw [Bool.eq_iff_iff, mayRef_iff]; first | (simp_all; done) | (simp_all; omega) | (have q1 : ¬ r.kind = 1 ∧ ¬ r.kind = 2 ∧ 3 ≤ r.kind ∧ r.kind ≤ 7 := (by omega); simp_all; done) | (have q1 : ¬ r.kind = 1 ∧ ¬ r.kind = 2 ∧ ¬ 3 ≤ r.kind := (by omega); simp_all; done))⟩)


def AObj.keep (o : AObj) : AObj :=
 if o.ref.kind = 1 ∨ o.ref.kind = 4 then { AObj.zero o.ref with good := o.good }
 else if o.ref.kind = 2 then { AObj.zero o.ref with labels := o.labels }
 else if o.ref.kind = 3 then { AObj.zero o.ref with ports := o.ports }
 else if o.ref.kind = 5 then { AObj.zero o.ref with listeners := o.listeners, cls := o.cls }
 else if o.ref.kind = 6 then { AObj.zero o.ref with parents := o.parents, hosts := o.hosts, rules := o.rules }
 else { AObj.zero o.ref with from_ := o.from_, to_ := o.to_ }



theorem ref9_Order (a b : ARef) : Pure Tryz.prog 27 [a.d, b.d] (fun d => d = int (refCmp a b)) := by
 refine pure_of_run follows an_z2cvg Tryz.func27 rfl ok_z2cvg.1 ok_z2cvg.2 (by simp [Tryz.ntmps27]) ?_
 rw [run_start]
 simp only [ac_z2cvg, go_sem, simprocAttr, eqVs, eqV, eq_Ref]
 refine GifP.mk (fun h => ?_) (fun h => ?_)
 ·simp only [retK, resD, retL, oneD, simprocAttr, Tryz.results27]
  exact ⟨_, rfl, rfl, by unfold refCmp; rw [if_pos h]; rfl⟩
 have e : refCmp a b = if refLt a b = true then -1 else 1 := if_neg h
 rw [e]
 unfold refLt bl
 clear e
 by_cases h1 : a.kind = b.kind
 ·have h1' := eq_true h1
  by_cases h2 : a.space = b.space
  ·have h2' := eq_true h2
   simp only [go_sem, simprocAttr, h1', h2', if_true]
   refine Gif.mk (fun h3 => ?_) (fun h3 => ?_)
   ·simp only [retK, resD, retL, oneD, simprocAttr, Tryz.results27]
    exact ⟨_, rfl, rfl, by rw [h3]; rfl⟩
   ·simp only [retK, resD, retL, oneD, simprocAttr, Tryz.results27]
    exact ⟨_, rfl, rfl, by rw [h3]; rfl⟩
  ·have h2' := eq_false h2
   simp only [go_sem, simprocAttr, h1', h2', if_true, if_false]
   refine Gif.mk (fun h3 => ?_) (fun h3 => ?_)
   ·simp only [retK, resD, retL, oneD, simprocAttr, Tryz.results27]
    exact ⟨_, rfl, rfl, by rw [h3]; rfl⟩
   ·simp only [retK, resD, retL, oneD, simprocAttr, Tryz.results27]
    exact ⟨_, rfl, rfl, by rw [h3]; rfl⟩
 ·have h1' := eq_false h1
  simp only [go_sem, simprocAttr, h1', if_false]
  repeat' (first | refine GifP.mk (fun _ => ?_) (fun _ => ?_) | refine Gif.mk (fun _ => ?_) (fun _ => ?_))
  all_goals
   simp only [retK, resD, retL, oneD, simprocAttr, Tryz.results27]
   exact ⟨_, rfl, rfl, by simp [*, D.pub]⟩



theorem eqb_self (b : Bool) : (b == b) = true := by cases b <;> rfl


theorem dname_nil : dname ⟨#[]⟩ = false := by decide +kernel
theorem label_nil : label ⟨#[]⟩ = false := by decide +kernel


theorem index_cases (c : UInt8) : ∀ l : List UInt8, (Lib.indexByte l c = -1 ∧ c ∉ l) ∨ ∃ a b, l = a ++ c :: b ∧ c ∉ a ∧ Lib.indexByte l c = a.length
 | [] => .inl ⟨rfl, by simp⟩
 | x :: l => by
   have hi : Lib.indexByte (x :: l) c = if x == c then 0 else if Lib.indexByte l c == -1 then -1 else Lib.indexByte l c + 1 := rfl
   simp only [beq_iff_eq] at hi
   by_cases e : x = c
   ·rw [if_pos e] at hi
    exact .inr ⟨[], l, by rw [e]; rfl, by simp, by rw [hi]; rfl⟩
   ·rw [if_neg e] at hi
    rcases index_cases c l with ⟨h1, h2⟩ | ⟨a, b, rfl, h1, h2⟩
    ·rw [if_pos h1] at hi
     exact .inl ⟨hi, by simp [h2, Ne.symm e]⟩
    ·rw [if_neg (by omega)] at hi
     exact .inr ⟨x :: a, b, rfl, by simp [h1, Ne.symm e], by rw [hi, h2]; simp⟩

theorem cut_cases (c : UInt8) (s : ByteArray) : (Lib.indexByte s.data.toList c = -1 ∧ c ∉ s.data.toList) ∨
 ∃ a b : ByteArray, s = a ++ ⟨#[c]⟩ ++ b ∧ c ∉ a.data.toList ∧ Lib.indexByte s.data.toList c = a.size := by
 rcases index_cases c s.data.toList with h | ⟨a, b, h1, h2, h3⟩
 ·exact .inl h
 ·refine .inr ⟨⟨a.toArray⟩, ⟨b.toArray⟩, ?_, by simpa using h2, by rw [h3]; rfl⟩
  apply ByteArray.ext
  apply Array.ext'
  rw [h1]
  simp

theorem cut_before {a b : ByteArray} (c : UInt8) : (a ++ ⟨#[c]⟩ ++ b).extract 0 a.size = a := by
 rw [extract_list]
 apply ByteArray.ext
 apply Array.ext'
 have : (a ++ ⟨#[c]⟩ ++ b).data.toList = a.data.toList ++ c :: b.data.toList := by simp
 rw [this, List.drop_zero, ← size_list, List.take_left]

theorem cut_after {a b : ByteArray} (c : UInt8) : (a ++ ⟨#[c]⟩ ++ b).extract (a.size + 1) (a ++ ⟨#[c]⟩ ++ b).size = b := by
 rw [extract_list, List.take_of_length_le (Nat.le_of_eq (size_list _))]
 apply ByteArray.ext
 apply Array.ext'
 have : (a ++ ⟨#[c]⟩ ++ b).data.toList = (a.data.toList ++ [c]) ++ b.data.toList := by simp
 rw [this, show a.size + 1 = (a.data.toList ++ [c]).length by rw [List.length_append, size_list]; rfl, List.drop_left]

theorem index_at {a b : ByteArray} {c : UInt8} (h : c ∉ a.data.toList) : Lib.indexByte (a ++ ⟨#[c]⟩ ++ b).data.toList c = a.size := by
 rcases cut_cases c (a ++ ⟨#[c]⟩ ++ b) with ⟨_, h2⟩ | ⟨x, y, h1, h2, h3⟩
 ·exact absurd (by simp) h2
 ·have e : a.data.toList ++ c :: b.data.toList = x.data.toList ++ c :: y.data.toList := by
   have := congrArg (fun s : ByteArray => s.data.toList) h1
   simpa using this
  have key : ∀ (p q r t : List UInt8), c ∉ p → c ∉ r → p ++ c :: q = r ++ c :: t → p.length = r.length := by
   intro p
   induction p with
   | nil =>
     intro q r t _ hr he
     cases r with
     | nil => rfl
     | cons z r =>
       simp only [List.nil_append, List.cons_append, List.cons.injEq] at he
       exact absurd (by simp [he.1]) hr
   | cons w p ih =>
     intro q r t hp hr he
     cases r with
     | nil =>
       simp only [List.nil_append, List.cons_append, List.cons.injEq] at he
       exact absurd (by simp [he.1]) hp
     | cons z r =>
       simp only [List.cons_append, List.cons.injEq] at he
       simp only [List.mem_cons, not_or] at hp hr
       simp only [List.length_cons]
       rw [ih q r t hp.2 hr.2 he.2]
  have := key _ _ _ _ h h2 e
  rw [h3, ← size_list, ← this, size_list]

theorem not_in_label {s : ByteArray} (h : label s = true) : (47 : UInt8) ∉ s.data.toList := fun hm => by
 obtain ⟨h1, h2, h3⟩ := (label_iff s).1 h
 obtain ⟨j, hj⟩ := List.mem_iff_getElem?.1 hm
 have := h3 j 47 (by rw [bytes_get]; exact hj)
 unfold labAt at this
 simp at this

theorem not_in_parts : ∀ (n : Nat) (s : ByteArray), (∀ p ∈ splitB 46 n s, (47 : UInt8) ∉ p.data.toList) → (47 : UInt8) ∉ s.data.toList
 | 0, s, h => h s (by simp [splitB])
 | n + 1, s, h => by
   unfold splitB at h
   rcases cut_cases 46 s with ⟨h1, _⟩ | ⟨a, b, h1, h2, h3⟩
   ·rw [if_pos (by omega)] at h
    exact h s (by simp)
   ·have hc1 : s.extract 0 a.size = a := by rw [h1]; exact cut_before 46
    have hc2 : s.extract (a.size + 1) s.size = b := by rw [h1]; exact cut_after 46
    rw [if_neg (by omega), h3, Int.toNat_natCast, hc1, hc2] at h
    have ha := h a List.mem_cons_self
    have hb := not_in_parts n b fun p hp => h p (List.mem_cons_of_mem _ hp)
    rw [h1]
    simp [ha, hb]

theorem not_in_name {s : ByteArray} (h : dname s = true) : (47 : UInt8) ∉ s.data.toList := by
 simp only [dname, Bool.and_eq_true, decide_eq_true_eq, List.all_eq_true] at h
 exact not_in_parts _ _ fun p hp => not_in_label (h.2 p hp)

def cutOf (s : ByteArray) : Option (ByteArray × ByteArray) :=
 if Lib.indexByte s.data.toList 47 < 0 then none
 else if keyMay (s.extract 0 (Lib.indexByte s.data.toList 47).toNat) (s.extract ((Lib.indexByte s.data.toList 47).toNat + 1) s.size) = true then
  some (s.extract 0 (Lib.indexByte s.data.toList 47).toNat, s.extract ((Lib.indexByte s.data.toList 47).toNat + 1) s.size)
 else none

theorem cutOf_no {s : ByteArray} (h : (47 : UInt8) ∉ s.data.toList) : cutOf s = none := by
 unfold cutOf
 rcases cut_cases 47 s with ⟨h1, _⟩ | ⟨a, b, h1, _, _⟩
 ·rw [if_pos (by omega)]
 ·exact absurd (by rw [h1]; simp) h

theorem cutOf_at {a b : ByteArray} (h : (47 : UInt8) ∉ a.data.toList) : cutOf (a ++ ⟨#[47]⟩ ++ b) = if keyMay a b = true then some (a, b) else none := by
 unfold cutOf
 rw [index_at h, if_neg (by omega), Int.toNat_natCast, cut_before, cut_after]

theorem keyMay_at {a b : ByteArray} (h : keyMay a b = true) : (47 : UInt8) ∉ a.data.toList ∧ (47 : UInt8) ∉ b.data.toList := by
 simp only [keyMay, Bool.and_eq_true, Bool.or_eq_true, decide_eq_true_eq] at h
 refine ⟨?_, not_in_name h.2⟩
 rcases h.1 with h1 | h1
 ·rw [h1]; simp
 ·exact not_in_label h1

theorem cutOf_key {a b : ByteArray} (h : keyMay a b = true) : cutOf (keyOf a b) = some (a, b) := by
 unfold keyOf
 rw [cutOf_at (keyMay_at h).1, if_pos h]

theorem cutOf_some {s a b : ByteArray} (h : cutOf s = some (a, b)) : s = keyOf a b ∧ keyMay a b = true := by
 rcases cut_cases 47 s with ⟨_, h2⟩ | ⟨x, y, h1, h2, _⟩
 ·rw [cutOf_no h2] at h; cases h
 ·rw [h1, cutOf_at h2] at h
  split at h
  ·rename_i hk
   cases h
   exact ⟨h1, hk⟩
  ·cases h

theorem cutOf_parts (s : ByteArray) : cutOf s = match splitB 47 s.size s with
 | [a, b] => if keyMay a b = true then some (a, b) else none
 | _ => none := by
 rcases cut_cases 47 s with ⟨h1, h2⟩ | ⟨a, b, h1, h2, h3⟩
 ·rw [cutOf_no h2, splitB_end (by omega)]
 ·have hsz : s.size = a.size + 1 + b.size := by rw [h1, ByteArray.size_append, ByteArray.size_append]; rfl
  have hc1 : s.extract 0 a.size = a := by rw [h1]; exact cut_before 47
  have hc2 : s.extract (a.size + 1) s.size = b := by rw [h1]; exact cut_after 47
  have e : splitB 47 s.size s = a :: splitB 47 (a.size + b.size) b := by
   rw [show s.size = (a.size + b.size) + 1 by omega] at hc2 ⊢
   rw [splitB, if_neg (by omega), h3, Int.toNat_natCast, hc1, show s.size = (a.size + b.size) + 1 by omega, hc2]
  rw [e]
  rcases cut_cases 47 b with ⟨h4, _⟩ | ⟨x, y, h4, _, h5⟩
  ·rw [splitB_end (by omega), h1, cutOf_at h2]
  ·have hb : dname b = false := by
    rw [Bool.eq_false_iff]
    intro h
    exact absurd (by rw [h4]; simp) (not_in_name h)
   have hk : keyMay a b = false := by simp [keyMay, hb]
   have hbs : 0 < b.size := by rw [h4, ByteArray.size_append, ByteArray.size_append]; exact Nat.lt_of_lt_of_le (Nat.lt_of_lt_of_le Nat.one_pos (Nat.le_add_left 1 x.size)) (Nat.le_add_right _ _)
   obtain ⟨m, hm⟩ : ∃ m, a.size + b.size = m + 1 := ⟨a.size + b.size - 1, by omega⟩
   rw [hm, splitB, if_neg (by omega), h1, cutOf_at h2, hk]
   have hne : ∃ p q, splitB 47 m (b.extract ((Lib.indexByte b.data.toList 47).toNat + 1) b.size) = p :: q := by
    cases m with
    | zero => exact ⟨_, [], rfl⟩
    | succ m =>
      rw [splitB]
      split
      ·exact ⟨_, [], rfl⟩
      ·exact ⟨_, _, rfl⟩
   obtain ⟨p, q, hpq⟩ := hne
   rw [hpq]
   rfl

def parseOf (s : ByteArray) : Option ARef :=
 match s[0]?, s[1]?, cutOf (s.extract 2 s.size) with
 | some x, some y, some (a, b) => if y = 32 ∧ mayRef ⟨(x.toNat : Int) - 48, a, b⟩ = true then some ⟨(x.toNat : Int) - 48, a, b⟩ else none
 | _, _, _ => none

theorem mayRef_nil (k : Int) : mayRef ⟨k, ⟨#[]⟩, ⟨#[]⟩⟩ = false := by
 rw [Bool.eq_false_iff]
 intro h
 rcases (mayRef_iff _).1 h with ⟨_, _, e⟩ | ⟨_, _, e⟩ | ⟨_, _, e, _⟩
 ·simp only at e; rw [dname_nil] at e; cases e
 ·simp only at e; rw [label_nil] at e; cases e
 ·simp only at e; rw [label_nil] at e; cases e

theorem text_split {s : ByteArray} {x y : UInt8} (h0 : s[0]? = some x) (h1 : s[1]? = some y) : s = ⟨#[x]⟩ ++ ⟨#[y]⟩ ++ s.extract 2 s.size := by
 rw [extract_list, List.take_of_length_le (Nat.le_of_eq (size_list _))]
 rw [bytes_get] at h0 h1
 apply ByteArray.ext
 apply Array.ext'
 cases hl : s.data.toList with
 | nil => rw [hl] at h0; cases h0
 | cons p l =>
   cases l with
   | nil => rw [hl] at h1; cases h1
   | cons q l =>
     rw [hl] at h0 h1
     simp only [List.getElem?_cons_zero, Option.some.injEq, List.getElem?_cons_succ] at h0 h1
     rw [h0, h1]
     rfl

theorem text_own {s a b : ByteArray} {x y : UInt8} (h0 : s[0]? = some x) (h1 : s[1]? = some y) (hc : cutOf (s.extract 2 s.size) = some (a, b)) (hm : mayRef ⟨(x.toNat : Int) - 48, a, b⟩ = true) :
 (textOf ⟨(x.toNat : Int) - 48, a, b⟩ = s) ↔ y = 32 := by
 have hs := text_split h0 h1
 rw [(cutOf_some hc).1] at hs
 have hk := mayRef_kind hm
 have hx : UInt8.ofNat (48 + ((x.toNat : Int) - 48).toNat) = x := by
  rw [show 48 + ((x.toNat : Int) - 48).toNat = x.toNat by simp only at hk; omega]
  simp
 unfold textOf
 simp only
 rw [hx, hs]
 constructor
 ·intro h
  have h2 := congrArg (fun s : ByteArray => s.data.toList) h
  simp at h2
  exact h2.symm
 ·intro h; rw [h]

theorem parse_text {r : ARef} (h : mayRef r = true) : parseOf (textOf r) = some r := by
 have hk := mayRef_kind h
 have e0 : (textOf r)[0]? = some (UInt8.ofNat (48 + r.kind.toNat)) := by rw [bytes_get]; unfold textOf; simp
 have e1 : (textOf r)[1]? = some 32 := by rw [bytes_get]; unfold textOf; simp
 have e2 : (textOf r).extract 2 (textOf r).size = keyOf r.space r.name := by
  have h1 := text_split e0 e1
  have h2 := congrArg (fun s : ByteArray => s.data.toList) h1
  apply ByteArray.ext
  apply Array.ext'
  unfold textOf at h2 ⊢
  simp at h2 ⊢
  exact h2.symm
 have e3 : ((UInt8.ofNat (48 + r.kind.toNat)).toNat : Int) - 48 = r.kind := by
  rcases hk with e | e | e | e | e | e | e <;> rw [e] <;> decide
 unfold parseOf
 rw [e0, e1, e2, cutOf_key (may_key h)]
 simp only [e3]
 simp [h]


def cutD (s : ByteArray) (i : Int) : D := if i < 0 then .tup [str s, str ⟨#[]⟩, bln false] else .tup [str (s.extract 0 i.toNat), str (s.extract (i.toNat + 1) s.size), bln true]

theorem stringslite_Cut (s : ByteArray) (hs : s.size ≤ 1000000) : Pure Tryz.prog 164 [str s, str ⟨#[47]⟩] (fun d => d = cutD s (Lib.indexByte s.data.toList 47)) := by
 refine pure_of_run follows an_z7fbg Tryz.func164 rfl ok_z7fbg.1 ok_z7fbg.2 (by simp [Tryz.ntmps164]) ?_
 rw [run_start]
 have h1 : (ByteArray.mk #[47]).size = 1 := rfl
 have cI := stringslite_Index s 47
 simp only [ac_z7fbg, go_sem, simprocAttr]
 unfold cutD
 rcases cut_cases 47 s with ⟨h, _⟩ | ⟨a, b, h2, _, h⟩
 ·rw [h] at cI ⊢
  refine cI.callW (enters_of Tryz.func207 rfl rfl) _ rfl rfl ?_
  rintro _ rfl
  have q : ((0 : Int) ≤ -1) = False := eq_false (by omega)
  simp only [go_sem, simprocAttr, q]
  simp only [retK, resD, retL, oneD, simprocAttr, Tryz.results164]
  exact ⟨_, rfl, rfl, rfl⟩
 ·have hsz : s.size = a.size + 1 + b.size := by rw [h2, ByteArray.size_append, ByteArray.size_append]; rfl
  rw [h] at cI ⊢
  rw [if_neg (by omega), Int.toNat_natCast]
  refine cI.callW (enters_of Tryz.func207 rfl rfl) _ rfl rfl ?_
  rintro _ rfl
  generalize a.size = i at hsz h
  have hi : i + 1 ≤ s.size := by omega
  clear hsz h2 h
  have hw := i64_succ (show i < 1000000000 by omega)
  have q1 : (i ≤ s.size) = True := eq_true (by omega)
  have q2 : (i + 1 ≤ s.size) = True := eq_true hi
  simp only [go_sem, simprocAttr, h1, hw, q1, q2]
  simp only [retK, resD, retL, oneD, simprocAttr, Tryz.results164]
  exact ⟨_, rfl, rfl, rfl⟩

theorem strings_Cut (s : ByteArray) (hs : s.size ≤ 1000000) : Pure Tryz.prog 116 [str s, str ⟨#[47]⟩] (fun d => d = cutD s (Lib.indexByte s.data.toList 47)) := by
 refine pure_of_run follows an_z5e2p Tryz.func116 rfl ok_z5e2p.1 ok_z5e2p.2 (by simp [Tryz.ntmps116]) ?_
 rw [run_start]
 simp only [ac_z5e2p, go_sem, simprocAttr]
 refine (stringslite_Cut s hs).callW (enters_of Tryz.func164 rfl rfl) _ rfl rfl ?_
 rintro _ rfl
 unfold cutD
 split
 all_goals
  simp only [go_sem, simprocAttr]
  simp only [retK, resD, retL, oneD, simprocAttr, Tryz.results116]
  exact ⟨_, rfl, rfl, rfl⟩

def nkeyD : Option (ByteArray × ByteArray) → D
 | some (a, b) => .tup [str a, str b, int 0]
 | none => .tup [str ⟨#[]⟩, str ⟨#[]⟩, int 2]

theorem keyMay_nil (s : ByteArray) : keyMay s ⟨#[]⟩ = false := by unfold keyMay; rw [dname_nil, Bool.and_false]

theorem dns_Cut (s : ByteArray) (hs : s.size ≤ 1000000) : Pure Tryz.prog 68 [str s] (fun d => d = nkeyD (cutOf s)) := by
 refine pure_of_run follows an_zvozq Tryz.func68 rfl ok_zvozq.1 ok_zvozq.2 (by simp [Tryz.ntmps68]) ?_
 rw [run_start]
 simp only [ac_zvozq, go_sem, simprocAttr]
 refine (strings_Cut s hs).callW (enters_of Tryz.func116 rfl rfl) _ rfl rfl ?_
 rintro _ rfl
 rcases cut_cases 47 s with ⟨h, hn⟩ | ⟨a, b, h2, h3, h⟩
 ·have cK := dns_Key s ⟨#[]⟩
  rw [keyMay_nil, if_neg (by simp)] at cK
  rw [h, cutOf_no hn]
  unfold cutD
  rw [if_pos (by omega)]
  simp only [go_sem, simprocAttr]
  refine cK.callW (enters_of Tryz.func67 rfl rfl) _ rfl rfl ?_
  rintro _ rfl
  simp only [go_sem, simprocAttr]
  simp only [retK, resD, retL, oneD, simprocAttr, Tryz.results68]
  exact ⟨_, rfl, rfl, rfl⟩
 ·rw [h]
  unfold cutD
  rw [if_neg (by omega), Int.toNat_natCast, show s.extract 0 a.size = a by rw [h2]; exact cut_before 47, show s.extract (a.size + 1) s.size = b by rw [h2]; exact cut_after 47,
   show cutOf s = if keyMay a b = true then some (a, b) else none by rw [h2]; exact cutOf_at h3]
  have cK := dns_Key a b
  simp only [go_sem, simprocAttr]
  refine cK.callW (enters_of Tryz.func67 rfl rfl) _ rfl rfl ?_
  rintro _ rfl
  by_cases hk : keyMay a b = true
  ·rw [if_pos hk, if_pos hk, show keyOf a b = s from h2.symm]
   simp only [go_sem, simprocAttr]
   simp only [retK, resD, retL, oneD, simprocAttr, Tryz.results68]
   exact ⟨_, rfl, rfl, rfl⟩
  ·rw [if_neg hk, if_neg hk]
   simp only [go_sem, simprocAttr]
   simp only [retK, resD, retL, oneD, simprocAttr, Tryz.results68]
   exact ⟨_, rfl, rfl, rfl⟩

def parseD : Option ARef → D
 | some r => .tup [r.d, int 0]
 | none => .tup [(⟨0, ⟨#[]⟩, ⟨#[]⟩⟩ : ARef).d, int 2]

set_option maxHeartbeats 4000000 in
theorem object_Parse (s : ByteArray) (hs : s.size ≤ 1000000) : Pure Tryz.prog 23 [str s] (fun d => d = parseD (parseOf s)) := by
 refine pure_of_run follows an_zhci6 Tryz.func23 rfl ok_zhci6.1 ok_zhci6.2 (by simp [Tryz.ntmps23]) ?_
 rw [run_start]
 simp only [ac_zhci6, go_sem, simprocAttr]
 by_cases hl : s.size < 2
 ·have hl' : ((s.size : Int) < 2) = True := eq_true (by omega)
  have e : parseOf s = none := by
   unfold parseOf
   rw [show s[1]? = none by rw [bytes_get]; exact List.getElem?_eq_none (by rw [size_list]; omega)]
   split <;> simp_all
  rw [e]
  simp only [go_sem, simprocAttr, hl']
  simp only [retK, resD, retL, oneD, simprocAttr, Tryz.results23]
  exact ⟨_, rfl, rfl, rfl⟩
 have hl' : ((s.size : Int) < 2) = False := eq_false (by omega)
 have hl2 : (2 ≤ s.size) = True := eq_true (by omega)
 obtain ⟨x, hx⟩ := at_byte (show 0 < s.size by omega)
 obtain ⟨y, hy⟩ := at_byte (show 1 < s.size by omega)
 have cC := dns_Cut (s.extract 2 s.size) (by rw [ByteArray.size_extract]; omega)
 have w1 : IntKind.i64.wrap ((x.toNat : Int) - 48) = (x.toNat : Int) - 48 := IntWalk.i64_in _ (by have := x.toNat_lt; omega)
 have w2 : IntKind.i64.wrap (x.toNat : Int) = (x.toNat : Int) := IntWalk.i64_in _ (by have := x.toNat_lt; omega)
 have ep : parseOf s = match cutOf (s.extract 2 s.size) with
  | some (a, b) => if y = 32 ∧ mayRef ⟨(x.toNat : Int) - 48, a, b⟩ = true then some ⟨(x.toNat : Int) - 48, a, b⟩ else none
  | none => none := by
  unfold parseOf
  rw [hx, hy]
  cases cutOf (s.extract 2 s.size) <;> rfl
 rw [ep]
 have to := fun a b h hm => text_own (a := a) (b := b) hx hy h hm
 generalize cutOf (s.extract 2 s.size) = c at cC to ⊢
 simp only [go_sem, simprocAttr, hl', hl2]
 refine cC.callW (enters_of Tryz.func68 rfl rfl) _ rfl rfl ?_
 rintro _ rfl
 cases c with
 | none =>
   simp only [nkeyD]
   have cT := object_Text ⟨(x.toNat : Int) - 48, ⟨#[]⟩, ⟨#[]⟩⟩
   rw [mayRef_nil, if_neg (by simp)] at cT
   simp only [go_sem, simprocAttr, hx, w1, w2]
   refine cT.callW (enters_of Tryz.func22 rfl rfl) _ rfl rfl ?_
   rintro _ rfl
   simp only [go_sem, simprocAttr]
   simp only [retK, resD, retL, oneD, simprocAttr, Tryz.results23]
   exact ⟨_, rfl, rfl, rfl⟩
 | some p =>
   obtain ⟨a, b⟩ := p
   simp only [nkeyD]
   have to' := to a b rfl
   have cT := object_Text ⟨(x.toNat : Int) - 48, a, b⟩
   simp only [go_sem, simprocAttr, hx, w1, w2]
   refine cT.callW (enters_of Tryz.func22 rfl rfl) _ rfl rfl ?_
   rintro _ rfl
   by_cases hm : mayRef ⟨(x.toNat : Int) - 48, a, b⟩ = true
   ·have hto := to' hm
    rw [if_pos hm]
    generalize textOf ⟨(x.toNat : Int) - 48, a, b⟩ = t at hto
    by_cases hy32 : y = 32
    ·have ht := eq_true (hto.2 hy32)
     rw [if_pos ⟨hy32, hm⟩]
     simp only [go_sem, simprocAttr, ht]
     simp only [retK, resD, retL, oneD, simprocAttr, Tryz.results23]
     exact ⟨_, rfl, rfl, rfl⟩
    ·have ht := eq_false (fun h => hy32 (hto.1 h))
     rw [if_neg (fun h => hy32 h.1)]
     simp only [go_sem, simprocAttr, ht]
     simp only [retK, resD, retL, oneD, simprocAttr, Tryz.results23]
     exact ⟨_, rfl, rfl, rfl⟩
   ·rw [if_neg hm, if_neg (fun h => hm h.2)]
    simp only [go_sem, simprocAttr]
    simp only [retK, resD, retL, oneD, simprocAttr, Tryz.results23]
    exact ⟨_, rfl, rfl, rfl⟩


def docCutD : Option (ByteArray × ByteArray) → D
 | some (a, b) => .tup [str a, str b, bln true]
 | none => .tup [str ⟨#[]⟩, str ⟨#[]⟩, bln false]

theorem key_sizes {a b : ByteArray} (h : keyMay a b = true) : a.size ≤ 20 ∧ b.size ≤ 60 := by
 simp only [keyMay, Bool.and_eq_true, Bool.or_eq_true, decide_eq_true_eq] at h
 refine ⟨?_, ?_⟩
 ·rcases h.1 with h1 | h1
  ·rw [h1]; decide
  ·exact ((label_iff _).1 h1).2.1
 ·have := h.2
  simp only [dname, Bool.and_eq_true, decide_eq_true_eq] at this
  exact this.1

theorem split_sizes {c : UInt8} : ∀ {n : Nat} {s : ByteArray}, ∀ p ∈ splitB c n s, p.size ≤ s.size
 | 0, s, p, h => by simp only [splitB, List.mem_singleton] at h; rw [h]; exact Nat.le_refl _
 | n + 1, s, p, h => by
   rw [splitB] at h
   split at h
   ·simp only [List.mem_singleton] at h; rw [h]; exact Nat.le_refl _
   ·rcases List.mem_cons.1 h with h | h
    ·rw [h, ByteArray.size_extract]; omega
    ·have := split_sizes p h
     rw [ByteArray.size_extract] at this
     omega

set_option maxHeartbeats 4000000 in
theorem ref1_Cut (s : ByteArray) (hs : s.size ≤ 1000000) : Pure Tryz.prog 69 [str s] (fun d => d = docCutD (cutOf s)) := by
 refine pure_of_run follows an_zmbbv Tryz.func69 rfl ok_zmbbv.1 ok_zmbbv.2 (by simp [Tryz.ntmps69]) ?_
 rw [run_start]
 simp only [ac_zmbbv, go_sem, simprocAttr]
 refine (ref1_Split s hs 47 47 rfl).callW (enters_of Tryz.func117 rfl rfl) _ rfl rfl ?_
 rintro _ rfl
 rw [cutOf_parts]
 have hz := fun p hp => split_sizes (c := 47) (n := s.size) (s := s) p hp
 generalize splitB 47 s.size s = l at hz
 rcases l with _ | ⟨a, _ | ⟨b, _ | ⟨c, l⟩⟩⟩
 ·have q : (((([] : List ByteArray).length : Nat) : Int) = 2) = False := eq_false (by simp)
  simp only [go_sem, simprocAttr, q]
  simp only [retK, resD, retL, oneD, simprocAttr, Tryz.results69]
  exact ⟨_, rfl, rfl, rfl⟩
 ·have q : ((([a].length : Nat) : Int) = 2) = False := eq_false (by simp)
  simp only [go_sem, simprocAttr, q]
  simp only [retK, resD, retL, oneD, simprocAttr, Tryz.results69]
  exact ⟨_, rfl, rfl, rfl⟩
 ·have q : ((([a, b].length : Nat) : Int) = 2) = True := eq_true (by simp)
  have e0 : [a, b][0]? = some a := rfl
  have e1 : [a, b][1]? = some b := rfl
  have hz1 := hz a (by simp)
  have hz2 := hz b (by simp)
  have cL := ref1_Label a (by omega)
  have cN := ref1_Name b
  by_cases ha : a = ⟨#[]⟩
  ·have ha' := eq_true ha
   simp only [go_sem, simprocAttr, q, rows_get e0, rows_get e1, ha']
   refine cN.callW (enters_of Tryz.func73 rfl rfl) _ rfl rfl ?_
   rintro _ rfl
   cases hn : dname b
   ·rw [show keyMay a b = false by simp [keyMay, hn]]
    simp only [go_sem, simprocAttr]
    simp only [retK, resD, retL, oneD, simprocAttr, Tryz.results69]
    exact ⟨_, rfl, rfl, rfl⟩
   ·rw [show keyMay a b = true by simp [keyMay, hn, ha]]
    simp only [go_sem, simprocAttr, rows_get e0, rows_get e1]
    simp only [retK, resD, retL, oneD, simprocAttr, Tryz.results69]
    exact ⟨_, rfl, rfl, rfl⟩
  ·have ha' := eq_false ha
   simp only [go_sem, simprocAttr, q, rows_get e0, rows_get e1, ha']
   refine cL.callW (enters_of Tryz.func74 rfl rfl) _ rfl rfl ?_
   rintro _ rfl
   cases hl : label a
   ·rw [show keyMay a b = false by simp [keyMay, hl, ha]]
    simp only [go_sem, simprocAttr]
    simp only [retK, resD, retL, oneD, simprocAttr, Tryz.results69]
    exact ⟨_, rfl, rfl, rfl⟩
   ·simp only [go_sem, simprocAttr, rows_get e0, rows_get e1]
    refine cN.callW (enters_of Tryz.func73 rfl rfl) _ rfl rfl ?_
    rintro _ rfl
    cases hn : dname b
    ·rw [show keyMay a b = false by simp [keyMay, hn]]
     simp only [go_sem, simprocAttr]
     simp only [retK, resD, retL, oneD, simprocAttr, Tryz.results69]
     exact ⟨_, rfl, rfl, rfl⟩
    ·rw [show keyMay a b = true by simp [keyMay, hn, hl]]
     simp only [go_sem, simprocAttr, rows_get e0, rows_get e1]
     simp only [retK, resD, retL, oneD, simprocAttr, Tryz.results69]
     exact ⟨_, rfl, rfl, rfl⟩
 ·have q : (((l.length + 1 + 1 + 1 : Nat) : Int) = 2) = False := eq_false (by omega)
  simp only [go_sem, simprocAttr, q]
  simp only [retK, resD, retL, oneD, simprocAttr, Tryz.results69]
  exact ⟨_, rfl, rfl, rfl⟩

def docParseD : Option ARef → D
 | some r => .tup [r.d, bln true]
 | none => .tup [(⟨0, ⟨#[]⟩, ⟨#[]⟩⟩ : ARef).d, bln false]

set_option maxHeartbeats 4000000 in
theorem ref9_Parse (s : ByteArray) (hs : s.size ≤ 1000000) : Pure Tryz.prog 24 [str s] (fun d => d = docParseD (parseOf s)) := by
 refine pure_of_run follows an_z5bvg Tryz.func24 rfl ok_z5bvg.1 ok_z5bvg.2 (by simp [Tryz.ntmps24]) ?_
 rw [run_start]
 simp only [ac_z5bvg, go_sem, simprocAttr]
 by_cases hl : s.size < 2
 ·have hl' : ((s.size : Int) < 2) = True := eq_true (by omega)
  have e : parseOf s = none := by
   unfold parseOf
   rw [show s[1]? = none by rw [bytes_get]; exact List.getElem?_eq_none (by rw [size_list]; omega)]
   split <;> simp_all
  rw [e]
  simp only [go_sem, simprocAttr, hl']
  simp only [retK, resD, retL, oneD, simprocAttr, Tryz.results24]
  exact ⟨_, rfl, rfl, rfl⟩
 have hl' : ((s.size : Int) < 2) = False := eq_false (by omega)
 have hl2 : (2 ≤ s.size) = True := eq_true (by omega)
 obtain ⟨x, hx⟩ := at_byte (show 0 < s.size by omega)
 obtain ⟨y, hy⟩ := at_byte (show 1 < s.size by omega)
 have cC := ref1_Cut (s.extract 2 s.size) (by rw [ByteArray.size_extract]; omega)
 have w1 : IntKind.i64.wrap ((x.toNat : Int) - 48) = (x.toNat : Int) - 48 := IntWalk.i64_in _ (by have := x.toNat_lt; omega)
 have w2 : IntKind.i64.wrap (x.toNat : Int) = (x.toNat : Int) := IntWalk.i64_in _ (by have := x.toNat_lt; omega)
 have ep : parseOf s = match cutOf (s.extract 2 s.size) with
  | some (a, b) => if y = 32 ∧ mayRef ⟨(x.toNat : Int) - 48, a, b⟩ = true then some ⟨(x.toNat : Int) - 48, a, b⟩ else none
  | none => none := by
  unfold parseOf
  rw [hx, hy]
  cases cutOf (s.extract 2 s.size) <;> rfl
 rw [ep]
 by_cases hy32 : y = 32
 case neg =>
  have hy' : ((y.toNat : Int) = 32) = False := eq_false (fun h => hy32 (UInt8.toNat_inj.1 (by simp only [UInt8.reduceToNat]; omega)))
  have e : (match cutOf (s.extract 2 s.size) with
   | some (a, b) => if y = 32 ∧ mayRef ⟨(x.toNat : Int) - 48, a, b⟩ = true then some (⟨(x.toNat : Int) - 48, a, b⟩ : ARef) else none
   | none => none) = none := by
   split
   ·rw [if_neg (fun h => hy32 h.1)]
   ·rfl
  rw [e]
  simp only [go_sem, simprocAttr, hl', hy, hy']
  simp only [retK, resD, retL, oneD, simprocAttr, Tryz.results24]
  exact ⟨_, rfl, rfl, rfl⟩
 have hy' : ((y.toNat : Int) = 32) = True := eq_true (by rw [hy32]; rfl)
 have hcs := fun a b h => (cutOf_some (s := s.extract 2 s.size) (a := a) (b := b) h).2
 generalize cutOf (s.extract 2 s.size) = c at cC hcs ⊢
 simp only [go_sem, simprocAttr, hl', hl2, hy, hy']
 refine cC.callW (enters_of Tryz.func69 rfl rfl) _ rfl rfl ?_
 rintro _ rfl
 cases c with
 | none =>
   simp only [docCutD]
   simp only [go_sem, simprocAttr, hx, w1, w2]
   simp only [retK, resD, retL, oneD, simprocAttr, Tryz.results24]
   exact ⟨_, rfl, rfl, rfl⟩
 | some p =>
   obtain ⟨a, b⟩ := p
   simp only [docCutD]
   obtain ⟨z1, z2⟩ := key_sizes (hcs a b rfl)
   have cM := ref9_MayRef ⟨(x.toNat : Int) - 48, a, b⟩ (by simp only; omega) (by simp only; omega)
   simp only [go_sem, simprocAttr, hx, w1, w2]
   refine cM.callW (enters_of Tryz.func26 rfl rfl) _ rfl rfl ?_
   rintro _ rfl
   cases hm : mayRef ⟨(x.toNat : Int) - 48, a, b⟩
   ·rw [if_neg (fun h => by cases h.2)]
    simp only [go_sem, simprocAttr]
    simp only [retK, resD, retL, oneD, simprocAttr, Tryz.results24]
    exact ⟨_, rfl, rfl, rfl⟩
   ·rw [if_pos ⟨hy32, rfl⟩]
    simp only [go_sem, simprocAttr]
    simp only [retK, resD, retL, oneD, simprocAttr, Tryz.results24]
    exact ⟨_, rfl, rfl, rfl⟩

set_option maxHeartbeats 4000000 in
theorem ref9_Text (r : ARef) (hm : mayRef r = true) : Pure Tryz.prog 28 [r.d] (fun d => d = str (textOf r)) := by
 refine pure_of_run follows an_zauke Tryz.func28 rfl ok_zauke.1 ok_zauke.2 (by simp [Tryz.ntmps28]) ?_
 rw [run_start]
 simp only [ac_zauke, go_sem, simprocAttr]
 obtain ⟨z1, z2⟩ := key_sizes (may_key hm)
 have hw : IntKind.i64.wrap (48 + r.kind) = 48 + r.kind := IntWalk.i64_in _ (by have := mayRef_kind hm; omega)
 have hw2 : IntKind.u8.wrap (48 + r.kind) = ((UInt8.ofNat (48 + r.kind.toNat)).toNat : Int) := by
  rcases mayRef_kind hm with e | e | e | e | e | e | e <;> rw [e] <;> decide
 have hb : octStr [((UInt8.ofNat (48 + r.kind.toNat)).toNat : Int)] = ⟨#[UInt8.ofNat (48 + r.kind.toNat)]⟩ := by
  rcases mayRef_kind hm with e | e | e | e | e | e | e <;> rw [e] <;> decide
 rw [hw, hw2, hb]
 have ht : textOf r = ⟨#[UInt8.ofNat (48 + r.kind.toNat)]⟩ ++ ⟨#[32]⟩ ++ r.space ++ ⟨#[47]⟩ ++ r.name := by
  unfold textOf keyOf
  simp only [ByteArray.append_assoc]
 rw [ht]
 generalize UInt8.ofNat (48 + r.kind.toNat) = b
 have e1 : #[b].size = 1 := rfl
 have e2 : #[(32 : UInt8)].size = 1 := rfl
 have e3 : #[(47 : UInt8)].size = 1 := rfl
 have d1 : (#[b].size + #[(32 : UInt8)].size ≤ 9223372036854775807) = True := eq_true (by omega)
 have d2 : (#[b].size + #[(32 : UInt8)].size + r.space.size ≤ 9223372036854775807) = True := eq_true (by omega)
 have d3 : (#[b].size + #[(32 : UInt8)].size + r.space.size + #[(47 : UInt8)].size ≤ 9223372036854775807) = True := eq_true (by omega)
 have d4 : (#[b].size + #[(32 : UInt8)].size + r.space.size + #[(47 : UInt8)].size + r.name.size ≤ 9223372036854775807) = True := eq_true (by omega)
 simp only [go_sem, simprocAttr, d1, d2, d3, d4]
 simp only [retK, resD, retL, oneD, simprocAttr, Tryz.results28]
 exact ⟨_, rfl, rfl, rfl⟩


theorem cmp_Compare_i (x y : Int) : Pure Tryz.prog 65 [int x, int y] (fun d => d = int (Lib.compareInt x y)) :=
 pure_of_calls (vs := [.int .i64 x, .int .i64 y]) (v := .int .i64 (Lib.compareInt x y)) (fun _ _ _ h => reps_two h) rfl (fun _ _ => by simp only [Rep]; exact .raw _ rfl) (mem_Compare_i x y)
theorem cmp_Compare_s (x y : ByteArray) : Pure Tryz.prog 66 [str x, str y] (fun d => d = int (cmpB x y)) :=
 pure_of_calls (vs := [.string x, .string y]) (v := .int .i64 (cmpB x y)) (fun _ _ _ h => reps_two h) rfl (fun _ _ => by simp only [Rep]; exact .raw _ rfl) (mem_Compare_s x y)

def firstNZ (l : List Int) : Int := (l.find? fun x => !decide (x = 0)).getD 0

theorem cmp_Or (l : List Int) (hl : l.length ≤ 1000) : Pure Tryz.prog 64 [.pd (.slice (ints l))] (fun d => d = int (firstNZ l)) := by
 refine pure_of_run follows an_zeird Tryz.func64 rfl ok_zeird.1 ok_zeird.2 (by simp [Tryz.ntmps64]) ?_
 rw [run_start]
 simp only [ac_zeird, go_sem, simprocAttr]
 unfold firstNZ
 generalize hR : (l.find? fun x => !decide (x = 0)) = R
 refine loopS (fun k st => ∃ i : Nat, k = l.length - i ∧ i ≤ l.length ∧ ((l.drop i).find? fun x => !decide (x = 0)) = R ∧
  st = ⟨[(3, int 0), (6, .pd (.slice (ints l))), (7, int l.length), (8, int i)], [], [], .no⟩) l.length _ ?_ ⟨0, rfl, by omega, hR, rfl⟩ ?_
 ·exact lessA
 rintro k st ⟨i, rfl, hi, hF, rfl⟩
 have hw := i64_succ (show i < 1000000000 by omega)
 by_cases hlt : i < l.length
 ·obtain ⟨x, hx⟩ := at_lt hlt
  have h1 : ((i : Int) < (l.length : Int)) = True := eq_true (by omega)
  have hd : l.drop i = x :: l.drop (i + 1) := by obtain ⟨h, e⟩ := List.getElem?_eq_some_iff.1 hx; rw [← e]; exact List.drop_eq_getElem_cons h
  rw [hd] at hF
  by_cases h0 : x = 0
  ·have h0' := eq_true h0
   rw [List.find?_cons_of_neg (by simp [h0])] at hF
   simp only [go_sem, simprocAttr, rows_get hx, h1, h0', hw]
   refine ⟨l.length - (i + 1), _, by omega, ?_, i + 1, rfl, by omega, hF, rfl⟩
   exact lessA
  ·have h0' := eq_false h0
   rw [List.find?_cons_of_pos (by simp [h0])] at hF
   simp only [go_sem, simprocAttr, rows_get hx, h1, h0']
   simp only [retK, resD, retL, oneD, simprocAttr, Tryz.results64]
   exact ⟨_, rfl, rfl, by rw [← hF]; rfl⟩
 ·have h1 : ((i : Int) < (l.length : Int)) = False := eq_false (by omega)
  rw [List.drop_eq_nil_of_le (by omega)] at hF
  simp only [go_sem, simprocAttr, h1]
  simp only [retK, resD, retL, oneD, simprocAttr, Tryz.results64]
  exact ⟨_, rfl, rfl, by rw [← hF]; rfl⟩

theorem first_or (a b : ARef) : firstNZ [Lib.compareInt a.kind b.kind, cmpB a.space b.space, cmpB a.name b.name] = refCmp a b := by
 rw [refCmp_or]
 generalize Lib.compareInt a.kind b.kind = x
 generalize cmpB a.space b.space = y
 generalize cmpB a.name b.name = z
 unfold firstNZ
 by_cases hx : x = 0
 ·by_cases hy : y = 0
  ·by_cases hz : z = 0 <;> simp [hx, hy, hz]
  ·simp [hx, hy]
 ·simp [hx]

set_option maxHeartbeats 2000000 in
theorem object_Order (a b : ARef) : Pure Tryz.prog 20 [a.d, b.d] (fun d => d = int (refCmp a b)) := by
 have cO := cmp_Or [Lib.compareInt a.kind b.kind, cmpB a.space b.space, cmpB a.name b.name] (by simp)
 rw [first_or] at cO
 have c1 := cmp_Compare_i a.kind b.kind
 have c2 := cmp_Compare_s a.space b.space
 have c3 := cmp_Compare_s a.name b.name
 generalize Lib.compareInt a.kind b.kind = x at cO c1
 generalize cmpB a.space b.space = y at cO c2
 generalize cmpB a.name b.name = z at cO c3
 refine pure_of_run follows an_zyyke Tryz.func20 rfl ok_zyyke.1 ok_zyyke.2 (by simp [Tryz.ntmps20]) ?_
 rw [run_start]
 simp only [ac_zyyke, go_sem, simprocAttr]
 refine c1.callX (enters_of Tryz.func65 rfl rfl) _ rfl rfl ?_
 rintro _ rfl
 simp only [go_sem, simprocAttr]
 refine c2.callX (enters_of Tryz.func66 rfl rfl) _ rfl rfl ?_
 rintro _ rfl
 simp only [go_sem, simprocAttr]
 refine c3.callX (enters_of Tryz.func66 rfl rfl) _ rfl rfl ?_
 rintro _ rfl
 simp only [go_sem, simprocAttr]
 refine cO.callX (enters_of Tryz.func64 rfl rfl) _ rfl rfl ?_
 rintro _ rfl
 simp only [go_sem, simprocAttr]
 simp only [retK, resD, retL, oneD, simprocAttr, Tryz.results20]
 exact ⟨_, rfl, rfl, rfl⟩


theorem text_size {r : ARef} (h : mayRef r = true) : (textOf r).size ≤ 1000000 := by
 obtain ⟨z1, z2⟩ := key_sizes (may_key h)
 unfold textOf keyOf
 simp only [ByteArray.size_append]
 have e1 : (ByteArray.mk #[UInt8.ofNat (48 + r.kind.toNat)]).size = 1 := rfl
 have e2 : (ByteArray.mk #[(32 : UInt8)]).size = 1 := rfl
 have e3 : (ByteArray.mk #[(47 : UInt8)]).size = 1 := rfl
 omega

theorem eq_self9 {α : Type} [DecidableEq α] (a : α) : decide (a = a) = true := decide_eq_true rfl

set_option maxHeartbeats 8000000 in
theorem law_ObjectTexts (a b : ARef) (s : ByteArray) : Pure Tryz.prog 9 [a.d, b.d, str s] (fun d => d = bln true) := by
 have z1 := few_size a.space
 have z2 := few_size a.name
 have z5 := few_size s
 have f1 := law9_FewRef a
 have f2 := law9_FewRef b
 have f3 := law1_Few s
 obtain ⟨a', ha⟩ : ∃ a', a' = fewRef a := ⟨_, rfl⟩
 obtain ⟨b', hb⟩ : ∃ b', b' = fewRef b := ⟨_, rfl⟩
 have z3 : a'.space.size ≤ 100 := by rw [ha]; exact z1
 have z4 : a'.name.size ≤ 100 := by rw [ha]; exact z2
 rw [← ha] at f1
 rw [← hb] at f2
 clear ha hb z1 z2
 generalize few s = s' at f3 z5
 have cT := object_Text a'
 have cP := object_Parse s' (by omega)
 have dP := ref9_Parse s' (by omega)
 have cM := object_MayRef a'
 have dM := ref9_MayRef a' (by omega) (by omega)
 have cO := object_Order a' b'
 have dO := ref9_Order a' b'
 refine pure_of_run follows an_zcgc1 Tryz.func9 rfl ok_zcgc1.1 ok_zcgc1.2 (by simp [Tryz.ntmps9]) ?_
 rw [run_start]
 simp only [ac_zcgc1, go_sem, simprocAttr]
 refine f1.callX (enters_of Tryz.func19 rfl rfl) _ rfl rfl ?_
 rintro _ rfl
 simp only [go_sem, simprocAttr]
 refine f2.callX (enters_of Tryz.func19 rfl rfl) _ rfl rfl ?_
 rintro _ rfl
 simp only [go_sem, simprocAttr]
 refine f3.callX (enters_of Tryz.func21 rfl rfl) _ rfl rfl ?_
 rintro _ rfl
 simp only [go_sem, simprocAttr]
 refine cT.callW (enters_of Tryz.func22 rfl rfl) _ rfl rfl ?_
 rintro _ rfl
 obtain ⟨e, he⟩ : ∃ e, e = parseOf s' := ⟨_, rfl⟩
 rw [← he] at cP dP
 by_cases hm : mayRef a' = true
 ·have cQ := object_Parse (textOf a') (text_size hm)
  rw [parse_text hm] at cQ
  have dT := ref9_Text a' hm
  rw [hm] at cM dM
  rw [if_pos hm]
  generalize textOf a' = t at cQ dT
  simp only [parseD] at cQ
  cases e
  all_goals
   simp only [parseD] at cP
   simp only [docParseD] at dP
   simp only [go_sem, simprocAttr, eqb_self]
   refine cP.callW (enters_of Tryz.func23 rfl rfl) _ rfl rfl ?_
   rintro _ rfl
   simp only [go_sem, simprocAttr, eqb_self]
   refine dP.callW (enters_of Tryz.func24 rfl rfl) _ rfl rfl ?_
   rintro _ rfl
   simp only [go_sem, simprocAttr, eqb_self]
   refine cM.callX (enters_of Tryz.func25 rfl rfl) _ rfl rfl ?_
   rintro _ rfl
   simp only [go_sem, simprocAttr, eqb_self]
   refine dM.callX (enters_of Tryz.func26 rfl rfl) _ rfl rfl ?_
   rintro _ rfl
   simp only [go_sem, simprocAttr, eqb_self]
   refine cO.callX (enters_of Tryz.func20 rfl rfl) _ rfl rfl ?_
   rintro _ rfl
   simp only [go_sem, simprocAttr, eqb_self]
   refine dO.callX (enters_of Tryz.func27 rfl rfl) _ rfl rfl ?_
   rintro _ rfl
   simp only [go_sem, simprocAttr, eqVs, eqV, eq_self9, eqb_self]
   refine dM.callW (enters_of Tryz.func26 rfl rfl) _ rfl rfl ?_
   rintro _ rfl
   simp only [go_sem, simprocAttr, eqb_self]
   refine cQ.callW (enters_of Tryz.func23 rfl rfl) _ rfl rfl ?_
   rintro _ rfl
   simp only [go_sem, simprocAttr, eqb_self]
   refine dT.callW (enters_of Tryz.func28 rfl rfl) _ rfl rfl ?_
   rintro _ rfl
   simp only [go_sem, simprocAttr, eqVs, eqV, eq_self9, eqb_self]
   refine awake9.callW (enters_of Tryz.func15 rfl rfl) _ rfl rfl ?_
   rintro _ rfl
   simp only [go_sem, simprocAttr, eqb_self]
   simp only [retK, resD, retL, oneD, simprocAttr, Tryz.results9]
   exact ⟨_, rfl, rfl, rfl⟩
 ·have hm' : mayRef a' = false := by simpa using hm
  rw [hm'] at cM dM
  rw [if_neg hm]
  cases e
  all_goals
   simp only [parseD] at cP
   simp only [docParseD] at dP
   simp only [go_sem, simprocAttr, eqb_self]
   refine cP.callW (enters_of Tryz.func23 rfl rfl) _ rfl rfl ?_
   rintro _ rfl
   simp only [go_sem, simprocAttr, eqb_self]
   refine dP.callW (enters_of Tryz.func24 rfl rfl) _ rfl rfl ?_
   rintro _ rfl
   simp only [go_sem, simprocAttr, eqb_self]
   refine cM.callX (enters_of Tryz.func25 rfl rfl) _ rfl rfl ?_
   rintro _ rfl
   simp only [go_sem, simprocAttr, eqb_self]
   refine dM.callX (enters_of Tryz.func26 rfl rfl) _ rfl rfl ?_
   rintro _ rfl
   simp only [go_sem, simprocAttr, eqb_self]
   refine cO.callX (enters_of Tryz.func20 rfl rfl) _ rfl rfl ?_
   rintro _ rfl
   simp only [go_sem, simprocAttr, eqb_self]
   refine dO.callX (enters_of Tryz.func27 rfl rfl) _ rfl rfl ?_
   rintro _ rfl
   simp only [go_sem, simprocAttr, eqVs, eqV, eq_self9, eqb_self]
   refine dM.callW (enters_of Tryz.func26 rfl rfl) _ rfl rfl ?_
   rintro _ rfl
   simp only [go_sem, simprocAttr, eqb_self]
   refine awake9.callW (enters_of Tryz.func15 rfl rfl) _ rfl rfl ?_
   rintro _ rfl
   simp only [go_sem, simprocAttr, eqb_self]
   simp only [retK, resD, retL, oneD, simprocAttr, Tryz.results9]
   exact ⟨_, rfl, rfl, rfl⟩

end Go.Proofs.YtbjaopoipkphnaaGreatDoor


