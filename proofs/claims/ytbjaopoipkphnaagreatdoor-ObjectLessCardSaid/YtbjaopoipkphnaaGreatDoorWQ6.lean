/- Texts of the prover's, joined: F9 FC JB Q0 Q1 FB FA Q2 Q3 Q4 Q5 E7 FF Q6 Q7 FH FL J1 L3 Q8 QA J2 J3 J4 J8 J9 J5 JK J6 QB JM Q9 QC QD QF U8. -/
import Derived.Test.YtbjaopoipkphnaaGreatDoorWQ5
import Derived.Shelf.SlSortCmp.InsertionK
import Derived.Lib.Small
import Derived.Deep.LoopGhost
import Derived.StillTailTactics
import Derived.Shelf.SlSortCmp.NoneTotal
import Derived.Lib.SlicesCompact
import Derived.Deep.QuietTactic
import Derived.BigQuiet
import Derived.Shelf.SlicesQ.Reverse

namespace Go.Proofs.YtbjaopoipkphnaaGreatDoor
open Go Go.RowKit
set_option linter.unusedSimpArgs false
set_option linter.unusedVariables false
set_option maxRecDepth 100000

def labelsFrom (l : List APair) : Nat → Nat → Bool
 | 0, _ => true
 | k + 1, i => (match l[i]? with
   | some p => dname p.name && labValue p.val && (decide (i = 0) || (match l[i - 1]? with | some q => Op.bytesLess q.name.toList p.name.toList | none => false))
   | none => true) && labelsFrom l k (i + 1)

def labelsMay (l : List APair) : Bool := labelsFrom l l.length 0 && decide (l.length ≤ 8)

set_option maxHeartbeats 1000000 in
theorem label_May (l : List APair) (hl : l.length ≤ 1000000) : Pure Tryz.prog 76 [.pd (.slice (rows APair.pd l))] (fun d => d = bln (labelsMay l)) := by
 refine pure_of_run follows an_z2iq3 Tryz.func76 rfl ok_z2iq3.1 ok_z2iq3.2 (by simp [Tryz.ntmps76]) ?_
 rw [run_start]
 simp only [ac_z2iq3, go_sem, simprocAttr]
 refine loopS (fun k st => ∃ i : Nat, k = l.length - i ∧ i ≤ l.length ∧ labelsFrom l k i = labelsFrom l l.length 0 ∧
  st = ⟨[(0, .pd (.slice (rows APair.pd l))), (5, .pd (.slice (rows APair.pd l))), (6, int l.length), (7, int i)], [], [], .no⟩) l.length _ (Weak.refl _ _) ⟨0, rfl, Nat.zero_le _, rfl, rfl⟩ ?_
 rintro k st ⟨i, rfl, hi, hr, rfl⟩
 by_cases hlt : i < l.length
 ·obtain ⟨x, hx⟩ := at_lt hlt
  have hlt' : ((i : Int) < (l.length : Int)) = True := eq_true (by omega)
  have hw := i64_succ (show i < 1000000000 by omega)
  obtain ⟨m, hm⟩ : ∃ m, l.length - i = m + 1 := ⟨l.length - i - 1, by omega⟩
  rw [hm, labelsFrom, hx] at hr
  have bad : labelsFrom l l.length 0 = false → labelsMay l = false := fun h => by simp [labelsMay, h]
  have good : ∀ st, Weak Tryz.prog st ⟨[(0, .pd (.slice (rows APair.pd l))), (5, .pd (.slice (rows APair.pd l))), (6, int l.length), (7, int (i + 1 : Nat))], [], [], .no⟩ → labelsFrom l m (i + 1) = labelsFrom l l.length 0 →
   Round Tryz.prog (fun k st => ∃ i : Nat, k = l.length - i ∧ i ≤ l.length ∧ labelsFrom l k i = labelsFrom l l.length 0 ∧
    st = ⟨[(0, .pd (.slice (rows APair.pd l))), (5, .pd (.slice (rows APair.pd l))), (6, int l.length), (7, int i)], [], [], .no⟩) (l.length - i) st := fun st hst hr =>
   ⟨m, _, by omega, hst, i + 1, by omega, by omega, hr, rfl⟩
  simp (maxSteps := 2000000) only [go_sem, simprocAttr, go_sem, hlt', rows_get hx, rows_len]
  refine (dns_Name x.name).callX (enters_of Tryz.func70 rfl rfl) _ rfl rfl ?_
  rintro d rfl
  simp (maxSteps := 2000000) only [go_sem, simprocAttr, go_sem, rows_len]
  refine Gif.mk (fun h1 => ?_) (fun h1 => ?_)
  ·refine (label_value x.val).callX (enters_of Tryz.func122 rfl rfl) _ rfl rfl ?_
   rintro d rfl
   by_cases hi0 : 0 < i
   ·obtain ⟨q, hq⟩ := at_lt (show i - 1 < l.length by omega)
    have h0 : ((0 : Int) < (i : Int)) = True := eq_true (by omega)
    have hw1 : IntKind.i64.wrap ((i : Int) - 1) = ((i - 1 : Nat) : Int) := by rw [IntWalk.i64_in _ (by omega)]; omega
    simp (maxSteps := 2000000) only [go_sem, simprocAttr, go_sem, rows_len, h0, hw1, rows_get hq, hw]
    refine Gif.mk (fun h2 => ?_) (fun h2 => ?_)
    ·refine Gif.mk (fun h3 => ?_) (fun h3 => ?_)
     ·refine good _ (lessA) ?_
      simpa [h1, h2, h3, hq] using hr
     ·simp only [retK, resD, retL, oneD, simprocAttr, Tryz.results76]
      refine ⟨_, rfl, rfl, congrArg bln (bad ?_).symm⟩
      rw [← hr]; simp [h1, h2, h3, hq]; omega
    ·simp only [retK, resD, retL, oneD, simprocAttr, Tryz.results76]
     refine ⟨_, rfl, rfl, congrArg bln (bad ?_).symm⟩
     rw [← hr]; simp [h1, h2]
   ·have h0 : ((0 : Int) < (i : Int)) = False := eq_false (by omega)
    simp (maxSteps := 2000000) only [go_sem, simprocAttr, go_sem, rows_len, h0, hw]
    refine Gif.mk (fun h2 => ?_) (fun h2 => ?_)
    ·refine good _ (lessA) ?_
     simpa [h1, h2, show i = 0 by omega] using hr
    ·simp only [retK, resD, retL, oneD, simprocAttr, Tryz.results76]
     refine ⟨_, rfl, rfl, congrArg bln (bad ?_).symm⟩
     rw [← hr]; simp [h1, h2]
  ·simp only [retK, resD, retL, oneD, simprocAttr, Tryz.results76]
   refine ⟨_, rfl, rfl, congrArg bln (bad ?_).symm⟩
   rw [← hr]; simp [h1]
 ·have hlt' : ((i : Int) < (l.length : Int)) = False := eq_false (by omega)
  rw [show l.length - i = 0 by omega, labelsFrom] at hr
  simp only [go_sem, simprocAttr, hlt']
  repeat' (first | refine GifP.mk (fun _ => ?_) (fun _ => ?_) | refine Gif.mk (fun _ => ?_) (fun _ => ?_))
  all_goals
   simp only [retK, resD, retL, oneD, simprocAttr, Tryz.results76]
   exact ⟨_, rfl, rfl, congrArg bln (by first | rfl | (rw [Bool.eq_iff_iff]; simp only [labelsMay, ← hr]; (first | (simp; done) | (simp; omega) | (simp [*]; done) | (simp [*]; omega))) | (simp_all [labelsMay, ← hr]; done) | (exfalso; omega))⟩

def sortFrom (l : List Int) : Nat → Bool
 | 0 => true
 | i + 1 => (match l[i + 1]?, l[i]? with
   | some a, some b => !intLess a b
   | _, _ => true) && sortFrom l i

def sortedInts (l : List Int) : Bool := sortFrom l (l.length - 1)

theorem slices_IsSorted_int (l : List Int) (hl : l.length ≤ 1000000) : Pure Tryz.prog 79 [.pd (.slice (ints l))] (fun d => d = bln (sortedInts l)) := by
 refine pure_of_run follows an_zhfyj Tryz.func79 rfl ok_zhfyj.1 ok_zhfyj.2 (by simp [Tryz.ntmps79]) ?_
 rw [run_start]
 have hw0 : IntKind.i64.wrap ((l.length : Int) - 1) = (l.length : Int) - 1 := IntWalk.i64_in _ (by omega)
 simp only [ac_zhfyj, go_sem, simprocAttr, go_sem, rows_len, hw0]
 refine loopS (fun k st => ∃ i : Int, k = i.toNat ∧ -1 ≤ i ∧ i < (l.length : Int) ∧ sortFrom l i.toNat = sortedInts l ∧
  st = ⟨[(0, .pd (.slice (ints l))), (3, int i)], [], [], .no⟩) ((l.length : Int) - 1).toNat _ (Weak.refl _ _) ⟨(l.length : Int) - 1, rfl, by omega, by omega, by
   rw [sortedInts]; congr 1; omega, rfl⟩ ?_
 rintro k st ⟨i, rfl, hi, hi2, hr, rfl⟩
 by_cases hlt : 0 < i
 ·obtain ⟨j, rfl⟩ : ∃ j : Nat, i = (j + 1 : Nat) := ⟨(i - 1).toNat, by omega⟩
  obtain ⟨x, hx⟩ := at_lt (show j + 1 < l.length by omega)
  obtain ⟨y, hy⟩ := at_lt (show j < l.length by omega)
  have hlt' : ((0 : Int) < ((j + 1 : Nat) : Int)) = True := eq_true (by omega)
  have hw : IntKind.i64.wrap (((j + 1 : Nat) : Int) - 1) = (j : Int) := by rw [IntWalk.i64_in _ (by omega)]; omega
  rw [Int.toNat_natCast, sortFrom, hx, hy] at hr
  simp only [go_sem, simprocAttr, go_sem, hlt', rows_get hx, rows_get hy, hw]
  refine (cmp_Less x y).callX (enters_of Tryz.func125 rfl rfl) _ rfl rfl ?_
  rintro d rfl
  simp only [go_sem, simprocAttr, go_sem, hw]
  refine Gif.mk (fun h => ?_) (fun h => ?_)
  ·simp only [h, Bool.not_true, Bool.false_and] at hr
   simp only [retK, resD, retL, oneD, simprocAttr, Tryz.results79]
   exact ⟨_, rfl, rfl, congrArg bln hr⟩
  ·simp only [h, Bool.not_false, Bool.true_and] at hr
   refine ⟨j, _, ?_, ?_, (j : Int), by simp, by omega, by omega, by simpa using hr, rfl⟩
   ·omega
   ·exact lessA
 ·have hlt' : ((0 : Int) < i) = False := eq_false hlt
  rw [show i.toNat = 0 by omega, sortFrom] at hr
  simp only [go_sem, simprocAttr, go_sem, hlt']
  simp only [retK, resD, retL, oneD, simprocAttr, Tryz.results79]
  exact ⟨_, rfl, rfl, congrArg bln hr⟩

structure AObj.ok (o : AObj) : Prop where
 la : o.labels.length ≤ 1000000
 po : o.ports.length ≤ 1000000
 li : o.listeners.length ≤ 1000000
 pa : o.parents.length ≤ 1000000
 ho : o.hosts.length ≤ 1000000
 ru : o.rules.length ≤ 1000000
 fr : o.from_.length ≤ 1000000
 to : o.to_.length ≤ 1000000
 lis : ∀ x ∈ o.listeners, x.ok
 rus : ∀ x ∈ o.rules, x.ok

abbrev AObj.ds (o : AObj) : List D := [int o.ref.kind, str o.ref.space, str o.ref.name, bln o.good, .pd (.slice (rows APair.pd o.labels)), .pd (.slice (ints o.ports)), str o.cls, .pd (.slice (rows AListener.pd o.listeners)),
 .pd (.slice (rows AParent.pd o.parents)), .pd (.slice (strs o.hosts)), .pd (.slice (rows ARule.pd o.rules)), .pd (.slice (rows ASide.pd o.from_)), .pd (.slice (rows ASide.pd o.to_))]


def objSame (a b : AObj) : Bool :=
 decide (a.ref = b.ref) && (a.good == b.good) && decide (a.cls = b.cls) && decide (a.labels = b.labels) && decide (a.ports = b.ports) && decide (a.hosts = b.hosts) && decide (a.parents = b.parents) && decide (a.from_ = b.from_) && decide (a.to_ = b.to_) &&
 eqf listenerSame a.listeners b.listeners && eqf ruleSame a.rules b.rules

set_option maxHeartbeats 1000000 in
theorem object_Same (a b : AObj) (ha : a.ok) (hb : b.ok) : Pure Tryz.prog 13 [a.d, b.d] (fun d => d = bln (objSame a b)) := by
 refine pure_of_run follows an_zhbvt Tryz.func13 rfl ok_zhbvt.1 ok_zhbvt.2 (by simp [Tryz.ntmps13]) ?_
 rw [run_start]
 simp only [ac_zhbvt, go_sem, simprocAttr, eqVs, eqV, eq_Ref]
 (repeat' (first | (refine GifP.mk (fun _ => ?_) (fun _ => ?_)) | (refine Gif.mk (fun _ => ?_) (fun _ => ?_)) | ((first | refine (Equal_Pair a.labels b.labels ha.la hb.la).callW (enters_of Tryz.func45 rfl rfl) _ rfl rfl ?_ | refine (Equal_int a.ports b.ports ha.po hb.po).callW (enters_of Tryz.func46 rfl rfl) _ rfl rfl ?_ | refine (Equal_string a.hosts b.hosts ha.ho hb.ho).callW (enters_of Tryz.func47 rfl rfl) _ rfl rfl ?_ | refine (Equal_Parent a.parents b.parents ha.pa hb.pa).callW (enters_of Tryz.func48 rfl rfl) _ rfl rfl ?_ | refine (Equal_Side a.from_ b.from_ ha.fr hb.fr).callW (enters_of Tryz.func49 rfl rfl) _ rfl rfl ?_ | refine (Equal_Side a.to_ b.to_ ha.to hb.to).callW (enters_of Tryz.func49 rfl rfl) _ rfl rfl ?_ | refine (EqualFunc_Listener listenerSame _ (enters_of Tryz.func51 rfl rfl) a.listeners b.listeners ha.li hb.li (fun x hx y hy => object_sameListener x y (ha.lis x hx) (hb.lis y hy))).callW (enters_of Tryz.func50 rfl rfl) _ rfl rfl ?_ | refine (EqualFunc_Rule ruleSame _ (enters_of Tryz.func53 rfl rfl) a.rules b.rules ha.ru hb.ru (fun x hx y hy => object_sameRule x y (ha.rus x hx) (hb.rus y hy))).callW (enters_of Tryz.func52 rfl rfl) _ rfl rfl ?_); rintro _ rfl; try simp only [go_sem, simprocAttr, eqVs, eqV, eq_Ref]))) <;> (simp only [retK, resD, retL, oneD, simprocAttr, Tryz.results13]; exact ⟨_, rfl, rfl, congrArg bln (by first | rfl | (rw [Bool.eq_iff_iff]; simp only [objSame]; (first | (simp; done) | (simp; omega) | (simp [*]; done) | (simp [*]; omega))) | (simp_all [objSame]; done) | (exfalso; omega))⟩)


theorem tw_from {α : Type} {q : α → α → Bool} {l : List α} : ∀ {k i : Nat}, twiceFrom q l k i = false ↔ ∀ j x, i ≤ j → j < i + k → l[j]? = some x → (l.take j).any (fun y => q x y) = false
 | 0, i => by
   simp only [twiceFrom, true_iff]
   intro j x h1 h2; omega
 | k + 1, i => by
   simp only [twiceFrom, Bool.or_eq_false_iff, tw_from]
   constructor
   ·rintro ⟨h1, h2⟩ j x hj hk hx
    rcases Nat.eq_or_lt_of_le hj with e | e
    ·subst e; rw [hx] at h1; exact h1
    ·exact h2 j x e (by omega) hx
   ·intro h
    refine ⟨?_, fun j x hj hk hx => h j x (by omega) (by omega) hx⟩
    cases hx : l[i]? with
    | none => rfl
    | some x => exact h i x (Nat.le_refl _) (by omega) hx

theorem tw_iff {α : Type} {q : α → α → Bool} {l : List α} : twice q l = false ↔ ∀ (i : Nat) (x : α), l[i]? = some x → ∀ (k : Nat) (y : α), k < i → l[k]? = some y → q x y = false := by
 unfold twice
 rw [tw_from]
 constructor
 ·intro h i x hx k y hk hy
  have h1 := h i x (Nat.zero_le _) (by have := (List.getElem?_eq_some_iff.1 hx).1; omega) hx
  rw [List.any_eq_false] at h1
  have := h1 y (List.mem_of_getElem? (by rw [List.getElem?_take, if_pos hk]; exact hy))
  simpa using this
 ·intro h j x _ _ hx
  rw [List.any_eq_false]
  intro y hy
  obtain ⟨k, hk⟩ := List.getElem?_of_mem hy
  rw [List.getElem?_take] at hk
  split at hk
  ·rename_i hkj
   simpa using h j x hx k y hkj hk
  ·cases hk

theorem lessL_total : ∀ x y : List UInt8, (Op.bytesLess x y || decide (x = y)) = !Op.bytesLess y x
 | [], [] => rfl
 | [], b :: y => rfl
 | a :: x, [] => rfl
 | a :: x, b :: y => by
   have ih := lessL_total x y
   simp only [Op.bytesLess]
   by_cases h1 : a < b
   ·have h2 : ¬ b < a := fun h => by have := UInt8.lt_iff_toNat_lt.1 h; have := UInt8.lt_iff_toNat_lt.1 h1; omega
    have h3 : (b == a) = false := by
     rw [beq_eq_false_iff_ne]
     rintro rfl
     exact h2 h1
    simp [h1, h2, h3]
   ·by_cases h2 : b < a
    ·have h3 : (a == b) = false := by
      rw [beq_eq_false_iff_ne]
      rintro rfl
      exact h1 h2
     have h4 : ¬ a = b := by simpa using h3
     simp [h1, h2, h3, h4]
    ·have h3 : a = b := UInt8.toNat_inj.1 (by
      have := mt UInt8.lt_iff_toNat_lt.2 h1
      have := mt UInt8.lt_iff_toNat_lt.2 h2
      omega)
     subst h3
     simpa [h1] using ih

theorem less_total (a b : ByteArray) : (Op.bytesLess a.toList b.toList || decide (a = b)) = !Op.bytesLess b.toList a.toList := by
 rw [← lessL_total]
 congr 1
 rw [Bool.eq_iff_iff, decide_eq_true_eq, decide_eq_true_eq]
 constructor
 ·rintro rfl; rfl
 ·intro h
  have := bytes_eq a b
  rw [h] at this
  simpa using this


theorem bl_irrefl : ∀ x : List UInt8, Op.bytesLess x x = false
 | [] => rfl
 | a :: x => by
   have h : ¬ a < a := fun h => by have := UInt8.lt_iff_toNat_lt.1 h; omega
   simp [Op.bytesLess, h, bl_irrefl x]

theorem bl_trans : ∀ {x y z : List UInt8}, Op.bytesLess x y = true → Op.bytesLess y z = true → Op.bytesLess x z = true
 | x, [], _, h, _ => by simp [Op.bytesLess] at h
 | _, _ :: _, [], _, h => by simp [Op.bytesLess] at h
 | [], _ :: _, _ :: _, _, _ => rfl
 | a :: x, b :: y, c :: z, h, k => by
   simp only [Op.bytesLess, Bool.or_eq_true, decide_eq_true_eq, Bool.and_eq_true, beq_iff_eq] at h k ⊢
   rcases h with h | ⟨rfl, h⟩
   ·rcases k with k | ⟨rfl, k⟩
    ·left
     have h1 := UInt8.lt_iff_toNat_lt.1 h
     have h2 := UInt8.lt_iff_toNat_lt.1 k
     exact UInt8.lt_iff_toNat_lt.2 (by omega)
    ·exact .inl h
   ·rcases k with k | ⟨rfl, k⟩
    ·exact .inl k
    ·exact .inr ⟨rfl, bl_trans h k⟩

def bl (a b : ByteArray) : Bool := Op.bytesLess a.toList b.toList

theorem bl_self (a : ByteArray) : bl a a = false := bl_irrefl _
theorem bl_tr {a b c : ByteArray} (h : bl a b = true) (k : bl b c = true) : bl a c = true := bl_trans h k
theorem bl_tri {a b : ByteArray} (h : bl a b = false) (k : bl b a = false) : a = b := by
 have := less_total a b
 unfold bl at h k
 rw [h, k] at this
 simpa using this
def refLt (a b : ARef) : Bool := if a.kind = b.kind then (if a.space = b.space then bl a.name b.name else bl a.space b.space) else decide (a.kind < b.kind)

theorem refLt_iff {a b : ARef} : refLt a b = true ↔ a.kind < b.kind ∨ (a.kind = b.kind ∧ (bl a.space b.space = true ∨ (a.space = b.space ∧ bl a.name b.name = true))) := by
 unfold refLt
 by_cases h1 : a.kind = b.kind
 ·by_cases h2 : a.space = b.space
  ·have : bl a.space b.space = false := by rw [h2]; exact bl_self _
   rw [if_pos h1, if_pos h2, this]
   simp [h1, h2]
  ·rw [if_pos h1, if_neg h2]
   simp [h1, h2]
 ·rw [if_neg h1]
  simp [h1]

theorem refLt_self (a : ARef) : refLt a a = false := by simp [refLt, bl_self]

theorem refLt_tr {a b c : ARef} (h : refLt a b = true) (k : refLt b c = true) : refLt a c = true := by
 rw [refLt_iff] at h k ⊢
 rcases h with h | ⟨h1, h | ⟨h2, h⟩⟩ <;> rcases k with k | ⟨k1, k | ⟨k2, k⟩⟩
 ·exact .inl (by omega)
 ·exact .inl (by omega)
 ·exact .inl (by omega)
 ·exact .inl (by omega)
 ·exact .inr ⟨by omega, .inl (bl_tr h k)⟩
 ·exact .inr ⟨by omega, .inl (k2 ▸ h)⟩
 ·exact .inl (by omega)
 ·exact .inr ⟨by omega, .inl (h2 ▸ k)⟩
 ·exact .inr ⟨by omega, .inr ⟨h2.trans k2, bl_tr h k⟩⟩

theorem refLt_tri {a b : ARef} (h : refLt a b = false) (k : refLt b a = false) : a = b := by
 unfold refLt at h k
 by_cases h1 : a.kind = b.kind
 ·rw [if_pos h1] at h
  rw [if_pos h1.symm] at k
  by_cases h2 : a.space = b.space
  ·rw [if_pos h2] at h
   rw [if_pos h2.symm] at k
   have h3 := bl_tri h k
   obtain ⟨a1, a2, a3⟩ := a
   obtain ⟨b1, b2, b3⟩ := b
   simp only at h1 h2 h3
   rw [h1, h2, h3]
  ·rw [if_neg h2] at h
   rw [if_neg (Ne.symm h2)] at k
   exact absurd (bl_tri h k) h2
 ·rw [if_neg h1] at h
  rw [if_neg (Ne.symm h1)] at k
  simp only [decide_eq_false_iff_not] at h k
  omega

theorem refLt_asym {a b : ARef} (h : refLt a b = true) : refLt b a = false := by
 cases k : refLt b a with
 | false => rfl
 | true => have := refLt_tr h k; rw [refLt_self] at this; cases this

def refCmp (a b : ARef) : Int := if a = b then 0 else if refLt a b = true then -1 else 1

theorem refCmp_lt (a b : ARef) : ltOf refCmp a b = refLt a b := by
 unfold ltOf refCmp
 by_cases h : a = b
 ·subst h; rw [if_pos rfl, refLt_self]; rfl
 ·rw [if_neg h]
  cases refLt a b <;> rfl

theorem refSWO : Sort.SWO (ltOf refCmp) where
 irrefl := fun x => by rw [refCmp_lt]; exact refLt_self x
 trans := fun x y z h k => by rw [refCmp_lt] at *; exact refLt_tr h k
 ntrans := fun x y z h k => by
  rw [refCmp_lt] at *
  cases hz : refLt x z with
  | false => rfl
  | true =>
    exfalso
    cases hy : refLt y x with
    | true => have := refLt_tr hy hz; rw [this] at k; cases k
    | false => rw [refLt_tri h hy] at hz; rw [hz] at k; cases k

theorem refTotal (x y : ARef) (h : ltOf refCmp x y = false) (k : ltOf refCmp y x = false) : x = y := by
 rw [refCmp_lt] at *
 exact refLt_tri h k

def cmpB (x y : ByteArray) : Int := if bl x y = true then -1 else if bl y x = true then 1 else 0

theorem cmpB_eq (a : ByteArray) : cmpB a a = 0 := by simp [cmpB, bl_self]
theorem cmpB_ne {a b : ByteArray} (h : ¬ a = b) : cmpB a b = if bl a b = true then -1 else 1 := by
 unfold cmpB
 cases k1 : bl a b with
 | true => rfl
 | false =>
   cases k2 : bl b a with
   | true => rfl
   | false => exact absurd (bl_tri k1 k2) h

theorem refCmp_or (a b : ARef) : refCmp a b = if ¬ Lib.compareInt a.kind b.kind = 0 then Lib.compareInt a.kind b.kind else if ¬ cmpB a.space b.space = 0 then cmpB a.space b.space else cmpB a.name b.name := by
 unfold refCmp
 by_cases h1 : a.kind = b.kind
 ·have e1 : Lib.compareInt a.kind b.kind = 0 := by unfold Lib.compareInt; rw [if_neg (by omega), if_neg (by omega)]
  simp only [e1, not_true_eq_false, if_false]
  by_cases h2 : a.space = b.space
  ·have e2 : cmpB a.space b.space = 0 := by rw [h2]; exact cmpB_eq _
   simp only [e2, not_true_eq_false, if_false]
   have e3 : refLt a b = bl a.name b.name := by unfold refLt; rw [if_pos h1, if_pos h2]
   by_cases h3 : a.name = b.name
   ·have hab : a = b := by
     obtain ⟨a1, a2, a3⟩ := a
     obtain ⟨b1, b2, b3⟩ := b
     simp only at h1 h2 h3
     rw [h1, h2, h3]
    rw [if_pos hab, h3, cmpB_eq]
   ·have hab : ¬ a = b := fun e => h3 (by rw [e])
    rw [if_neg hab, e3, cmpB_ne h3]
  ·have e3 : refLt a b = bl a.space b.space := by unfold refLt; rw [if_pos h1, if_neg h2]
   have hab : ¬ a = b := fun e => h2 (by rw [e])
   rw [if_neg hab, e3, cmpB_ne h2]
   cases bl a.space b.space <;> simp
 ·have e3 : refLt a b = decide (a.kind < b.kind) := by unfold refLt; rw [if_neg h1]
  have hab : ¬ a = b := fun e => h1 (by rw [e])
  rw [if_neg hab, e3]
  unfold Lib.compareInt
  by_cases h2 : a.kind < b.kind
  ·simp [h2]
  ·have h3 : a.kind > b.kind := by omega
   simp [h2, h3]


abbrev encR (x : ARef) : List Value := [.int .i64 x.kind, .string x.space, .string x.name]

theorem mem_isNaN_i (x : Int) (w : World) : Calls Tryz.prog 114 #[.int .i64 x] w fun e w' => e = .returned (.bool false) ∧ w' = w := by
 go_enter Tryz.func114, Tryz.ntmps114
 go_wp2
 go_ret
 exact ⟨by simp, rfl⟩

theorem mem_isNaN_s (x : ByteArray) (w : World) : Calls Tryz.prog 115 #[.string x] w fun e w' => e = .returned (.bool false) ∧ w' = w := by
 go_enter Tryz.func115, Tryz.ntmps115
 go_wp2
 go_ret
 exact ⟨by simp, rfl⟩

set_option maxHeartbeats 1000000 in
theorem mem_Compare_i (x y : Int) (w : World) : Calls Tryz.prog 65 #[.int .i64 x, .int .i64 y] w fun e w' => e = .returned (.int .i64 (Lib.compareInt x y)) ∧ w' = w := by
 go_enter Tryz.func65, Tryz.ntmps65
 go_wp2_with (go_at_call 114; refine (mem_isNaN_i _ _).mono ?_; rintro e w' ⟨rfl, hw⟩; rw [hw])
 all_goals (go_ret; refine ⟨?_, rfl⟩; unfold Lib.compareInt; (repeat' split) <;> first | rfl | (exfalso; omega))

set_option maxHeartbeats 1000000 in
theorem mem_Compare_s (x y : ByteArray) (w : World) : Calls Tryz.prog 66 #[.string x, .string y] w fun e w' => e = .returned (.int .i64 (cmpB x y)) ∧ w' = w := by
 have hg : ∀ w : World, Sem.run Tryz.prog (binOp .gtr 9 (.string x) (.string y)) w = .ok (.bool (bl y x)) w := fun w => by
  have := less_total x y
  unfold bl
  simp only [binOp, Op.stringOp, Sem.run_pure, bytes_eq]
  rw [← Bool.not_not (Op.bytesLess y.toList x.toList), ← this]
 go_enter Tryz.func66, Tryz.ntmps66
 go_wp2_with (go_at_call 115; refine (mem_isNaN_s _ _).mono ?_; rintro e w' ⟨rfl, hw⟩; rw [hw])
 all_goals (go_ret; refine ⟨?_, rfl⟩; unfold cmpB; unfold bl at *; simp [*])

set_option maxHeartbeats 1000000 in
theorem mem_Or (a b c : Int) (W : World) (blk : Nat) (h0 : W.cell? ⟨blk, 0, none⟩ = some (.int .i64 a)) (h1 : W.cell? ⟨blk, 1, none⟩ = some (.int .i64 b)) (h2 : W.cell? ⟨blk, 2, none⟩ = some (.int .i64 c)) :
 Calls Tryz.prog 64 #[.slice (some ⟨blk, 0, none⟩) 3 3] W fun e w' => e = .returned (.int .i64 (if ¬ a = 0 then a else if ¬ b = 0 then b else c)) ∧ ∃ q, w' = W.drewN q := by
 generalize hr : (if ¬ a = 0 then a else if ¬ b = 0 then b else c) = r
 go_enter Tryz.func64, Tryz.ntmps64
 go_wp2
 refine wp_loop_rounds 4 ?_
 rw [rounds_succ]
 go_wp2
 ·go_ret
  exact ⟨by rw [← hr]; simp_all, 0, rfl⟩
 rw [rounds_succ]
 go_wp2
 ·go_ret
  exact ⟨by rw [← hr]; simp_all, 0, rfl⟩
 rw [rounds_succ]
 go_wp2
 ·go_ret
  exact ⟨by rw [← hr]; simp_all, 0, rfl⟩
 rw [rounds_succ]
 go_wp2
 go_ret
 exact ⟨by rw [← hr]; simp_all, 0, rfl⟩

theorem cell_new (W : World) (cs : Array Value) (t : TypeId) (j : Nat) : (W.alloc (.cells cs t)).cell? ⟨W.heap.size, j, none⟩ = cs[j]? := by
 have h : (W.alloc (.cells cs t)).heap[W.heap.size]? = some (.cells cs t (0, 0)) := by
  show (W.heap.push _)[W.heap.size]? = _
  rw [Array.getElem?_push, if_pos rfl]
 simp only [World.cell?, h]
 rfl

set_option maxHeartbeats 2000000 in
theorem mem_Order (x y : ARef) (W : World) : Calls Tryz.prog 20 #[.agg #[.int .i64 x.kind, .string x.space, .string x.name], .agg #[.int .i64 y.kind, .string y.space, .string y.name]] W fun e w' => e = .returned (.int .i64 (refCmp x y)) ∧ ∃ q os', w' = Sort.grow (W.drewN q) os' := by
 rw [refCmp_or]
 have c1 := fun W => mem_Compare_i x.kind y.kind W
 have c2 := fun W => mem_Compare_s x.space y.space W
 have c3 := fun W => mem_Compare_s x.name y.name W
 have c4 := fun W blk => mem_Or (Lib.compareInt x.kind y.kind) (cmpB x.space y.space) (cmpB x.name y.name) W blk
 generalize Lib.compareInt x.kind y.kind = r1 at c1 c4 ⊢
 generalize cmpB x.space y.space = r2 at c2 c4 ⊢
 generalize cmpB x.name y.name = r3 at c3 c4 ⊢
 generalize (if ¬ r1 = 0 then r1 else if ¬ r2 = 0 then r2 else r3) = r at c4 ⊢
 go_enter Tryz.func20, Tryz.ntmps20
 go_wp2
 generalize hW2 : (W.alloc (Obj.cells #[Value.int IntKind.i64 x.kind, Value.string x.space, Value.string x.name] 23)).alloc (Obj.cells #[Value.int IntKind.i64 y.kind, Value.string y.space, Value.string y.name] 23) = W2
 have e1 : W2.heap[W.heap.size]? = some (Obj.cells #[Value.int IntKind.i64 x.kind, Value.string x.space, Value.string x.name] 23 (0, 0)) := by
  rw [← hW2]
  show ((W.heap.push _).push _)[W.heap.size]? = _
  rw [Array.getElem?_push, if_neg (by rw [Array.size_push]; omega), Array.getElem?_push, if_pos rfl]
 have e2 : W2.heap[W.heap.size + 1]? = some (Obj.cells #[Value.int IntKind.i64 y.kind, Value.string y.space, Value.string y.name] 23 (0, 0)) := by
  rw [← hW2]
  show ((W.heap.push _).push _)[W.heap.size + 1]? = _
  rw [Array.getElem?_push, if_pos (by rw [Array.size_push])]
 have hx : ∀ j v, (encR x)[j]? = some v → W2.drew.cell? ⟨W.heap.size, j, none⟩ = some v := fun j v hv => by
  simp only [World.cell?, World.drew, e1]
  rw [← List.getElem?_toArray] at hv
  exact hv
 have hy : ∀ j v, (encR y)[j]? = some v → W2.drew.cell? ⟨W.heap.size + 1, j, none⟩ = some v := fun j v hv => by
  simp only [World.cell?, World.drew, e2]
  rw [← List.getElem?_toArray] at hv
  exact hv
 have hg : W2.drew = Sort.grow (W.drewN 1) #[Obj.cells #[Value.int IntKind.i64 x.kind, Value.string x.space, Value.string x.name] 23, Obj.cells #[Value.int IntKind.i64 y.kind, Value.string y.space, Value.string y.name] 23] := by
  rw [← hW2, Sort.alloc_eq_grow, Sort.alloc_eq_grow, Sort.grow_grow]
  rfl
 refine wp_region_still_tail 15 (by kernel_rfl) (by kernel_rfl) ?_
 change wpStill _ _ W2.drew (fun a' => wpList _ _ _ _ a' W2.drew) _ _
 have hx0 := hx 0 _ rfl
 have hx1 := hx 1 _ rfl
 have hx2 := hx 2 _ rfl
 have hy0 := hy 0 _ rfl
 have hy1 := hy 1 _ rfl
 have hy2 := hy 2 _ rfl
 clear hx hy hW2 e1 e2
 generalize W2.drew = W3 at hx0 hx1 hx2 hy0 hy1 hy2 hg ⊢
 have HG : Aside (W3 = Sort.grow (W.drewN 1) #[Obj.cells #[Value.int IntKind.i64 x.kind, Value.string x.space, Value.string x.name] 23, Obj.cells #[Value.int IntKind.i64 y.kind, Value.string y.space, Value.string y.name] 23]) := hg
 clear hg
 simp only [List.take_succ_cons, List.take_zero, List.drop_succ_cons, List.drop_zero]
 repeat still_step
 still_call (c1 _)
 repeat still_step
 still_call (c2 _)
 repeat still_step
 still_call (c3 _)
 refine wpStill_nil ?_
 go_wp2_with (go_at_call 64; refine (c4 _ _ (cell_new _ _ _ 0) (cell_new _ _ _ 1) (cell_new _ _ _ 2)).mono ?_; rintro e w' ⟨rfl, q, rfl⟩)
 go_ret
 obtain rfl : W3 = _ := HG
 refine ⟨rfl, 1 + q, #[Obj.cells #[Value.int IntKind.i64 x.kind, Value.string x.space, Value.string x.name] 23, Obj.cells #[Value.int IntKind.i64 y.kind, Value.string y.space, Value.string y.name] 23] ++ #[Obj.cells #[Value.int IntKind.i64 r1, Value.int IntKind.i64 r2, Value.int IntKind.i64 r3] 3], ?_⟩
 rw [Sort.alloc_eq_grow, Sort.grow_grow]
 show Sort.grow ((W.drewN 1).drewN q) _ = _
 rw [World.drewN_drewN]


theorem thing_class (o : AObj) : Full Tryz.prog 34 [.ptr 500001 0] [(500001, o.ds)] true (fun d bs => d = bln true ∧ bs = [(500001,
 [int o.ref.kind, str o.ref.space, str o.ref.name, bln false, .pd (.slice (rows APair.pd o.labels)), .pd (.slice (ints o.ports)), str o.cls, .pd (.slice (rows AListener.pd o.listeners)),
  .pd (.slice (rows AParent.pd o.parents)), .pd (.slice (strs o.hosts)), .pd (.slice (rows ARule.pd o.rules)), .pd (.slice (rows ASide.pd o.from_)), .pd (.slice (rows ASide.pd o.to_))])]) := by
 refine full_of_run follows an_zk71m Tryz.func34 rfl ok_zk71m.1 ok_zk71m.2 (by simp [Tryz.ntmps34]) (by simp [Tryz.ntmps34]) (.inl rfl) ?_
 rw [run_start]
 simp only [ac_zk71m, go_sem, simprocAttr]
 simp only [retK, fullK, resD, retL, oneD, simprocAttr, Tryz.results34]
 exact ⟨_, _, rfl, by simp [lessL, lk], rfl, rfl⟩

theorem thing_space (o : AObj) (h : o.ok) : Full Tryz.prog 35 [.ptr 500001 0] [(500001, o.ds)] true (fun d bs => d = bln (labelsMay o.labels) ∧ bs = [(500001,
 [int o.ref.kind, str o.ref.space, str o.ref.name, bln o.good, .nils, .pd (.slice (ints o.ports)), str o.cls, .pd (.slice (rows AListener.pd o.listeners)),
  .pd (.slice (rows AParent.pd o.parents)), .pd (.slice (strs o.hosts)), .pd (.slice (rows ARule.pd o.rules)), .pd (.slice (rows ASide.pd o.from_)), .pd (.slice (rows ASide.pd o.to_))])]) := by
 refine full_of_run follows an_zag3z Tryz.func35 rfl ok_zag3z.1 ok_zag3z.2 (by simp [Tryz.ntmps35]) (by simp [Tryz.ntmps35]) (.inl rfl) ?_
 rw [run_start]
 simp only [ac_zag3z, go_sem, simprocAttr]
 refine (label_May o.labels h.la).callW (enters_of Tryz.func76 rfl rfl) _ rfl rfl ?_
 rintro d rfl
 simp only [go_sem, simprocAttr]
 simp only [retK, fullK, resD, retL, oneD, simprocAttr, Tryz.results35]
 exact ⟨_, _, rfl, by simp [lessL, lk], rfl, rfl⟩

def serviceMay (l : List Int) : Bool := decide (0 < l.length) && every oport l 8 && sortedInts l && !twice intSame l

theorem thing_service (o : AObj) (h : o.ok) : Full Tryz.prog 36 [.ptr 500001 0] [(500001, o.ds)] true (fun d bs => d = bln (serviceMay o.ports) ∧ bs = [(500001,
 [int o.ref.kind, str o.ref.space, str o.ref.name, bln o.good, .pd (.slice (rows APair.pd o.labels)), .nils, str o.cls, .pd (.slice (rows AListener.pd o.listeners)),
  .pd (.slice (rows AParent.pd o.parents)), .pd (.slice (strs o.hosts)), .pd (.slice (rows ARule.pd o.rules)), .pd (.slice (rows ASide.pd o.from_)), .pd (.slice (rows ASide.pd o.to_))])]) := by
 refine full_of_run follows an_zxlfl Tryz.func36 rfl ok_zxlfl.1 ok_zxlfl.2 (by simp [Tryz.ntmps36]) (by simp [Tryz.ntmps36]) (.inl rfl) ?_
 rw [run_start]
 simp only [ac_zxlfl, go_sem, simprocAttr]
 (repeat' (first | (refine GifP.mk (fun _ => ?_) (fun _ => ?_)) | (refine Gif.mk (fun _ => ?_) (fun _ => ?_)) | ((first | refine (every_int oport _ (enters_of Tryz.func78 rfl rfl) o.ports h.po 8 (fun x _ => object_port x)).callW (enters_of Tryz.func77 rfl rfl) _ rfl rfl ?_ | refine (slices_IsSorted_int o.ports h.po).callW (enters_of Tryz.func79 rfl rfl) _ rfl rfl ?_ | refine (twice_int intSame _ (enters_of Tryz.func81 rfl rfl) o.ports h.po (fun x _ y _ => thing_service_1 x y)).callW (enters_of Tryz.func80 rfl rfl) _ rfl rfl ?_); rintro _ rfl; try simp only [go_sem, simprocAttr]))) <;> (simp only [retK, fullK, resD, retL, oneD, simprocAttr, Tryz.results36]; exact ⟨_, _, rfl, by simp [lessL, lk], congrArg bln (by first | rfl | (rw [Bool.eq_iff_iff]; simp only [serviceMay]; (first | (simp; done) | (simp; omega) | (simp [*]; done) | (simp [*]; omega))) | (simp_all [serviceMay]; done) | (exfalso; omega)), rfl⟩)

def gatewayMay (s : ByteArray) (l : List AListener) : Bool := dname s && decide (0 < l.length) && every listenerMay l 8 && !twice lisName l

theorem thing_gateway (o : AObj) (h : o.ok) : Full Tryz.prog 37 [.ptr 500001 0] [(500001, o.ds)] true (fun d bs => d = bln (gatewayMay o.cls o.listeners) ∧ bs = [(500001,
 [int o.ref.kind, str o.ref.space, str o.ref.name, bln o.good, .pd (.slice (rows APair.pd o.labels)), .pd (.slice (ints o.ports)), str ⟨#[]⟩, .nils,
  .pd (.slice (rows AParent.pd o.parents)), .pd (.slice (strs o.hosts)), .pd (.slice (rows ARule.pd o.rules)), .pd (.slice (rows ASide.pd o.from_)), .pd (.slice (rows ASide.pd o.to_))])]) := by
 refine full_of_run follows an_zqquk Tryz.func37 rfl ok_zqquk.1 ok_zqquk.2 (by simp [Tryz.ntmps37]) (by simp [Tryz.ntmps37]) (.inl rfl) ?_
 rw [run_start]
 simp only [ac_zqquk, go_sem, simprocAttr, go_sem, rows_len]
 (repeat' (first | (refine GifP.mk (fun _ => ?_) (fun _ => ?_)) | (refine Gif.mk (fun _ => ?_) (fun _ => ?_)) | ((first | refine (dns_Name _).callW (enters_of Tryz.func70 rfl rfl) _ rfl rfl ?_ | refine (every_Listener listenerMay _ (enters_of Tryz.func84 rfl rfl) o.listeners h.li 8 (fun x hx => object_listener x (h.lis x hx))).callW (enters_of Tryz.func83 rfl rfl) _ rfl rfl ?_ | refine (twice_Listener lisName _ (enters_of Tryz.func82 rfl rfl) o.listeners h.li (fun x _ y _ => thing_gateway_1 x y)).callW (enters_of Tryz.func85 rfl rfl) _ rfl rfl ?_); rintro _ rfl; try simp only [go_sem, simprocAttr]))) <;> (simp only [retK, fullK, resD, retL, oneD, simprocAttr, Tryz.results37]; exact ⟨_, _, rfl, by simp [lessL, lk], congrArg bln (by first | rfl | (rw [Bool.eq_iff_iff]; simp only [gatewayMay]; (first | (simp; done) | (simp; omega) | (simp [*]; done) | (simp [*]; omega))) | (simp_all [gatewayMay]; done) | (exfalso; omega)), rfl⟩)

def routeMay (ps : List AParent) (hs : List ByteArray) (rs : List ARule) : Bool :=
 !(twice parSame ps || twice strSame hs) && every parentMay ps 4 && every patMay hs 4 && every ruleMay rs 6

theorem thing_route (o : AObj) (h : o.ok) : Full Tryz.prog 38 [.ptr 500001 0] [(500001, o.ds)] true (fun d bs => d = bln (routeMay o.parents o.hosts o.rules) ∧ bs = [(500001,
 [int o.ref.kind, str o.ref.space, str o.ref.name, bln o.good, .pd (.slice (rows APair.pd o.labels)), .pd (.slice (ints o.ports)), str o.cls, .pd (.slice (rows AListener.pd o.listeners)),
  .nils, .nils, .nils, .pd (.slice (rows ASide.pd o.from_)), .pd (.slice (rows ASide.pd o.to_))])]) := by
 refine full_of_run follows an_ztpho Tryz.func38 rfl ok_ztpho.1 ok_ztpho.2 (by simp [Tryz.ntmps38]) (by simp [Tryz.ntmps38]) (.inl rfl) ?_
 rw [run_start]
 simp (maxSteps := 5000000) only [ac_ztpho, go_sem, simprocAttr, go_sem, rows_len]
 (repeat' (first | (refine GifP.mk (fun _ => ?_) (fun _ => ?_)) | (refine Gif.mk (fun _ => ?_) (fun _ => ?_)) | ((first | refine (twice_Parent parSame _ (enters_of Tryz.func87 rfl rfl) o.parents h.pa (fun x _ y _ => thing_route_1 x y)).callW (enters_of Tryz.func86 rfl rfl) _ rfl rfl ?_ | refine (twice_string strSame _ (enters_of Tryz.func89 rfl rfl) o.hosts h.ho (fun x _ y _ => thing_route_2 x y)).callW (enters_of Tryz.func88 rfl rfl) _ rfl rfl ?_ | refine (every_Parent parentMay _ (enters_of Tryz.func93 rfl rfl) o.parents h.pa 4 (fun x _ => object_parent x)).callW (enters_of Tryz.func92 rfl rfl) _ rfl rfl ?_ | refine (every_string patMay _ (enters_of Tryz.func90 rfl rfl) o.hosts h.ho 4 (fun x _ => thing_route_3 x)).callW (enters_of Tryz.func94 rfl rfl) _ rfl rfl ?_ | refine (every_Rule ruleMay _ (enters_of Tryz.func96 rfl rfl) o.rules h.ru 6 (fun x hx => object_ruled x (h.rus x hx))).callW (enters_of Tryz.func95 rfl rfl) _ rfl rfl ?_); rintro _ rfl; try simp only [go_sem, simprocAttr]))) <;> (simp only [retK, fullK, resD, retL, oneD, simprocAttr, Tryz.results38]; exact ⟨_, _, rfl, by simp [lessL, lk], congrArg bln (by first | rfl | (rw [Bool.eq_iff_iff]; simp only [routeMay]; (first | (simp; done) | (simp; omega) | (simp [*]; done) | (simp [*]; omega))) | (simp_all [routeMay]; done) | (exfalso; omega)), rfl⟩)

def grantMay (f t : List ASide) : Bool := decide (0 < f.length) && decide (0 < t.length) && every sideFrom f 4 && every sideTo t 4

theorem thing_grant (o : AObj) (h : o.ok) : Full Tryz.prog 39 [.ptr 500001 0] [(500001, o.ds)] true (fun d bs => d = bln (grantMay o.from_ o.to_) ∧ bs = [(500001,
 [int o.ref.kind, str o.ref.space, str o.ref.name, bln o.good, .pd (.slice (rows APair.pd o.labels)), .pd (.slice (ints o.ports)), str o.cls, .pd (.slice (rows AListener.pd o.listeners)),
  .pd (.slice (rows AParent.pd o.parents)), .pd (.slice (strs o.hosts)), .pd (.slice (rows ARule.pd o.rules)), .nils, .nils])]) := by
 refine full_of_run follows an_zlbax Tryz.func39 rfl ok_zlbax.1 ok_zlbax.2 (by simp [Tryz.ntmps39]) (by simp [Tryz.ntmps39]) (.inl rfl) ?_
 rw [run_start]
 simp only [ac_zlbax, go_sem, simprocAttr, go_sem, rows_len]
 (repeat' (first | (refine GifP.mk (fun _ => ?_) (fun _ => ?_)) | (refine Gif.mk (fun _ => ?_) (fun _ => ?_)) | ((first | refine (every_Side sideFrom _ (enters_of Tryz.func97 rfl rfl) o.from_ h.fr 4 (fun x _ => thing_grant_1 x)).callW (enters_of Tryz.func99 rfl rfl) _ rfl rfl ?_ | refine (every_Side sideTo _ (enters_of Tryz.func98 rfl rfl) o.to_ h.to 4 (fun x _ => thing_grant_2 x)).callW (enters_of Tryz.func99 rfl rfl) _ rfl rfl ?_); rintro _ rfl; try simp only [go_sem, simprocAttr]))) <;> (simp only [retK, fullK, resD, retL, oneD, simprocAttr, Tryz.results39]; exact ⟨_, _, rfl, by simp [lessL, lk], congrArg bln (by first | rfl | (rw [Bool.eq_iff_iff]; simp only [grantMay]; (first | (simp; done) | (simp; omega) | (simp [*]; done) | (simp [*]; omega))) | (simp_all [grantMay]; done) | (exfalso; omega)), rfl⟩)


def AObj.zero (r : ARef) : AObj := ⟨r, false, [], [], ⟨#[]⟩, [], [], [], [], [], []⟩

theorem AObj.zero_ok (r : ARef) : (AObj.zero r).ok := ⟨by simp [AObj.zero], by simp [AObj.zero], by simp [AObj.zero], by simp [AObj.zero], by simp [AObj.zero], by simp [AObj.zero], by simp [AObj.zero], by simp [AObj.zero], by simp [AObj.zero], by simp [AObj.zero]⟩

def AObj.strip (o : AObj) : AObj :=
 if o.ref.kind = 1 ∨ o.ref.kind = 4 then { o with good := false }
 else if o.ref.kind = 2 then { o with labels := [] }
 else if o.ref.kind = 3 then { o with ports := [] }
 else if o.ref.kind = 5 then { o with listeners := [], cls := ⟨#[]⟩ }
 else if o.ref.kind = 6 then { o with parents := [], hosts := [], rules := [] }
 else { o with from_ := [], to_ := [] }

def kindMay (o : AObj) : Bool :=
 if o.ref.kind = 1 ∨ o.ref.kind = 4 then true
 else if o.ref.kind = 2 then labelsMay o.labels
 else if o.ref.kind = 3 then serviceMay o.ports
 else if o.ref.kind = 5 then gatewayMay o.cls o.listeners
 else if o.ref.kind = 6 then routeMay o.parents o.hosts o.rules
 else grantMay o.from_ o.to_

def objMay (o : AObj) : Bool := mayRef o.ref && kindMay o && objSame o.strip (AObj.zero o.ref)

theorem mayRef_kind {r : ARef} (h : mayRef r = true) : r.kind = 1 ∨ r.kind = 2 ∨ r.kind = 3 ∨ r.kind = 4 ∨ r.kind = 5 ∨ r.kind = 6 ∨ r.kind = 7 := by
 unfold mayRef at h
 split at h
 ·omega
 ·split at h
  ·omega
  ·simp [okind] at h; omega

theorem strip_ok {o s : AObj} (h : o.ok) (h1 : s.labels = o.labels ∨ s.labels = []) (h2 : s.ports = o.ports ∨ s.ports = []) (h3 : s.listeners = o.listeners ∨ s.listeners = []) (h4 : s.parents = o.parents ∨ s.parents = []) (h5 : s.hosts = o.hosts ∨ s.hosts = [])
 (h6 : s.rules = o.rules ∨ s.rules = []) (h7 : s.from_ = o.from_ ∨ s.from_ = []) (h8 : s.to_ = o.to_ ∨ s.to_ = []) : s.ok where
 la := by rcases h1 with e | e <;> rw [e] <;> first | exact h.la | simp
 po := by rcases h2 with e | e <;> rw [e] <;> first | exact h.po | simp
 li := by rcases h3 with e | e <;> rw [e] <;> first | exact h.li | simp
 pa := by rcases h4 with e | e <;> rw [e] <;> first | exact h.pa | simp
 ho := by rcases h5 with e | e <;> rw [e] <;> first | exact h.ho | simp
 ru := by rcases h6 with e | e <;> rw [e] <;> first | exact h.ru | simp
 fr := by rcases h7 with e | e <;> rw [e] <;> first | exact h.fr | simp
 to := by rcases h8 with e | e <;> rw [e] <;> first | exact h.to | simp
 lis := by rcases h3 with e | e <;> rw [e] <;> first | exact h.lis | simp
 rus := by rcases h6 with e | e <;> rw [e] <;> first | exact h.rus | simp

set_option maxHeartbeats 4000000 in
theorem object_May (o : AObj) (h : o.ok) : Pure Tryz.prog 11 [o.d] (fun d => d = bln (objMay o)) := by
 refine pure_of_run follows an_zfwje Tryz.func11 rfl ok_zfwje.1 ok_zfwje.2 (by simp [Tryz.ntmps11]) ?_
 rw [run_start]
 simp (maxSteps := 5000000) only [ac_zfwje, go_sem, simprocAttr, go_sem]
 refine (object_MayRef o.ref).callX (enters_of Tryz.func25 rfl rfl) _ rfl rfl ?_
 rintro d rfl
 by_cases hm : mayRef o.ref = true
 ·have stop : kindMay o = false → objMay o = false := fun e => by simp [objMay, e]
  have go : ∀ s : AObj, o.strip = s → kindMay o = true → objMay o = objSame s (AObj.zero o.ref) := fun s e1 e2 => by simp [objMay, hm, e1, e2]
  rcases mayRef_kind hm with hk | hk | hk | hk | hk | hk | hk
  ·obtain ⟨⟨kd, sp, nm⟩, gd, la, po, cl, li, pa, ho, ru, fr, to⟩ := o
   simp only at hk
   subst hk
   simp (maxSteps := 5000000) only [go_sem, simprocAttr, go_sem, hm]
   refine (thing_class ⟨⟨1, sp, nm⟩, gd, la, po, cl, li, pa, ho, ru, fr, to⟩).callW (enters_of Tryz.func34 rfl rfl) _ false [(9, 500001)] [] [] [] rfl rfl rfl ?_
   rintro d bs ⟨rfl, rfl⟩
   simp (maxSteps := 5000000) only [go_sem, simprocAttr, go_sem]
   have hs : (⟨⟨1, sp, nm⟩, gd, la, po, cl, li, pa, ho, ru, fr, to⟩ : AObj).strip = { (⟨⟨1, sp, nm⟩, gd, la, po, cl, li, pa, ho, ru, fr, to⟩ : AObj) with good := false } := by simp [AObj.strip]
   have hkm : kindMay (⟨⟨1, sp, nm⟩, gd, la, po, cl, li, pa, ho, ru, fr, to⟩ : AObj) = true := by simp [kindMay]
   refine (object_Same ({ (⟨⟨1, sp, nm⟩, gd, la, po, cl, li, pa, ho, ru, fr, to⟩ : AObj) with good := false } : AObj) (AObj.zero ⟨1, sp, nm⟩) (strip_ok h (by simp) (by simp) (by simp) (by simp) (by simp) (by simp) (by simp) (by simp)) (AObj.zero_ok ⟨1, sp, nm⟩)).callX (enters_of Tryz.func13 rfl rfl) _ rfl rfl ?_
   rintro d rfl
   simp (maxSteps := 5000000) only [go_sem, simprocAttr, go_sem]
   simp only [retK, resD, retL, oneD, simprocAttr, Tryz.results11]
   exact ⟨_, rfl, rfl, congrArg bln (go _ hs (by rw [hkm])).symm⟩
  ·obtain ⟨⟨kd, sp, nm⟩, gd, la, po, cl, li, pa, ho, ru, fr, to⟩ := o
   simp only at hk
   subst hk
   simp (maxSteps := 5000000) only [go_sem, simprocAttr, go_sem, hm]
   refine (thing_space ⟨⟨2, sp, nm⟩, gd, la, po, cl, li, pa, ho, ru, fr, to⟩ h).callW (enters_of Tryz.func35 rfl rfl) _ false [(9, 500001)] [] [] [] rfl rfl rfl ?_
   rintro d bs ⟨rfl, rfl⟩
   simp (maxSteps := 5000000) only [go_sem, simprocAttr, go_sem]
   have hs : (⟨⟨2, sp, nm⟩, gd, la, po, cl, li, pa, ho, ru, fr, to⟩ : AObj).strip = { (⟨⟨2, sp, nm⟩, gd, la, po, cl, li, pa, ho, ru, fr, to⟩ : AObj) with labels := [] } := by simp [AObj.strip]
   have hkm : kindMay (⟨⟨2, sp, nm⟩, gd, la, po, cl, li, pa, ho, ru, fr, to⟩ : AObj) = labelsMay la := by simp [kindMay]
   refine Gif.mk (fun h1 => ?_) (fun h1 => ?_)
   ·refine (object_Same ({ (⟨⟨2, sp, nm⟩, gd, la, po, cl, li, pa, ho, ru, fr, to⟩ : AObj) with labels := [] } : AObj) (AObj.zero ⟨2, sp, nm⟩) (strip_ok h (by simp) (by simp) (by simp) (by simp) (by simp) (by simp) (by simp) (by simp)) (AObj.zero_ok ⟨2, sp, nm⟩)).callX (enters_of Tryz.func13 rfl rfl) _ rfl rfl ?_
    rintro d rfl
    simp (maxSteps := 5000000) only [go_sem, simprocAttr, go_sem]
    simp only [retK, resD, retL, oneD, simprocAttr, Tryz.results11]
    exact ⟨_, rfl, rfl, congrArg bln (go _ hs (by rw [hkm]; exact h1)).symm⟩
   ·simp only [retK, resD, retL, oneD, simprocAttr, Tryz.results11]
    exact ⟨_, rfl, rfl, congrArg bln (stop (by rw [hkm]; exact h1)).symm⟩
  ·obtain ⟨⟨kd, sp, nm⟩, gd, la, po, cl, li, pa, ho, ru, fr, to⟩ := o
   simp only at hk
   subst hk
   simp (maxSteps := 5000000) only [go_sem, simprocAttr, go_sem, hm]
   refine (thing_service ⟨⟨3, sp, nm⟩, gd, la, po, cl, li, pa, ho, ru, fr, to⟩ h).callW (enters_of Tryz.func36 rfl rfl) _ false [(9, 500001)] [] [] [] rfl rfl rfl ?_
   rintro d bs ⟨rfl, rfl⟩
   simp (maxSteps := 5000000) only [go_sem, simprocAttr, go_sem]
   have hs : (⟨⟨3, sp, nm⟩, gd, la, po, cl, li, pa, ho, ru, fr, to⟩ : AObj).strip = { (⟨⟨3, sp, nm⟩, gd, la, po, cl, li, pa, ho, ru, fr, to⟩ : AObj) with ports := [] } := by simp [AObj.strip]
   have hkm : kindMay (⟨⟨3, sp, nm⟩, gd, la, po, cl, li, pa, ho, ru, fr, to⟩ : AObj) = serviceMay po := by simp [kindMay]
   refine Gif.mk (fun h1 => ?_) (fun h1 => ?_)
   ·refine (object_Same ({ (⟨⟨3, sp, nm⟩, gd, la, po, cl, li, pa, ho, ru, fr, to⟩ : AObj) with ports := [] } : AObj) (AObj.zero ⟨3, sp, nm⟩) (strip_ok h (by simp) (by simp) (by simp) (by simp) (by simp) (by simp) (by simp) (by simp)) (AObj.zero_ok ⟨3, sp, nm⟩)).callX (enters_of Tryz.func13 rfl rfl) _ rfl rfl ?_
    rintro d rfl
    simp (maxSteps := 5000000) only [go_sem, simprocAttr, go_sem]
    simp only [retK, resD, retL, oneD, simprocAttr, Tryz.results11]
    exact ⟨_, rfl, rfl, congrArg bln (go _ hs (by rw [hkm]; exact h1)).symm⟩
   ·simp only [retK, resD, retL, oneD, simprocAttr, Tryz.results11]
    exact ⟨_, rfl, rfl, congrArg bln (stop (by rw [hkm]; exact h1)).symm⟩
  ·obtain ⟨⟨kd, sp, nm⟩, gd, la, po, cl, li, pa, ho, ru, fr, to⟩ := o
   simp only at hk
   subst hk
   simp (maxSteps := 5000000) only [go_sem, simprocAttr, go_sem, hm]
   refine (thing_class ⟨⟨4, sp, nm⟩, gd, la, po, cl, li, pa, ho, ru, fr, to⟩).callW (enters_of Tryz.func34 rfl rfl) _ false [(9, 500001)] [] [] [] rfl rfl rfl ?_
   rintro d bs ⟨rfl, rfl⟩
   simp (maxSteps := 5000000) only [go_sem, simprocAttr, go_sem]
   have hs : (⟨⟨4, sp, nm⟩, gd, la, po, cl, li, pa, ho, ru, fr, to⟩ : AObj).strip = { (⟨⟨4, sp, nm⟩, gd, la, po, cl, li, pa, ho, ru, fr, to⟩ : AObj) with good := false } := by simp [AObj.strip]
   have hkm : kindMay (⟨⟨4, sp, nm⟩, gd, la, po, cl, li, pa, ho, ru, fr, to⟩ : AObj) = true := by simp [kindMay]
   refine (object_Same ({ (⟨⟨4, sp, nm⟩, gd, la, po, cl, li, pa, ho, ru, fr, to⟩ : AObj) with good := false } : AObj) (AObj.zero ⟨4, sp, nm⟩) (strip_ok h (by simp) (by simp) (by simp) (by simp) (by simp) (by simp) (by simp) (by simp)) (AObj.zero_ok ⟨4, sp, nm⟩)).callX (enters_of Tryz.func13 rfl rfl) _ rfl rfl ?_
   rintro d rfl
   simp (maxSteps := 5000000) only [go_sem, simprocAttr, go_sem]
   simp only [retK, resD, retL, oneD, simprocAttr, Tryz.results11]
   exact ⟨_, rfl, rfl, congrArg bln (go _ hs (by rw [hkm])).symm⟩
  ·obtain ⟨⟨kd, sp, nm⟩, gd, la, po, cl, li, pa, ho, ru, fr, to⟩ := o
   simp only at hk
   subst hk
   simp (maxSteps := 5000000) only [go_sem, simprocAttr, go_sem, hm]
   refine (thing_gateway ⟨⟨5, sp, nm⟩, gd, la, po, cl, li, pa, ho, ru, fr, to⟩ h).callW (enters_of Tryz.func37 rfl rfl) _ false [(9, 500001)] [] [] [] rfl rfl rfl ?_
   rintro d bs ⟨rfl, rfl⟩
   simp (maxSteps := 5000000) only [go_sem, simprocAttr, go_sem]
   have hs : (⟨⟨5, sp, nm⟩, gd, la, po, cl, li, pa, ho, ru, fr, to⟩ : AObj).strip = { (⟨⟨5, sp, nm⟩, gd, la, po, cl, li, pa, ho, ru, fr, to⟩ : AObj) with listeners := [], cls := ⟨#[]⟩ } := by simp [AObj.strip]
   have hkm : kindMay (⟨⟨5, sp, nm⟩, gd, la, po, cl, li, pa, ho, ru, fr, to⟩ : AObj) = gatewayMay cl li := by simp [kindMay]
   refine Gif.mk (fun h1 => ?_) (fun h1 => ?_)
   ·refine (object_Same ({ (⟨⟨5, sp, nm⟩, gd, la, po, cl, li, pa, ho, ru, fr, to⟩ : AObj) with listeners := [], cls := ⟨#[]⟩ } : AObj) (AObj.zero ⟨5, sp, nm⟩) (strip_ok h (by simp) (by simp) (by simp) (by simp) (by simp) (by simp) (by simp) (by simp)) (AObj.zero_ok ⟨5, sp, nm⟩)).callX (enters_of Tryz.func13 rfl rfl) _ rfl rfl ?_
    rintro d rfl
    simp (maxSteps := 5000000) only [go_sem, simprocAttr, go_sem]
    simp only [retK, resD, retL, oneD, simprocAttr, Tryz.results11]
    exact ⟨_, rfl, rfl, congrArg bln (go _ hs (by rw [hkm]; exact h1)).symm⟩
   ·simp only [retK, resD, retL, oneD, simprocAttr, Tryz.results11]
    exact ⟨_, rfl, rfl, congrArg bln (stop (by rw [hkm]; exact h1)).symm⟩
  ·obtain ⟨⟨kd, sp, nm⟩, gd, la, po, cl, li, pa, ho, ru, fr, to⟩ := o
   simp only at hk
   subst hk
   simp (maxSteps := 5000000) only [go_sem, simprocAttr, go_sem, hm]
   refine (thing_route ⟨⟨6, sp, nm⟩, gd, la, po, cl, li, pa, ho, ru, fr, to⟩ h).callW (enters_of Tryz.func38 rfl rfl) _ false [(9, 500001)] [] [] [] rfl rfl rfl ?_
   rintro d bs ⟨rfl, rfl⟩
   simp (maxSteps := 5000000) only [go_sem, simprocAttr, go_sem]
   have hs : (⟨⟨6, sp, nm⟩, gd, la, po, cl, li, pa, ho, ru, fr, to⟩ : AObj).strip = { (⟨⟨6, sp, nm⟩, gd, la, po, cl, li, pa, ho, ru, fr, to⟩ : AObj) with parents := [], hosts := [], rules := [] } := by simp [AObj.strip]
   have hkm : kindMay (⟨⟨6, sp, nm⟩, gd, la, po, cl, li, pa, ho, ru, fr, to⟩ : AObj) = routeMay pa ho ru := by simp [kindMay]
   refine Gif.mk (fun h1 => ?_) (fun h1 => ?_)
   ·refine (object_Same ({ (⟨⟨6, sp, nm⟩, gd, la, po, cl, li, pa, ho, ru, fr, to⟩ : AObj) with parents := [], hosts := [], rules := [] } : AObj) (AObj.zero ⟨6, sp, nm⟩) (strip_ok h (by simp) (by simp) (by simp) (by simp) (by simp) (by simp) (by simp) (by simp)) (AObj.zero_ok ⟨6, sp, nm⟩)).callX (enters_of Tryz.func13 rfl rfl) _ rfl rfl ?_
    rintro d rfl
    simp (maxSteps := 5000000) only [go_sem, simprocAttr, go_sem]
    simp only [retK, resD, retL, oneD, simprocAttr, Tryz.results11]
    exact ⟨_, rfl, rfl, congrArg bln (go _ hs (by rw [hkm]; exact h1)).symm⟩
   ·simp only [retK, resD, retL, oneD, simprocAttr, Tryz.results11]
    exact ⟨_, rfl, rfl, congrArg bln (stop (by rw [hkm]; exact h1)).symm⟩
  ·obtain ⟨⟨kd, sp, nm⟩, gd, la, po, cl, li, pa, ho, ru, fr, to⟩ := o
   simp only at hk
   subst hk
   simp (maxSteps := 5000000) only [go_sem, simprocAttr, go_sem, hm]
   refine (thing_grant ⟨⟨7, sp, nm⟩, gd, la, po, cl, li, pa, ho, ru, fr, to⟩ h).callW (enters_of Tryz.func39 rfl rfl) _ false [(9, 500001)] [] [] [] rfl rfl rfl ?_
   rintro d bs ⟨rfl, rfl⟩
   simp (maxSteps := 5000000) only [go_sem, simprocAttr, go_sem]
   have hs : (⟨⟨7, sp, nm⟩, gd, la, po, cl, li, pa, ho, ru, fr, to⟩ : AObj).strip = { (⟨⟨7, sp, nm⟩, gd, la, po, cl, li, pa, ho, ru, fr, to⟩ : AObj) with from_ := [], to_ := [] } := by simp [AObj.strip]
   have hkm : kindMay (⟨⟨7, sp, nm⟩, gd, la, po, cl, li, pa, ho, ru, fr, to⟩ : AObj) = grantMay fr to := by simp [kindMay]
   refine Gif.mk (fun h1 => ?_) (fun h1 => ?_)
   ·refine (object_Same ({ (⟨⟨7, sp, nm⟩, gd, la, po, cl, li, pa, ho, ru, fr, to⟩ : AObj) with from_ := [], to_ := [] } : AObj) (AObj.zero ⟨7, sp, nm⟩) (strip_ok h (by simp) (by simp) (by simp) (by simp) (by simp) (by simp) (by simp) (by simp)) (AObj.zero_ok ⟨7, sp, nm⟩)).callX (enters_of Tryz.func13 rfl rfl) _ rfl rfl ?_
    rintro d rfl
    simp (maxSteps := 5000000) only [go_sem, simprocAttr, go_sem]
    simp only [retK, resD, retL, oneD, simprocAttr, Tryz.results11]
    exact ⟨_, rfl, rfl, congrArg bln (go _ hs (by rw [hkm]; exact h1)).symm⟩
   ·simp only [retK, resD, retL, oneD, simprocAttr, Tryz.results11]
    exact ⟨_, rfl, rfl, congrArg bln (stop (by rw [hkm]; exact h1)).symm⟩
 ·have hm' : mayRef o.ref = false := by simpa using hm
  simp (maxSteps := 5000000) only [go_sem, simprocAttr, go_sem, hm']
  simp only [retK, resD, retL, oneD, simprocAttr, Tryz.results11]
  exact ⟨_, rfl, rfl, congrArg bln (by simp [objMay, hm'])⟩


def refZ : ARef := ⟨0, ⟨#[]⟩, ⟨#[]⟩⟩

instance : Inhabited ARef := ⟨refZ⟩

theorem encR_one (x : ARef) : ∀ v ∈ encR x, v.oneCell' = true := fun v hv => by
 simp only [encR, List.mem_cons, List.not_mem_nil, or_false] at hv
 rcases hv with rfl | rfl | rfl <;> rfl

theorem encR_inv {Fz : Nat → Nat → Prop} {w : World} {vs : List Value} {x : ARef} (h : PReps Fz w vs (ARef.pd x)) : vs = encR x := by
 cases h with
 | cons v _ vs _ h hs =>
   cases hs with
   | cons v' _ vs' _ h' hs' =>
     cases hs' with
     | cons v'' _ vs'' _ h'' hs'' =>
       cases hs''
       cases h; cases h'; cases h''
       rfl

theorem encR_rep {Fz : Nat → Nat → Prop} {w : World} (x : ARef) : PReps Fz w (encR x) (ARef.pd x) :=
 .cons _ _ _ _ (.raw _ rfl) (.cons _ _ _ _ (.raw _ rfl) (.cons _ _ _ _ (.raw _ rfl) .nil))

structure RowR (Fz : Nat → Nat → Prop) (w : World) (b len cap : Nat) (l : List ARef) : Prop where
 hlen : l.length = len
 hcap : len ≤ cap
 hmax : len ≤ maxLen
 hcell : ∀ j i x u, l[j]? = some x → (encR x)[i]? = some u → w.cell? ⟨b, j * 3 + i, none⟩ = some u ∧ Fz b (j * 3 + i)

theorem RowR.of {Fz : Nat → Nat → Prop} {w : World} {b len cap : Nat} {l : List ARef} (hl : l ≠ []) (h : PRep Fz w (.slice (some ⟨b, 0, none⟩) len cap) (.slice (rows ARef.pd l))) : RowR Fz w b len cap l := by
 generalize hE : rows ARef.pd l = E at h
 cases h with
 | empty => exact absurd (List.map_eq_nil_iff.1 hE) hl
 | slice _ _ _ _ sz _ vals hn hpos hcap hmax hlen hc hr =>
   have hll : l.length = len := by rw [← hn, ← hE]; simp [rows]
   have hv : ∀ j x, l[j]? = some x → vals j = encR x := fun j x hx => by
    have hj : j < len := by have := (List.getElem?_eq_some_iff.1 hx).1; omega
    have h1 := hr j hj
    rw [← hE, List.getD_eq_getElem?_getD, rows, List.getElem?_map, hx] at h1
    exact encR_inv h1
   have hsz : sz = 3 := by
    obtain ⟨x, hx⟩ := at_lt (l := l) (i := 0) (by omega)
    rw [← hlen 0 hpos, hv 0 x hx]
    rfl
   subst hsz
   refine ⟨hll, hcap, hmax, fun j i x u hx hu => ?_⟩
   have hj : j < len := by have := (List.getElem?_eq_some_iff.1 hx).1; omega
   have := hc j i u hj (by rw [hv j x hx]; exact hu)
   rwa [Nat.zero_add] at this

theorem RowR.rep {Fz : Nat → Nat → Prop} {w : World} {b len cap : Nat} {l : List ARef} (h : RowR Fz w b len cap l) (hl : l ≠ []) : PRep Fz w (.slice (some ⟨b, 0, none⟩) len cap) (.slice (rows ARef.pd l)) := by
 have hpos : 0 < len := by have := List.length_pos_iff.2 hl; have := h.hlen; omega
 refine .slice b 0 len cap 3 _ (fun j => encR (l.getD j refZ)) (by rw [← h.hlen]; simp [rows]) hpos h.hcap h.hmax (fun _ _ => rfl) (fun j i u hj hu => ?_) (fun j hj => ?_)
 ·obtain ⟨x, hx⟩ := at_lt (l := l) (i := j) (by have := h.hlen; omega)
  rw [List.getD_eq_getElem?_getD, hx] at hu
  rw [Nat.zero_add]
  exact h.hcell j i x u hx hu
 ·obtain ⟨x, hx⟩ := at_lt (l := l) (i := j) (by have := h.hlen; omega)
  rw [List.getD_eq_getElem?_getD, List.getD_eq_getElem?_getD, rows, List.getElem?_map, hx]
  exact encR_rep x

theorem RowR.holds {Fz : Nat → Nat → Prop} {w : World} {b len cap : Nat} {l : List ARef} (h : RowR Fz w b len cap l) {cur : Array Value} {e : TypeId} (hb : w.heap[b]? = some (.cells cur e (0, 0))) : Sort.HoldsK encR 3 w b 0 l.toArray := by
 intro t ht
 rw [Sort.size_flatK] at ht
 have ht' : t < l.length * 3 := by simpa using ht
 obtain ⟨x, hx⟩ := at_lt (l := l) (i := t / 3) (by omega)
 have h3 : t % 3 < 3 := Nat.mod_lt _ (by decide)
 have h1 := h.hcell (t / 3) (t % 3) x (encR x)[t % 3] hx (List.getElem?_eq_getElem (by simpa using h3))
 rw [Nat.div_add_mod' t 3] at h1
 rw [Sort.get_flatK _ _ _ _ (by simpa using ht'), Nat.zero_add]
 refine ⟨h1.1.trans ?_, by simp [World.frozen?, hb]⟩
 have e1 : l.toArray[t / 3]! = x := by
  rw [getElem!_pos _ _ (by simpa using (List.getElem?_eq_some_iff.1 hx).1)]
  simpa using (List.getElem?_eq_some_iff.1 hx).2
 rw [e1]
 simp only [id]
 rw [getElem!_pos _ _ (by simpa using h3)]

theorem RowR.of_holds {Fz : Nat → Nat → Prop} {w w' : World} {b len cap : Nat} {l l' : List ARef} (h : RowR Fz w b len cap l) (hl : l'.length = l.length) (hH : Sort.HoldsK encR 3 w' b 0 l'.toArray) : RowR Fz w' b len cap l' where
 hlen := hl.trans h.hlen
 hcap := h.hcap
 hmax := h.hmax
 hcell := fun j i x u hx hu => by
  have hj : j < l'.length := (List.getElem?_eq_some_iff.1 hx).1
  have hi : i < 3 := by simpa using (List.getElem?_eq_some_iff.1 hu).1
  obtain ⟨y, hy⟩ := at_lt (l := l) (i := j) (by omega)
  have h1 := (h.hcell j i y (encR y)[i] hy (List.getElem?_eq_getElem (by simpa using hi))).2
  have h2 := (hH.cell (i := j) (c := i) (by simpa using hj) hi).1
  rw [Nat.zero_add] at h2
  refine ⟨h2.trans ?_, h1⟩
  have e1 : l'.toArray[j]! = x := by
   rw [getElem!_pos _ _ (by simpa using hj)]
   simpa using (List.getElem?_eq_some_iff.1 hx).2
  rw [e1, getElem!_pos _ _ (by simpa using hi)]
  exact (List.getElem?_eq_getElem _).symm.trans hu

theorem grownBy_K {w : World} {b n : Nat} {os : Array Obj} (F : Array Value) : w.grownBy (Sort.grow (Sort.putRow id (Sort.ahead w n) b 0 F) os) (some b) := by
 refine ⟨rfl, rfl, rfl, by simp, fun k hk hne => ?_⟩
 rw [Sort.heap_grow_old _ _ (by simpa using hk)]
 have : b ≠ k := fun e => hne (by rw [e])
 simp [Sort.putRow, Sort.mapBlock, Sort.ahead, Array.getElem?_modify, this]

theorem heap_K {w : World} {b n : Nat} {os : Array Obj} {cur : Array Value} {e : TypeId} {fr : Nat × Nat} (F : Array Value) (hb : w.heap[b]? = some (.cells cur e fr)) :
 (Sort.grow (Sort.putRow id (Sort.ahead w n) b 0 F) os).heap[b]? = some (.cells (Sort.putCells id 0 F cur) e fr) := by
 have hg : b < w.heap.size := (Array.getElem?_eq_some_iff.1 hb).1
 rw [Sort.heap_grow_old _ _ (by simpa using hg)]
 simp [Sort.putRow, Sort.mapBlock, Sort.ahead, Array.getElem?_modify, hb, Sort.onCells]

def refSort (l : List ARef) : List ARef := l.mergeSort fun x y => !refLt y x

theorem sort_callW {SF OF : FuncId} (hSF : ∀ (vs : Array Value) (w : World), (callFunc SF vs).run Tryz.prog w = .ok (.enter SF vs) w)
 (hs0 : ∀ (b cap : Nat) (l : List ARef) (w : World), Sort.HoldsK encR 3 w b 0 l.toArray → b < w.heap.size → l.length < 4611686018427387904 → Calls Tryz.prog SF #[.slice (some ⟨b, 0, none⟩) l.length cap, .func (.func OF) #[] #[]] w fun e w' => e = .returned (.tuple #[]) ∧ ∃ n os, w' = sortWorldK encR 3 w b 0 n (refSort l).toArray os)
 {st : St} {l : List ARef} (hl : l ≠ []) (hle : l.length ≤ 1000000) {t : Nat} {e : TypeId} (hsolo : st.hs = .solo) {K : D → St → Prop}
 (hk : K (.tup []) ⟨updG t e 3 (rows ARef.pd (refSort l)) st.fr, updB t e 3 (rows ARef.pd (refSort l)) st.bs, [], st.hs⟩) :
 CallW Tryz.prog SF [.own e 3 (rows ARef.pd l) t, .fn OF []] st K := by
 refine ⟨hSF, fun C g a w vs hP hs hr => ?_⟩
 simp only [Reps] at hr
 obtain ⟨v0, vs0, rfl, h0, v1, vs1, rfl, h1, rfl⟩ := hr
 simp only [Rep] at h0 h1
 obtain ⟨hpr, htk, hlens⟩ := h0
 obtain ⟨cv, rfl, hcv⟩ := h1
 simp only [Caps] at hcv
 subst hcv
 have m := hs.mem
 obtain ⟨ie, n, xs, hie, hpos, hown, hfz⟩ := m.tks t _ _ htk
 obtain ⟨hxl, hform⟩ := hown
 rcases hform with ⟨rfl, hn0, _⟩ | ⟨b, cap, cur, rfl, hb0, hold, hnc, hcm, hcs, htake⟩
 ·exfalso
  generalize hE : rows ARef.pd l = E at hpr
  cases hpr with
  | empty => exact hl (List.map_eq_nil_iff.1 hE)
 have hR := RowR.of hl hpr
 have hlen := hR.hlen
 have hmax := hR.hmax
 have hbl : b < w.heap.size := (Array.getElem?_eq_some_iff.1 hold).1
 have hsl : (refSort l).length = l.length := List.length_mergeSort _
 have hsl' : refSort l ≠ [] := fun e => hl (List.length_eq_zero_iff.1 (by rw [← hsl, e]; rfl))
 subst hlen
 refine (hs0 b cap l w (hR.holds hold) hbl (by omega)).mono ?_
 rintro ex w' ⟨rfl, q, os, rfl⟩
 have hH : Sort.HoldsK encR 3 (sortWorldK encR 3 w b 0 q (refSort l).toArray os) b 0 (refSort l).toArray := by
  unfold sortWorldK
  refine Sort.holdsK_grow _ _ _ _ _ _ _ (by simpa [Sort.putRowK] using hbl) (Sort.holdsK_putRowK _ _ _ _ _ l.toArray _ (Sort.holdsK_ahead _ _ _ _ _ _ _ (hR.holds hold)) (by simpa using hsl))
 exact ⟨.tuple #[], .tup [], _, g, rfl, hk, hs.newrow htk hsolo (grownBy_K _) hold (heap_K _ hold) (by simp [Sort.putCells]) ((hR.of_holds hsl hH).rep hsl') (rows_row (f := ARef.pd) (n := 3) (fun _ => rfl) _), by simp [Rep, Reps]⟩

end Go.Proofs.YtbjaopoipkphnaaGreatDoor



namespace Go.Proofs.YtbjaopoipkphnaaGreatDoor
open Go Go.RowKit Go.Shelf
set_option linter.unusedSimpArgs false
set_option linter.unusedVariables false
set_option maxRecDepth 100000

def Tryz.sortRef_ren : Go.Shelf.Ren := ⟨fun | 6 => 60 | 15 => 113 | 14 => 112 | 28 => 162 | 29 => 163 | 20 => 154 | 21 => 155 | 22 => 156 | 23 => 157 | 24 => 158 | 25 => 159 | 26 => 160 | 27 => 161 | 46 => 202 | 47 => 203 | 48 => 204 | 49 => 205 | 50 => 206 | 57 => 230 | n => n, fun | 22 => 38 | 24 => 23 | 25 => 43 | 3 => 3 | 39 => 145 | 0 => 0 | 53 => 179 | 55 => 181 | 4 => 4 | 46 => 172 | 45 => 171 | 50 => 176 | 5 => 5 | 9 => 9 | 66 => 202 | 70 => 206 | 76 => 224 | 77 => 225 | n => n, fun | n => n⟩
theorem Tryz.sortRef : Go.Proofs.SlLaysF0.n6 Tryz.prog Tryz.sortRef_ren := {
 mixed := by kernel_rfl
 f6 := ⟨Tryz.f60.name, by decide, Tryz.func60.trans (congrArg some (by kernel_rfl))⟩
 f14 := ⟨Tryz.f112.name, by decide, Tryz.func112.trans (congrArg some (by kernel_rfl))⟩
 f15 := Tryz.func113.trans (congrArg some (by kernel_rfl))
 f20 := ⟨Tryz.f154.name, by decide, Tryz.func154.trans (congrArg some (by kernel_rfl))⟩
 f21 := ⟨Tryz.f155.name, by decide, Tryz.func155.trans (congrArg some (by kernel_rfl))⟩
 f22 := ⟨Tryz.f156.name, by decide, Tryz.func156.trans (congrArg some (by kernel_rfl))⟩
 f23 := ⟨Tryz.f157.name, by decide, Tryz.func157.trans (congrArg some (by kernel_rfl))⟩
 f24 := ⟨Tryz.f158.name, by decide, Tryz.func158.trans (congrArg some (by kernel_rfl))⟩
 f25 := ⟨Tryz.f159.name, by decide, Tryz.func159.trans (congrArg some (by kernel_rfl))⟩
 f26 := ⟨Tryz.f160.name, by decide, Tryz.func160.trans (congrArg some (by kernel_rfl))⟩
 f27 := ⟨Tryz.f161.name, by decide, Tryz.func161.trans (congrArg some (by kernel_rfl))⟩
 f28 := Tryz.func162.trans (congrArg some (by kernel_rfl))
 f29 := Tryz.func163.trans (congrArg some (by kernel_rfl))
 f46 := ⟨Tryz.f202.name, by decide, Tryz.func202.trans (congrArg some (by kernel_rfl))⟩
 f47 := Tryz.func203.trans (congrArg some (by kernel_rfl))
 f48 := Tryz.func204.trans (congrArg some (by kernel_rfl))
 f49 := ⟨Tryz.f205.name, by decide, Tryz.func205.trans (congrArg some (by kernel_rfl))⟩
 f50 := ⟨Tryz.f206.name, by decide, Tryz.func206.trans (congrArg some (by kernel_rfl))⟩
 f57 := ⟨Tryz.f230.name, by decide, Tryz.func230.trans (congrArg some (by kernel_rfl))⟩
 t0 := Tryz.underlying0
 a0 := Tryz.isAgg0
 z0 := Tryz.sizeOf0
 v0 := Tryz.zeroValue0
 t3 := Tryz.underlying3
 a3 := Tryz.isAgg3
 z3 := Tryz.sizeOf3
 v3 := Tryz.zeroValue3
 t4 := Tryz.underlying4
 a4 := Tryz.isAgg4
 z4 := Tryz.sizeOf4
 v4 := Tryz.zeroValue4
 t5 := Tryz.underlying5
 a5 := Tryz.isAgg5
 z5 := Tryz.sizeOf5
 v5 := Tryz.zeroValue5
 t9 := Tryz.underlying9
 a9 := Tryz.isAgg9
 z9 := Tryz.sizeOf9
 v9 := Tryz.zeroValue9
 t22 := Tryz.underlying38
 a22 := Tryz.isAgg38
 z22 := Tryz.sizeOf38
 v22 := Tryz.zeroValue38
 t25 := Tryz.underlying43
 a25 := Tryz.isAgg43
 z25 := Tryz.sizeOf43
 v25 := Tryz.zeroValue43
 t39 := Tryz.underlying145
 a39 := Tryz.isAgg145
 z39 := Tryz.sizeOf145
 v39 := Tryz.zeroValue145
 t45 := Tryz.underlying171
 a45 := Tryz.isAgg171
 z45 := Tryz.sizeOf171
 v45 := Tryz.zeroValue171
 t46 := Tryz.underlying172
 a46 := Tryz.isAgg172
 z46 := Tryz.sizeOf172
 v46 := Tryz.zeroValue172
 t50 := Tryz.underlying176
 a50 := Tryz.isAgg176
 z50 := Tryz.sizeOf176
 v50 := Tryz.zeroValue176
 t53 := Tryz.underlying179
 a53 := Tryz.isAgg179
 z53 := Tryz.sizeOf179
 v53 := Tryz.zeroValue179
 t55 := Tryz.underlying181
 a55 := Tryz.isAgg181
 z55 := Tryz.sizeOf181
 v55 := Tryz.zeroValue181
 t66 := Tryz.underlying202
 a66 := Tryz.isAgg202
 z66 := Tryz.sizeOf202
 v66 := Tryz.zeroValue202
 t70 := Tryz.underlying206
 a70 := Tryz.isAgg206
 z70 := Tryz.sizeOf206
 v70 := Tryz.zeroValue206
 t76 := Tryz.underlying224
 a76 := Tryz.isAgg224
 z76 := Tryz.sizeOf224
 v76 := Tryz.zeroValue224
 t77 := Tryz.underlying225
 a77 := Tryz.isAgg225
 z77 := Tryz.sizeOf225
 v77 := Tryz.zeroValue225 }

theorem refs_sorted (b cap : Nat) (l : List ARef) (w : World) (hH : Sort.HoldsK encR 3 w b 0 l.toArray) (hb : b < w.heap.size) (hl : l.length < 4611686018427387904) :
 Calls Tryz.prog 60 #[.slice (some ⟨b, 0, none⟩) l.length cap, .func (.func 20) #[] #[]] w fun e w' => e = .returned (.tuple #[]) ∧ ∃ n os, w' = sortWorldK encR 3 w b 0 n (refSort l).toArray os := by
 have h := AnyQ.slices_SortFunc_total Tryz.sortRef 3 Tryz.isAgg23 Tryz.sizeOf23 encR (fun _ => rfl) encR_one refCmp refSWO 20 #[] b 0 cap l.toArray w (enters_of Tryz.func20 (by kernel_rfl) rfl) (fun _ _ _ _ x y => mem_Order x y _) hH hb (by simpa using hl) refTotal
 have e1 : l.toArray.size = l.length := by simp
 rw [e1] at h
 refine h.mono ?_
 rintro e w' ⟨h1, n, os, h2⟩
 refine ⟨h1, n, os, ?_⟩
 rw [h2]
 congr 1
 unfold refSort
 congr 2
 funext x y
 rw [refCmp_lt]


abbrev aggR (x : ARef) : Value := .agg #[.int .i64 x.kind, .string x.space, .string x.name]

theorem eql_R (x y : ARef) (w : World) : Sem.run Tryz.prog (Op.equal 23 (aggR x) (aggR y)) w = .ok (decide (x = y)) w := by
 have h := (eq_run (P := Tryz.prog) w 40 23 [.int, .str, .str] (by kernel_rfl) Op.maxDepth (by decide) (encR x) (encR y) (decide (x = y)) (by simp only [encR, eqVs, eqV, if_true]; exact congrArg some (by rw [Bool.eq_iff_iff]; obtain ⟨a1, a2, a3⟩ := x; obtain ⟨b1, b2, b3⟩ := y; simp))).1 _ Tryz.underlying23
 exact h

theorem eqop_R (x y : ARef) (w : World) : Sem.run Tryz.prog (binOp .eql 23 (aggR x) (aggR y)) w = .ok (.bool (decide (x = y))) w := by
 rw [binOp_eql_agg]
 have := eql_R x y w
 simp only [aggR] at this
 simp [this]
theorem neqop_R (x y : ARef) (w : World) : Sem.run Tryz.prog (binOp .neq 23 (aggR x) (aggR y)) w = .ok (.bool (!decide (x = y))) w := by
 rw [binOp_neq_agg]
 have := eql_R x y w
 simp only [aggR] at this
 simp [this]

theorem HoldsR.cells {w : World} {b : Nat} {d : Array ARef} (h : Sort.HoldsK encR 3 w b 0 d) {i : Nat} (hi : i < d.size) :
 (w.cell? ⟨b, i * 3, none⟩ = some (.int .i64 d[i]!.kind) ∧ w.cell? ⟨b, i * 3 + 1, none⟩ = some (.string d[i]!.space) ∧ w.cell? ⟨b, i * 3 + 2, none⟩ = some (.string d[i]!.name)) ∧
 w.frozen? ⟨b, i * 3, none⟩ = false ∧ w.frozen? ⟨b, i * 3 + 1, none⟩ = false ∧ w.frozen? ⟨b, i * 3 + 2, none⟩ = false := by
 have h0 := h.cell (i := i) (c := 0) hi (by decide)
 have h1 := h.cell (i := i) (c := 1) hi (by decide)
 have h2 := h.cell (i := i) (c := 2) hi (by decide)
 simp only [Nat.zero_add, Nat.add_zero] at h0 h1 h2
 exact ⟨⟨h0.1, h1.1, h2.1⟩, h0.2, h1.2, h2.2⟩

section
open Go.Sort Go.Lib

theorem setMany_one (d : Array ARef) (i : Nat) (x : ARef) (hi : i < d.size) : setMany (flatK encR 3 d) (i * 3) (encR x) = flatK encR 3 (d.setIfInBounds i x) := by
 refine ext_get! (by simp) fun t ht => ?_
 have ht' : t < d.size * 3 := by simpa using ht
 rw [get_setMany _ _ _ t (by simpa using ht'), get_flatK _ _ _ t ht', get_flatK _ _ _ t (by simpa using ht'), show (encR x).length = 3 from rfl]
 by_cases a : t / 3 = i
 ·rw [if_pos ((blk_iff 3 i t (by decide)).2 a), a, getElem!_set_same d i x hi, show t - i * 3 = t % 3 by rw [← a, Nat.mod_eq_sub_div_mul]]
 ·rw [if_neg (fun h => a ((blk_iff 3 i t (by decide)).1 h)), getElem!_set_other d i (t / 3) x a]

theorem lay_size {α : Type} : ∀ (xs : List α) (d : Array α) (k : Nat), (lay d k xs).size = d.size
 | [], _, _ => rfl
 | x :: r, d, k => by rw [lay, lay_size r]; simp

theorem repl_get (m j : Nat) : (Array.replicate m refZ)[j]! = refZ := by
 by_cases h : j < m
 ·rw [getElem!_pos _ _ (by simpa using h)]
  simp
 ·rw [getElem!_neg _ _ (by simpa using h)]
  rfl

theorem setMany_lay (dk : Array ARef) (kk m : Nat) (h : kk + m ≤ dk.size) : setMany (flatK encR 3 dk) (kk * 3) (flatK encR 3 (Array.replicate m refZ)).toList = flatK encR 3 (lay dk kk (List.replicate m refZ)) := by
 refine ext_get! (by simp [lay_size]) fun t ht => ?_
 have ht' : t < dk.size * 3 := by simpa using ht
 have hl : t / 3 < (lay dk kk (List.replicate m refZ)).size := by rw [lay_size]; omega
 rw [get_setMany _ _ _ t (by simpa using ht'), get_flatK _ _ _ t ht', get_flatK _ _ _ t (by rw [lay_size]; exact ht')]
 have hg := lay_get? (List.replicate m refZ) dk kk (t / 3) (by simpa using h)
 rw [Array.getElem?_eq_getElem hl] at hg
 rw [getElem!_pos (lay dk kk (List.replicate m refZ)) (t / 3) hl]
 simp only [Array.length_toList, size_flatK, Array.size_replicate]
 simp only [List.length_replicate] at hg
 by_cases a : kk ≤ t / 3 ∧ t / 3 < kk + m
 ·rw [if_pos a, List.getElem?_replicate, if_pos (by omega)] at hg
  rw [if_pos (by omega), Option.some.inj hg]
  have e1 : t - kk * 3 < m * 3 := by omega
  have e2 : (flatK encR 3 (Array.replicate m refZ)).toList[t - kk * 3]! = (flatK encR 3 (Array.replicate m refZ))[t - kk * 3]! := by
   rw [getElem!_pos _ _ (by simpa using e1), getElem!_pos _ _ (by simpa using e1)]
   rfl
  rw [e2, get_flatK _ _ _ _ (by simpa using e1), repl_get, show (t - kk * 3) % 3 = t % 3 by omega]
 ·rw [if_neg a, Array.getElem?_eq_getElem (by omega)] at hg
  rw [if_neg (by omega), Option.some.inj hg, getElem!_pos dk _ (by omega)]

theorem store_R {w wr : World} {n q b : Nat} {dk : Array ARef} {i : Nat} (hi : i < dk.size) (hwr : wr = putRowK encR 3 (Sort.ahead w n) b 0 dk) (x : ARef) :
 ((((wr.drewN q).setCell ⟨b, i * 3, none⟩ (.int .i64 x.kind)).setCell ⟨b, i * 3 + 1, none⟩ (.string x.space)).setCell ⟨b, i * 3 + 2, none⟩ (.string x.name)) = putRowK encR 3 (Sort.ahead w (n + q)) b 0 (dk.setIfInBounds i x) := by
 subst hwr
 rw [putRowK_drewN]
 have h := setCells_putRow (Sort.ahead w (n + q)) b 0 (encR x) (i * 3) (flatK encR 3 dk) (by simp; omega)
 rw [Nat.zero_add, setMany_one dk i x hi] at h
 exact h

theorem zero_R (n : Nat) : (Builtin.zeroCells (aggR refZ).cells n) = flatK encR 3 (Array.replicate n refZ) := by
 unfold Builtin.zeroCells flatK
 have h : (aggR refZ).cells = #[.int .i64 0, .string ⟨#[]⟩, .string ⟨#[]⟩] := rfl
 rw [h, Array.size_replicate]
 show (Array.range (n * 3)).map _ = (Array.range (n * 3)).map _
 congr 1
 funext t
 rw [repl_get]
 show (#[Value.int .i64 0, .string ⟨#[]⟩, .string ⟨#[]⟩])[t % 3]! = [Value.int .i64 0, .string ⟨#[]⟩, .string ⟨#[]⟩][t % 3]!
 have h3 : t % 3 < 3 := Nat.mod_lt _ (by decide)
 rcases h4 : t % 3 with _ | _ | _ | j
 ·rfl
 ·rfl
 ·rfl
 ·omega

theorem run_clear_R (w : World) (t ty : TypeId) (ht : Tryz.prog.underlying t = some (.slice 23)) (b c kk m : Nat) (hm : 0 < m) (dk : Array ARef) (hH : HoldsK encR 3 w b 0 dk) (hk : kk + m ≤ dk.size) :
 (Builtin.clear_ #[t] ty #[.slice (some ⟨b, kk * 3, none⟩) m c]).run Tryz.prog w = .ok (.tuple #[]) (w.setCells b (kk * 3) (flatK encR 3 (Array.replicate m refZ)).toList) := by
 have hv := Tryz.zeroValue23
 have hst := stores_of_holds Tryz.prog (W := w) (blk := b) (off := 0) hH (kk * 3) (flatK encR 3 (Array.replicate m refZ)).toList (by simp; omega) (fun v hv => by
  obtain ⟨i, hi, rfl⟩ := List.getElem_of_mem hv
  have hi' : i < m * 3 := by simpa using hi
  have e : (flatK encR 3 (Array.replicate m refZ)).toList[i] = (encR refZ)[i % 3]! := by
   have := get_flatK encR 3 (Array.replicate m refZ) i (by simpa using hi')
   rw [repl_get, getElem!_pos _ _ (by simpa using hi')] at this
   simpa using this
  rw [e]
  refine encR_one refZ _ ?_
  have h3 : i % 3 < 3 := Nat.mod_lt _ (by decide)
  rw [getElem!_pos _ _ (by simpa using h3)]
  exact List.getElem_mem _)
 simp only [Nat.zero_add] at hst
 rw [← zero_R] at hst ⊢
 obtain ⟨m, rfl⟩ : ∃ k, m = k + 1 := ⟨m - 1, by omega⟩
 simp only [aggR, refZ] at hst ⊢
 simp [Builtin.clear_, run_underlying ht, hv, hst]
end

open Go.Lib Go.Sort in
set_option maxHeartbeats 4000000 in
set_option maxRecDepth 1000000 in
theorem mem_Compact (b cap : Nat) (d : Array ARef) (w : World) (hH : Sort.HoldsK encR 3 w b 0 d) (hsz : d.size ≤ 1000000) (hcap : d.size ≤ cap) :
 Calls Tryz.prog 61 #[.slice (some ⟨b, 0, none⟩) d.size cap] w fun e w' => e = .returned (.slice (some ⟨b, 0, none⟩) (Lib.compactUpTo d d.size).length cap) ∧ ∃ q, w' = Sort.putRowK encR 3 (Sort.ahead w q) b 0 (Lib.compactUpTo d d.size ++ List.replicate (d.size - (Lib.compactUpTo d d.size).length) refZ).toArray := by
 have heq' := eqop_R
 have hne' := neqop_R
 have same : ∀ q, (∀ j, j < d.size → keeps d j = true) → (compactUpTo d d.size).length = d.size ∧ w.drewN q = putRowK encR 3 (Sort.ahead w q) b 0 (compactUpTo d d.size ++ List.replicate (d.size - (compactUpTo d d.size).length) refZ).toArray := by
  intro q hall
  have e : compactUpTo d d.size = d.toList := by rw [compactUpTo_all d _ hall, range_map_get]
  rw [e]
  refine ⟨by simp, ?_⟩
  simp only [Array.length_toList, Nat.sub_self, List.replicate_zero, List.append_nil, Array.toArray_toList]
  exact (putRowK_self encR 3 (Sort.ahead w q) b 0 d (holdsK_ahead encR 3 w q b 0 d hH)).symm
 have HS : Aside (∀ q, (∀ j, j < d.size → keeps d j = true) → (compactUpTo d d.size).length = d.size ∧ w.drewN q = putRowK encR 3 (Sort.ahead w q) b 0 (compactUpTo d d.size ++ List.replicate (d.size - (compactUpTo d d.size).length) refZ).toArray) := same
 clear same
 by_cases h2 : d.size < 2
 ·have HH : Aside (HoldsK encR 3 w b 0 d) := hH
  clear hH
  go_enter Tryz.func61, Tryz.ntmps61
  go_wp2
  go_ret
  obtain ⟨e1, e2⟩ := HS.out 0 (fun j hj => keeps_lt_one d j (by omega))
  exact ⟨by rw [e1]; rfl, 0, e2⟩
 ·go_enter Tryz.func61, Tryz.ntmps61
  go_wp2
  go_loopg [3] d.size (fun g s3 wr => ∃ k q : Nat, 1 ≤ k ∧ k ≤ d.size ∧ d.size - k ≤ g ∧ s3 = .int .i64 k ∧ wr = w.drewN q ∧ ∀ j, j < k → keeps d j = true)
  case atStart => exact ⟨1, 0, Nat.le_refl _, by omega, by omega, rfl, rfl, keeps_lt_one d⟩
  case round =>
   obtain ⟨k, q, hk1, hk, hg, rfl, rfl, hall⟩ := hrel
   by_cases hlt : k < d.size
   ·have A : Aside (∀ j, j < k → keeps d j = true) := hall
    have HH : Aside (HoldsK encR 3 w b 0 d) := hH
    clear hall hH
    obtain ⟨⟨p0, p1, p2⟩, _⟩ := HoldsR.cells (w := w.drewN q) (b := b) (show HoldsK encR 3 (w.drewN q) b 0 d from HH) hlt
    obtain ⟨⟨r0, r1, r2⟩, _⟩ := HoldsR.cells (w := w.drewN q) (b := b) (show HoldsK encR 3 (w.drewN q) b 0 d from HH) (show k - 1 < d.size by omega)
    generalize hxk : d[k]! = x at p0 p1 p2
    generalize hyk : d[k - 1]! = y at r0 r1 r2
    have B : Aside (d[k]! = x ∧ d[k - 1]! = y) := ⟨hxk, hyk⟩
    clear hxk hyk
    generalize hwq : w.drewN q = wq at p0 p1 p2 r0 r1 r2 ⊢
    by_cases hdup : x = y
    ·have hD : Sem.run Tryz.prog (binOp .eql 23 (aggR x) (aggR y)) = fun w => .ok (.bool true) w := by funext w; rw [heq', decide_eq_true hdup]
     simp only [aggR] at hD
     go_wp2_with fail
     go_quiet (fail)
     go_wp2
     clear p0 p1 p2 r0 r1 r2 hD
     subst hwq
     go_loopg [3, 5] d.size (fun g s3 s5 wr => ∃ (kk k2 q2 : Nat) (dk : Array ARef), s3 = .int .i64 kk ∧ s5 = .int .i64 k2 ∧ 1 ≤ k2 ∧ k + k2 ≤ d.size ∧ d.size - (k + k2) ≤ g ∧ wr = putRowK encR 3 (Sort.ahead w q2) b 0 dk ∧ CompInv d (k + k2) kk dk)
     case atStart => exact ⟨k, 1, q + nq, d, rfl, rfl, Nat.le_refl _, by omega, by omega, (putRowK_self encR 3 (Sort.ahead w (q + nq)) b 0 d (holdsK_ahead encR 3 w (q + nq) b 0 d HH.out)).symm ▸ (by rw [World.drewN_drewN]; rfl), CompInv.start A.out (keeps_neg (by omega) (by rw [B.out.1, B.out.2, hdup]))⟩
     case round =>
      obtain ⟨kk, k2, q2, dk, rfl, rfl, h1, hle, hg2, hwr, hI⟩ := hrel
      have hkk := hI.lt
      have hds := hI.size
      have hHk : HoldsK encR 3 wr b 0 dk := by rw [hwr]; exact holdsK_putRowK encR 3 _ b 0 d dk (holdsK_ahead encR 3 w q2 b 0 d HH.out) hds
      have W2 : Aside (wr = putRowK encR 3 (Sort.ahead w q2) b 0 dk) := hwr
      have I2 : Aside (CompInv d (k + k2) kk dk) := hI
      clear hwr
      by_cases hlt2 : k + k2 < d.size
      ·obtain ⟨⟨m0, m1, m2⟩, _⟩ := HoldsR.cells hHk (i := k + k2) (by omega)
       obtain ⟨⟨r0, r1, r2⟩, _⟩ := HoldsR.cells hHk (i := k + (k2 - 1)) (by omega)
       obtain ⟨⟨c0, c1, c2⟩, f0, f1, f2⟩ := HoldsR.cells hHk (i := kk) (by omega)
       rw [hI.high (k + k2) (by omega), Nat.add_mul] at m0 m1 m2
       rw [hI.high (k + (k2 - 1)) (by omega), Nat.add_mul] at r0 r1 r2
       clear hHk hI
       generalize hu : d[k + k2]! = u at m0 m1 m2
       generalize hv : d[k + (k2 - 1)]! = v at r0 r1 r2
       generalize dk[kk]! = old at c0 c1 c2
       have C : Aside (d[k + k2]! = u ∧ d[k + k2 - 1]! = v) := ⟨hu, by rw [← hv, show k + k2 - 1 = k + (k2 - 1) by omega]⟩
       clear hu hv
       by_cases huv : u = v
       ·have hD : Sem.run Tryz.prog (binOp .neq 23 (aggR u) (aggR v)) = fun w => .ok (.bool false) w := by funext w; rw [hne', decide_eq_true huv]; rfl
        simp only [aggR] at hD
        go_wp2_with fail
        go_quiet (fail)
        go_wp2
        go_roundg (d.size - (k + (k2 + 1)))
        case measure => omega
        case rel => exact ⟨kk, k2 + 1, q2 + nq, dk, rfl, by go_num, by omega, by omega, Nat.le_refl _, by rw [show wr = _ from W2]; exact putRowK_drewN encR 3 w q2 nq b 0 dk, I2.out.skip (keeps_neg (by omega) (by rw [C.out.1, C.out.2, huv]))⟩
       ·have hD : Sem.run Tryz.prog (binOp .neq 23 (aggR u) (aggR v)) = fun w => .ok (.bool true) w := by funext w; rw [hne', decide_eq_false huv]; rfl
        simp only [aggR] at hD
        go_wp2_with fail
        go_quiet (fail)
        go_wp2_with fail
        go_roundg (d.size - (k + (k2 + 1)))
        case measure => omega
        case rel => exact ⟨kk + 1, k2 + 1, q2 + nq, dk.setIfInBounds kk u, by go_num, by go_num, by omega, by omega, Nat.le_refl _, store_R (by omega) W2 u, by have := I2.out.keep hlt2 (keeps_pos (by rw [C.out.1, C.out.2]; exact huv)); rwa [C.out.1] at this⟩
      ·have hend : k + k2 = d.size := by omega
       have hcl : ∀ ty, (Builtin.clear_ #[38] ty #[.slice (some ⟨b, kk * 3, none⟩) (d.size - kk) (cap - kk)]).run Tryz.prog wr = .ok (.tuple #[]) (wr.setCells b (kk * 3) (flatK encR 3 (Array.replicate (d.size - kk) refZ)).toList) :=
        fun ty => run_clear_R wr _ ty Tryz.underlying38 b _ kk (d.size - kk) (by omega) dk hHk (by omega)
       clear hHk hI
       go_wp2
       go_ret
       have hI := I2.out
       rw [hend] at hI
       refine ⟨by rw [hI.len]; rfl, q2, ?_⟩
       rw [hI.len, ← hI.done refZ, show wr = _ from W2]
       have h := setCells_putRow (Sort.ahead w q2) b 0 (flatK encR 3 (Array.replicate (d.size - kk) refZ)).toList (kk * 3) (flatK encR 3 dk) (by simp; omega)
       rw [Nat.zero_add, setMany_lay dk kk _ (by omega)] at h
       exact h
    ·have hD : Sem.run Tryz.prog (binOp .eql 23 (aggR x) (aggR y)) = fun w => .ok (.bool false) w := by funext w; rw [heq', decide_eq_false hdup]
     simp only [aggR] at hD
     go_wp2_with fail
     go_quiet (fail)
     go_wp2
     go_roundg (d.size - (k + 1))
     case measure => omega
     case rel =>
      refine ⟨k + 1, q + nq, by omega, by omega, Nat.le_refl _, by go_num, by rw [← hwq, World.drewN_drewN], fun j hj => ?_⟩
      by_cases e : j = k
      ·subst e
       exact keeps_pos (by rw [B.out.1, B.out.2]; exact hdup)
      ·exact A.out j (by omega)
   ·have : k = d.size := by omega
    subst this
    have HH : Aside (HoldsK encR 3 w b 0 d) := hH
    clear hH
    go_wp2
    go_ret
    obtain ⟨e1, e2⟩ := HS.out q hall
    exact ⟨by rw [e1]; rfl, q, e2⟩


abbrev refComp (l : List ARef) : List ARef := Lib.compact l

theorem empty_inv {Fz : Nat → Nat → Prop} {w : World} {v : Value} (h : PRep Fz w v (.slice [])) : ∃ a cap, v = .slice a 0 cap := by
 generalize hE : ([] : List (List PD)) = E at h
 cases h with
 | empty a cap => exact ⟨a, cap, rfl⟩
 | slice _ _ n _ _ _ _ hn hpos => rw [← hE] at hn; simp at hn; omega

theorem sort_none {st : St} {t : Nat} {e : TypeId} {K : D → St → Prop} (hk : K (.tup []) st) :
 CallW Tryz.prog 60 [.own e 3 (rows ARef.pd []) t, .fn 20 []] st K := by
 refine ⟨enters_of Tryz.func60 rfl rfl, fun C g a w vs hP hs hr => ?_⟩
 simp only [Reps] at hr
 obtain ⟨v0, vs0, rfl, h0, v1, vs1, rfl, h1, rfl⟩ := hr
 simp only [Rep] at h0 h1
 obtain ⟨cv, rfl, hcv⟩ := h1
 simp only [Caps] at hcv
 subst hcv
 obtain ⟨p, cap, rfl⟩ := empty_inv h0.1
 refine (AnyF.slices_SortFunc_none Tryz.sortRef p cap _ w).mono ?_
 rintro ex w' ⟨rfl, rfl⟩
 exact ⟨.tuple #[], .tup [], st, g, rfl, hk, hs, by simp [Rep, Reps]⟩

theorem sort_effect {st : St} {l : List ARef} (hl : l ≠ []) (hle : l.length ≤ 1000000) {t : Nat} {e : TypeId} (hsolo : st.hs = .solo) {K : D → St → Prop}
 (hk : K (.tup []) ⟨updG t e 3 (rows ARef.pd (refSort l)) st.fr, updB t e 3 (rows ARef.pd (refSort l)) st.bs, [], st.hs⟩) :
 CallW Tryz.prog 60 [.own e 3 (rows ARef.pd l) t, .fn 20 []] st K :=
 sort_callW (enters_of Tryz.func60 rfl rfl) refs_sorted hl hle hsolo hk

theorem mem_Compact_none (p : Option Addr) (cap : Nat) (w : World) : Calls Tryz.prog 61 #[.slice p 0 cap] w fun e w' => e = .returned (.slice p 0 cap) ∧ w' = w := by
 go_enter Tryz.func61, Tryz.ntmps61
 go_wp2
 go_ret
 exact ⟨rfl, rfl⟩

theorem compact_none {st : St} {t : Nat} {e : TypeId} {K : D → St → Prop} (hk : K (.pd (.slice (rows ARef.pd []))) st) :
 CallW Tryz.prog 61 [.own e 3 (rows ARef.pd []) t] st K := by
 refine ⟨enters_of Tryz.func61 rfl rfl, fun C g a w vs hP hs hr => ?_⟩
 simp only [Reps] at hr
 obtain ⟨v0, vs0, rfl, h0, rfl⟩ := hr
 simp only [Rep] at h0
 obtain ⟨p, cap, rfl⟩ := empty_inv h0.1
 refine (mem_Compact_none p cap w).mono ?_
 rintro ex w' ⟨rfl, rfl⟩
 exact ⟨_, .pd (.slice (rows ARef.pd [])), st, g, rfl, hk, hs, by simp only [Rep]; exact h0.1⟩

theorem compact_len (l : List ARef) : (refComp l).length ≤ l.length := by
 unfold refComp Lib.compact Lib.compactUpTo
 rw [List.length_map]
 exact Nat.le_trans (List.length_filter_le _ _) (by simp)

theorem compact_effect {st : St} {l : List ARef} (hl : l ≠ []) (hle : l.length ≤ 1000000) {t : Nat} {e : TypeId} (hsolo : st.hs = .solo) {K : D → St → Prop}
 (hk : ∀ r, K (.pd (.slice (rows ARef.pd (refComp l)))) ⟨updG t e 3 r st.fr, updB t e 3 r st.bs, [], st.hs⟩) :
 CallW Tryz.prog 61 [.own e 3 (rows ARef.pd l) t] st K := by
 refine ⟨enters_of Tryz.func61 rfl rfl, fun C g a w vs hP hs hr => ?_⟩
 simp only [Reps] at hr
 obtain ⟨v0, vs0, rfl, h0, rfl⟩ := hr
 simp only [Rep] at h0
 obtain ⟨hpr, htk, hlens⟩ := h0
 have m := hs.mem
 obtain ⟨ie, n, xs, hie, hpos, hown, hfz⟩ := m.tks t _ _ htk
 obtain ⟨hxl, hform⟩ := hown
 rcases hform with ⟨rfl, hn0, _⟩ | ⟨b, cap, cur, rfl, hb0, hold, hnc, hcm, hcs, htake⟩
 ·exfalso
  generalize hE : rows ARef.pd l = E at hpr
  cases hpr with
  | empty => exact hl (List.map_eq_nil_iff.1 hE)
 have hR := RowR.of hl hpr
 have hlen := hR.hlen
 have hmax := hR.hmax
 have hcap := hR.hcap
 have hbl : b < w.heap.size := (Array.getElem?_eq_some_iff.1 hold).1
 subst hlen
 have hc := mem_Compact b cap l.toArray w (hR.holds hold) (by simpa using hle) (by simpa using hcap)
 have e1 : l.toArray.size = l.length := by simp
 rw [e1] at hc
 refine hc.mono ?_
 rintro ex w' ⟨rfl, q, rfl⟩
 have hcl := compact_len l
 obtain ⟨l', hl'⟩ : ∃ l', l' = refComp l ++ List.replicate (l.length - (refComp l).length) refZ := ⟨_, rfl⟩
 have hll : l'.length = l.length := by rw [hl', List.length_append, List.length_replicate]; omega
 have hne : l' ≠ [] := fun e => hl (List.length_eq_zero_iff.1 (by rw [← hll, e]; rfl))
 rw [show (Lib.compactUpTo l.toArray l.length ++ List.replicate (l.length - (Lib.compactUpTo l.toArray l.length).length) refZ) = l' from hl'.symm]
 have hH : Sort.HoldsK encR 3 (Sort.putRowK encR 3 (Sort.ahead w q) b 0 l'.toArray) b 0 l'.toArray :=
  Sort.holdsK_putRowK _ _ _ _ _ l.toArray _ (Sort.holdsK_ahead _ _ _ _ _ _ _ (hR.holds hold)) (by simpa using hll)
 have hR' := hR.of_holds hll hH
 have hg := grownBy_K (w := w) (b := b) (n := q) (os := #[]) (Sort.flatK encR 3 l'.toArray)
 have hh := heap_K (n := q) (os := #[]) (Sort.flatK encR 3 l'.toArray) hold
 rw [Sort.grow_empty] at hg hh
 refine ⟨_, .pd (.slice (rows ARef.pd (refComp l))), _, g, rfl, hk (rows ARef.pd l'), hs.newrow htk hsolo hg hold hh (by simp [Sort.putCells]) (hR'.rep hne) (rows_row (f := ARef.pd) (n := 3) (fun _ => rfl) _), ?_⟩
 simp only [Rep]
 by_cases hc0 : refComp l = []
 ·rw [hc0, show (Lib.compactUpTo l.toArray l.length).length = 0 by rw [show Lib.compactUpTo l.toArray l.length = refComp l from rfl, hc0]; rfl]
  exact .empty _ _
 ·refine RowR.rep (l := refComp l) ⟨rfl, by rw [show Lib.compactUpTo l.toArray l.length = refComp l from rfl]; omega, by rw [show Lib.compactUpTo l.toArray l.length = refComp l from rfl]; omega, fun j i x u hx hu => ?_⟩ hc0
  exact hR'.hcell j i x u (by rw [hl', List.getElem?_append_left (List.getElem?_eq_some_iff.1 hx).1]; exact hx) hu

end Go.Proofs.YtbjaopoipkphnaaGreatDoor



namespace Go.Proofs.YtbjaopoipkphnaaGreatDoor
open Go Go.RowKit
set_option linter.unusedSimpArgs false
set_option linter.unusedVariables false
set_option maxRecDepth 100000

def few (s : ByteArray) : ByteArray := if s.size ≤ 100 then s else s.extract 0 100

set_option maxRecDepth 100000 in
theorem law1_Few (s : ByteArray) : Pure Tryz.prog 21 [str s] (fun d => d = str (few s)) := by
 refine pure_of_run follows an_zba9k Tryz.func21 rfl ok_zba9k.1 ok_zba9k.2 (by simp [Tryz.ntmps21]) ?_
 rw [run_start]
 by_cases h : 100 < s.size
 ·have h1 : (100 : Int) < (s.size : Int) := by omega
  have h2 : 100 ≤ s.size := by omega
  simp only [ac_zba9k, go_sem, simprocAttr, h1, h2]
  simp only [retK, resD, retL, oneD, simprocAttr, Tryz.results21]
  exact ⟨_, rfl, rfl, by simp [few, show ¬ s.size ≤ 100 by omega, D.pub]⟩
 ·have h1 : ¬ (100 : Int) < (s.size : Int) := by omega
  simp only [ac_zba9k, go_sem, simprocAttr, h1]
  simp only [retK, resD, retL, oneD, simprocAttr, Tryz.results21]
  exact ⟨_, rfl, rfl, by simp [few, show s.size ≤ 100 by omega, D.pub]⟩

def fewRef (r : ARef) : ARef := ⟨r.kind, few r.space, few r.name⟩

set_option maxRecDepth 100000 in
theorem law9_FewRef (r : ARef) : Pure Tryz.prog 19 [r.d] (fun d => d = (fewRef r).d) := by
 refine pure_of_run follows an_zn42u Tryz.func19 rfl ok_zn42u.1 ok_zn42u.2 (by simp [Tryz.ntmps19]) ?_
 rw [run_start]
 simp only [ac_zn42u, go_sem, simprocAttr, go_sem]
 refine (law1_Few r.space).callX (enters_of Tryz.func21 rfl rfl) _ rfl rfl ?_
 rintro d rfl
 simp only [go_sem, simprocAttr, go_sem]
 refine (law1_Few r.name).callX (enters_of Tryz.func21 rfl rfl) _ rfl rfl ?_
 rintro d rfl
 simp only [go_sem, simprocAttr, go_sem]
 simp only [retK, resD, resA, AOp.ex, St.ev, retL, oneD, simprocAttr, ret_zn42u]
 exact ⟨_, rfl, rfl, rfl⟩


theorem Reps.tell {g : Gh} {w : World} {d : D} : ∀ {ds : List D} {vs : List Value} (_ : Reps g w ds vs) (i : Nat) (_ : ∀ v, vs[i]? = some v → Rep g w d v), Reps g w (ds.set i d) vs
 | [], _, h, _, _ => by simpa using h
 | e :: ds, _, h, i, hd => by
   simp only [Reps] at h
   obtain ⟨v, vs', rfl, hv, hs⟩ := h
   cases i with
   | zero => exact ⟨v, vs', rfl, hd v rfl, hs⟩
   | succ i => exact ⟨v, vs', rfl, hv, Reps.tell hs i (fun u hu => hd u (by simpa using hu))⟩

theorem SR.tellB {C : Ctx} {st : St} {g : Gh} {a : Act} {w : World} (h : SR C st g a w) {n : Nat} {ds ds' : List D} (hn : lk st.bs n = some ds) (hd : ∀ vs, Reps g w ds vs → Reps g w ds' vs) : SR C { st with bs := (n, ds') :: st.bs } g a w := by
 have m := h.mem
 refine ⟨h.defers, h.size, h.rep, { m with bxs := fun k es hk => ?_ }, h.x, h.fix⟩
 simp only [lk] at hk
 split at hk
 ·rename_i hkn
  subst hkn
  cases hk
  obtain ⟨b, cs, t, h1, h2, h3⟩ := m.bxs _ ds hn
  exact ⟨b, cs, t, h1, h2, hd _ h3⟩
 ·exact m.bxs k es hk

theorem purges_at : ∀ (t : Nat) (ds : List D) (i : Nat), ds[i]? = some .nils → (D.purges t ds)[i]? = some .nils
 | _, [], _, h => by simp at h
 | t, d :: ds, 0, h => by
   simp only [List.getElem?_cons_zero, Option.some.injEq] at h
   subst h
   simp [D.purges, D.purge]
 | t, d :: ds, i + 1, h => by
   simp only [List.getElem?_cons_succ] at h
   simpa [D.purges] using purges_at t ds i h

theorem lk_purge {st : St} {t n : Nat} {ds : List D} (h : lk st.bs n = some ds) : lk (st.purge t).bs n = some (D.purges t ds) := by
 simp only [St.purge]
 rw [lk_map (fun ds => D.purges t ds) st.bs n, h]; rfl

theorem Weak.ownB0 {P : Program} {st : St} (n i t : Nat) (e : TypeId) {ti : TypeInfo} (hi : P.info? e = some ti) (hpos : 0 < ti.size) {ds : List D} (h : lk st.bs n = some ds) (hn : ds[i]? = some .nils) :
 Weak P st { st.purge t with bs := (n, (D.purges t ds).set i (.own e ti.size [] t)) :: (st.purge t).bs } := by
 intro C g a w hP hs
 subst hP
 have h1 := hs.purge t
 obtain ⟨h2, _⟩ := SR.owned h1 t (by simp) (grownBy_same w none) _ h1.x (fun k e => by cases e) (fun _ h => h) (fun k e => by cases e) e ti hi hpos (.slice none 0 0) 0 [] (World.ownsRow_nil _ _ _ _) (fun b hb => by cases hb) (fun b o _ hb => by cases hb)
 refine ⟨_, h2.tellB (lk_purge h) fun vs hv => ?_⟩
 refine hv.tell i fun v hvi => ?_
 obtain ⟨u, hu, hr⟩ := hv.get i _ (purges_at t ds i hn)
 rw [hvi] at hu
 cases hu
 simp only [Rep] at hr
 rw [hr]
 simp only [Rep]
 exact ⟨.empty _ _, by simp, by simp⟩

theorem Weak.ownB {P : Program} {st st' : St} (n i t : Nat) (e : TypeId) (sz : Nat) (hi : (P.info? e).map (·.size) = some sz) (hpos : 0 < sz) {ds : List D} (h : lk st.bs n = some ds) (hn : ds[i]? = some .nils)
 (hf : lessL st'.fr (st.purge t).fr) (hb : lessL st'.bs ((n, (D.purges t ds).set i (.own e sz [] t)) :: (st.purge t).bs)) (hm : lessL st'.ms st.ms) (hh : st'.hs = st.hs) : Weak P st st' := by
 obtain ⟨ti, h1, rfl⟩ := Option.map_eq_some_iff.1 hi
 exact (Weak.ownB0 n i t e h1 hpos h hn).trans (Weak.less hf hb hm hh)

theorem run_cut {P : Program} {x y : AC} {st s1 : St} {S : List Fr} {K : Exit → St → Prop} (h1 : ∀ K' : Exit → St → Prop, K' .normal s1 → run P x st (contS P [] K')) (h2 : run P y s1 (contS P S K)) : run P (.seq x y) st (contS P S K) := by
 rw [run_seq]; exact h1 (contS P (.seq y :: S) K) h2

theorem few_size (s : ByteArray) : (few s).size ≤ 100 := by
 unfold few
 split
 ·assumption
 ·simp [ByteArray.size_extract]; omega

theorem law3_Few (k : Int) (v : ByteArray) : Pure Tryz.prog 75 [.agg [int k, str v]] (fun d => d = .agg [int k, str (few v)]) := by
 refine pure_of_run follows an_zyx20 Tryz.func75 rfl ok_zyx20.1 ok_zyx20.2 (by simp [Tryz.ntmps75]) ?_
 rw [run_start]
 simp only [ac_zyx20, go_sem, simprocAttr]
 refine (law1_Few v).callW (enters_of Tryz.func21 rfl rfl) _ rfl rfl ?_
 rintro d rfl
 simp only [go_sem, simprocAttr]
 simp only [retK, resD, resA, AOp.ex, St.ev, retL, oneD, simprocAttr, ret_zyx20]
 exact ⟨_, rfl, rfl, rfl⟩

def fewPair (p : APair) : APair := ⟨few p.name, few p.val⟩
def fewPairs (l : List APair) : List APair := (l.take 31).map fewPair

theorem fewPair_ok (p : APair) : (fewPair p).ok := ⟨by have := few_size p.name; simp [fewPair]; omega, by have := few_size p.val; simp [fewPair]; omega⟩

theorem few_step {α β : Type} {f : β → List PD} {g : α → β} {l : List α} {i : Nat} {x : α} (h : l[i]? = some x) : rows f ((l.take i).map g) ++ [f (g x)] = rows f ((l.take (i + 1)).map g) := by
 rw [take_at h, List.map_append]; exact rows_one _ (g x)

theorem few_len {α β : Type} {f : β → List PD} {g : α → β} {l : List α} {i n : Nat} (h : i ≤ n) : (rows f ((l.take i).map g)).length ≤ n := by simp [rows]; omega

theorem few_end {α β : Type} {g : α → β} {l : List α} {i n : Nat} (h : i ≤ n) (hl : i ≤ l.length) (he : ¬ (i < l.length ∧ i < n)) : (l.take i).map g = (l.take n).map g := by
 rcases Nat.lt_or_ge i n with h6 | h6
 ·rw [List.take_of_length_le (by omega), List.take_of_length_le (by omega)]
 ·rw [show i = n by omega]

theorem law5_Few (l : List APair) : Pure Tryz.prog 29 [.pd (.slice (rows APair.pd l))] (fun d => d = .pd (.slice (rows APair.pd (fewPairs l)))) := by
 refine pure_of_run follows an_ztgmw Tryz.func29 rfl ok_ztgmw.1 ok_ztgmw.2 (by simp [Tryz.ntmps29]) ?_
 rw [run_start]
 simp only [ac_ztgmw, go_sem, simprocAttr]
 refine loopS (fun k st => ∃ i : Nat, k = 31 - i ∧ i ≤ 31 ∧ i ≤ l.length ∧
  st = ⟨[(0, .pd (.slice (rows APair.pd l))), (3, .own 88 2 (rows APair.pd ((l.take i).map fewPair)) 30), (4, int i)], [], [], .no⟩) 31 _
  ?_ ⟨0, rfl, by omega, by omega, rfl⟩ ?_
 ·exact Weak.own1 3 30 88 2 (by kernel_rfl) (by decide) rfl (by simp [lessL, lk, St.purge, St.put, D.purge, rows]) (by simp [lessL, lk, St.purge, D.purges, D.purge]) (by simp [lessL]) rfl
 rintro k st ⟨i, rfl, hi6, hi, rfl⟩
 have hw := i64_succ (show i < 1000000000 by omega)
 by_cases hlt : i < l.length ∧ i < 31
 ·obtain ⟨x, hx⟩ := at_lt hlt.1
  have h1 : ((i : Int) < (l.length : Int)) = True := eq_true (by omega)
  have h2 : ((i : Int) < 31) = True := eq_true (by omega)
  simp only [go_sem, simprocAttr, go_sem, rows_len, rows_get hx, h1, h2]
  refine (law1_Few x.name).callX (enters_of Tryz.func21 rfl rfl) _ rfl rfl ?_
  rintro d rfl
  simp only [go_sem, simprocAttr, go_sem, rows_len, rows_get hx]
  refine (law1_Few x.val).callX (enters_of Tryz.func21 rfl rfl) _ rfl rfl ?_
  rintro d rfl
  simp only [go_sem, simprocAttr, go_sem, hw]
  have hl := few_len (f := APair.pd) (g := fewPair) (l := l) hi6
  have hl2 := hl
  rw [rows_len] at hl2
  have e1 : rows APair.pd ((l.take i).map fewPair) ++ [[PD.raw (Value.string (few x.name)), PD.raw (Value.string (few x.val))]] = rows APair.pd ((l.take (i + 1)).map fewPair) := few_step hx
  rw [e1]
  refine ⟨by simp, by unfold maxLen; omega, by omega, 31 - (i + 1), _, by omega, ?_, i + 1, rfl, by omega, by omega, rfl⟩
  exact lessA
 ·have h3 := few_end (g := fewPair) hi6 hi hlt
  rw [h3]
  by_cases h1 : i < l.length
  ·have h1' : ((i : Int) < (l.length : Int)) = True := eq_true (by omega)
   have h2 : ((i : Int) < 31) = False := eq_false (by omega)
   simp only [go_sem, simprocAttr, go_sem, rows_len, h1', h2]
   simp only [retK, resD, retL, oneD, simprocAttr, Tryz.results29]
   exact ⟨_, rfl, rfl, rfl⟩
  ·have h1' : ((i : Int) < (l.length : Int)) = False := eq_false (by omega)
   simp only [go_sem, simprocAttr, go_sem, rows_len, h1']
   simp only [retK, resD, retL, oneD, simprocAttr, Tryz.results29]
   exact ⟨_, rfl, rfl, rfl⟩

def fewFilter (f : AFilter) : AFilter := { f with name := few f.name, val := few f.val, host := few f.host, path := few f.path }
def fewFilters (l : List AFilter) : List AFilter := (l.take 9).map fewFilter
def fewSide (s : ASide) : ASide := ⟨s.kind, few s.space, few s.name⟩
def fewSides (l : List ASide) : List ASide := (l.take 5).map fewSide

theorem law7_Few (l : List AFilter) : Pure Tryz.prog 32 [.pd (.slice (rows AFilter.pd l))] (fun d => d = .pd (.slice (rows AFilter.pd (fewFilters l)))) := by
 refine pure_of_run follows an_z9moo Tryz.func32 rfl ok_z9moo.1 ok_z9moo.2 (by simp [Tryz.ntmps32]) ?_
 rw [run_start]
 simp only [ac_z9moo, go_sem, simprocAttr]
 refine loopS (fun k st => ∃ i : Nat, k = 9 - i ∧ i ≤ 9 ∧ i ≤ l.length ∧
  st = ⟨[(0, .pd (.slice (rows AFilter.pd l))), (3, .own 118 8 (rows AFilter.pd ((l.take i).map fewFilter)) 39), (4, int i)], [], [], .no⟩) 9 _
  ?_ ⟨0, rfl, by omega, by omega, rfl⟩ ?_
 ·exact Weak.own1 3 39 118 8 (by kernel_rfl) (by decide) rfl (by simp [lessL, lk, St.purge, St.put, D.purge, rows]) (by simp [lessL, lk, St.purge, D.purges, D.purge]) (by simp [lessL]) rfl
 rintro k st ⟨i, rfl, hi6, hi, rfl⟩
 have hw := i64_succ (show i < 1000000000 by omega)
 by_cases hlt : i < l.length ∧ i < 9
 ·obtain ⟨x, hx⟩ := at_lt hlt.1
  have h1 : ((i : Int) < (l.length : Int)) = True := eq_true (by omega)
  have h2 : ((i : Int) < 9) = True := eq_true (by omega)
  simp only [go_sem, simprocAttr, rows_get hx, h1, h2]
  refine (law1_Few x.name).callX (enters_of Tryz.func21 rfl rfl) _ rfl rfl ?_
  rintro d rfl
  simp only [go_sem, simprocAttr, rows_get hx]
  refine (law1_Few x.val).callX (enters_of Tryz.func21 rfl rfl) _ rfl rfl ?_
  rintro d rfl
  simp only [go_sem, simprocAttr, rows_get hx]
  refine (law1_Few x.host).callX (enters_of Tryz.func21 rfl rfl) _ rfl rfl ?_
  rintro d rfl
  simp only [go_sem, simprocAttr, rows_get hx]
  refine (law1_Few x.path).callX (enters_of Tryz.func21 rfl rfl) _ rfl rfl ?_
  rintro d rfl
  simp only [go_sem, simprocAttr, rows_get hx, hw]
  have hl := few_len (f := AFilter.pd) (g := fewFilter) (l := l) hi6
  have hl2 := hl
  rw [rows_len] at hl2
  have hl' : ((l.take i).map fewFilter).length ≤ i := by simp; omega
  have e1 : rows AFilter.pd ((l.take i).map fewFilter) ++ [[PD.raw (Value.int IntKind.i64 x.kind), PD.raw (Value.string (few x.name)), PD.raw (Value.string (few x.val)), PD.raw (Value.string (few x.host)), PD.raw (Value.int IntKind.i64 x.port), PD.raw (Value.string (few x.path)), PD.raw (Value.bool x.whole), PD.raw (Value.int IntKind.i64 x.code)]] = rows AFilter.pd ((l.take (i + 1)).map fewFilter) := few_step hx
  rw [e1]
  refine ⟨by simp, by unfold maxLen; omega, by omega, 9 - (i + 1), _, by omega, ?_, i + 1, rfl, by omega, by omega, rfl⟩
  exact lessA
 ·have h3 := few_end (g := fewFilter) hi6 hi hlt
  rw [h3]
  by_cases h1 : i < l.length
  ·have h1' : ((i : Int) < (l.length : Int)) = True := eq_true (by omega)
   have h2 : ((i : Int) < 9) = False := eq_false (by omega)
   simp only [go_sem, simprocAttr, h1', h2]
   simp only [retK, resD, retL, oneD, simprocAttr, Tryz.results32]
   exact ⟨_, rfl, rfl, rfl⟩
  ·have h1' : ((i : Int) < (l.length : Int)) = False := eq_false (by omega)
   simp only [go_sem, simprocAttr, h1']
   simp only [retK, resD, retL, oneD, simprocAttr, Tryz.results32]
   exact ⟨_, rfl, rfl, rfl⟩

theorem law9_sides (l : List ASide) : Pure Tryz.prog 30 [.pd (.slice (rows ASide.pd l))] (fun d => d = .pd (.slice (rows ASide.pd (fewSides l)))) := by
 refine pure_of_run follows an_zg0x2 Tryz.func30 rfl ok_zg0x2.1 ok_zg0x2.2 (by simp [Tryz.ntmps30]) ?_
 rw [run_start]
 simp only [ac_zg0x2, go_sem, simprocAttr]
 refine loopS (fun k st => ∃ i : Nat, k = 5 - i ∧ i ≤ 5 ∧ i ≤ l.length ∧
  st = ⟨[(0, .pd (.slice (rows ASide.pd l))), (3, .own 93 3 (rows ASide.pd ((l.take i).map fewSide)) 35), (4, int i)], [], [], .no⟩) 5 _
  ?_ ⟨0, rfl, by omega, by omega, rfl⟩ ?_
 ·exact Weak.own1 3 35 93 3 (by kernel_rfl) (by decide) rfl (by simp [lessL, lk, St.purge, St.put, D.purge, rows]) (by simp [lessL, lk, St.purge, D.purges, D.purge]) (by simp [lessL]) rfl
 rintro k st ⟨i, rfl, hi6, hi, rfl⟩
 have hw := i64_succ (show i < 1000000000 by omega)
 by_cases hlt : i < l.length ∧ i < 5
 ·obtain ⟨x, hx⟩ := at_lt hlt.1
  have h1 : ((i : Int) < (l.length : Int)) = True := eq_true (by omega)
  have h2 : ((i : Int) < 5) = True := eq_true (by omega)
  simp only [go_sem, simprocAttr, rows_get hx, h1, h2]
  refine (law1_Few x.space).callX (enters_of Tryz.func21 rfl rfl) _ rfl rfl ?_
  rintro d rfl
  simp only [go_sem, simprocAttr, rows_get hx]
  refine (law1_Few x.name).callX (enters_of Tryz.func21 rfl rfl) _ rfl rfl ?_
  rintro d rfl
  simp only [go_sem, simprocAttr, rows_get hx, hw]
  have hl := few_len (f := ASide.pd) (g := fewSide) (l := l) hi6
  have hl2 := hl
  rw [rows_len] at hl2
  have hl' : ((l.take i).map fewSide).length ≤ i := by simp; omega
  have e1 : rows ASide.pd ((l.take i).map fewSide) ++ [[PD.raw (Value.int IntKind.i64 x.kind), PD.raw (Value.string (few x.space)), PD.raw (Value.string (few x.name))]] = rows ASide.pd ((l.take (i + 1)).map fewSide) := few_step hx
  rw [e1]
  refine ⟨by simp, by unfold maxLen; omega, by omega, 5 - (i + 1), _, by omega, ?_, i + 1, rfl, by omega, by omega, rfl⟩
  exact lessA
 ·have h3 := few_end (g := fewSide) hi6 hi hlt
  rw [h3]
  by_cases h1 : i < l.length
  ·have h1' : ((i : Int) < (l.length : Int)) = True := eq_true (by omega)
   have h2 : ((i : Int) < 5) = False := eq_false (by omega)
   simp only [go_sem, simprocAttr, h1', h2]
   simp only [retK, resD, retL, oneD, simprocAttr, Tryz.results30]
   exact ⟨_, rfl, rfl, rfl⟩
  ·have h1' : ((i : Int) < (l.length : Int)) = False := eq_false (by omega)
   simp only [go_sem, simprocAttr, h1']
   simp only [retK, resD, retL, oneD, simprocAttr, Tryz.results30]
   exact ⟨_, rfl, rfl, rfl⟩

def fewMatch (m : AMatch) : AMatch := ⟨m.pkind, few m.pval, few m.method, fewPairs m.head, fewPairs m.query⟩

theorem law6_Few (m : AMatch) : Pure Tryz.prog 33 [m.d] (fun d => d = (fewMatch m).d) := by
 refine pure_of_run follows an_zt3fs Tryz.func33 rfl ok_zt3fs.1 ok_zt3fs.2 (by simp [Tryz.ntmps33]) ?_
 rw [run_start]
 simp only [ac_zt3fs, go_sem, simprocAttr]
 refine (law3_Few m.pkind m.pval).callX (enters_of Tryz.func75 rfl rfl) _ rfl rfl ?_
 rintro d rfl
 simp only [go_sem, simprocAttr]
 refine (law1_Few m.method).callX (enters_of Tryz.func21 rfl rfl) _ rfl rfl ?_
 rintro d rfl
 simp only [go_sem, simprocAttr]
 refine (law5_Few m.head).callX (enters_of Tryz.func29 rfl rfl) _ rfl rfl ?_
 rintro d rfl
 simp only [go_sem, simprocAttr]
 refine (law5_Few m.query).callX (enters_of Tryz.func29 rfl rfl) _ rfl rfl ?_
 rintro d rfl
 simp only [go_sem, simprocAttr]
 simp only [retK, resD, resA, AOp.ex, St.ev, retL, oneD, simprocAttr, ret_zt3fs]
 exact ⟨_, rfl, rfl, rfl⟩

def fewNeed (n : ANeed) : ANeed := ⟨n.kind, few n.name, (n.vals.take 9).map few⟩
def fewNeeds (l : List ANeed) : List ANeed := (l.take 9).map fewNeed

theorem law8_Few (l : List ANeed) : Pure Tryz.prog 31 [.pd (.slice (rows ANeed.pd l))] (fun d => d = .pd (.slice (rows ANeed.pd (fewNeeds l)))) := by
 refine pure_of_run follows an_zpih5 Tryz.func31 rfl ok_zpih5.1 ok_zpih5.2 (by simp [Tryz.ntmps31]) ?_
 rw [run_start]
 simp only [ac_zpih5, go_sem, simprocAttr]
 refine loopS (fun k st => ∃ i : Nat, k = 9 - i ∧ i ≤ 9 ∧ i ≤ l.length ∧
  st = ⟨[(0, .pd (.slice (rows ANeed.pd l))), (3, .own 116 3 (rows ANeed.pd ((l.take i).map fewNeed)) 60), (4, int i)], [], [], .no⟩) 9 _
  ?_ ⟨0, rfl, by omega, by omega, rfl⟩ ?_
 ·exact Weak.own1 3 60 116 3 (by kernel_rfl) (by decide) rfl (by simp [lessL, lk, St.purge, St.put, D.purge, rows]) (by simp [lessL, lk, St.purge, D.purges, D.purge]) (by simp [lessL]) rfl
 rintro k st ⟨i, rfl, hi6, hi, rfl⟩
 have hw := i64_succ (show i < 1000000000 by omega)
 by_cases hlt : i < l.length ∧ i < 9
 ·obtain ⟨x, hx⟩ := at_lt hlt.1
  have h1 : ((i : Int) < (l.length : Int)) = True := eq_true (by omega)
  have h2 : ((i : Int) < 9) = True := eq_true (by omega)
  apply run_cut
  ·intro K' hK
   simp only [go_sem, simprocAttr, h1, h2]
   exact hK
  apply run_cut
  ·intro K' hK
   rw [run_block]
   apply run_cut
   ·intro K'' hK'
    simp only [go_sem, simprocAttr, rows_get hx]
    repeat' (first | exact hK' | (refine (law1_Few x.name).callX (enters_of Tryz.func21 rfl rfl) _ rfl rfl ?_; rintro _ rfl; simp only [go_sem, simprocAttr, rows_get hx]) | refine And.intro ?_ ?_)
   simp only [go_sem, simprocAttr]
   refine loopS (fun k st => ∃ j : Nat, k = 9 - j ∧ j ≤ 9 ∧ j ≤ x.vals.length ∧
    st = ⟨[(0, .pd (.slice (rows ANeed.pd l))), (3, .own 116 3 (rows ANeed.pd ((l.take i).map fewNeed)) 60), (4, int i), (5, .ptr 5 0), (6, int j)],
     [(5, [int x.kind, str (few x.name), .own 9 1 (strs ((x.vals.take j).map few)) 55])], [], .no⟩) 9 _
    ?_ ⟨0, rfl, by omega, by omega, rfl⟩ ?_
   ·exact Weak.ownB 5 2 55 9 1 (by kernel_rfl) (by decide) rfl rfl (by simp [lessL, lk, St.purge, D.purge, rows]) (by simp [lessL, lk, St.purge, D.purges, D.purge, rows]) (by simp [lessL]) rfl
   rintro k st ⟨j, rfl, hj6, hj, rfl⟩
   have hwj := i64_succ (show j < 1000000000 by omega)
   by_cases hltj : j < x.vals.length ∧ j < 9
   ·obtain ⟨v, hv⟩ := at_lt hltj.1
    have h1' : ((j : Int) < (x.vals.length : Int)) = True := eq_true (by omega)
    have h2' : ((j : Int) < 9) = True := eq_true (by omega)
    simp only [go_sem, simprocAttr, rows_get hx, rows_get hv, h1', h2']
    refine (law1_Few v).callX (enters_of Tryz.func21 rfl rfl) _ rfl rfl ?_
    rintro d rfl
    simp only [go_sem, simprocAttr, rows_get hx, rows_get hv, hwj]
    have e1 : strs ((x.vals.take j).map few) ++ [[PD.raw (Value.string (few v))]] = strs ((x.vals.take (j + 1)).map few) := few_step hv
    have hl : (strs ((x.vals.take j).map few)).length ≤ 9 := few_len hj6
    have hl2 := hl
    rw [rows_len] at hl2
    rw [e1]
    refine ⟨by simp, by unfold maxLen; omega, by omega, 9 - (j + 1), _, by omega, ?_, j + 1, rfl, by omega, by omega, rfl⟩
    exact lessA
   ·have h3 := few_end (g := few) hj6 hj hltj
    rw [h3]
    have hl' : ((l.take i).map fewNeed).length ≤ i := by simp; omega
    have e1 : rows ANeed.pd ((l.take i).map fewNeed) ++ [[pInt x.kind, pStr (few x.name), .slice (strs ((x.vals.take 9).map few))]] = rows ANeed.pd ((l.take (i + 1)).map fewNeed) := few_step hx
    by_cases h1 : j < x.vals.length
    ·have h1' : ((j : Int) < (x.vals.length : Int)) = True := eq_true (by omega)
     have h2' : ((j : Int) < 9) = False := eq_false (by omega)
     simp only [go_sem, simprocAttr, rows_get hx, rows_len, h1', h2']
     refine ⟨by simp, by unfold maxLen; omega, by omega, ?_⟩
     rw [e1]
     exact hK
    ·have h1' : ((j : Int) < (x.vals.length : Int)) = False := eq_false (by omega)
     simp only [go_sem, simprocAttr, rows_get hx, rows_len, h1']
     refine ⟨by simp, by unfold maxLen; omega, by omega, ?_⟩
     rw [e1]
     exact hK
  simp only [go_sem, simprocAttr, hw]
  refine ⟨9 - (i + 1), _, by omega, ?_, i + 1, rfl, by omega, by omega, rfl⟩
  exact lessA
 ·have h3 := few_end (g := fewNeed) hi6 hi hlt
  rw [h3]
  by_cases h1 : i < l.length
  ·have h1' : ((i : Int) < (l.length : Int)) = True := eq_true (by omega)
   have h2 : ((i : Int) < 9) = False := eq_false (by omega)
   simp only [go_sem, simprocAttr, h1', h2]
   simp only [retK, resD, retL, oneD, simprocAttr, Tryz.results31]
   exact ⟨_, rfl, rfl, rfl⟩
  ·have h1' : ((i : Int) < (l.length : Int)) = False := eq_false (by omega)
   simp only [go_sem, simprocAttr, h1']
   simp only [retK, resD, retL, oneD, simprocAttr, Tryz.results31]
   exact ⟨_, rfl, rfl, rfl⟩


def nearR (r : ARef) (s : ByteArray) : ARef := if r.space = ⟨#[]⟩ ∧ 2 < r.kind then { r with space := s } else r

set_option maxHeartbeats 2000000 in
theorem add_own (r : ARef) (o : AObj) (L : List ARef) (hL : L.length ≤ 1000000) :
 Full Tryz.prog 59 [r.d, .ptr 1000001 0, .ptr 500003 0] [(1000001, o.ds), (500003, [.own 23 3 (rows ARef.pd L) 500001])] true
  (fun d bs => d = .tup [] ∧ bs = [(500003, [.own 23 3 (rows ARef.pd (L ++ [nearR r o.ref.space])) 19])]) := by
 refine full_of_run follows an_zvrbp Tryz.func59 rfl ok_zvrbp.1 ok_zvrbp.2 (by simp [Tryz.ntmps59]) (by simp [Tryz.ntmps59]) (.inl rfl) ?_
 rw [run_start]
 simp only [ac_zvrbp, go_sem, simprocAttr]
 refine GifP.mk (fun h1 => ?_) (fun h1 => ?_)
 ·refine GifP.mk (fun h2 => ?_) (fun h2 => ?_)
  ·have e : nearR r o.ref.space = ⟨r.kind, o.ref.space, r.name⟩ := by unfold nearR; rw [if_pos ⟨h1, h2⟩]
   rw [e]
   refine ⟨by simp, by unfold maxLen; omega, by omega, ?_⟩
   rw [show rows ARef.pd L ++ [[PD.raw (Value.int IntKind.i64 r.kind), PD.raw (Value.string o.ref.space), PD.raw (Value.string r.name)]] = rows ARef.pd (L ++ [⟨r.kind, o.ref.space, r.name⟩]) from rows_one L ⟨r.kind, o.ref.space, r.name⟩]
   simp only [retK, fullK, resD, retL, oneD, simprocAttr, Tryz.results59]
   exact ⟨_, _, rfl, by simp [lessL, lk], rfl, rfl⟩
  ·have e : nearR r o.ref.space = r := by unfold nearR; rw [if_neg (fun h => h2 h.2)]
   rw [e]
   refine ⟨by simp, by unfold maxLen; omega, by omega, ?_⟩
   rw [show rows ARef.pd L ++ [[PD.raw (Value.int IntKind.i64 r.kind), PD.raw (Value.string r.space), PD.raw (Value.string r.name)]] = rows ARef.pd (L ++ [r]) from rows_one L r]
   simp only [retK, fullK, resD, retL, oneD, simprocAttr, Tryz.results59]
   exact ⟨_, _, rfl, by simp [lessL, lk], rfl, rfl⟩
 ·have e : nearR r o.ref.space = r := by unfold nearR; rw [if_neg (fun h => h1 h.1)]
  rw [e]
  refine ⟨by simp, by unfold maxLen; omega, by omega, ?_⟩
  rw [show rows ARef.pd L ++ [[PD.raw (Value.int IntKind.i64 r.kind), PD.raw (Value.string r.space), PD.raw (Value.string r.name)]] = rows ARef.pd (L ++ [r]) from rows_one L r]
  simp only [retK, fullK, resD, retL, oneD, simprocAttr, Tryz.results59]
  exact ⟨_, _, rfl, by simp [lessL, lk], rfl, rfl⟩

set_option maxHeartbeats 2000000 in
theorem add_nil (r : ARef) (o : AObj) :
 Full Tryz.prog 59 [r.d, .ptr 1000001 0, .ptr 500003 0] [(1000001, o.ds), (500003, [.nils])] true
  (fun d bs => d = .tup [] ∧ bs = [(500003, [.own 23 3 (rows ARef.pd [nearR r o.ref.space]) 19])]) := by
 refine full_of_run follows an_zvrbp Tryz.func59 rfl ok_zvrbp.1 ok_zvrbp.2 (by simp [Tryz.ntmps59]) (by simp [Tryz.ntmps59]) (.inl rfl) ?_
 rw [run_start]
 simp only [ac_zvrbp, go_sem, simprocAttr]
 refine GifP.mk (fun h1 => ?_) (fun h1 => ?_)
 ·refine GifP.mk (fun h2 => ?_) (fun h2 => ?_)
  ·have e : nearR r o.ref.space = ⟨r.kind, o.ref.space, r.name⟩ := by unfold nearR; rw [if_pos ⟨h1, h2⟩]
   rw [e]
   refine ⟨by simp, by simp [maxLen], ?_⟩
   simp only [retK, fullK, resD, retL, oneD, simprocAttr, Tryz.results59]
   exact ⟨_, _, rfl, by simp [lessL, lk], rfl, rfl⟩
  ·have e : nearR r o.ref.space = r := by unfold nearR; rw [if_neg (fun h => h2 h.2)]
   rw [e]
   refine ⟨by simp, by simp [maxLen], ?_⟩
   simp only [retK, fullK, resD, retL, oneD, simprocAttr, Tryz.results59]
   exact ⟨_, _, rfl, by simp [lessL, lk], rfl, rfl⟩
 ·have e : nearR r o.ref.space = r := by unfold nearR; rw [if_neg (fun h => h1 h.1)]
  rw [e]
  refine ⟨by simp, by simp [maxLen], ?_⟩
  simp only [retK, fullK, resD, retL, oneD, simprocAttr, Tryz.results59]
  exact ⟨_, _, rfl, by simp [lessL, lk], rfl, rfl⟩

structure AObj.few (o : AObj) : Prop where
 li : o.listeners.length ≤ 100
 pa : o.parents.length ≤ 100
 ru : o.rules.length ≤ 100
 ba : ∀ r ∈ o.rules, r.backends.length ≤ 100

theorem fstep {α : Type} {p : α → Bool} {l : List α} {i : Nat} {x : α} (hx : l[i]? = some x) : (l.take (i + 1)).filter p = (l.take i).filter p ++ if p x = true then [x] else [] := by
 rw [take_at hx, List.filter_append]
 cases h : p x <;> simp [h]

def refsCls (o : AObj) : List ARef := if o.cls = ⟨#[]⟩ then [] else [nearR ⟨1, ⟨#[]⟩, o.cls⟩ o.ref.space]
def refsLis (s : ByteArray) (l : List AListener) : List ARef := (l.filter fun x => x.tls).map fun x => nearR x.cert s
def refsPar (s : ByteArray) (l : List AParent) : List ARef := l.map fun p => nearR ⟨5, p.space, p.name⟩ s
def refsBack (s : ByteArray) (l : List ABackend) : List ARef := l.map fun b => nearR b.ref s
def refsRul (s : ByteArray) (l : List ARule) : List ARef := l.flatMap fun r => refsBack s r.backends
def refsOwn (o : AObj) : List ARef := if o.ref.kind = 6 then [nearR ⟨2, ⟨#[]⟩, o.ref.space⟩ o.ref.space] else []
def refsList (o : AObj) : List ARef := refsCls o ++ refsLis o.ref.space o.listeners ++ refsPar o.ref.space o.parents ++ refsRul o.ref.space o.rules ++ refsOwn o

theorem refs_nil : refComp (refSort []) = [] := by simp [refSort, refComp, Lib.compact, Lib.compactUpTo]

def refsOf (o : AObj) : List ARef := if objMay o = true then refComp (refSort (refsList o)) else []

set_option maxHeartbeats 8000000 in
theorem object_Refs (o : AObj) (h : o.ok) (hf : o.few) : Pure Tryz.prog 17 [o.d] (fun d => d = .pd (.slice (rows ARef.pd (refsOf o)))) := by
 have hl1 := hf.li
 have hl2 := hf.pa
 have hl3 := hf.ru
 refine pure_of_run_solo follows an_znvpm Tryz.func17 rfl ok_znvpm.1 ok_znvpm.2 (by simp [Tryz.ntmps17]) ?_
 rw [run_start]
 simp only [ac_znvpm, go_sem, simprocAttr]
 refine (object_May o h).callW (enters_of Tryz.func11 rfl rfl) _ rfl rfl ?_
 rintro _ rfl
 unfold refsOf
 cases objMay o
 ·simp only [go_sem, simprocAttr]
  simp only [retK, resD, retL, oneD, simprocAttr, Tryz.results17]
  exact ⟨_, rfl, rfl, rfl⟩
 rw [if_pos rfl]
 obtain ⟨A, hA⟩ : ∃ A, A = refsCls o := ⟨_, rfl⟩
 have hAl : A.length ≤ 1 := by rw [hA]; unfold refsCls; split <;> simp
 by_cases hc : o.cls = ⟨#[]⟩
 case' pos =>
  have hc' := eq_true hc
  have hA0 : A = [] := by rw [hA]; unfold refsCls; rw [if_pos hc]
  simp only [go_sem, simprocAttr, hc', rows_len]
 case' neg =>
  have hc' := eq_false hc
  have hA0 : A = [nearR ⟨1, ⟨#[]⟩, o.cls⟩ o.ref.space] := by rw [hA]; unfold refsCls; rw [if_neg hc]
  simp only [go_sem, simprocAttr, hc']
  refine (add_nil ⟨1, ⟨#[]⟩, o.cls⟩ o).callW (enters_of Tryz.func59 rfl rfl) _ true [(1, 1000001), (3, 500003)] [] [] [(19, 27)] rfl rfl rfl ?_
  rintro d bs ⟨rfl, rfl⟩
  simp only [go_sem, simprocAttr]
 all_goals
  refine loopS (fun k st => ∃ (i : Nat) (L : List ARef), k = o.listeners.length - i ∧ i ≤ o.listeners.length ∧ L = A ++ refsLis o.ref.space (o.listeners.take i) ∧ L.length ≤ 1 + i ∧
   st = ⟨[(1, .ptr 1 0), (3, .ptr 3 0), (4, .fn 59 [(1, 0), (3, 0)]), (26, .pd (.slice (rows AListener.pd o.listeners))), (27, int o.listeners.length), (28, int i)], [(1, o.ds), (3, [.own 23 3 (rows ARef.pd L) 27])], [], .solo⟩) o.listeners.length _ ?_ ⟨0, A, rfl, by omega, by simp [refsLis], by omega, rfl⟩ ?_
  ·rw [hA0]
   first
    | exact Weak.ownB 3 0 27 23 3 (by kernel_rfl) (by decide) rfl rfl (by simp [lessL, lk, St.purge, D.purge, rows]) (by simp [lessL, lk, St.purge, D.purges, D.purge, rows]) (by simp [lessL]) rfl
    | exact Weak.less (by simp [lessL, lk]) (by simp [lessL, lk, rows]) (by simp [lessL, lk]) rfl
  rintro k st ⟨i, L, rfl, hi, hL, hLl, rfl⟩
  have hw := i64_succ (show i < 1000000000 by omega)
  by_cases hlt : i < o.listeners.length
  ·obtain ⟨x, hx⟩ := at_lt hlt
   have h1 : ((i : Int) < (o.listeners.length : Int)) = True := eq_true (by omega)
   have hfs := fstep (p := fun x : AListener => x.tls) hx
   cases ht : x.tls
   ·have hL' : L = A ++ refsLis o.ref.space (o.listeners.take (i + 1)) := by rw [hL]; unfold refsLis; rw [hfs, ht, if_neg (by simp), List.append_nil]
    simp only [go_sem, simprocAttr, rows_get hx, h1, ht, hw]
    refine ⟨o.listeners.length - (i + 1), _, by omega, ?_, i + 1, L, rfl, by omega, hL', by omega, rfl⟩
    exact lessA
   ·have hL' : L ++ [nearR x.cert o.ref.space] = A ++ refsLis o.ref.space (o.listeners.take (i + 1)) := by rw [hL]; unfold refsLis; rw [hfs, ht, if_pos rfl, List.map_append, List.append_assoc]; rfl
    simp only [go_sem, simprocAttr, rows_get hx, h1, ht]
    refine (add_own x.cert o L (by omega)).callW (enters_of Tryz.func59 rfl rfl) _ false [(1, 1000001), (3, 500003)] [(27, 500001)] [] [(19, 27)] rfl rfl rfl ?_
    rintro d bs ⟨rfl, rfl⟩
    simp only [go_sem, simprocAttr, hw]
    refine ⟨o.listeners.length - (i + 1), _, by omega, ?_, i + 1, _, rfl, by omega, hL', by simp; omega, rfl⟩
    exact lessA
  have h1 : ((i : Int) < (o.listeners.length : Int)) = False := eq_false (by omega)
  rw [List.take_of_length_le (by omega)] at hL
  obtain ⟨B, hB⟩ : ∃ B, B = L := ⟨_, rfl⟩
  rw [← hB] at hL hLl ⊢
  clear hB L
  have hBe := hL
  have hBl := hLl
  clear hL hLl
  simp only [go_sem, simprocAttr, h1]
  refine loopS (fun k st => ∃ (i : Nat) (L : List ARef), k = o.parents.length - i ∧ i ≤ o.parents.length ∧ L = B ++ refsPar o.ref.space (o.parents.take i) ∧ L.length ≤ 101 + i ∧
   st = ⟨[(1, .ptr 1 0), (3, .ptr 3 0), (4, .fn 59 [(1, 0), (3, 0)]), (40, .pd (.slice (rows AParent.pd o.parents))), (41, int o.parents.length), (42, int i)], [(1, o.ds), (3, [.own 23 3 (rows ARef.pd L) 27])], [], .solo⟩) o.parents.length _ ?_ ⟨0, B, rfl, by omega, by simp [refsPar], by omega, rfl⟩ ?_
  ·exact lessA
  rintro k st ⟨i, L, rfl, hi, hL, hLl, rfl⟩
  have hw := i64_succ (show i < 1000000000 by omega)
  by_cases hlt : i < o.parents.length
  ·obtain ⟨x, hx⟩ := at_lt hlt
   have h1 : ((i : Int) < (o.parents.length : Int)) = True := eq_true (by omega)
   have hL' : L ++ [nearR ⟨5, x.space, x.name⟩ o.ref.space] = B ++ refsPar o.ref.space (o.parents.take (i + 1)) := by rw [hL]; unfold refsPar; rw [take_at hx, List.map_append, List.append_assoc]; rfl
   simp only [go_sem, simprocAttr, rows_get hx, h1]
   refine (add_own ⟨5, x.space, x.name⟩ o L (by omega)).callW (enters_of Tryz.func59 rfl rfl) _ false [(1, 1000001), (3, 500003)] [(27, 500001)] [] [(19, 27)] rfl rfl rfl ?_
   rintro d bs ⟨rfl, rfl⟩
   simp only [go_sem, simprocAttr, hw]
   refine ⟨o.parents.length - (i + 1), _, by omega, ?_, i + 1, _, rfl, by omega, hL', by simp; omega, rfl⟩
   exact lessA
  have h1 : ((i : Int) < (o.parents.length : Int)) = False := eq_false (by omega)
  rw [List.take_of_length_le (by omega)] at hL
  obtain ⟨C, hC⟩ : ∃ C, C = L := ⟨_, rfl⟩
  rw [← hC] at hL hLl ⊢
  clear hC L
  have hCe := hL
  have hCl := hLl
  clear hL hLl
  simp only [go_sem, simprocAttr, h1]
  refine loopS (fun k st => ∃ (i : Nat) (L : List ARef), k = o.rules.length - i ∧ i ≤ o.rules.length ∧ L = C ++ refsRul o.ref.space (o.rules.take i) ∧ L.length ≤ 201 + i * 100 ∧
   st = ⟨[(1, .ptr 1 0), (3, .ptr 3 0), (4, .fn 59 [(1, 0), (3, 0)]), (55, .pd (.slice (rows ARule.pd o.rules))), (56, int o.rules.length), (57, int i)], [(1, o.ds), (3, [.own 23 3 (rows ARef.pd L) 27])], [], .solo⟩) o.rules.length _ ?_ ⟨0, C, rfl, by omega, by simp [refsRul], by omega, rfl⟩ ?_
  ·exact lessA
  rintro k st ⟨i, L, rfl, hi, hL, hLl, rfl⟩
  have hw := i64_succ (show i < 1000000000 by omega)
  by_cases hlt : i < o.rules.length
  ·obtain ⟨x, hx⟩ := at_lt hlt
   have h1 : ((i : Int) < (o.rules.length : Int)) = True := eq_true (by omega)
   have hb := hf.ba x (List.mem_of_getElem? hx)
   have hL' : L ++ refsBack o.ref.space x.backends = C ++ refsRul o.ref.space (o.rules.take (i + 1)) := by rw [hL]; unfold refsRul; rw [take_at hx, List.flatMap_append, List.append_assoc]; simp
   simp only [go_sem, simprocAttr, rows_get hx, h1]
   refine loopS (fun k st => ∃ (j : Nat) (M : List ARef), k = x.backends.length - j ∧ j ≤ x.backends.length ∧ M = L ++ refsBack o.ref.space (x.backends.take j) ∧ M.length ≤ 201 + i * 100 + j ∧
    st = ⟨[(1, .ptr 1 0), (3, .ptr 3 0), (4, .fn 59 [(1, 0), (3, 0)]), (55, .pd (.slice (rows ARule.pd o.rules))), (56, int o.rules.length), (57, int i), (62, .pd (.slice (rows ABackend.pd x.backends))), (63, int x.backends.length), (64, int j)], [(1, o.ds), (3, [.own 23 3 (rows ARef.pd M) 27])], [], .solo⟩) x.backends.length _ ?_ ⟨0, L, rfl, by omega, by simp [refsBack], by omega, rfl⟩ ?_
   ·exact lessA
   rintro k st ⟨j, M, rfl, hj, hM, hMl, rfl⟩
   have hwj := i64_succ (show j < 1000000000 by omega)
   by_cases hjl : j < x.backends.length
   ·obtain ⟨y, hy⟩ := at_lt hjl
    have h2 : ((j : Int) < (x.backends.length : Int)) = True := eq_true (by omega)
    have hM' : M ++ [nearR y.ref o.ref.space] = L ++ refsBack o.ref.space (x.backends.take (j + 1)) := by rw [hM]; unfold refsBack; rw [take_at hy, List.map_append, List.append_assoc]; rfl
    simp only [go_sem, simprocAttr, rows_get hy, h2]
    refine (add_own y.ref o M (by omega)).callW (enters_of Tryz.func59 rfl rfl) _ false [(1, 1000001), (3, 500003)] [(27, 500001)] [] [(19, 27)] rfl rfl rfl ?_
    rintro d bs ⟨rfl, rfl⟩
    simp only [go_sem, simprocAttr, hwj]
    refine ⟨x.backends.length - (j + 1), _, by omega, ?_, j + 1, _, rfl, by omega, hM', by simp; omega, rfl⟩
    exact lessA
   have h2 : ((j : Int) < (x.backends.length : Int)) = False := eq_false (by omega)
   rw [List.take_of_length_le (by omega)] at hM
   simp only [go_sem, simprocAttr, h2, hw]
   refine ⟨o.rules.length - (i + 1), _, by omega, ?_, i + 1, M, rfl, by omega, hM.trans hL', by omega, rfl⟩
   exact lessA
  have h1 : ((i : Int) < (o.rules.length : Int)) = False := eq_false (by omega)
  rw [List.take_of_length_le (by omega)] at hL
  by_cases h6 : o.ref.kind = 6
  case' pos =>
   have h6' := eq_true h6
   simp only [go_sem, simprocAttr, h1, h6']
   refine (add_own ⟨2, ⟨#[]⟩, o.ref.space⟩ o L (by omega)).callW (enters_of Tryz.func59 rfl rfl) _ false [(1, 1000001), (3, 500003)] [(27, 500001)] [] [(19, 27)] rfl rfl rfl ?_
   rintro d bs ⟨rfl, rfl⟩
   have hall : refsList o = L ++ [nearR ⟨2, ⟨#[]⟩, o.ref.space⟩ o.ref.space] := by unfold refsList refsOwn; rw [if_pos h6, hL, hCe, hBe, hA]
   have hlen : (L ++ [nearR ⟨2, ⟨#[]⟩, o.ref.space⟩ o.ref.space]).length ≤ 1000000 := by simp; omega
   generalize L ++ [nearR ⟨2, ⟨#[]⟩, o.ref.space⟩ o.ref.space] = M at hall hlen ⊢
   simp only [go_sem, simprocAttr]
  case' neg =>
   have h6' := eq_false h6
   have hall : refsList o = L := by unfold refsList refsOwn; rw [if_neg h6, List.append_nil, hL, hCe, hBe, hA]
   have hlen : L.length ≤ 1000000 := by omega
   generalize L = M at hall hlen ⊢
   simp only [go_sem, simprocAttr, h1, h6']
  all_goals
   rw [hall]
   by_cases hM : M = []
   ·subst hM
    refine sort_none ?_
    simp only [go_sem, simprocAttr]
    refine compact_none ?_
    simp only [go_sem, simprocAttr]
    simp only [retK, resD, retL, oneD, simprocAttr, Tryz.results17]
    exact ⟨_, rfl, rfl, by rw [refs_nil]; rfl⟩
   ·have hs : (refSort M).length = M.length := List.length_mergeSort _
    have hM' : refSort M ≠ [] := fun e => hM (List.length_eq_zero_iff.1 (by rw [← hs, e]; rfl))
    refine sort_effect hM hlen rfl ?_
    simp only [updG, updB, List.map_cons, List.map_nil, updR, if_true, go_sem, simprocAttr]
    refine compact_effect hM' (by omega) rfl (fun q => ?_)
    simp only [updG, updB, List.map_cons, List.map_nil, updR, if_true, go_sem, simprocAttr]
    simp only [retK, resD, retL, oneD, simprocAttr, Tryz.results17]
    exact ⟨_, rfl, rfl, rfl⟩


def keyMay (s n : ByteArray) : Bool := (decide (s = ⟨#[]⟩) || label s) && dname n
def keyOf (s n : ByteArray) : ByteArray := s ++ ⟨#[47]⟩ ++ n

theorem dns_Key (s n : ByteArray) : Pure Tryz.prog 67 [str s, str n] (fun d => d = if keyMay s n = true then .tup [str (keyOf s n), int 0] else .tup [str ⟨#[]⟩, int 1]) := by
 refine pure_of_run follows an_z77de Tryz.func67 rfl ok_z77de.1 ok_z77de.2 (by simp [Tryz.ntmps67]) ?_
 rw [run_start]
 by_cases h : keyMay s n = true
 ·rw [if_pos h]
  simp only [keyMay, Bool.and_eq_true, Bool.or_eq_true, decide_eq_true_eq] at h
  obtain ⟨h1, h2⟩ := h
  have z1 : s.size ≤ 20 := by
   rcases h1 with rfl | h1
   ·decide
   ·exact ((label_iff s).1 h1).2.1
  have z2 : n.size ≤ 60 := by
   simp only [dname, Bool.and_eq_true, decide_eq_true_eq] at h2
   exact h2.1
  have c1 : (s.size + #[(47 : UInt8)].size ≤ 9223372036854775807) = True := eq_true (by have : #[(47 : UInt8)].size = 1 := rfl; omega)
  have c2 : (s.size + #[(47 : UInt8)].size + n.size ≤ 9223372036854775807) = True := eq_true (by have : #[(47 : UInt8)].size = 1 := rfl; omega)
  have cN := dns_Name n
  rw [h2] at cN
  by_cases hs : s = ⟨#[]⟩
  ·have hs' := eq_true hs
   simp only [ac_z77de, go_sem, simprocAttr, hs']
   refine cN.callW (enters_of Tryz.func70 rfl rfl) _ rfl rfl ?_
   rintro _ rfl
   simp only [go_sem, simprocAttr, c1, c2]
   simp only [retK, resD, retL, oneD, simprocAttr, Tryz.results67]
   exact ⟨_, rfl, rfl, rfl⟩
  ·have hs' := eq_false hs
   have cL := dns_Label s
   rw [h1.resolve_left hs] at cL
   simp only [ac_z77de, go_sem, simprocAttr, hs']
   refine cL.callW (enters_of Tryz.func71 rfl rfl) _ rfl rfl ?_
   rintro _ rfl
   simp only [go_sem, simprocAttr]
   refine cN.callW (enters_of Tryz.func70 rfl rfl) _ rfl rfl ?_
   rintro _ rfl
   simp only [go_sem, simprocAttr, c1, c2]
   simp only [retK, resD, retL, oneD, simprocAttr, Tryz.results67]
   exact ⟨_, rfl, rfl, rfl⟩
 ·rw [if_neg h]
  have cN := dns_Name n
  have cL := dns_Label s
  by_cases hs : s = ⟨#[]⟩
  ·have hs' := eq_true hs
   have hn : dname n = false := by simpa [keyMay, hs] using h
   rw [hn] at cN
   simp only [ac_z77de, go_sem, simprocAttr, hs']
   refine cN.callW (enters_of Tryz.func70 rfl rfl) _ rfl rfl ?_
   rintro _ rfl
   simp only [go_sem, simprocAttr]
   simp only [retK, resD, retL, oneD, simprocAttr, Tryz.results67]
   exact ⟨_, rfl, rfl, rfl⟩
  ·have hs' := eq_false hs
   simp only [ac_z77de, go_sem, simprocAttr, hs']
   refine cL.callW (enters_of Tryz.func71 rfl rfl) _ rfl rfl ?_
   rintro _ rfl
   cases hl : label s
   ·simp only [go_sem, simprocAttr]
    simp only [retK, resD, retL, oneD, simprocAttr, Tryz.results67]
    exact ⟨_, rfl, rfl, rfl⟩
   ·have hn : dname n = false := by simpa [keyMay, hs, hl] using h
    rw [hn] at cN
    simp only [go_sem, simprocAttr]
    refine cN.callW (enters_of Tryz.func70 rfl rfl) _ rfl rfl ?_
    rintro _ rfl
    simp only [go_sem, simprocAttr]
    simp only [retK, resD, retL, oneD, simprocAttr, Tryz.results67]
    exact ⟨_, rfl, rfl, rfl⟩

theorem index_none {c : UInt8} : ∀ {l : List UInt8}, c ∉ l → Lib.indexByte l c < 0
 | [], _ => by show (-1 : Int) < 0; decide
 | b :: l, h => by
   have h1 : ¬ b = c := fun e => h (by rw [e]; exact List.mem_cons_self)
   have h2 := index_none (l := l) (fun e => h (List.mem_cons_of_mem _ e))
   have h3 := Lib.indexByte_ge l c
   unfold Lib.indexByte
   simp [h1]
   omega

theorem label_name {s : ByteArray} (h : label s = true) : dname s = true := by
 obtain ⟨h1, h2, h3⟩ := (label_iff s).1 h
 have hn : (46 : UInt8) ∉ s.data.toList := fun hm => by
  obtain ⟨j, hj⟩ := List.mem_iff_getElem?.1 hm
  have := h3 j 46 (by rw [bytes_get]; exact hj)
  unfold labAt at this
  simp at this
 simp only [dname, Bool.and_eq_true, decide_eq_true_eq]
 refine ⟨by omega, ?_⟩
 rw [splitB_end (index_none hn)]
 simp [h]

theorem may_key {r : ARef} (h : mayRef r = true) : keyMay r.space r.name = true := by
 simp only [keyMay, Bool.and_eq_true, Bool.or_eq_true, decide_eq_true_eq]
 unfold mayRef at h
 split at h
 ·simp only [Bool.and_eq_true, decide_eq_true_eq] at h
  exact ⟨.inl h.1, h.2⟩
 ·split at h
  ·simp only [Bool.and_eq_true, decide_eq_true_eq] at h
   exact ⟨.inl h.1, label_name h.2⟩
  ·simp only [Bool.and_eq_true] at h
   exact ⟨.inr h.1.2, h.2⟩

def textOf (r : ARef) : ByteArray := ⟨#[UInt8.ofNat (48 + r.kind.toNat)]⟩ ++ ⟨#[32]⟩ ++ keyOf r.space r.name

set_option maxHeartbeats 4000000 in
theorem object_Text (r : ARef) : Pure Tryz.prog 22 [r.d] (fun d => d = if mayRef r = true then .tup [str (textOf r), int 0] else .tup [str ⟨#[]⟩, int 1]) := by
 refine pure_of_run follows an_zngfe Tryz.func22 rfl ok_zngfe.1 ok_zngfe.2 (by simp [Tryz.ntmps22]) ?_
 rw [run_start]
 simp only [ac_zngfe, go_sem, simprocAttr]
 refine (object_MayRef r).callW (enters_of Tryz.func25 rfl rfl) _ rfl rfl ?_
 rintro _ rfl
 cases hm : mayRef r
 ·simp only [go_sem, simprocAttr]
  simp only [retK, resD, retL, oneD, simprocAttr, Tryz.results22]
  exact ⟨_, rfl, rfl, rfl⟩
 rw [if_pos rfl]
 have cK := dns_Key r.space r.name
 rw [if_pos (may_key hm)] at cK
 have hk := may_key hm
 simp only [keyMay, Bool.and_eq_true, Bool.or_eq_true, decide_eq_true_eq] at hk
 have z1 : r.space.size ≤ 20 := by
  rcases hk.1 with h1 | h1
  ·rw [h1]; decide
  ·exact ((label_iff _).1 h1).2.1
 have z2 : r.name.size ≤ 60 := by
  have := hk.2
  simp only [dname, Bool.and_eq_true, decide_eq_true_eq] at this
  exact this.1
 have z3 : (keyOf r.space r.name).size ≤ 81 := by
  have : (ByteArray.mk #[47]).size = 1 := rfl
  unfold keyOf
  rw [ByteArray.size_append, ByteArray.size_append]
  omega
 generalize hkey : keyOf r.space r.name = key at cK z3
 simp only [go_sem, simprocAttr]
 refine cK.callW (enters_of Tryz.func67 rfl rfl) _ rfl rfl ?_
 rintro _ rfl
 simp only [go_sem, simprocAttr]
 have hw : IntKind.i64.wrap (48 + r.kind) = 48 + r.kind := IntWalk.i64_in _ (by have := mayRef_kind hm; omega)
 have hw2 : IntKind.u8.wrap (48 + r.kind) = ((UInt8.ofNat (48 + r.kind.toNat)).toNat : Int) := by
  rcases mayRef_kind hm with e | e | e | e | e | e | e <;> rw [e] <;> decide
 have hb : octStr [((UInt8.ofNat (48 + r.kind.toNat)).toNat : Int)] = ⟨#[UInt8.ofNat (48 + r.kind.toNat)]⟩ := by
  rcases mayRef_kind hm with e | e | e | e | e | e | e <;> rw [e] <;> decide
 rw [hw, hw2, hb]
 have ht : textOf r = ⟨#[UInt8.ofNat (48 + r.kind.toNat)]⟩ ++ ⟨#[32]⟩ ++ key := by unfold textOf; rw [hkey]
 rw [ht]
 generalize UInt8.ofNat (48 + r.kind.toNat) = b
 have e1 : #[b].size = 1 := rfl
 have e2 : #[(32 : UInt8)].size = 1 := rfl
 have d1 : (#[b].size + #[(32 : UInt8)].size ≤ 9223372036854775807) = True := eq_true (by omega)
 have d2 : (#[b].size + #[(32 : UInt8)].size + key.size ≤ 9223372036854775807) = True := eq_true (by omega)
 simp only [go_sem, simprocAttr, d1, d2]
 simp only [retK, resD, retL, oneD, simprocAttr, Tryz.results22]
 exact ⟨_, rfl, rfl, rfl⟩


theorem run_cutJ {P : Program} {x y : AC} {st : St} {S : List Fr} {K : Exit → St → Prop} (J : St → Prop) (h1 : ∀ K' : Exit → St → Prop, (∀ s, J s → K' .normal s) → run P x st (contS P [] K')) (h2 : ∀ s, J s → run P y s (contS P S K)) : run P (.seq x y) st (contS P S K) := by
 rw [run_seq]; exact h1 (contS P (.seq y :: S) K) h2

def fewListener (l : AListener) : AListener := ⟨few l.name, l.port, l.tls, few l.host, fewRef l.cert, l.from_, fewNeeds l.needs⟩
def fewParent (p : AParent) : AParent := ⟨few p.space, few p.name, few p.section_, p.port⟩
def fewBackend (b : ABackend) : ABackend := ⟨fewRef b.ref, b.port, b.weight⟩
def fewRule (r : ARule) : ARule := ⟨(r.matches_.take 5).map fewMatch, fewFilters r.filters, (r.backends.take 5).map fewBackend⟩
def fewObj (o : AObj) : AObj := ⟨fewRef o.ref, o.good, fewPairs o.labels, o.ports.take 9, few o.cls, (o.listeners.take 9).map fewListener, (o.parents.take 5).map fewParent, (o.hosts.take 5).map few, (o.rules.take 7).map fewRule, fewSides o.from_, fewSides o.to_⟩

set_option maxHeartbeats 4000000 in
theorem law9_Few (o : AObj) : Pure Tryz.prog 10 [o.d] (fun d => d = (fewObj o).d) := by
 refine pure_of_run follows an_z8s55 Tryz.func10 rfl ok_z8s55.1 ok_z8s55.2 (by simp [Tryz.ntmps10]) ?_
 rw [run_start]
 simp only [ac_z8s55]
 apply run_cut
 ·intro K' hK
  simp only [go_sem, simprocAttr]
  exact hK
 apply run_cut
 ·intro K' hK
  simp only [go_sem, simprocAttr]
  repeat' (first | exact hK | (refine (law9_FewRef o.ref).callX (enters_of Tryz.func19 rfl rfl) _ rfl rfl ?_; rintro _ rfl; simp only [go_sem, simprocAttr]) | (refine (law5_Few o.labels).callX (enters_of Tryz.func29 rfl rfl) _ rfl rfl ?_; rintro _ rfl; simp only [go_sem, simprocAttr]) | (refine (law1_Few o.cls).callX (enters_of Tryz.func21 rfl rfl) _ rfl rfl ?_; rintro _ rfl; simp only [go_sem, simprocAttr]) | (refine (law9_sides o.from_).callX (enters_of Tryz.func30 rfl rfl) _ rfl rfl ?_; rintro _ rfl; simp only [go_sem, simprocAttr]) | (refine (law9_sides o.to_).callX (enters_of Tryz.func30 rfl rfl) _ rfl rfl ?_; rintro _ rfl; simp only [go_sem, simprocAttr]) | refine And.intro ?_ ?_)
 refine run_cutJ (fun s => ∃ i : Nat, s = ⟨[(41, bln false), (1, .ptr 1 0), (2, .ptr 2 0), (3, .ptr 3 0), (4, int i), (41, bln false)], [(1, [int o.ref.kind, str o.ref.space, str o.ref.name, bln o.good, .pd (.slice (rows APair.pd o.labels)), .pd (.slice (ints o.ports)), str o.cls, .pd (.slice (rows AListener.pd o.listeners)), .pd (.slice (rows AParent.pd o.parents)), .pd (.slice (strs o.hosts)), .pd (.slice (rows ARule.pd o.rules)), .pd (.slice (rows ASide.pd o.from_)), .pd (.slice (rows ASide.pd o.to_))]), (2, [int 0, str ⟨#[]⟩, str ⟨#[]⟩, bln false, .nils, .nils, str ⟨#[]⟩, .nils, .nils, .nils, .nils, .nils, .nils]), (3, [int (fewRef o.ref).kind, str (fewRef o.ref).space, str (fewRef o.ref).name, bln o.good, .pd (.slice (rows APair.pd (fewPairs o.labels))), .own 3 1 (rows cInt ((o.ports.take 9).map id)) 52, str (few o.cls), .nils, .nils, .nils, .nils, .pd (.slice (rows ASide.pd (fewSides o.from_))), .pd (.slice (rows ASide.pd (fewSides o.to_)))])], [], .no⟩) ?_ ?_
 ·intro K' hK
  simp only [go_sem, simprocAttr]
  refine loopS (fun k st => ∃ i : Nat, k = 9 - i ∧ i ≤ 9 ∧ i ≤ o.ports.length ∧
   st = ⟨[(1, .ptr 1 0), (2, .ptr 2 0), (3, .ptr 3 0), (4, int i)], [(1, [int o.ref.kind, str o.ref.space, str o.ref.name, bln o.good, .pd (.slice (rows APair.pd o.labels)), .pd (.slice (ints o.ports)), str o.cls, .pd (.slice (rows AListener.pd o.listeners)), .pd (.slice (rows AParent.pd o.parents)), .pd (.slice (strs o.hosts)), .pd (.slice (rows ARule.pd o.rules)), .pd (.slice (rows ASide.pd o.from_)), .pd (.slice (rows ASide.pd o.to_))]), (2, [int 0, str ⟨#[]⟩, str ⟨#[]⟩, bln false, .nils, .nils, str ⟨#[]⟩, .nils, .nils, .nils, .nils, .nils, .nils]), (3, [int (fewRef o.ref).kind, str (fewRef o.ref).space, str (fewRef o.ref).name, bln o.good, .pd (.slice (rows APair.pd (fewPairs o.labels))), .own 3 1 (rows cInt ((o.ports.take i).map id)) 52, str (few o.cls), .nils, .nils, .nils, .nils, .pd (.slice (rows ASide.pd (fewSides o.from_))), .pd (.slice (rows ASide.pd (fewSides o.to_)))])], [], .no⟩) 9 _
   ?_ ⟨0, rfl, by omega, by omega, rfl⟩ ?_
  ·exact Weak.ownB 3 5 52 3 1 (by kernel_rfl) (by decide) rfl rfl (by simp [lessL, lk, St.purge, D.purge, rows]) (by simp [lessL, lk, St.purge, D.purges, D.purge, rows]) (by simp [lessL]) rfl
  rintro k st ⟨i, rfl, hi6, hi, rfl⟩
  have hw := i64_succ (show i < 1000000000 by omega)
  by_cases hlt : i < o.ports.length ∧ i < 9
  ·obtain ⟨x, hx⟩ := at_lt hlt.1
   have h1 : ((i : Int) < (o.ports.length : Int)) = True := eq_true (by omega)
   have h2 : ((i : Int) < 9) = True := eq_true (by omega)
   have hl' : ((o.ports.take i).map id).length ≤ i := by simp; omega
   have e1 : rows cInt ((o.ports.take i).map id) ++ [[PD.raw (Value.int IntKind.i64 x)]] = rows cInt ((o.ports.take (i + 1)).map id) := few_step hx
   simp only [go_sem, simprocAttr, rows_get hx, h1, h2]
   simp only [go_sem, simprocAttr, hw, e1]
   refine ⟨by simp, by unfold maxLen; omega, by omega, 9 - (i + 1), _, by omega, ?_, i + 1, rfl, by omega, by omega, rfl⟩
   exact lessA
  ·have h3 := few_end (g := id) hi6 hi hlt
   rw [h3]
   by_cases h1 : i < o.ports.length
   ·have h1' : ((i : Int) < (o.ports.length : Int)) = True := eq_true (by omega)
    have h2 : ((i : Int) < 9) = False := eq_false (by omega)
    simp only [go_sem, simprocAttr, h1', h2]
    exact hK _ ⟨i, rfl⟩
   ·have h1' : ((i : Int) < (o.ports.length : Int)) = False := eq_false (by omega)
    simp only [go_sem, simprocAttr, h1']
    exact hK _ ⟨i, rfl⟩
 rintro s ⟨_, rfl⟩
 refine run_cutJ (fun s => ∃ i : Nat, s = ⟨[(62, bln false), (1, .ptr 1 0), (2, .ptr 2 0), (3, .ptr 3 0), (5, int i), (62, bln false)], [(1, [int o.ref.kind, str o.ref.space, str o.ref.name, bln o.good, .pd (.slice (rows APair.pd o.labels)), .pd (.slice (ints o.ports)), str o.cls, .pd (.slice (rows AListener.pd o.listeners)), .pd (.slice (rows AParent.pd o.parents)), .pd (.slice (strs o.hosts)), .pd (.slice (rows ARule.pd o.rules)), .pd (.slice (rows ASide.pd o.from_)), .pd (.slice (rows ASide.pd o.to_))]), (2, [int 0, str ⟨#[]⟩, str ⟨#[]⟩, bln false, .nils, .nils, str ⟨#[]⟩, .nils, .nils, .nils, .nils, .nils, .nils]), (3, [int (fewRef o.ref).kind, str (fewRef o.ref).space, str (fewRef o.ref).name, bln o.good, .pd (.slice (rows APair.pd (fewPairs o.labels))), .own 3 1 (rows cInt ((o.ports.take 9).map id)) 52, str (few o.cls), .own 71 9 (rows AListener.pd ((o.listeners.take 9).map fewListener)) 92, .nils, .nils, .nils, .pd (.slice (rows ASide.pd (fewSides o.from_))), .pd (.slice (rows ASide.pd (fewSides o.to_)))])], [], .no⟩) ?_ ?_
 ·intro K' hK
  simp only [go_sem, simprocAttr]
  refine loopS (fun k st => ∃ i : Nat, k = 9 - i ∧ i ≤ 9 ∧ i ≤ o.listeners.length ∧
   st = ⟨[(1, .ptr 1 0), (2, .ptr 2 0), (3, .ptr 3 0), (5, int i)], [(1, [int o.ref.kind, str o.ref.space, str o.ref.name, bln o.good, .pd (.slice (rows APair.pd o.labels)), .pd (.slice (ints o.ports)), str o.cls, .pd (.slice (rows AListener.pd o.listeners)), .pd (.slice (rows AParent.pd o.parents)), .pd (.slice (strs o.hosts)), .pd (.slice (rows ARule.pd o.rules)), .pd (.slice (rows ASide.pd o.from_)), .pd (.slice (rows ASide.pd o.to_))]), (2, [int 0, str ⟨#[]⟩, str ⟨#[]⟩, bln false, .nils, .nils, str ⟨#[]⟩, .nils, .nils, .nils, .nils, .nils, .nils]), (3, [int (fewRef o.ref).kind, str (fewRef o.ref).space, str (fewRef o.ref).name, bln o.good, .pd (.slice (rows APair.pd (fewPairs o.labels))), .own 3 1 (rows cInt ((o.ports.take 9).map id)) 52, str (few o.cls), .own 71 9 (rows AListener.pd ((o.listeners.take i).map fewListener)) 92, .nils, .nils, .nils, .pd (.slice (rows ASide.pd (fewSides o.from_))), .pd (.slice (rows ASide.pd (fewSides o.to_)))])], [], .no⟩) 9 _
   ?_ ⟨0, rfl, by omega, by omega, rfl⟩ ?_
  ·exact Weak.ownB 3 7 92 71 9 (by kernel_rfl) (by decide) rfl rfl (by simp [lessL, lk, St.purge, D.purge, rows]) (by simp [lessL, lk, St.purge, D.purges, D.purge, rows]) (by simp [lessL]) rfl
  rintro k st ⟨i, rfl, hi6, hi, rfl⟩
  have hw := i64_succ (show i < 1000000000 by omega)
  by_cases hlt : i < o.listeners.length ∧ i < 9
  ·obtain ⟨x, hx⟩ := at_lt hlt.1
   have h1 : ((i : Int) < (o.listeners.length : Int)) = True := eq_true (by omega)
   have h2 : ((i : Int) < 9) = True := eq_true (by omega)
   have hl' : ((o.listeners.take i).map fewListener).length ≤ i := by simp; omega
   have e1 : rows AListener.pd ((o.listeners.take i).map fewListener) ++ [[PD.raw (Value.string (few x.name)), PD.raw (Value.int IntKind.i64 x.port), PD.raw (Value.bool x.tls), PD.raw (Value.string (few x.host)), PD.raw (Value.int IntKind.i64 (fewRef x.cert).kind), PD.raw (Value.string ((fewRef x.cert).space)), PD.raw (Value.string ((fewRef x.cert).name)), PD.raw (Value.int IntKind.i64 x.from_), PD.slice (rows ANeed.pd (fewNeeds x.needs))]] = rows AListener.pd ((o.listeners.take (i + 1)).map fewListener) := few_step hx
   simp only [go_sem, simprocAttr, rows_get hx, h1, h2]
   repeat' (first | (refine (law1_Few x.name).callX (enters_of Tryz.func21 rfl rfl) _ rfl rfl ?_; rintro _ rfl; simp only [go_sem, simprocAttr, rows_get hx]) | (refine (law1_Few x.host).callX (enters_of Tryz.func21 rfl rfl) _ rfl rfl ?_; rintro _ rfl; simp only [go_sem, simprocAttr, rows_get hx]) | (refine (law9_FewRef x.cert).callX (enters_of Tryz.func19 rfl rfl) _ rfl rfl ?_; rintro _ rfl; simp only [go_sem, simprocAttr, rows_get hx]) | (refine (law8_Few x.needs).callX (enters_of Tryz.func31 rfl rfl) _ rfl rfl ?_; rintro _ rfl; simp only [go_sem, simprocAttr, rows_get hx]))
   simp only [go_sem, simprocAttr, hw, e1]
   refine ⟨by simp, by unfold maxLen; omega, by omega, 9 - (i + 1), _, by omega, ?_, i + 1, rfl, by omega, by omega, rfl⟩
   exact lessA
  ·have h3 := few_end (g := fewListener) hi6 hi hlt
   rw [h3]
   by_cases h1 : i < o.listeners.length
   ·have h1' : ((i : Int) < (o.listeners.length : Int)) = True := eq_true (by omega)
    have h2 : ((i : Int) < 9) = False := eq_false (by omega)
    simp only [go_sem, simprocAttr, h1', h2]
    exact hK _ ⟨i, rfl⟩
   ·have h1' : ((i : Int) < (o.listeners.length : Int)) = False := eq_false (by omega)
    simp only [go_sem, simprocAttr, h1']
    exact hK _ ⟨i, rfl⟩
 rintro s ⟨_, rfl⟩
 refine run_cutJ (fun s => ∃ i : Nat, s = ⟨[(102, bln false), (1, .ptr 1 0), (2, .ptr 2 0), (3, .ptr 3 0), (7, int i), (102, bln false)], [(1, [int o.ref.kind, str o.ref.space, str o.ref.name, bln o.good, .pd (.slice (rows APair.pd o.labels)), .pd (.slice (ints o.ports)), str o.cls, .pd (.slice (rows AListener.pd o.listeners)), .pd (.slice (rows AParent.pd o.parents)), .pd (.slice (strs o.hosts)), .pd (.slice (rows ARule.pd o.rules)), .pd (.slice (rows ASide.pd o.from_)), .pd (.slice (rows ASide.pd o.to_))]), (2, [int 0, str ⟨#[]⟩, str ⟨#[]⟩, bln false, .nils, .nils, str ⟨#[]⟩, .nils, .nils, .nils, .nils, .nils, .nils]), (3, [int (fewRef o.ref).kind, str (fewRef o.ref).space, str (fewRef o.ref).name, bln o.good, .pd (.slice (rows APair.pd (fewPairs o.labels))), .own 3 1 (rows cInt ((o.ports.take 9).map id)) 52, str (few o.cls), .own 71 9 (rows AListener.pd ((o.listeners.take 9).map fewListener)) 92, .own 48 4 (rows AParent.pd ((o.parents.take 5).map fewParent)) 125, .nils, .nils, .pd (.slice (rows ASide.pd (fewSides o.from_))), .pd (.slice (rows ASide.pd (fewSides o.to_)))])], [], .no⟩) ?_ ?_
 ·intro K' hK
  simp only [go_sem, simprocAttr]
  refine loopS (fun k st => ∃ i : Nat, k = 5 - i ∧ i ≤ 5 ∧ i ≤ o.parents.length ∧
   st = ⟨[(1, .ptr 1 0), (2, .ptr 2 0), (3, .ptr 3 0), (7, int i)], [(1, [int o.ref.kind, str o.ref.space, str o.ref.name, bln o.good, .pd (.slice (rows APair.pd o.labels)), .pd (.slice (ints o.ports)), str o.cls, .pd (.slice (rows AListener.pd o.listeners)), .pd (.slice (rows AParent.pd o.parents)), .pd (.slice (strs o.hosts)), .pd (.slice (rows ARule.pd o.rules)), .pd (.slice (rows ASide.pd o.from_)), .pd (.slice (rows ASide.pd o.to_))]), (2, [int 0, str ⟨#[]⟩, str ⟨#[]⟩, bln false, .nils, .nils, str ⟨#[]⟩, .nils, .nils, .nils, .nils, .nils, .nils]), (3, [int (fewRef o.ref).kind, str (fewRef o.ref).space, str (fewRef o.ref).name, bln o.good, .pd (.slice (rows APair.pd (fewPairs o.labels))), .own 3 1 (rows cInt ((o.ports.take 9).map id)) 52, str (few o.cls), .own 71 9 (rows AListener.pd ((o.listeners.take 9).map fewListener)) 92, .own 48 4 (rows AParent.pd ((o.parents.take i).map fewParent)) 125, .nils, .nils, .pd (.slice (rows ASide.pd (fewSides o.from_))), .pd (.slice (rows ASide.pd (fewSides o.to_)))])], [], .no⟩) 5 _
   ?_ ⟨0, rfl, by omega, by omega, rfl⟩ ?_
  ·exact Weak.ownB 3 8 125 48 4 (by kernel_rfl) (by decide) rfl rfl (by simp [lessL, lk, St.purge, D.purge, rows]) (by simp [lessL, lk, St.purge, D.purges, D.purge, rows]) (by simp [lessL]) rfl
  rintro k st ⟨i, rfl, hi6, hi, rfl⟩
  have hw := i64_succ (show i < 1000000000 by omega)
  by_cases hlt : i < o.parents.length ∧ i < 5
  ·obtain ⟨x, hx⟩ := at_lt hlt.1
   have h1 : ((i : Int) < (o.parents.length : Int)) = True := eq_true (by omega)
   have h2 : ((i : Int) < 5) = True := eq_true (by omega)
   have hl' : ((o.parents.take i).map fewParent).length ≤ i := by simp; omega
   have e1 : rows AParent.pd ((o.parents.take i).map fewParent) ++ [[PD.raw (Value.string (few x.space)), PD.raw (Value.string (few x.name)), PD.raw (Value.string (few x.section_)), PD.raw (Value.int IntKind.i64 x.port)]] = rows AParent.pd ((o.parents.take (i + 1)).map fewParent) := few_step hx
   simp only [go_sem, simprocAttr, rows_get hx, h1, h2]
   repeat' (first | (refine (law1_Few x.space).callX (enters_of Tryz.func21 rfl rfl) _ rfl rfl ?_; rintro _ rfl; simp only [go_sem, simprocAttr, rows_get hx]) | (refine (law1_Few x.name).callX (enters_of Tryz.func21 rfl rfl) _ rfl rfl ?_; rintro _ rfl; simp only [go_sem, simprocAttr, rows_get hx]) | (refine (law1_Few x.section_).callX (enters_of Tryz.func21 rfl rfl) _ rfl rfl ?_; rintro _ rfl; simp only [go_sem, simprocAttr, rows_get hx]))
   simp only [go_sem, simprocAttr, hw, e1]
   refine ⟨by simp, by unfold maxLen; omega, by omega, 5 - (i + 1), _, by omega, ?_, i + 1, rfl, by omega, by omega, rfl⟩
   exact lessA
  ·have h3 := few_end (g := fewParent) hi6 hi hlt
   rw [h3]
   by_cases h1 : i < o.parents.length
   ·have h1' : ((i : Int) < (o.parents.length : Int)) = True := eq_true (by omega)
    have h2 : ((i : Int) < 5) = False := eq_false (by omega)
    simp only [go_sem, simprocAttr, h1', h2]
    exact hK _ ⟨i, rfl⟩
   ·have h1' : ((i : Int) < (o.parents.length : Int)) = False := eq_false (by omega)
    simp only [go_sem, simprocAttr, h1']
    exact hK _ ⟨i, rfl⟩
 rintro s ⟨_, rfl⟩
 refine run_cutJ (fun s => ∃ i : Nat, s = ⟨[(135, bln false), (1, .ptr 1 0), (2, .ptr 2 0), (3, .ptr 3 0), (9, int i), (135, bln false)], [(1, [int o.ref.kind, str o.ref.space, str o.ref.name, bln o.good, .pd (.slice (rows APair.pd o.labels)), .pd (.slice (ints o.ports)), str o.cls, .pd (.slice (rows AListener.pd o.listeners)), .pd (.slice (rows AParent.pd o.parents)), .pd (.slice (strs o.hosts)), .pd (.slice (rows ARule.pd o.rules)), .pd (.slice (rows ASide.pd o.from_)), .pd (.slice (rows ASide.pd o.to_))]), (2, [int 0, str ⟨#[]⟩, str ⟨#[]⟩, bln false, .nils, .nils, str ⟨#[]⟩, .nils, .nils, .nils, .nils, .nils, .nils]), (3, [int (fewRef o.ref).kind, str (fewRef o.ref).space, str (fewRef o.ref).name, bln o.good, .pd (.slice (rows APair.pd (fewPairs o.labels))), .own 3 1 (rows cInt ((o.ports.take 9).map id)) 52, str (few o.cls), .own 71 9 (rows AListener.pd ((o.listeners.take 9).map fewListener)) 92, .own 48 4 (rows AParent.pd ((o.parents.take 5).map fewParent)) 125, .own 9 1 (rows cStr ((o.hosts.take 5).map few)) 147, .nils, .pd (.slice (rows ASide.pd (fewSides o.from_))), .pd (.slice (rows ASide.pd (fewSides o.to_)))])], [], .no⟩) ?_ ?_
 ·intro K' hK
  simp only [go_sem, simprocAttr]
  refine loopS (fun k st => ∃ i : Nat, k = 5 - i ∧ i ≤ 5 ∧ i ≤ o.hosts.length ∧
   st = ⟨[(1, .ptr 1 0), (2, .ptr 2 0), (3, .ptr 3 0), (9, int i)], [(1, [int o.ref.kind, str o.ref.space, str o.ref.name, bln o.good, .pd (.slice (rows APair.pd o.labels)), .pd (.slice (ints o.ports)), str o.cls, .pd (.slice (rows AListener.pd o.listeners)), .pd (.slice (rows AParent.pd o.parents)), .pd (.slice (strs o.hosts)), .pd (.slice (rows ARule.pd o.rules)), .pd (.slice (rows ASide.pd o.from_)), .pd (.slice (rows ASide.pd o.to_))]), (2, [int 0, str ⟨#[]⟩, str ⟨#[]⟩, bln false, .nils, .nils, str ⟨#[]⟩, .nils, .nils, .nils, .nils, .nils, .nils]), (3, [int (fewRef o.ref).kind, str (fewRef o.ref).space, str (fewRef o.ref).name, bln o.good, .pd (.slice (rows APair.pd (fewPairs o.labels))), .own 3 1 (rows cInt ((o.ports.take 9).map id)) 52, str (few o.cls), .own 71 9 (rows AListener.pd ((o.listeners.take 9).map fewListener)) 92, .own 48 4 (rows AParent.pd ((o.parents.take 5).map fewParent)) 125, .own 9 1 (rows cStr ((o.hosts.take i).map few)) 147, .nils, .pd (.slice (rows ASide.pd (fewSides o.from_))), .pd (.slice (rows ASide.pd (fewSides o.to_)))])], [], .no⟩) 5 _
   ?_ ⟨0, rfl, by omega, by omega, rfl⟩ ?_
  ·exact Weak.ownB 3 9 147 9 1 (by kernel_rfl) (by decide) rfl rfl (by simp [lessL, lk, St.purge, D.purge, rows]) (by simp [lessL, lk, St.purge, D.purges, D.purge, rows]) (by simp [lessL]) rfl
  rintro k st ⟨i, rfl, hi6, hi, rfl⟩
  have hw := i64_succ (show i < 1000000000 by omega)
  by_cases hlt : i < o.hosts.length ∧ i < 5
  ·obtain ⟨x, hx⟩ := at_lt hlt.1
   have h1 : ((i : Int) < (o.hosts.length : Int)) = True := eq_true (by omega)
   have h2 : ((i : Int) < 5) = True := eq_true (by omega)
   have hl' : ((o.hosts.take i).map few).length ≤ i := by simp; omega
   have e1 : rows cStr ((o.hosts.take i).map few) ++ [[PD.raw (Value.string (few x))]] = rows cStr ((o.hosts.take (i + 1)).map few) := few_step hx
   simp only [go_sem, simprocAttr, rows_get hx, h1, h2]
   repeat' (first | (refine (law1_Few x).callX (enters_of Tryz.func21 rfl rfl) _ rfl rfl ?_; rintro _ rfl; simp only [go_sem, simprocAttr, rows_get hx]))
   simp only [go_sem, simprocAttr, hw, e1]
   refine ⟨by simp, by unfold maxLen; omega, by omega, 5 - (i + 1), _, by omega, ?_, i + 1, rfl, by omega, by omega, rfl⟩
   exact lessA
  ·have h3 := few_end (g := few) hi6 hi hlt
   rw [h3]
   by_cases h1 : i < o.hosts.length
   ·have h1' : ((i : Int) < (o.hosts.length : Int)) = True := eq_true (by omega)
    have h2 : ((i : Int) < 5) = False := eq_false (by omega)
    simp only [go_sem, simprocAttr, h1', h2]
    exact hK _ ⟨i, rfl⟩
   ·have h1' : ((i : Int) < (o.hosts.length : Int)) = False := eq_false (by omega)
    simp only [go_sem, simprocAttr, h1']
    exact hK _ ⟨i, rfl⟩
 rintro s ⟨_, rfl⟩
 refine run_cutJ (fun s => ∃ i : Nat, s = ⟨[(157, bln false), (1, .ptr 1 0), (2, .ptr 2 0), (3, .ptr 3 0), (10, int i), (157, bln false)], [(1, [int o.ref.kind, str o.ref.space, str o.ref.name, bln o.good, .pd (.slice (rows APair.pd o.labels)), .pd (.slice (ints o.ports)), str o.cls, .pd (.slice (rows AListener.pd o.listeners)), .pd (.slice (rows AParent.pd o.parents)), .pd (.slice (strs o.hosts)), .pd (.slice (rows ARule.pd o.rules)), .pd (.slice (rows ASide.pd o.from_)), .pd (.slice (rows ASide.pd o.to_))]), (2, [int 0, str ⟨#[]⟩, str ⟨#[]⟩, bln false, .nils, .nils, str ⟨#[]⟩, .nils, .nils, .nils, .nils, .nils, .nils]), (3, [int (fewRef o.ref).kind, str (fewRef o.ref).space, str (fewRef o.ref).name, bln o.good, .pd (.slice (rows APair.pd (fewPairs o.labels))), .own 3 1 (rows cInt ((o.ports.take 9).map id)) 52, str (few o.cls), .own 71 9 (rows AListener.pd ((o.listeners.take 9).map fewListener)) 92, .own 48 4 (rows AParent.pd ((o.parents.take 5).map fewParent)) 125, .own 9 1 (rows cStr ((o.hosts.take 5).map few)) 147, .own 53 3 (rows ARule.pd ((o.rules.take 7).map fewRule)) 239, .pd (.slice (rows ASide.pd (fewSides o.from_))), .pd (.slice (rows ASide.pd (fewSides o.to_)))])], [], .no⟩) ?_ ?_
 ·intro K' hK
  simp only [go_sem, simprocAttr]
  refine loopS (fun k st => ∃ i : Nat, k = 7 - i ∧ i ≤ 7 ∧ i ≤ o.rules.length ∧
   st = ⟨[(1, .ptr 1 0), (2, .ptr 2 0), (3, .ptr 3 0), (10, int i)], [(1, [int o.ref.kind, str o.ref.space, str o.ref.name, bln o.good, .pd (.slice (rows APair.pd o.labels)), .pd (.slice (ints o.ports)), str o.cls, .pd (.slice (rows AListener.pd o.listeners)), .pd (.slice (rows AParent.pd o.parents)), .pd (.slice (strs o.hosts)), .pd (.slice (rows ARule.pd o.rules)), .pd (.slice (rows ASide.pd o.from_)), .pd (.slice (rows ASide.pd o.to_))]), (2, [int 0, str ⟨#[]⟩, str ⟨#[]⟩, bln false, .nils, .nils, str ⟨#[]⟩, .nils, .nils, .nils, .nils, .nils, .nils]), (3, [int (fewRef o.ref).kind, str (fewRef o.ref).space, str (fewRef o.ref).name, bln o.good, .pd (.slice (rows APair.pd (fewPairs o.labels))), .own 3 1 (rows cInt ((o.ports.take 9).map id)) 52, str (few o.cls), .own 71 9 (rows AListener.pd ((o.listeners.take 9).map fewListener)) 92, .own 48 4 (rows AParent.pd ((o.parents.take 5).map fewParent)) 125, .own 9 1 (rows cStr ((o.hosts.take 5).map few)) 147, .own 53 3 (rows ARule.pd ((o.rules.take i).map fewRule)) 239, .pd (.slice (rows ASide.pd (fewSides o.from_))), .pd (.slice (rows ASide.pd (fewSides o.to_)))])], [], .no⟩) 7 _
   ?_ ⟨0, rfl, by omega, by omega, rfl⟩ ?_
  ·exact Weak.ownB 3 10 239 53 3 (by kernel_rfl) (by decide) rfl rfl (by simp [lessL, lk, St.purge, D.purge, rows]) (by simp [lessL, lk, St.purge, D.purges, D.purge, rows]) (by simp [lessL]) rfl
  rintro k st ⟨i, rfl, hi6, hi, rfl⟩
  have hw := i64_succ (show i < 1000000000 by omega)
  by_cases hlt : i < o.rules.length ∧ i < 7
  ·obtain ⟨x, hx⟩ := at_lt hlt.1
   have h1 : ((i : Int) < (o.rules.length : Int)) = True := eq_true (by omega)
   have h2 : ((i : Int) < 7) = True := eq_true (by omega)
   have hl' : ((o.rules.take i).map fewRule).length ≤ i := by simp; omega
   have e1 : rows ARule.pd ((o.rules.take i).map fewRule) ++ [[PD.slice (rows AMatch.pd ((x.matches_.take 5).map fewMatch)), PD.slice (rows AFilter.pd (fewFilters x.filters)), PD.slice (rows ABackend.pd ((x.backends.take 5).map fewBackend))]] = rows ARule.pd ((o.rules.take (i + 1)).map fewRule) := few_step hx
   apply run_cut
   ·intro K' hK
    simp only [go_sem, simprocAttr, h1, h2]
    exact hK
   apply run_cut
   ·intro K' hK
    rw [run_block]
    apply run_cut
    ·intro K' hK
     simp only [go_sem, simprocAttr, rows_get hx]
     refine (law7_Few x.filters).callW (enters_of Tryz.func32 rfl rfl) _ rfl rfl ?_
     rintro _ rfl
     simp only [go_sem, simprocAttr]
     exact hK
    refine run_cutJ (fun s => ∃ j : Nat, s = ⟨[(180, bln false), (1, .ptr 1 0), (2, .ptr 2 0), (3, .ptr 3 0), (10, int i), (11, .ptr 11 0), (12, int j), (180, bln false)], [(1, [int o.ref.kind, str o.ref.space, str o.ref.name, bln o.good, .pd (.slice (rows APair.pd o.labels)), .pd (.slice (ints o.ports)), str o.cls, .pd (.slice (rows AListener.pd o.listeners)), .pd (.slice (rows AParent.pd o.parents)), .pd (.slice (strs o.hosts)), .pd (.slice (rows ARule.pd o.rules)), .pd (.slice (rows ASide.pd o.from_)), .pd (.slice (rows ASide.pd o.to_))]), (2, [int 0, str ⟨#[]⟩, str ⟨#[]⟩, bln false, .nils, .nils, str ⟨#[]⟩, .nils, .nils, .nils, .nils, .nils, .nils]), (3, [int (fewRef o.ref).kind, str (fewRef o.ref).space, str (fewRef o.ref).name, bln o.good, .pd (.slice (rows APair.pd (fewPairs o.labels))), .own 3 1 (rows cInt ((o.ports.take 9).map id)) 52, str (few o.cls), .own 71 9 (rows AListener.pd ((o.listeners.take 9).map fewListener)) 92, .own 48 4 (rows AParent.pd ((o.parents.take 5).map fewParent)) 125, .own 9 1 (rows cStr ((o.hosts.take 5).map few)) 147, .own 53 3 (rows ARule.pd ((o.rules.take i).map fewRule)) 239, .pd (.slice (rows ASide.pd (fewSides o.from_))), .pd (.slice (rows ASide.pd (fewSides o.to_)))]), (11, [.own 77 5 (rows AMatch.pd ((x.matches_.take 5).map fewMatch)) 196, .pd (.slice (rows AFilter.pd (fewFilters x.filters))), .nils])], [], .no⟩) ?_ ?_
    ·intro K' hK
     simp only [go_sem, simprocAttr, rows_get hx]
     refine loopS (fun k st => ∃ j : Nat, k = 5 - j ∧ j ≤ 5 ∧ j ≤ x.matches_.length ∧
      st = ⟨[(1, .ptr 1 0), (2, .ptr 2 0), (3, .ptr 3 0), (10, int i), (11, .ptr 11 0), (12, int j)], [(1, [int o.ref.kind, str o.ref.space, str o.ref.name, bln o.good, .pd (.slice (rows APair.pd o.labels)), .pd (.slice (ints o.ports)), str o.cls, .pd (.slice (rows AListener.pd o.listeners)), .pd (.slice (rows AParent.pd o.parents)), .pd (.slice (strs o.hosts)), .pd (.slice (rows ARule.pd o.rules)), .pd (.slice (rows ASide.pd o.from_)), .pd (.slice (rows ASide.pd o.to_))]), (2, [int 0, str ⟨#[]⟩, str ⟨#[]⟩, bln false, .nils, .nils, str ⟨#[]⟩, .nils, .nils, .nils, .nils, .nils, .nils]), (3, [int (fewRef o.ref).kind, str (fewRef o.ref).space, str (fewRef o.ref).name, bln o.good, .pd (.slice (rows APair.pd (fewPairs o.labels))), .own 3 1 (rows cInt ((o.ports.take 9).map id)) 52, str (few o.cls), .own 71 9 (rows AListener.pd ((o.listeners.take 9).map fewListener)) 92, .own 48 4 (rows AParent.pd ((o.parents.take 5).map fewParent)) 125, .own 9 1 (rows cStr ((o.hosts.take 5).map few)) 147, .own 53 3 (rows ARule.pd ((o.rules.take i).map fewRule)) 239, .pd (.slice (rows ASide.pd (fewSides o.from_))), .pd (.slice (rows ASide.pd (fewSides o.to_)))]), (11, [.own 77 5 (rows AMatch.pd ((x.matches_.take j).map fewMatch)) 196, .pd (.slice (rows AFilter.pd (fewFilters x.filters))), .nils])], [], .no⟩) 5 _
      ?_ ⟨0, rfl, by omega, by omega, rfl⟩ ?_
     ·exact Weak.ownB 11 0 196 77 5 (by kernel_rfl) (by decide) rfl rfl (by simp [lessL, lk, St.purge, D.purge, rows]) (by simp [lessL, lk, St.purge, D.purges, D.purge, rows]) (by simp [lessL]) rfl
     rintro k st ⟨j, rfl, hj6, hj, rfl⟩
     have hwj := i64_succ (show j < 1000000000 by omega)
     by_cases hltj : j < x.matches_.length ∧ j < 5
     ·obtain ⟨y, hy⟩ := at_lt hltj.1
      have h1' : ((j : Int) < (x.matches_.length : Int)) = True := eq_true (by omega)
      have h2' : ((j : Int) < 5) = True := eq_true (by omega)
      have hlj : ((x.matches_.take j).map fewMatch).length ≤ j := by simp; omega
      have e2 : rows AMatch.pd ((x.matches_.take j).map fewMatch) ++ [[PD.raw (Value.int IntKind.i64 (fewMatch y).pkind), PD.raw (Value.string (fewMatch y).pval), PD.raw (Value.string (fewMatch y).method), PD.slice (rows APair.pd (fewMatch y).head), PD.slice (rows APair.pd (fewMatch y).query)]] = rows AMatch.pd ((x.matches_.take (j + 1)).map fewMatch) := few_step hy
      simp only [go_sem, simprocAttr, rows_get hx, rows_get hy, h1', h2']
      repeat' (first | (refine (law6_Few y).callX (enters_of Tryz.func33 rfl rfl) _ rfl rfl ?_; rintro _ rfl; simp only [go_sem, simprocAttr, rows_get hx, rows_get hy]))
      simp only [go_sem, simprocAttr, hwj, e2]
      refine ⟨by simp, by unfold maxLen; omega, by omega, 5 - (j + 1), _, by omega, ?_, j + 1, rfl, by omega, by omega, rfl⟩
      exact lessA
     ·have h3 := few_end (g := fewMatch) hj6 hj hltj
      rw [h3]
      by_cases h1 : j < x.matches_.length
      ·have h1' : ((j : Int) < (x.matches_.length : Int)) = True := eq_true (by omega)
       have h2 : ((j : Int) < 5) = False := eq_false (by omega)
       simp only [go_sem, simprocAttr, rows_get hx, h1', h2]
       exact hK _ ⟨j, rfl⟩
      ·have h1' : ((j : Int) < (x.matches_.length : Int)) = False := eq_false (by omega)
       simp only [go_sem, simprocAttr, rows_get hx, h1']
       exact hK _ ⟨j, rfl⟩
    rintro s ⟨_, rfl⟩
    refine run_cutJ (fun s => ∃ j : Nat, s = ⟨[(210, bln false), (1, .ptr 1 0), (2, .ptr 2 0), (3, .ptr 3 0), (10, int i), (11, .ptr 11 0), (13, int j), (210, bln false)], [(1, [int o.ref.kind, str o.ref.space, str o.ref.name, bln o.good, .pd (.slice (rows APair.pd o.labels)), .pd (.slice (ints o.ports)), str o.cls, .pd (.slice (rows AListener.pd o.listeners)), .pd (.slice (rows AParent.pd o.parents)), .pd (.slice (strs o.hosts)), .pd (.slice (rows ARule.pd o.rules)), .pd (.slice (rows ASide.pd o.from_)), .pd (.slice (rows ASide.pd o.to_))]), (2, [int 0, str ⟨#[]⟩, str ⟨#[]⟩, bln false, .nils, .nils, str ⟨#[]⟩, .nils, .nils, .nils, .nils, .nils, .nils]), (3, [int (fewRef o.ref).kind, str (fewRef o.ref).space, str (fewRef o.ref).name, bln o.good, .pd (.slice (rows APair.pd (fewPairs o.labels))), .own 3 1 (rows cInt ((o.ports.take 9).map id)) 52, str (few o.cls), .own 71 9 (rows AListener.pd ((o.listeners.take 9).map fewListener)) 92, .own 48 4 (rows AParent.pd ((o.parents.take 5).map fewParent)) 125, .own 9 1 (rows cStr ((o.hosts.take 5).map few)) 147, .own 53 3 (rows ARule.pd ((o.rules.take i).map fewRule)) 239, .pd (.slice (rows ASide.pd (fewSides o.from_))), .pd (.slice (rows ASide.pd (fewSides o.to_)))]), (11, [.own 77 5 (rows AMatch.pd ((x.matches_.take 5).map fewMatch)) 196, .pd (.slice (rows AFilter.pd (fewFilters x.filters))), .own 55 5 (rows ABackend.pd ((x.backends.take 5).map fewBackend)) 233])], [], .no⟩) ?_ ?_
    ·intro K' hK
     simp only [go_sem, simprocAttr, rows_get hx]
     refine loopS (fun k st => ∃ j : Nat, k = 5 - j ∧ j ≤ 5 ∧ j ≤ x.backends.length ∧
      st = ⟨[(1, .ptr 1 0), (2, .ptr 2 0), (3, .ptr 3 0), (10, int i), (11, .ptr 11 0), (13, int j)], [(1, [int o.ref.kind, str o.ref.space, str o.ref.name, bln o.good, .pd (.slice (rows APair.pd o.labels)), .pd (.slice (ints o.ports)), str o.cls, .pd (.slice (rows AListener.pd o.listeners)), .pd (.slice (rows AParent.pd o.parents)), .pd (.slice (strs o.hosts)), .pd (.slice (rows ARule.pd o.rules)), .pd (.slice (rows ASide.pd o.from_)), .pd (.slice (rows ASide.pd o.to_))]), (2, [int 0, str ⟨#[]⟩, str ⟨#[]⟩, bln false, .nils, .nils, str ⟨#[]⟩, .nils, .nils, .nils, .nils, .nils, .nils]), (3, [int (fewRef o.ref).kind, str (fewRef o.ref).space, str (fewRef o.ref).name, bln o.good, .pd (.slice (rows APair.pd (fewPairs o.labels))), .own 3 1 (rows cInt ((o.ports.take 9).map id)) 52, str (few o.cls), .own 71 9 (rows AListener.pd ((o.listeners.take 9).map fewListener)) 92, .own 48 4 (rows AParent.pd ((o.parents.take 5).map fewParent)) 125, .own 9 1 (rows cStr ((o.hosts.take 5).map few)) 147, .own 53 3 (rows ARule.pd ((o.rules.take i).map fewRule)) 239, .pd (.slice (rows ASide.pd (fewSides o.from_))), .pd (.slice (rows ASide.pd (fewSides o.to_)))]), (11, [.own 77 5 (rows AMatch.pd ((x.matches_.take 5).map fewMatch)) 196, .pd (.slice (rows AFilter.pd (fewFilters x.filters))), .own 55 5 (rows ABackend.pd ((x.backends.take j).map fewBackend)) 233])], [], .no⟩) 5 _
      ?_ ⟨0, rfl, by omega, by omega, rfl⟩ ?_
     ·exact Weak.ownB 11 2 233 55 5 (by kernel_rfl) (by decide) rfl rfl (by simp [lessL, lk, St.purge, D.purge, rows]) (by simp [lessL, lk, St.purge, D.purges, D.purge, rows]) (by simp [lessL]) rfl
     rintro k st ⟨j, rfl, hj6, hj, rfl⟩
     have hwj := i64_succ (show j < 1000000000 by omega)
     by_cases hltj : j < x.backends.length ∧ j < 5
     ·obtain ⟨y, hy⟩ := at_lt hltj.1
      have h1' : ((j : Int) < (x.backends.length : Int)) = True := eq_true (by omega)
      have h2' : ((j : Int) < 5) = True := eq_true (by omega)
      have hlj : ((x.backends.take j).map fewBackend).length ≤ j := by simp; omega
      have e2 : rows ABackend.pd ((x.backends.take j).map fewBackend) ++ [[PD.raw (Value.int IntKind.i64 (fewRef y.ref).kind), PD.raw (Value.string (fewRef y.ref).space), PD.raw (Value.string (fewRef y.ref).name), PD.raw (Value.int IntKind.i64 y.port), PD.raw (Value.int IntKind.i64 y.weight)]] = rows ABackend.pd ((x.backends.take (j + 1)).map fewBackend) := few_step hy
      simp only [go_sem, simprocAttr, rows_get hx, rows_get hy, h1', h2']
      repeat' (first | (refine (law9_FewRef y.ref).callX (enters_of Tryz.func19 rfl rfl) _ rfl rfl ?_; rintro _ rfl; simp only [go_sem, simprocAttr, rows_get hx, rows_get hy]))
      simp only [go_sem, simprocAttr, hwj, e2]
      refine ⟨by simp, by unfold maxLen; omega, by omega, 5 - (j + 1), _, by omega, ?_, j + 1, rfl, by omega, by omega, rfl⟩
      exact lessA
     ·have h3 := few_end (g := fewBackend) hj6 hj hltj
      rw [h3]
      by_cases h1 : j < x.backends.length
      ·have h1' : ((j : Int) < (x.backends.length : Int)) = True := eq_true (by omega)
       have h2 : ((j : Int) < 5) = False := eq_false (by omega)
       simp only [go_sem, simprocAttr, rows_get hx, h1', h2]
       exact hK _ ⟨j, rfl⟩
      ·have h1' : ((j : Int) < (x.backends.length : Int)) = False := eq_false (by omega)
       simp only [go_sem, simprocAttr, rows_get hx, h1']
       exact hK _ ⟨j, rfl⟩
    rintro s ⟨_, rfl⟩
    simp only [go_sem, simprocAttr, e1]
    refine ⟨by simp, by unfold maxLen; omega, by omega, ?_⟩
    exact hK
   simp only [go_sem, simprocAttr, hw]
   refine ⟨7 - (i + 1), _, by omega, ?_, i + 1, rfl, by omega, by omega, rfl⟩
   exact lessA
  ·have h3 := few_end (g := fewRule) hi6 hi hlt
   rw [h3]
   by_cases h1 : i < o.rules.length
   ·have h1' : ((i : Int) < (o.rules.length : Int)) = True := eq_true (by omega)
    have h2 : ((i : Int) < 7) = False := eq_false (by omega)
    simp only [go_sem, simprocAttr, h1', h2]
    exact hK _ ⟨i, rfl⟩
   ·have h1' : ((i : Int) < (o.rules.length : Int)) = False := eq_false (by omega)
    simp only [go_sem, simprocAttr, h1']
    exact hK _ ⟨i, rfl⟩
 rintro s ⟨_, rfl⟩
 simp only [go_sem, simprocAttr]
 simp only [retK, resD, resA, AOp.ex, St.ev, retL, oneD, simprocAttr, ret_z8s55, List.map_id]
 exact ⟨_, rfl, rfl, rfl⟩


theorem take_map_mem {α β : Type} {g : α → β} {l : List α} {n : Nat} {y : β} (h : y ∈ (l.take n).map g) : ∃ x, x ∈ l ∧ g x = y := by
 obtain ⟨x, hx, rfl⟩ := List.mem_map.1 h
 exact ⟨x, List.mem_of_mem_take hx, rfl⟩

theorem fewPairs_ok {l : List APair} : ∀ p ∈ fewPairs l, p.ok := fun p hp => by
 obtain ⟨x, _, rfl⟩ := take_map_mem hp
 exact fewPair_ok x

theorem fewPairs_len (l : List APair) : (fewPairs l).length ≤ 1000000 := by simp [fewPairs]; omega

theorem fewMatch_ok (m : AMatch) : (fewMatch m).ok := ⟨fewPairs_len _, fewPairs_len _, fewPairs_ok, fewPairs_ok⟩

theorem fewFilter_ok (f : AFilter) : (fewFilter f).ok := ⟨by have := few_size f.name; simp [fewFilter]; omega, by have := few_size f.val; simp [fewFilter]; omega⟩

theorem fewNeed_ok (n : ANeed) : (fewNeed n).ok := by simp [ANeed.ok, fewNeed]; omega

theorem fewListener_ok (l : AListener) : (fewListener l).ok := ⟨by simp [fewListener, fewNeeds]; omega, fun x hx => by
 obtain ⟨y, _, rfl⟩ := take_map_mem hx
 exact fewNeed_ok y⟩

theorem fewRule_ok (r : ARule) : (fewRule r).ok := ⟨by simp [fewRule]; omega, by simp [fewRule, fewFilters]; omega, by simp [fewRule]; omega, fun x hx => by
 obtain ⟨y, _, rfl⟩ := take_map_mem hx
 exact fewMatch_ok y, fun x hx => by
 obtain ⟨y, _, rfl⟩ := take_map_mem hx
 exact fewFilter_ok y⟩

theorem fewObj_ok (o : AObj) : (fewObj o).ok where
 la := fewPairs_len _
 po := by simp [fewObj]; omega
 li := by simp [fewObj]; omega
 pa := by simp [fewObj]; omega
 ho := by simp [fewObj]; omega
 ru := by simp [fewObj]; omega
 fr := by simp [fewObj, fewSides]; omega
 to := by simp [fewObj, fewSides]; omega
 lis := fun x hx => by
  obtain ⟨y, _, rfl⟩ := take_map_mem hx
  exact fewListener_ok y
 rus := fun x hx => by
  obtain ⟨y, _, rfl⟩ := take_map_mem hx
  exact fewRule_ok y


theorem res_no {p : Prop} [Decidable p] (h : ¬p) : bln false = bln (decide p) := by rw [decide_eq_false h]
theorem res_yes {p : Prop} [Decidable p] (h : p) : bln true = bln (decide p) := by rw [decide_eq_true h]
theorem take_step {α : Type} {l m : List α} {i : Nat} {x y : α} (h : l.take i = m.take i) (hx : l[i]? = some x) (hy : m[i]? = some y) (e : x = y) : l.take (i + 1) = m.take (i + 1) := by
 rw [take_at hx, take_at hy, h, e]
theorem take_end {α : Type} {l m : List α} {i : Nat} (h : l.take i = m.take i) (hl : l.length = m.length) (hi : ¬ i < l.length) : l = m := by
 rwa [List.take_of_length_le (by omega), List.take_of_length_le (by omega)] at h


set_option maxHeartbeats 2000000 in
theorem ref9_SameRefs (a b : List ARef) (ha : a.length ≤ 1000000) : Pure Tryz.prog 16 [.pd (.slice (rows ARef.pd a)), .pd (.slice (rows ARef.pd b))] (fun d => d = bln (decide (a = b))) := by
 refine pure_of_run follows an_zvzmk Tryz.func16 rfl ok_zvzmk.1 ok_zvzmk.2 (by simp [Tryz.ntmps16]) ?_
 rw [run_start]
 simp only [ac_zvzmk, go_sem, simprocAttr]
 refine GifP.mk (fun hl => ?_) (fun hl => ?_)
 rotate_left
 ·simp only [retK, resD, retL, oneD, simprocAttr, Tryz.results16]
  exact ⟨_, rfl, rfl, res_no (fun e => hl (by rw [e]))⟩
 have hL : a.length = b.length := by omega
 refine loopS (fun k st => ∃ i : Nat, k = a.length - i ∧ i ≤ a.length ∧ a.take i = b.take i ∧ st = ⟨[(0, .pd (.slice (rows ARef.pd a))), (1, .pd (.slice (rows ARef.pd b))), (5, int i)], [], [], .no⟩) a.length _ ?_ ⟨0, rfl, by omega, rfl, rfl⟩ ?_
 ·exact lessA
 rintro k st ⟨i, rfl, hi, hT, rfl⟩
 have hw := i64_succ (show i < 1000000000 by omega)
 by_cases hlt : i < a.length
 ·obtain ⟨x, hx⟩ := at_lt hlt
  obtain ⟨y, hy⟩ := at_lt (show i < b.length by omega)
  have h1 : ((i : Int) < (a.length : Int)) = True := eq_true (by omega)
  simp only [go_sem, simprocAttr, rows_get hx, rows_get hy, h1, hw, eqVs, eqV, eq_Ref]
  ·repeat' (first | refine GifP.mk (fun _ => ?_) (fun _ => ?_) | refine Gif.mk (fun _ => ?_) (fun _ => ?_) | refine And.intro ?_ ?_)
   all_goals first
    | (refine ⟨a.length - (i + 1), _, by omega, ?_, i + 1, rfl, by omega, take_step hT hx hy (by first | assumption | (cases x; cases y; simp_all)), rfl⟩; exact lessA)
    | (simp only [retK, resD, retL, oneD, simprocAttr, Tryz.results16]; exact ⟨_, rfl, rfl, res_no (fun e => by subst e; have hxy := Option.some.inj (hx.symm.trans hy); subst hxy; first | contradiction | simp_all)⟩)
 have h1 : ((i : Int) < (a.length : Int)) = False := eq_false (by omega)
 have hE := take_end hT (by omega) hlt
 clear hT hi hw
 simp only [go_sem, simprocAttr, h1]
 clear h1 hlt i
 simp only [retK, resD, retL, oneD, simprocAttr, Tryz.results16]
 exact ⟨_, rfl, rfl, res_yes hE⟩


theorem refSort_eq {l s : List ARef} (hp : s.Perm l) (hs : s.Pairwise fun x y => refLt y x = false) : refSort l = s := by
 refine List.Perm.eq_of_pairwise (le := fun x y => refLt y x = false) (fun a b _ _ h1 h2 => refLt_tri h2 h1) ?_ hs ((List.mergeSort_perm _ _).trans hp.symm)
 have h := List.pairwise_mergeSort (le := fun x y => !refLt y x) (fun a b c h1 h2 => by
  simp only [Bool.not_eq_true'] at *
  cases h3 : refLt c a with
  | false => rfl
  | true =>
    exfalso
    cases h4 : refLt b a with
    | true => rw [h4] at h1; cases h1
    | false =>
      cases h5 : refLt a b with
      | true => have := refLt_tr h3 h5; rw [this] at h2; cases h2
      | false => rw [refLt_tri h5 h4] at h3; rw [h3] at h2; cases h2) (fun a b => by
  cases h1 : refLt b a with
  | false => rfl
  | true => rw [refLt_asym h1]; rfl) l
 exact h.imp fun {a b} h => by simpa using h

abbrev tWeb : ByteArray := ⟨#[119, 101, 98]⟩
abbrev tApp : ByteArray := ⟨#[97, 112, 112]⟩
abbrev tApi : ByteArray := ⟨#[97, 112, 105]⟩
abbrev tGw : ByteArray := ⟨#[103, 119]⟩

def rt9 : AObj := ⟨⟨6, tWeb, ⟨#[97]⟩⟩, false, [], [], ⟨#[]⟩, [], [⟨⟨#[]⟩, tGw, ⟨#[]⟩, 0⟩], [], [⟨[], [], [⟨⟨3, tApp, tApi⟩, 0, 0⟩]⟩], [], []⟩
def gw9 : AObj := ⟨⟨5, tWeb, tGw⟩, false, [], [], ⟨#[99]⟩, [], [], [], [], [], []⟩

theorem rt9_ok : rt9.ok := by
 constructor
 all_goals first
  | (simp [rt9]; done)
  | (intro r hr
     simp only [rt9, List.mem_singleton] at hr
     subst hr
     constructor <;> simp)
theorem gw9_ok : gw9.ok := by constructor <;> simp [gw9]
theorem rt9_few : rt9.few := by constructor <;> simp [rt9]
theorem rt9_refs : refsOf rt9 = [⟨2, ⟨#[]⟩, tWeb⟩, ⟨3, tApp, tApi⟩, ⟨5, tWeb, tGw⟩] := by
 have h1 : objMay rt9 = true := by decide +kernel
 have h2 : refsList rt9 = [⟨5, tWeb, tGw⟩, ⟨3, tApp, tApi⟩, ⟨2, ⟨#[]⟩, tWeb⟩] := by decide +kernel
 unfold refsOf
 rw [if_pos h1, h2, refSort_eq (s := [⟨2, ⟨#[]⟩, tWeb⟩, ⟨3, tApp, tApi⟩, ⟨5, tWeb, tGw⟩]) (by decide) (by decide +kernel)]
 decide +kernel

theorem law9_route : Pure Tryz.prog 58 [] (fun d => d = rt9.d) := by
 refine pure_of_run follows an_zlfbg Tryz.func58 rfl ok_zlfbg.1 ok_zlfbg.2 (by simp [Tryz.ntmps58]) ?_
 rw [run_start]
 simp only [ac_zlfbg, go_sem, simprocAttr]
 simp only [retK, resD, resA, AOp.ex, St.ev, retL, oneD, simprocAttr, ret_zlfbg]
 exact ⟨_, rfl, rfl, rfl⟩

set_option maxHeartbeats 2000000 in
theorem awake9 : Pure Tryz.prog 15 [] (fun d => d = bln true) := by
 have cT := object_Text rt9.ref
 rw [if_pos (show mayRef rt9.ref = true by decide +kernel), show textOf rt9.ref = ⟨#[54, 32, 119, 101, 98, 47, 97]⟩ by decide +kernel] at cT
 have cM := object_May gw9 gw9_ok
 rw [show objMay gw9 = false by decide +kernel] at cM
 have cR := object_Refs rt9 rt9_ok rt9_few
 rw [rt9_refs] at cR
 have cS := ref9_SameRefs [⟨2, ⟨#[]⟩, tWeb⟩, ⟨3, tApp, tApi⟩, ⟨5, tWeb, tGw⟩] [⟨2, ⟨#[]⟩, tWeb⟩, ⟨3, tApp, tApi⟩, ⟨5, tWeb, tGw⟩] (by decide)
 rw [decide_eq_true rfl] at cS
 refine pure_of_run follows an_z7f18 Tryz.func15 rfl ok_z7f18.1 ok_z7f18.2 (by simp [Tryz.ntmps15]) ?_
 rw [run_start]
 simp only [ac_z7f18, go_sem, simprocAttr]
 refine law9_route.callW (enters_of Tryz.func58 rfl rfl) _ rfl rfl ?_
 rintro _ rfl
 simp only [rt9, go_sem, simprocAttr]
 refine cT.callW (enters_of Tryz.func22 rfl rfl) _ rfl rfl ?_
 rintro _ rfl
 simp only [go_sem, simprocAttr]
 refine cM.callW (enters_of Tryz.func11 rfl rfl) _ rfl rfl ?_
 rintro _ rfl
 simp only [go_sem, simprocAttr]
 refine law9_route.callW (enters_of Tryz.func58 rfl rfl) _ rfl rfl ?_
 rintro _ rfl
 simp only [rt9, go_sem, simprocAttr]
 refine cR.callW (enters_of Tryz.func17 rfl rfl) _ rfl rfl ?_
 rintro _ rfl
 simp only [go_sem, simprocAttr]
 refine cS.callW (enters_of Tryz.func16 rfl rfl) _ rfl rfl ?_
 rintro _ rfl
 simp only [go_sem, simprocAttr]
 simp only [retK, resD, retL, oneD, simprocAttr, Tryz.results15]
 exact ⟨_, rfl, rfl, rfl⟩




def wide (p : ByteArray) : Bool := hasPrefix p ⟨#[42, 46]⟩


theorem all_at {α : Type} {l : List α} {p : α → Bool} : l.all p = true ↔ ∀ (j : Nat) (x : α), l[j]? = some x → p x = true := by
 rw [List.all_eq_true]
 constructor
 ·intro h j x hx; exact h x (List.mem_of_getElem? hx)
 ·intro h x hx
  obtain ⟨j, hj⟩ := List.getElem?_of_mem hx
  exact h j x hj




structure AObj.sok (o : AObj) : Prop where
 rs : o.ref.space.size ≤ 1000000
 rn : o.ref.name.size ≤ 1000000
 lv : ∀ p ∈ o.labels, p.val.size ≤ 1000000
 ln : ∀ l ∈ o.listeners, l.name.size ≤ 1000000 ∧ l.cert.space.size ≤ 1000000 ∧ ∀ n ∈ l.needs, ∀ s ∈ n.vals, s.size ≤ 1000000
 pa : ∀ p ∈ o.parents, p.space.size ≤ 1000000 ∧ p.section_.size ≤ 1000000
 ru : ∀ r ∈ o.rules, (∀ m ∈ r.matches_, m.method.size ≤ 1000000) ∧ (∀ f ∈ r.filters, f.host.size ≤ 1000000 ∧ f.path.size ≤ 1000000) ∧ ∀ b ∈ r.backends, b.ref.space.size ≤ 1000000
 si : ∀ s ∈ o.from_, s.space.size ≤ 1000000

theorem every_iff {α : Type} (p : α → Bool) (l : List α) (n : Int) : every p l n = true ↔ (l.length : Int) ≤ n ∧ ∀ (j : Nat) (x : α), l[j]? = some x → p x = true := by
 simp only [every, Bool.and_eq_true, decide_eq_true_eq, all_at]


theorem eqf_dec {α : Type} [DecidableEq α] {q : α → α → Bool} (h : ∀ x y, q x y = decide (x = y)) : ∀ l m : List α, eqf q l m = decide (l = m)
 | [], [] => rfl
 | [], _ :: _ => rfl
 | _ :: _, [] => rfl
 | x :: l, y :: m => by
   simp only [eqf, h, eqf_dec h l m]
   rw [Bool.eq_iff_iff]
   simp

theorem needSame_dec (a b : ANeed) : needSame a b = decide (a = b) := by
 cases a; cases b
 rw [Bool.eq_iff_iff]
 simp [needSame, and_assoc]

theorem listenerSame_dec (a b : AListener) : listenerSame a b = decide (a = b) := by
 simp only [listenerSame, eqf_dec needSame_dec]
 cases a; cases b
 rw [Bool.eq_iff_iff]
 simp [and_assoc]

theorem matchSame_dec (a b : AMatch) : matchSame a b = decide (a = b) := by
 cases a; cases b
 rw [Bool.eq_iff_iff]
 simp [matchSame, and_assoc]

theorem ruleSame_dec (a b : ARule) : ruleSame a b = decide (a = b) := by
 simp only [ruleSame, eqf_dec matchSame_dec]
 cases a; cases b
 rw [Bool.eq_iff_iff]
 simp [and_assoc]

theorem objSame_iff (a b : AObj) : objSame a b = true ↔ a = b := by
 simp only [objSame, eqf_dec listenerSame_dec, eqf_dec ruleSame_dec]
 cases a; cases b
 simp [and_assoc]
 intro _ _
 constructor
 ·rintro ⟨h1, h2, h3, h4, h5, h6, h7, h8, h9⟩
  exact ⟨h2, h3, h1, h8, h5, h4, h9, h6, h7⟩
 ·rintro ⟨h2, h3, h1, h8, h5, h4, h9, h6, h7⟩
  exact ⟨h1, h2, h3, h4, h5, h6, h7, h8, h9⟩

def AObj.keep (o : AObj) : AObj :=
 if o.ref.kind = 1 ∨ o.ref.kind = 4 then { AObj.zero o.ref with good := o.good }
 else if o.ref.kind = 2 then { AObj.zero o.ref with labels := o.labels }
 else if o.ref.kind = 3 then { AObj.zero o.ref with ports := o.ports }
 else if o.ref.kind = 5 then { AObj.zero o.ref with listeners := o.listeners, cls := o.cls }
 else if o.ref.kind = 6 then { AObj.zero o.ref with parents := o.parents, hosts := o.hosts, rules := o.rules }
 else { AObj.zero o.ref with from_ := o.from_, to_ := o.to_ }

theorem keep_iff (o : AObj) : o.keep = o ↔ o.strip = AObj.zero o.ref := by
 obtain ⟨r, gd, la, po, cl, li, pa, ho, ru, fr, to⟩ := o
 unfold AObj.keep AObj.strip
 simp only [AObj.zero]
 repeat' split
 all_goals
  simp only [AObj.mk.injEq]
  constructor
  ·intro h; simp_all
  ·intro h; simp_all

theorem objMay_keep (o : AObj) : objMay o = (mayRef o.ref && (kindMay o && decide (o.keep = o))) := by
 rw [Bool.eq_iff_iff]
 simp only [objMay, Bool.and_eq_true, objSame_iff, decide_eq_true_eq, keep_iff, and_assoc]


theorem sort_from {l : List Int} : ∀ {n : Nat}, sortFrom l n = true ↔ ∀ (i : Nat) (a b : Int), i < n → l[i + 1]? = some a → l[i]? = some b → b ≤ a
 | 0 => by simp [sortFrom]
 | n + 1 => by
   simp only [sortFrom, Bool.and_eq_true, sort_from]
   constructor
   ·rintro ⟨h1, h2⟩ i a b hi ha hb
    rcases Nat.eq_or_lt_of_le (Nat.le_of_lt_succ hi) with e | e
    ·subst e
     rw [ha, hb] at h1
     simp [intLess] at h1
     exact h1
    ·exact h2 i a b e ha hb
   ·intro h
    refine ⟨?_, fun i a b hi => h i a b (by omega)⟩
    cases ha : l[n + 1]? with
    | none => rfl
    | some a =>
      cases hb : l[n]? with
      | none => rfl
      | some b =>
        have := h n a b (Nat.lt_succ_self _) ha hb
        simp [intLess]
        exact this

theorem serviceMay_iff (l : List Int) : serviceMay l = true ↔ (0 < l.length ∧ l.length ≤ 8) ∧ ∀ (j : Nat) (x : Int), l[j]? = some x → oport x = true ∧ ∀ y : Int, 0 < j → l[j - 1]? = some y → y < x := by
 simp only [serviceMay, Bool.and_eq_true, decide_eq_true_eq, every_iff, sortedInts, sort_from, Bool.not_eq_true', tw_iff, intSame, decide_eq_false_iff_not]
 constructor
 ·rintro ⟨⟨⟨h1, h2, h3⟩, h4⟩, h5⟩
  refine ⟨⟨h1, by omega⟩, fun j x hx => ⟨h3 j x hx, fun y h0 hy => ?_⟩⟩
  have hlt := (List.getElem?_eq_some_iff.1 hx).1
  obtain ⟨i, rfl⟩ : ∃ i, j = i + 1 := ⟨j - 1, by omega⟩
  have h6 := h4 i x y (by omega) hx hy
  have h7 := h5 (i + 1) x hx i y (Nat.lt_succ_self _) hy
  omega
 ·rintro ⟨⟨h1, h2⟩, h3⟩
  have up : ∀ (j : Nat) (x : Int), l[j]? = some x → ∀ (k : Nat) (y : Int), k < j → l[k]? = some y → y < x := by
   intro j
   induction j with
   | zero => intro x _ k y hk; omega
   | succ i ih =>
     intro x hx k y hk hy
     have hlt := (List.getElem?_eq_some_iff.1 hx).1
     obtain ⟨z, hz⟩ := at_lt (show i < l.length by omega)
     have h4 := (h3 (i + 1) x hx).2 z (Nat.succ_pos _) hz
     rcases Nat.eq_or_lt_of_le (Nat.le_of_lt_succ hk) with e | e
     ·subst e
      rw [hz] at hy; cases hy; exact h4
     ·have := ih z hz k y e hy
      omega
  refine ⟨⟨⟨h1, by omega, fun j x hx => (h3 j x hx).1⟩, fun i a b _ ha hb => ?_⟩, fun j x hx k y hk hy e => ?_⟩
  ·have := up (i + 1) a ha i b (Nat.lt_succ_self _) hb
   omega
  ·have := up j x hx k y hk hy
   omega



theorem fewObj_sok (o : AObj) : (fewObj o).sok where
 rs := Nat.le_trans (few_size _) (by decide)
 rn := Nat.le_trans (few_size _) (by decide)
 lv := fun p hp => by
  obtain ⟨x, _, rfl⟩ := List.mem_map.1 hp
  exact Nat.le_trans (few_size _) (by decide)
 ln := fun l hl => by
  obtain ⟨x, _, rfl⟩ := List.mem_map.1 hl
  refine ⟨Nat.le_trans (few_size _) (by decide), Nat.le_trans (few_size _) (by decide), fun n hn s hs => ?_⟩
  obtain ⟨y, _, rfl⟩ := List.mem_map.1 hn
  obtain ⟨z, _, rfl⟩ := List.mem_map.1 hs
  exact Nat.le_trans (few_size _) (by decide)
 pa := fun p hp => by
  obtain ⟨x, _, rfl⟩ := List.mem_map.1 hp
  exact ⟨Nat.le_trans (few_size _) (by decide), Nat.le_trans (few_size _) (by decide)⟩
 ru := fun r hr => by
  obtain ⟨x, _, rfl⟩ := List.mem_map.1 hr
  refine ⟨fun m hm => ?_, fun f hf => ?_, fun b hb => ?_⟩
  ·obtain ⟨y, _, rfl⟩ := List.mem_map.1 hm
   exact Nat.le_trans (few_size _) (by decide)
  ·obtain ⟨y, _, rfl⟩ := List.mem_map.1 hf
   exact ⟨Nat.le_trans (few_size _) (by decide), Nat.le_trans (few_size _) (by decide)⟩
  ·obtain ⟨y, _, rfl⟩ := List.mem_map.1 hb
   exact Nat.le_trans (few_size _) (by decide)
 si := fun s hs => by
  obtain ⟨y, _, rfl⟩ := List.mem_map.1 hs
  exact Nat.le_trans (few_size _) (by decide)


theorem fewObj_few (o : AObj) : (fewObj o).few where
 li := by simp [fewObj]; omega
 pa := by simp [fewObj]; omega
 ru := by simp [fewObj]; omega
 ba := fun r hr => by
  obtain ⟨y, _, rfl⟩ := take_map_mem hr
  simp [fewRule]; omega


theorem dname_nil : dname ⟨#[]⟩ = false := by decide +kernel
theorem may_cls {o : AObj} (h : objMay o = true) : (o.cls = ⟨#[]⟩) ↔ ¬ o.ref.kind = 5 := by
 rw [objMay_keep] at h
 simp only [Bool.and_eq_true, decide_eq_true_eq] at h
 obtain ⟨_, hk, he⟩ := h
 constructor
 ·intro hc h5
  unfold kindMay at hk
  rw [if_neg (by omega), if_neg (by omega), if_neg (by omega), if_pos h5] at hk
  unfold gatewayMay at hk
  rw [hc, dname_nil] at hk
  simp at hk
 ·intro h5
  rw [← he]
  unfold AObj.keep
  repeat' split
  all_goals first
   | exact absurd ‹_› h5
   | rfl


def known (r : ARef) : Prop := 1 ≤ r.kind ∧ r.kind ≤ 7 ∧ ¬ r.name = ⟨#[]⟩ ∧ (r.space = ⟨#[]⟩ → r.kind ≤ 2)

theorem may_parts {o : AObj} (h : objMay o = true) : mayRef o.ref = true ∧ (o.ref.kind = 5 → gatewayMay o.cls o.listeners = true) ∧ (o.ref.kind = 6 → routeMay o.parents o.hosts o.rules = true) ∧
 (¬ o.ref.kind = 5 → o.listeners = []) ∧ (¬ o.ref.kind = 6 → o.parents = [] ∧ o.rules = []) := by
 rw [objMay_keep] at h
 simp only [Bool.and_eq_true, decide_eq_true_eq] at h
 obtain ⟨hr, hk, he⟩ := h
 refine ⟨hr, fun h5 => ?_, fun h6 => ?_, fun h5 => ?_, fun h6 => ?_⟩
 ·unfold kindMay at hk
  rwa [if_neg (by omega), if_neg (by omega), if_neg (by omega), if_pos h5] at hk
 ·unfold kindMay at hk
  rwa [if_neg (by omega), if_neg (by omega), if_neg (by omega), if_neg (by omega), if_pos h6] at hk
 ·rw [← he]
  unfold AObj.keep
  repeat' split
  all_goals first
   | exact absurd ‹_› h5
   | rfl
 ·rw [← he]
  unfold AObj.keep
  repeat' split
  all_goals first
   | exact absurd ‹_› h6
   | exact ⟨rfl, rfl⟩

theorem refsOf_no {o : AObj} (h : objMay o = false) : refsOf o = [] := by unfold refsOf; rw [h]; rfl


def cutAt {α : Type} (l : List α) (k : Nat) : List α := l.take k ++ l.drop (k + 1)

theorem cutAt_sub {α : Type} (l : List α) (k : Nat) : (cutAt l k).Sublist l := by
 unfold cutAt
 rw [← List.eraseIdx_eq_take_drop_succ]
 exact List.eraseIdx_sublist _ _

theorem cutAt_len {α : Type} {l : List α} {k : Nat} (h : k < l.length) : (cutAt l k).length = l.length - 1 := by
 unfold cutAt
 rw [List.length_append, List.length_take, List.length_drop]
 omega

theorem every_cut {α : Type} {p : α → Bool} {l m : List α} {n : Int} (h : every p l n = true) (hs : m.Sublist l) : every p m n = true := by
 unfold every at *
 simp only [Bool.and_eq_true, decide_eq_true_eq, List.all_eq_true] at *
 have := hs.length_le
 exact ⟨by omega, fun x hx => h.2 x (hs.subset hx)⟩

theorem twice_pair {α : Type} {q : α → α → Bool} {l : List α} : twice q l = false ↔ l.Pairwise fun y x => q x y = false := by
 rw [tw_iff, List.pairwise_iff_getElem]
 constructor
 ·intro h i j hi hj hij
  exact h j l[j] (List.getElem?_eq_getElem hj) i l[i] hij (List.getElem?_eq_getElem hi)
 ·intro h i x hx k y hk hy
  obtain ⟨hi, rfl⟩ := List.getElem?_eq_some_iff.1 hx
  obtain ⟨hk', rfl⟩ := List.getElem?_eq_some_iff.1 hy
  exact h k i hk' hi hk

theorem twice_cut {α : Type} {q : α → α → Bool} {l m : List α} (h : twice q l = false) (hs : m.Sublist l) : twice q m = false := twice_pair.2 ((twice_pair.1 h).sublist hs)

theorem service_pair (l : List Int) : serviceMay l = true ↔ (0 < l.length ∧ l.length ≤ 8) ∧ (∀ x ∈ l, oport x = true) ∧ l.Pairwise fun y x => y < x := by
 rw [serviceMay_iff]
 constructor
 ·rintro ⟨h1, h2⟩
  refine ⟨h1, fun x hx => ?_, List.pairwise_iff_getElem.2 ?_⟩
  ·obtain ⟨j, hj⟩ := List.mem_iff_getElem?.1 hx
   exact (h2 j x hj).1
  ·have key : ∀ (d i : Nat) (h : i + d + 1 < l.length), l[i]'(by omega) < l[i + d + 1]'h := by
    intro d
    induction d with
    | zero =>
      intro i h
      exact (h2 (i + 1) (l[i + 1]'h) (List.getElem?_eq_getElem h)).2 _ (by omega) (List.getElem?_eq_getElem (by omega))
    | succ d ih =>
      intro i h
      have a := ih i (by omega)
      have b := (h2 (i + (d + 1) + 1) (l[i + (d + 1) + 1]'h) (List.getElem?_eq_getElem h)).2 (l[i + d + 1]'(by omega)) (by omega) (List.getElem?_eq_getElem (by omega))
      omega
   intro i j hi hj hij
   have := key (j - i - 1) i (by omega)
   simp only [show i + (j - i - 1) + 1 = j by omega] at this
   exact this
 ·rintro ⟨h1, h2, h3⟩
  refine ⟨h1, fun j x hx => ⟨h2 x (List.mem_of_getElem? hx), fun y h0 hy => ?_⟩⟩
  obtain ⟨hj, rfl⟩ := List.getElem?_eq_some_iff.1 hx
  obtain ⟨hj', rfl⟩ := List.getElem?_eq_some_iff.1 hy
  exact (List.pairwise_iff_getElem.1 h3) (j - 1) j hj' hj (by omega)

theorem may_service {o : AObj} (h : objMay o = true) : (o.ref.kind = 3 → serviceMay o.ports = true) ∧ (¬ o.ref.kind = 3 → o.ports = []) := by
 rw [objMay_keep] at h
 simp only [Bool.and_eq_true, decide_eq_true_eq] at h
 obtain ⟨hr, hk, he⟩ := h
 refine ⟨fun h3 => ?_, fun h3 => ?_⟩
 ·unfold kindMay at hk
  rwa [if_neg (by omega), if_neg (by omega), if_pos h3] at hk
 ·rw [← he]
  unfold AObj.keep
  repeat' split
  all_goals first
   | exact absurd ‹_› h3
   | rfl

theorem less_rules {o : AObj} (h : objMay o = true) (k : Nat) (hl : 0 < o.rules.length) : objMay { o with rules := cutAt o.rules k } = true := by
 have h6 : o.ref.kind = 6 := by
  by_cases h6 : o.ref.kind = 6
  ·exact h6
  ·rw [((may_parts h).2.2.2.2 h6).2] at hl; cases hl
 rw [objMay_keep] at h ⊢
 simp only [Bool.and_eq_true, decide_eq_true_eq] at h ⊢
 obtain ⟨hr, hk, he⟩ := h
 refine ⟨hr, ?_, ?_⟩
 ·unfold kindMay at hk ⊢
  rw [if_neg (by omega), if_neg (by omega), if_neg (by omega), if_neg (by omega), if_pos h6] at hk
  simp only
  rw [if_neg (by omega), if_neg (by omega), if_neg (by omega), if_neg (by omega), if_pos h6]
  unfold routeMay at hk ⊢
  simp only [Bool.and_eq_true] at hk ⊢
  exact ⟨hk.1, every_cut hk.2 (cutAt_sub _ _)⟩
 ·obtain ⟨r, gd, la, po, cl, li, pa, ho, ru, fr, to⟩ := o
  replace h6 : r.kind = 6 := h6
  simp [AObj.keep, h6, AObj.zero] at he ⊢
  simp_all

theorem less_listeners {o : AObj} (h : objMay o = true) (k : Nat) (hl : k < o.listeners.length) : objMay { o with listeners := cutAt o.listeners k } = decide (1 < o.listeners.length) := by
 have h5 : o.ref.kind = 5 := by
  by_cases h5 : o.ref.kind = 5
  ·exact h5
  ·rw [(may_parts h).2.2.2.1 h5] at hl; simp at hl
 rw [Bool.eq_iff_iff]
 rw [objMay_keep] at h ⊢
 simp only [Bool.and_eq_true, decide_eq_true_eq] at h ⊢
 obtain ⟨hr, hk, he⟩ := h
 unfold kindMay at hk ⊢
 rw [if_neg (by omega), if_neg (by omega), if_neg (by omega), if_pos h5] at hk
 simp only
 rw [if_neg (by omega), if_neg (by omega), if_neg (by omega), if_pos h5]
 unfold gatewayMay at hk ⊢
 simp only [Bool.and_eq_true, decide_eq_true_eq, Bool.not_eq_true'] at hk ⊢
 have hcl := cutAt_len hl
 constructor
 ·rintro ⟨_, ⟨⟨⟨_, h1⟩, _⟩, _⟩, _⟩
  omega
 ·intro h1
  refine ⟨hr, ⟨⟨⟨hk.1.1.1, by omega⟩, every_cut hk.1.2 (cutAt_sub _ _)⟩, twice_cut hk.2 (cutAt_sub _ _)⟩, ?_⟩
  obtain ⟨r, gd, la, po, cl, li, pa, ho, ru, fr, to⟩ := o
  replace h5 : r.kind = 5 := h5
  simp [AObj.keep, h5, AObj.zero] at he ⊢
  simp_all

theorem less_ports {o : AObj} (h : objMay o = true) (k : Nat) (hl : k < o.ports.length) : objMay { o with ports := cutAt o.ports k } = decide (1 < o.ports.length) := by
 have h3 : o.ref.kind = 3 := by
  by_cases h3 : o.ref.kind = 3
  ·exact h3
  ·rw [(may_service h).2 h3] at hl; simp at hl
 rw [Bool.eq_iff_iff]
 rw [objMay_keep] at h ⊢
 simp only [Bool.and_eq_true, decide_eq_true_eq] at h ⊢
 obtain ⟨hr, hk, he⟩ := h
 unfold kindMay at hk ⊢
 rw [if_neg (by omega), if_neg (by omega), if_pos h3] at hk
 simp only
 rw [if_neg (by omega), if_neg (by omega), if_pos h3]
 rw [service_pair] at hk ⊢
 have hcl := cutAt_len hl
 constructor
 ·rintro ⟨_, ⟨⟨h1, _⟩, _⟩, _⟩
  omega
 ·intro h1
  refine ⟨hr, ⟨⟨by omega, by omega⟩, fun x hx => hk.2.1 x ((cutAt_sub _ _).subset hx), hk.2.2.sublist (cutAt_sub _ _)⟩, ?_⟩
  obtain ⟨r, gd, la, po, cl, li, pa, ho, ru, fr, to⟩ := o
  replace h3 : r.kind = 3 := h3
  simp [AObj.keep, h3, AObj.zero] at he ⊢
  simp_all

theorem odd_cls {o : AObj} (h6 : o.ref.kind = 6) : objMay { o with cls := ⟨#[99]⟩ } = false := by
 rw [Bool.eq_false_iff]
 intro h
 have := (may_cls h).2 (by simp only; omega)
 cases this

theorem odd_hosts {o : AObj} (h6 : ¬ o.ref.kind = 6) : objMay { o with hosts := [⟨#[97]⟩] } = false := by
 rw [Bool.eq_false_iff]
 intro h
 rw [objMay_keep] at h
 simp only [Bool.and_eq_true, decide_eq_true_eq] at h
 have he := h.2.2
 have : ({ o with hosts := [⟨#[97]⟩] } : AObj).keep.hosts = [] := by
  unfold AObj.keep
  repeat' split
  all_goals first
   | exact absurd ‹_› h6
   | rfl
 rw [he] at this
 cases this


theorem u8_wf {n : Int} (h : (Lit.int .u8 n).wf = true) : 0 ≤ n ∧ n < 256 := by
 simp [Lit.wf, IntKind.min, IntKind.max, IntKind.signed, IntKind.bits] at h
 omega

end Go.Proofs.YtbjaopoipkphnaaGreatDoor


