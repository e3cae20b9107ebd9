/- Texts of the prover's, joined: J5 Q0 W0 W1 R7 W2 W3 Q1 QK W4 W5 JK W6 WA W7 WB WC WD J6 JM WE WF WG W8 WJ. -/
import Derived.Test.YtjgpdjakehoofaaGreatDoorVW6
import Derived.Shelf.SlSortCmp.InsertionK
import Derived.Lib.Small
import Derived.Deep.LoopGhost
import Derived.StillTailTactics

namespace Go.Proofs.YtjgpdjakehoofaaGreatDoor
open Go Go.RowKit
set_option linter.unusedSimpArgs false
set_option linter.unusedVariables false
set_option maxRecDepth 100000

structure AObj.sok (o : AObj) : Prop where
 rs : o.ref.space.size ≤ 1000000
 rn : o.ref.name.size ≤ 1000000
 lv : ∀ p ∈ o.labels, p.val.size ≤ 1000000
 ln : ∀ l ∈ o.listeners, l.name.size ≤ 1000000 ∧ l.cert.space.size ≤ 1000000 ∧ ∀ n ∈ l.needs, ∀ s ∈ n.vals, s.size ≤ 1000000
 pa : ∀ p ∈ o.parents, p.space.size ≤ 1000000 ∧ p.section_.size ≤ 1000000
 ru : ∀ r ∈ o.rules, (∀ m ∈ r.matches_, m.method.size ≤ 1000000) ∧ (∀ f ∈ r.filters, f.host.size ≤ 1000000 ∧ f.path.size ≤ 1000000) ∧ ∀ b ∈ r.backends, b.ref.space.size ≤ 1000000
 si : ∀ s ∈ o.from_, s.space.size ≤ 1000000


theorem bl_irrefl : ∀ x : List UInt8, Op.bytesLess x x = false
 | [] => rfl
 | a :: x => by
   have h : ¬ a < a := fun h => by have := UInt8.lt_iff_toNat_lt.1 h; omega
   simp [Op.bytesLess, h, bl_irrefl x]

theorem bl_trans : ∀ {x y z : List UInt8}, Op.bytesLess x y = true → Op.bytesLess y z = true → Op.bytesLess x z = true
 | x, [], _, h, _ => by simp [Op.bytesLess] at h
 | _, _ :: _, [], _, h => by simp [Op.bytesLess] at h
 | [], _ :: _, _ :: _, _, _ => rfl
 | a :: x, b :: y, c :: z, h, k => by
   simp only [Op.bytesLess, Bool.or_eq_true, decide_eq_true_eq, Bool.and_eq_true, beq_iff_eq] at h k ⊢
   rcases h with h | ⟨rfl, h⟩
   ·rcases k with k | ⟨rfl, k⟩
    ·left
     have h1 := UInt8.lt_iff_toNat_lt.1 h
     have h2 := UInt8.lt_iff_toNat_lt.1 k
     exact UInt8.lt_iff_toNat_lt.2 (by omega)
    ·exact .inl h
   ·rcases k with k | ⟨rfl, k⟩
    ·exact .inl k
    ·exact .inr ⟨rfl, bl_trans h k⟩

def bl (a b : ByteArray) : Bool := Op.bytesLess a.toList b.toList

theorem bl_self (a : ByteArray) : bl a a = false := bl_irrefl _
theorem bl_tr {a b c : ByteArray} (h : bl a b = true) (k : bl b c = true) : bl a c = true := bl_trans h k
theorem bl_tri {a b : ByteArray} (h : bl a b = false) (k : bl b a = false) : a = b := by
 have := less_total a b
 unfold bl at h k
 rw [h, k] at this
 simpa using this
def refLt (a b : ARef) : Bool := if a.kind = b.kind then (if a.space = b.space then bl a.name b.name else bl a.space b.space) else decide (a.kind < b.kind)

theorem refLt_iff {a b : ARef} : refLt a b = true ↔ a.kind < b.kind ∨ (a.kind = b.kind ∧ (bl a.space b.space = true ∨ (a.space = b.space ∧ bl a.name b.name = true))) := by
 unfold refLt
 by_cases h1 : a.kind = b.kind
 ·by_cases h2 : a.space = b.space
  ·have : bl a.space b.space = false := by rw [h2]; exact bl_self _
   rw [if_pos h1, if_pos h2, this]
   simp [h1, h2]
  ·rw [if_pos h1, if_neg h2]
   simp [h1, h2]
 ·rw [if_neg h1]
  simp [h1]

theorem refLt_self (a : ARef) : refLt a a = false := by simp [refLt, bl_self]

theorem refLt_tr {a b c : ARef} (h : refLt a b = true) (k : refLt b c = true) : refLt a c = true := by
 rw [refLt_iff] at h k ⊢
 rcases h with h | ⟨h1, h | ⟨h2, h⟩⟩ <;> rcases k with k | ⟨k1, k | ⟨k2, k⟩⟩
 ·exact .inl (by omega)
 ·exact .inl (by omega)
 ·exact .inl (by omega)
 ·exact .inl (by omega)
 ·exact .inr ⟨by omega, .inl (bl_tr h k)⟩
 ·exact .inr ⟨by omega, .inl (k2 ▸ h)⟩
 ·exact .inl (by omega)
 ·exact .inr ⟨by omega, .inl (h2 ▸ k)⟩
 ·exact .inr ⟨by omega, .inr ⟨h2.trans k2, bl_tr h k⟩⟩

theorem refLt_tri {a b : ARef} (h : refLt a b = false) (k : refLt b a = false) : a = b := by
 unfold refLt at h k
 by_cases h1 : a.kind = b.kind
 ·rw [if_pos h1] at h
  rw [if_pos h1.symm] at k
  by_cases h2 : a.space = b.space
  ·rw [if_pos h2] at h
   rw [if_pos h2.symm] at k
   have h3 := bl_tri h k
   obtain ⟨a1, a2, a3⟩ := a
   obtain ⟨b1, b2, b3⟩ := b
   simp only at h1 h2 h3
   rw [h1, h2, h3]
  ·rw [if_neg h2] at h
   rw [if_neg (Ne.symm h2)] at k
   exact absurd (bl_tri h k) h2
 ·rw [if_neg h1] at h
  rw [if_neg (Ne.symm h1)] at k
  simp only [decide_eq_false_iff_not] at h k
  omega

theorem refLt_asym {a b : ARef} (h : refLt a b = true) : refLt b a = false := by
 cases k : refLt b a with
 | false => rfl
 | true => have := refLt_tr h k; rw [refLt_self] at this; cases this

def refCmp (a b : ARef) : Int := if a = b then 0 else if refLt a b = true then -1 else 1

def cmpB (x y : ByteArray) : Int := if bl x y = true then -1 else if bl y x = true then 1 else 0

theorem cmpB_eq (a : ByteArray) : cmpB a a = 0 := by simp [cmpB, bl_self]
theorem cmpB_ne {a b : ByteArray} (h : ¬ a = b) : cmpB a b = if bl a b = true then -1 else 1 := by
 unfold cmpB
 cases k1 : bl a b with
 | true => rfl
 | false =>
   cases k2 : bl b a with
   | true => rfl
   | false => exact absurd (bl_tri k1 k2) h

theorem refCmp_or (a b : ARef) : refCmp a b = if ¬ Lib.compareInt a.kind b.kind = 0 then Lib.compareInt a.kind b.kind else if ¬ cmpB a.space b.space = 0 then cmpB a.space b.space else cmpB a.name b.name := by
 unfold refCmp
 by_cases h1 : a.kind = b.kind
 ·have e1 : Lib.compareInt a.kind b.kind = 0 := by unfold Lib.compareInt; rw [if_neg (by omega), if_neg (by omega)]
  simp only [e1, not_true_eq_false, if_false]
  by_cases h2 : a.space = b.space
  ·have e2 : cmpB a.space b.space = 0 := by rw [h2]; exact cmpB_eq _
   simp only [e2, not_true_eq_false, if_false]
   have e3 : refLt a b = bl a.name b.name := by unfold refLt; rw [if_pos h1, if_pos h2]
   by_cases h3 : a.name = b.name
   ·have hab : a = b := by
     obtain ⟨a1, a2, a3⟩ := a
     obtain ⟨b1, b2, b3⟩ := b
     simp only at h1 h2 h3
     rw [h1, h2, h3]
    rw [if_pos hab, h3, cmpB_eq]
   ·have hab : ¬ a = b := fun e => h3 (by rw [e])
    rw [if_neg hab, e3, cmpB_ne h3]
  ·have e3 : refLt a b = bl a.space b.space := by unfold refLt; rw [if_pos h1, if_neg h2]
   have hab : ¬ a = b := fun e => h2 (by rw [e])
   rw [if_neg hab, e3, cmpB_ne h2]
   cases bl a.space b.space <;> simp
 ·have e3 : refLt a b = decide (a.kind < b.kind) := by unfold refLt; rw [if_neg h1]
  have hab : ¬ a = b := fun e => h1 (by rw [e])
  rw [if_neg hab, e3]
  unfold Lib.compareInt
  by_cases h2 : a.kind < b.kind
  ·simp [h2]
  ·have h3 : a.kind > b.kind := by omega
   simp [h2, h3]


structure ACond where
 part : ByteArray
 typ : ByteArray
 reason : ByteArray
 tru : Bool
 n : Int
 gen : Int
 deriving DecidableEq

abbrev ACond.pd (c : ACond) : List PD := [pStr c.part, pStr c.typ, pStr c.reason, pBln c.tru, pInt c.n, pInt c.gen]

structure AStored where
 o : AObj
 version : Int
 gen : Int
 born : Int
 conds : List ACond
 deriving DecidableEq

abbrev AStored.pd (x : AStored) : List PD := [pInt x.o.ref.kind, pStr x.o.ref.space, pStr x.o.ref.name, pBln x.o.good, .slice (rows APair.pd x.o.labels), .slice (ints x.o.ports), pStr x.o.cls, .slice (rows AListener.pd x.o.listeners),
 .slice (rows AParent.pd x.o.parents), .slice (strs x.o.hosts), .slice (rows ARule.pd x.o.rules), .slice (rows ASide.pd x.o.from_), .slice (rows ASide.pd x.o.to_), pInt x.version, pInt x.gen, pInt x.born, .slice (rows ACond.pd x.conds)]
abbrev AStored.d (x : AStored) : D := .agg [int x.o.ref.kind, str x.o.ref.space, str x.o.ref.name, bln x.o.good, .pd (.slice (rows APair.pd x.o.labels)), .pd (.slice (ints x.o.ports)), str x.o.cls, .pd (.slice (rows AListener.pd x.o.listeners)),
 .pd (.slice (rows AParent.pd x.o.parents)), .pd (.slice (strs x.o.hosts)), .pd (.slice (rows ARule.pd x.o.rules)), .pd (.slice (rows ASide.pd x.o.from_)), .pd (.slice (rows ASide.pd x.o.to_)), int x.version, int x.gen, int x.born, .pd (.slice (rows ACond.pd x.conds))]

structure AEvent where
 version : Int
 ref : ARef
 deriving DecidableEq

abbrev AEvent.pd (e : AEvent) : List PD := [pInt e.version, pInt e.ref.kind, pStr e.ref.space, pStr e.ref.name]
abbrev AEvent.d (e : AEvent) : D := .agg [int e.version, int e.ref.kind, str e.ref.space, str e.ref.name]

structure AStore where
 version : Int
 floor : Int
 l : List AStored
 log : List AEvent
 deriving DecidableEq

abbrev AStore.d (s : AStore) : D := .agg [int s.version, int s.floor, .pd (.slice (rows AStored.pd s.l)), .pd (.slice (rows AEvent.pd s.log))]

structure AStore.ok (s : AStore) : Prop where
 l : s.l.length ≤ 100
 log : s.log.length ≤ 100
 o : ∀ x ∈ s.l, x.o.ok ∧ x.o.sok
 c : ∀ x ∈ s.l, x.conds.length ≤ 100

def zStored : AStored := ⟨AObj.zero ⟨0, ⟨#[]⟩, ⟨#[]⟩⟩, 0, 0, 0, []⟩

def evOK (f : Int) (i : Nat) (e : AEvent) : Bool := decide (e.version = f + 1 + i) && mayRef e.ref
def evsOK (f : Int) (l : List AEvent) : Bool := l.zipIdx.all fun p => evOK f p.2 p.1
def stOK (v : Int) (x : AStored) : Bool := objMay x.o && decide (1 ≤ x.born ∧ x.born ≤ x.version ∧ x.version ≤ v ∧ 1 ≤ x.gen ∧ x.gen ≤ x.version - x.born + 1 ∧ x.conds.length ≤ 40)
def Srt (l : List AStored) : Prop := l.Pairwise fun x y => refLt x.o.ref y.o.ref = true
instance (l : List AStored) : Decidable (Srt l) := inferInstanceAs (Decidable (l.Pairwise fun x y => refLt x.o.ref y.o.ref = true))
def headOK (s : AStore) : Bool := decide (0 ≤ s.version ∧ s.version ≤ 1099511627775 ∧ 0 ≤ s.floor ∧ s.floor ≤ s.version ∧ s.l.length ≤ 40 ∧ s.log.length ≤ 16 ∧ s.floor + s.log.length = s.version)
def storeMay (s : AStore) : Bool := headOK s && evsOK s.floor s.log && s.l.all (stOK s.version) && decide (Srt s.l)

def at_ (l : List AStored) (r : ARef) : Option AStored := l.find? fun x => decide (x.o.ref = r)

def putL (l : List AStored) (r : ARef) (new : List AStored) : List AStored := l.filter (fun x => refLt x.o.ref r) ++ (new ++ l.filter fun x => refLt r x.o.ref)

def logL (s : AStore) (r : ARef) : List AEvent := s.log ++ [⟨s.version + 1, r⟩]

def change (s : AStore) (r : ARef) (new : List AStored) : AStore × Int :=
 if s.version = 1099511627775 then (s, 5) else
 if 16 < (logL s r).length then (⟨s.version + 1, ((logL s r).head?.map (·.version)).getD 0, putL s.l r new, (logL s r).drop 1⟩, 0)
 else (⟨s.version + 1, s.floor, putL s.l r new, logL s r⟩, 0)

def doCreate (s : AStore) (o : AObj) : AStore × Int :=
 if storeMay s = false ∨ objMay o = false then (s, 1) else
 if (at_ s.l o.ref).isSome then (s, 4) else
 if 40 ≤ s.l.length then (s, 5) else change s o.ref [⟨o, s.version + 1, 1, s.version + 1, []⟩]

def oldS (s : AStore) (r : ARef) (v : Int) : AStored × Int :=
 if storeMay s = false then (zStored, 1) else match at_ s.l r with
 | none => (zStored, 3)
 | some x => if v ≠ 0 ∧ v ≠ x.version then (x, 7) else (x, 0)

def getS (s : AStore) (r : ARef) : AStored × Int :=
 if storeMay s = false then (zStored, 1) else match at_ s.l r with
 | none => (zStored, 3)
 | some x => (x, 0)

def doUpdate (s : AStore) (o : AObj) (v : Int) : AStore × Int :=
 if objMay o = false then (s, 1) else
 if (oldS s o.ref v).2 ≠ 0 then (s, (oldS s o.ref v).2) else
 if (oldS s o.ref v).1.o = o then (s, 0) else change s o.ref [⟨o, s.version + 1, (oldS s o.ref v).1.gen + 1, (oldS s o.ref v).1.born, (oldS s o.ref v).1.conds⟩]

def doDelete (s : AStore) (r : ARef) (v : Int) : AStore × Int :=
 if (oldS s r v).2 ≠ 0 then (s, (oldS s r v).2) else change s r []

def sinceS (s : AStore) (v : Int) : List AEvent × Int :=
 if storeMay s = false ∨ v < 0 ∨ s.version < v then ([], 1) else
 if v < s.floor then ([], 6) else (s.log.drop (v - s.floor).toNat, 0)

def objects (s : AStore) : List AObj := s.l.map (·.o)

theorem eq_Cond (x y : ACond) : (decide (x.part = y.part) && (decide (x.typ = y.typ) && (decide (x.reason = y.reason) && (x.tru == y.tru && (decide (x.n = y.n) && decide (x.gen = y.gen)))))) = decide (x = y) := by
 cases x; cases y; rw [Bool.eq_iff_iff]; simp
theorem eq_Event (x y : AEvent) : (decide (x.version = y.version) && (decide (x.ref.kind = y.ref.kind) && (decide (x.ref.space = y.ref.space) && decide (x.ref.name = y.ref.name)))) = decide (x = y) := by
 obtain ⟨a, b, c, d⟩ := x; obtain ⟨a', b', c', d'⟩ := y; rw [Bool.eq_iff_iff]; simp [and_assoc]

theorem evsOK_iff {f : Int} {l : List AEvent} : evsOK f l = true ↔ ∀ (i : Nat) (e : AEvent), l[i]? = some e → evOK f i e = true := by
 unfold evsOK
 rw [List.all_eq_true]
 constructor
 ·intro h i e hi
  exact h (e, i) (List.mem_zipIdx_iff_getElem?.2 hi)
 ·rintro h ⟨e, i⟩ hm
  exact h i e (List.mem_zipIdx_iff_getElem?.1 hm)

theorem srt_iff : ∀ {l : List AStored}, Srt l ↔ ∀ (i : Nat) (x y : AStored), l[i]? = some x → l[i + 1]? = some y → refLt x.o.ref y.o.ref = true
 | [] => ⟨fun _ i x y h => by simp at h, fun _ => List.Pairwise.nil⟩
 | [a] => ⟨fun _ i x y _ h => by simp at h, fun _ => List.pairwise_singleton _ _⟩
 | a :: b :: l => by
   have ih := srt_iff (l := b :: l)
   constructor
   ·intro h i x y hx hy
    cases i with
    | zero =>
      simp only [List.getElem?_cons_zero, Option.some.injEq, Nat.zero_add, List.getElem?_cons_succ] at hx hy
      subst hx; subst hy
      exact (List.pairwise_cons.1 h).1 _ List.mem_cons_self
    | succ i => exact ih.1 (List.pairwise_cons.1 h).2 i x y (by simpa using hx) (by simpa using hy)
   ·intro h
    have h2 : Srt (b :: l) := ih.2 fun i x y hx hy => h (i + 1) x y (by simpa using hx) (by simpa using hy)
    have h1 := h 0 a b rfl rfl
    refine List.pairwise_cons.2 ⟨fun y hy => ?_, h2⟩
    rcases List.mem_cons.1 hy with rfl | hy
    ·exact h1
    ·exact refLt_tr h1 ((List.pairwise_cons.1 h2).1 y hy)

theorem splitS : ∀ {l : List AStored}, Srt l → ∀ r : ARef, l = l.filter (fun x => refLt x.o.ref r) ++ ((at_ l r).toList ++ l.filter fun x => refLt r x.o.ref)
 | [], _, _ => rfl
 | x :: l, h, r => by
   have h1 := List.pairwise_cons.1 h
   have ih := splitS h1.2 r
   unfold at_ at ih ⊢
   by_cases hlt : refLt x.o.ref r = true
   ·have hne : ¬ x.o.ref = r := fun e => by rw [e, refLt_self] at hlt; cases hlt
    have hgt : refLt r x.o.ref = false := refLt_asym hlt
    simp only [List.filter_cons, List.find?_cons, hlt, hgt, decide_eq_false hne, if_true, Bool.false_eq_true, if_false, List.cons_append]
    exact congrArg (x :: ·) ih
   ·have hlt' : refLt x.o.ref r = false := by simpa using hlt
    have hall : ∀ y ∈ l, refLt r y.o.ref = true := fun y hy => by
     have hxy := h1.1 y hy
     by_cases he : x.o.ref = r
     ·rw [← he]; exact hxy
     ·cases hgt : refLt r x.o.ref with
      | true => exact refLt_tr hgt hxy
      | false => exact absurd (refLt_tri hlt' hgt) he
    have e1 : l.filter (fun x => refLt x.o.ref r) = [] := List.filter_eq_nil_iff.2 fun y hy => by rw [refLt_asym (hall y hy)]; simp
    have e2 : l.filter (fun x => refLt r x.o.ref) = l := List.filter_eq_self.2 fun y hy => hall y hy
    have e3 : l.find? (fun x => decide (x.o.ref = r)) = none := List.find?_eq_none.2 fun y hy he => by
     have := hall y hy
     rw [of_decide_eq_true he, refLt_self] at this
     cases this
    simp only [List.filter_cons, hlt', Bool.false_eq_true, if_false, e1, List.nil_append]
    by_cases he : x.o.ref = r
    ·simp only [List.find?_cons, decide_eq_true he, he, refLt_self, Bool.false_eq_true, if_false, e2]; rfl
    ·have hgt : refLt r x.o.ref = true := by
      cases hgt : refLt r x.o.ref with
      | true => rfl
      | false => exact absurd (refLt_tri hlt' hgt) he
     simp only [List.find?_cons, decide_eq_false he, e3, hgt, if_true, e2]; rfl

theorem at_filter (q : ARef → Bool) : ∀ (l : List AStored) (r : ARef), at_ (l.filter fun x => q x.o.ref) r = if q r then at_ l r else none
 | [], r => by simp [at_]
 | x :: l, r => by
   have ih := at_filter q l r
   unfold at_ at ih ⊢
   cases hq : q x.o.ref with
   | true =>
     simp only [List.filter_cons, hq, if_true, List.find?_cons]
     by_cases he : x.o.ref = r
     ·subst he; simp only [decide_true, hq, if_true]
     ·simp only [decide_eq_false he, ih]
   | false =>
     simp only [List.filter_cons, hq, Bool.false_eq_true, if_false, List.find?_cons, ih]
     by_cases he : x.o.ref = r
     ·subst he; simp only [hq, Bool.false_eq_true, if_false]
     ·simp only [decide_eq_false he]

theorem at_app (l m : List AStored) (r : ARef) : at_ (l ++ m) r = (at_ l r).or (at_ m r) := List.find?_append

theorem at_putL {l new : List AStored} {r r' : ARef} (hn : ∀ x ∈ new, x.o.ref = r) : at_ (putL l r new) r' = if r' = r then new.head? else at_ l r' := by
 have e : at_ new r' = if r' = r then new.head? else none := by
  cases new with
  | nil => simp [at_]
  | cons x new =>
    have hx := hn x List.mem_cons_self
    unfold at_
    by_cases h : r' = r
    ·rw [List.find?_cons_of_pos (by simp [hx, h]), if_pos h]; rfl
    ·rw [if_neg h]
     refine List.find?_eq_none.2 fun y hy he => h ?_
     rw [← of_decide_eq_true he]; exact hn y hy
 unfold putL
 rw [at_app, at_app, at_filter (fun x => refLt x r), at_filter (fun x => refLt r x), e]
 by_cases h : r' = r
 ·subst h
  simp [refLt_self]
 ·rw [if_neg h, if_neg h]
  cases h1 : refLt r' r <;> cases h2 : refLt r r'
  ·exact absurd (refLt_tri h1 h2) h
  ·simp
  ·simp
  ·rw [refLt_asym h1] at h2; cases h2

theorem srt_putL {l new : List AStored} {r : ARef} (h : Srt l) (hn : ∀ x ∈ new, x.o.ref = r) (h1 : new.length ≤ 1) : Srt (putL l r new) := by
 unfold putL Srt
 refine List.pairwise_append.2 ⟨h.filter _, List.pairwise_append.2 ⟨?_, h.filter _, fun x hx y hy => ?_⟩, fun x hx y hy => ?_⟩
 ·match new, h1 with
  | [], _ => exact List.Pairwise.nil
  | [a], _ => exact List.pairwise_singleton _ _
 ·rw [hn x hx]; exact (List.mem_filter.1 hy).2
 ·have hx1 := (List.mem_filter.1 hx).2
  rcases List.mem_append.1 hy with hy | hy
  ·rw [hn y hy]; exact hx1
  ·exact refLt_tr hx1 (List.mem_filter.1 hy).2

theorem len_putL {l new : List AStored} {r : ARef} (h : Srt l) : (putL l r new).length + ((at_ l r).toList).length = l.length + new.length := by
 have e := congrArg List.length (splitS h r)
 unfold putL
 simp only [List.length_append] at e ⊢
 omega

theorem smay_parts {s : AStore} (h : storeMay s = true) : headOK s = true ∧ evsOK s.floor s.log = true ∧ (∀ x ∈ s.l, stOK s.version x = true) ∧ Srt s.l := by
 simp only [storeMay, Bool.and_eq_true, List.all_eq_true, decide_eq_true_eq] at h
 exact ⟨h.1.1.1, h.1.1.2, h.1.2, h.2⟩

theorem head_iff {s : AStore} : headOK s = true ↔ 0 ≤ s.version ∧ s.version ≤ 1099511627775 ∧ 0 ≤ s.floor ∧ s.floor ≤ s.version ∧ s.l.length ≤ 40 ∧ s.log.length ≤ 16 ∧ s.floor + s.log.length = s.version := by
 simp only [headOK, decide_eq_true_eq]

theorem stOK_iff {v : Int} {x : AStored} : stOK v x = true ↔ objMay x.o = true ∧ 1 ≤ x.born ∧ x.born ≤ x.version ∧ x.version ≤ v ∧ 1 ≤ x.gen ∧ x.gen ≤ x.version - x.born + 1 ∧ x.conds.length ≤ 40 := by
 simp only [stOK, Bool.and_eq_true, decide_eq_true_eq]

theorem obj_ref {o : AObj} (h : objMay o = true) : mayRef o.ref = true := by
 simp only [objMay, Bool.and_eq_true] at h
 exact h.1.1

theorem at_mem {l : List AStored} {r : ARef} {x : AStored} (h : at_ l r = some x) : x ∈ l ∧ x.o.ref = r :=
 ⟨List.mem_of_find?_eq_some h, by simpa using List.find?_some h⟩


structure Step (s : AStore) (r : ARef) (new : List AStored) (t : AStore) : Prop where
 may : storeMay t = true
 ver : t.version = s.version + 1
 l : t.l = putL s.l r new
 log : (t.floor = s.floor ∧ t.log = s.log ++ [⟨s.version + 1, r⟩]) ∨ (t.floor = s.floor + 1 ∧ s.log.length = 16 ∧ t.log = (s.log ++ [(⟨s.version + 1, r⟩ : AEvent)]).drop 1)

theorem stOK_mono {v : Int} {x : AStored} (h : stOK v x = true) : stOK (v + 1) x = true := by
 rw [stOK_iff] at h ⊢
 obtain ⟨h1, h2, h3, h4, h5, h6, h7⟩ := h
 exact ⟨h1, h2, h3, by omega, h5, h6, h7⟩

theorem log_head {s : AStore} (hm : storeMay s = true) (h : 0 < s.log.length) (r : ARef) : ((logL s r).head?.map (·.version)).getD 0 = s.floor + 1 := by
 have hp := smay_parts hm
 obtain ⟨e, he⟩ := at_lt h
 have h1 := evsOK_iff.1 hp.2.1 0 e he
 simp only [evOK, Bool.and_eq_true, decide_eq_true_eq] at h1
 unfold logL
 have e2 : (s.log ++ [(⟨s.version + 1, r⟩ : AEvent)]).head? = some e := by
  rw [List.head?_append]
  rw [← List.head?_eq_getElem?] at he
  rw [he]; rfl
 rw [e2]
 simp [h1.1]

theorem step_change {s : AStore} {r : ARef} {new : List AStored} (hm : storeMay s = true) (hr : mayRef r = true) (hn : ∀ x ∈ new, x.o.ref = r) (h1 : new.length ≤ 1) (hx : ∀ x ∈ new, stOK (s.version + 1) x = true)
 (hl : s.l.length + new.length ≤ 40 + (at_ s.l r).toList.length) :
 (s.version = 1099511627775 ∧ change s r new = (s, 5)) ∨ (s.version ≠ 1099511627775 ∧ (change s r new).2 = 0 ∧ Step s r new (change s r new).1) := by
 have hp := smay_parts hm
 obtain ⟨h2, h3, h4, h5, h6, h7, h8⟩ := head_iff.1 hp.1
 have hev := evsOK_iff.1 hp.2.1
 by_cases hv : s.version = 1099511627775
 ·exact .inl ⟨hv, by unfold change; rw [if_pos hv]⟩
 refine .inr ⟨hv, ?_⟩
 have hlen := len_putL (l := s.l) (new := new) (r := r) hp.2.2.2
 have hsrt := srt_putL hp.2.2.2 hn h1
 have hall : ∀ x ∈ putL s.l r new, stOK (s.version + 1) x = true := fun x hx' => by
  unfold putL at hx'
  rcases List.mem_append.1 hx' with h | h
  ·exact stOK_mono (hp.2.2.1 x (List.mem_filter.1 h).1)
  ·rcases List.mem_append.1 h with h | h
   ·exact hx x h
   ·exact stOK_mono (hp.2.2.1 x (List.mem_filter.1 h).1)
 have hlog : (logL s r).length = s.log.length + 1 := by simp [logL]
 have hget : ∀ (i : Nat) (e : AEvent), (logL s r)[i]? = some e → evOK s.floor i e = true := fun i e he => by
  unfold logL at he
  by_cases hi : i < s.log.length
  ·rw [List.getElem?_append_left hi] at he; exact hev i e he
  ·rw [List.getElem?_append_right (by omega)] at he
   have hi0 : i - s.log.length = 0 := by
    have := (List.getElem?_eq_some_iff.1 he).1
    simp only [List.length_singleton] at this
    omega
   rw [hi0] at he
   simp only [List.getElem?_cons_zero, Option.some.injEq] at he
   subst he
   simp only [evOK, Bool.and_eq_true, decide_eq_true_eq]
   exact ⟨by omega, hr⟩
 unfold change
 rw [if_neg hv]
 by_cases hL : 16 < (logL s r).length
 ·rw [if_pos hL, log_head hm (by omega) r]
  refine ⟨rfl, ⟨?_, rfl, rfl, .inr ⟨rfl, by omega, rfl⟩⟩⟩
  simp only [storeMay, Bool.and_eq_true, List.all_eq_true, decide_eq_true_eq]
  refine ⟨⟨⟨head_iff.2 ?_, evsOK_iff.2 fun i e he => ?_⟩, hall⟩, hsrt⟩
  ·simp only [List.length_drop]
   exact ⟨by omega, by omega, by omega, by omega, by omega, by omega, by omega⟩
  ·rw [List.getElem?_drop] at he
   have := hget (1 + i) e he
   simp only [evOK, Bool.and_eq_true, decide_eq_true_eq] at this ⊢
   exact ⟨by omega, this.2⟩
 ·rw [if_neg hL]
  refine ⟨rfl, ⟨?_, rfl, rfl, .inl ⟨rfl, rfl⟩⟩⟩
  simp only [storeMay, Bool.and_eq_true, List.all_eq_true, decide_eq_true_eq]
  refine ⟨⟨⟨head_iff.2 ?_, evsOK_iff.2 hget⟩, hall⟩, hsrt⟩
  show 0 ≤ s.version + 1 ∧ s.version + 1 ≤ 1099511627775 ∧ 0 ≤ s.floor ∧ s.floor ≤ s.version + 1 ∧ (putL s.l r new).length ≤ 40 ∧ (logL s r).length ≤ 16 ∧ s.floor + ((logL s r).length : Nat) = s.version + 1
  omega

theorem getS_of {s : AStore} {r : ARef} {x : AStored} (hm : storeMay s = true) (ha : at_ s.l r = some x) : getS s r = (x, 0) := by
 unfold getS; rw [hm, ha]; rfl

theorem oldS_some {s : AStore} {r : ARef} {v : Int} (h : (oldS s r v).2 = 0) : storeMay s = true ∧ at_ s.l r = some (oldS s r v).1 ∧ (v = 0 ∨ v = (oldS s r v).1.version) := by
 unfold oldS at h ⊢
 cases hm : storeMay s with
 | false => rw [hm] at h; simp at h
 | true =>
   rw [hm] at h
   rw [if_neg (by simp)] at h ⊢
   cases ha : at_ s.l r with
   | none => rw [ha] at h; simp at h
   | some x =>
     rw [ha] at h
     simp only at h ⊢
     by_cases hc : v ≠ 0 ∧ v ≠ x.version
     ·rw [if_pos hc] at h; simp at h
     ·rw [if_neg hc]
      refine ⟨by trivial, rfl, ?_⟩
      simp only
      omega

theorem new_stOK {s : AStore} {o : AObj} (hm : storeMay s = true) (ho : objMay o = true) : stOK (s.version + 1) ⟨o, s.version + 1, 1, s.version + 1, []⟩ = true := by
 have h := head_iff.1 (smay_parts hm).1
 rw [stOK_iff]
 exact ⟨ho, by simp only; omega, by simp only; omega, by simp only; omega, by simp only; omega, by simp only; omega, by simp⟩

theorem create_step {s : AStore} {o : AObj} (hm : storeMay s = true) (ho : objMay o = true) (ha : at_ s.l o.ref = none) (hl : s.l.length < 40) :
 (s.version = 1099511627775 ∧ doCreate s o = (s, 5)) ∨ (s.version ≠ 1099511627775 ∧ (doCreate s o).2 = 0 ∧ Step s o.ref [⟨o, s.version + 1, 1, s.version + 1, []⟩] (doCreate s o).1) := by
 have e : doCreate s o = change s o.ref [⟨o, s.version + 1, 1, s.version + 1, []⟩] := by
  unfold doCreate
  rw [if_neg (by rw [hm, ho]; simp), if_neg (by rw [ha]; simp), if_neg (by omega)]
 rw [e]
 refine step_change hm (obj_ref ho) (by simp) (by simp) (fun x hx => ?_) (by simp; omega)
 simp only [List.mem_singleton] at hx
 subst hx
 exact new_stOK hm ho

theorem create_cases {s : AStore} {o : AObj} (h : (doCreate s o).2 = 0) : storeMay s = true ∧ objMay o = true ∧ at_ s.l o.ref = none ∧ s.l.length < 40 := by
 unfold doCreate at h
 split at h
 ·simp at h
 ·rename_i h1
  split at h
  ·simp at h
  ·rename_i h2
   split at h
   ·simp at h
   ·rename_i h3
    simp only [not_or, Bool.not_eq_false] at h1
    exact ⟨h1.1, h1.2, by simpa using h2, by omega⟩

theorem create_refused {s : AStore} {o : AObj} (h : (doCreate s o).2 ≠ 0) : (doCreate s o).1 = s := by
 by_cases hm : storeMay s = true
 ·by_cases ho : objMay o = true
  ·cases ha : at_ s.l o.ref with
   | some x => unfold doCreate; rw [if_neg (by rw [hm, ho]; simp), if_pos (by rw [ha]; rfl)]
   | none =>
     by_cases hl : s.l.length < 40
     ·rcases create_step hm ho ha hl with ⟨_, h1⟩ | ⟨_, h1, _⟩
      ·rw [h1]
      ·exact absurd h1 h
     ·unfold doCreate; rw [if_neg (by rw [hm, ho]; simp), if_neg (by rw [ha]; simp), if_pos (by omega)]
  ·unfold doCreate; rw [if_pos (.inr (by simpa using ho))]
 ·unfold doCreate; rw [if_pos (.inl (by simpa using hm))]

theorem there_step {s : AStore} {r : ARef} {x : AStored} {new : List AStored} (hm : storeMay s = true) (ha : at_ s.l r = some x) (hn : ∀ x ∈ new, x.o.ref = r) (h1 : new.length ≤ 1) (hx : ∀ x ∈ new, stOK (s.version + 1) x = true) :
 (s.version = 1099511627775 ∧ change s r new = (s, 5)) ∨ (s.version ≠ 1099511627775 ∧ (change s r new).2 = 0 ∧ Step s r new (change s r new).1) := by
 have hp := smay_parts hm
 have hl := (head_iff.1 hp.1).2.2.2.2.1
 obtain ⟨hmem, hr⟩ := at_mem ha
 have := stOK_iff.1 (hp.2.2.1 x hmem)
 refine step_change hm (by rw [← hr]; exact obj_ref this.1) hn h1 hx ?_
 rw [ha]
 simp only [Option.toList_some, List.length_singleton]
 omega

theorem there_stOK {s : AStore} {r : ARef} {x : AStored} (hm : storeMay s = true) (ha : at_ s.l r = some x) : stOK s.version x = true ∧ x.o.ref = r :=
 ⟨(smay_parts hm).2.2.1 x (at_mem ha).1, (at_mem ha).2⟩

structure AAct where
 kind : Int
 o : AObj
 version : Int
 conds : List ACond
 deriving DecidableEq

theorem ok_step {s t : AStore} {r : ARef} {new : List AStored} (hok : s.ok) (h : Step s r new t) (hn : ∀ x ∈ new, x.o.ok ∧ x.o.sok) : t.ok := by
 have hp := smay_parts h.may
 have hh := head_iff.1 hp.1
 refine ⟨by omega, by omega, fun x hx => ?_, fun x hx => ?_⟩
 ·rw [h.l] at hx
  unfold putL at hx
  rcases List.mem_append.1 hx with hx | hx
  ·exact hok.o x (List.mem_filter.1 hx).1
  ·rcases List.mem_append.1 hx with hx | hx
   ·exact hn x hx
   ·exact hok.o x (List.mem_filter.1 hx).1
 ·have := (stOK_iff.1 (hp.2.2.1 x hx)).2.2.2.2.2.2
  omega

end Go.Proofs.YtjgpdjakehoofaaGreatDoor



namespace Go.Proofs.YtjgpdjakehoofaaGreatDoor
open Go Go.RowKit Go.ChangeShapes Go.WideShapes Go.ChangeAt Go.WideMaps Go.WideElems
set_option linter.unusedSimpArgs false
set_option linter.unusedVariables false
set_option maxRecDepth 100000

theorem HasShs.cut : ∀ {s1 s2 : List Sh} {r : List PD}, HasShs (s1 ++ s2) r → ∃ r1 r2, r = r1 ++ r2 ∧ HasShs s1 r1 ∧ HasShs s2 r2
 | [], _, r, h => ⟨[], r, rfl, .nil, h⟩
 | s :: s1, s2, _, h => by
   cases h with
   | cons _ d _ ds a hs =>
     obtain ⟨r1, r2, rfl, h1, h2⟩ := HasShs.cut hs
     exact ⟨d :: r1, r2, rfl, .cons _ _ _ _ a h1, h2⟩

abbrev condShs : List Sh := [.str, .str, .str, .bool, .int .i64, .int .i64]

theorem cond_rowS {r : List PD} (h : HasShs condShs r) : ∃ a, r = ACond.pd a := by
 cases h with
 | cons _ d1 _ _ a1 h1 =>
 cases h1 with
 | cons _ d2 _ _ a2 h2 =>
 cases h2 with
 | cons _ d3 _ _ a3 h3 =>
 cases h3 with
 | cons _ d4 _ _ a4 h4 =>
 cases h4 with
 | cons _ d5 _ _ a5 h5 =>
 cases h5 with
 | cons _ d6 _ _ a6 h6 =>
 cases h6
 cases a1 with
 | str x1 _ =>
 cases a2 with
 | str x2 _ =>
 cases a3 with
 | str x3 _ =>
 cases a4 with
 | bool x4 =>
 cases a5 with
 | int _ x5 _ =>
 cases a6 with
 | int _ x6 _ =>
 exact ⟨⟨x1, x2, x3, x4, x5, x6⟩, rfl⟩

abbrev eventShs : List Sh := [.int .i64, .int .i64, .str, .str]

theorem event_rowS {r : List PD} (h : HasShs eventShs r) : ∃ a, r = AEvent.pd a := by
 cases h with
 | cons _ d1 _ _ a1 h1 =>
 cases h1 with
 | cons _ d2 _ _ a2 h2 =>
 cases h2 with
 | cons _ d3 _ _ a3 h3 =>
 cases h3 with
 | cons _ d4 _ _ a4 h4 =>
 cases h4
 cases a1 with
 | int _ x1 _ =>
 cases a2 with
 | int _ x2 _ =>
 cases a3 with
 | str x3 _ =>
 cases a4 with
 | str x4 _ =>
 exact ⟨⟨x1, ⟨x2, x3, x4⟩⟩, rfl⟩

abbrev storedShs : List Sh := objShs ++ ([.int .i64, .int .i64, .int .i64, .slice condShs])

theorem stored_rowS {r : List PD} (h : HasShs storedShs r) : ∃ a, r = AStored.pd a := by
 obtain ⟨r0, q0, rfl, g0, t0⟩ := HasShs.cut h
 obtain ⟨o0, rfl⟩ := obj_row g0
 cases t0 with
 | cons _ d1 _ _ a1 h1 =>
 cases h1 with
 | cons _ d2 _ _ a2 h2 =>
 cases h2 with
 | cons _ d3 _ _ a3 h3 =>
 cases h3 with
 | cons _ d4 _ _ a4 h4 =>
 cases h4
 cases a1 with
 | int _ x1 _ =>
 cases a2 with
 | int _ x2 _ =>
 cases a3 with
 | int _ x3 _ =>
 cases a4 with
 | slice _ els4 _ k4 =>
 obtain ⟨x4, rfl⟩ := rows_of cond_rowS k4
 exact ⟨⟨o0, x1, x2, x3, x4⟩, rfl⟩

abbrev AStore.pd (s : AStore) : List PD := [pInt s.version, pInt s.floor, .slice (rows AStored.pd s.l), .slice (rows AEvent.pd s.log)]

abbrev storeShs : List Sh := [.int .i64, .int .i64, .slice storedShs, .slice eventShs]

theorem store_rowS {r : List PD} (h : HasShs storeShs r) : ∃ a, r = AStore.pd a := by
 cases h with
 | cons _ d1 _ _ a1 h1 =>
 cases h1 with
 | cons _ d2 _ _ a2 h2 =>
 cases h2 with
 | cons _ d3 _ _ a3 h3 =>
 cases h3 with
 | cons _ d4 _ _ a4 h4 =>
 cases h4
 cases a1 with
 | int _ x1 _ =>
 cases a2 with
 | int _ x2 _ =>
 cases a3 with
 | slice _ els3 _ k3 =>
 obtain ⟨x3, rfl⟩ := rows_of stored_rowS k3
 cases a4 with
 | slice _ els4 _ k4 =>
 obtain ⟨x4, rfl⟩ := rows_of event_rowS k4
 exact ⟨⟨x1, x2, x3, x4⟩, rfl⟩

abbrev AAct.pd (a : AAct) : List PD := [.raw (.int .u8 a.kind), pInt a.o.ref.kind, pStr a.o.ref.space, pStr a.o.ref.name, pBln a.o.good, .slice (rows APair.pd a.o.labels), .slice (ints a.o.ports), pStr a.o.cls, .slice (rows AListener.pd a.o.listeners), .slice (rows AParent.pd a.o.parents), .slice (strs a.o.hosts), .slice (rows ARule.pd a.o.rules), .slice (rows ASide.pd a.o.from_), .slice (rows ASide.pd a.o.to_), pInt a.version, .slice (rows ACond.pd a.conds)]
abbrev AAct.d (a : AAct) : D := .agg [.pd (.raw (.int .u8 a.kind)), int a.o.ref.kind, str a.o.ref.space, str a.o.ref.name, bln a.o.good, .pd (.slice (rows APair.pd a.o.labels)), .pd (.slice (ints a.o.ports)), str a.o.cls, .pd (.slice (rows AListener.pd a.o.listeners)), .pd (.slice (rows AParent.pd a.o.parents)), .pd (.slice (strs a.o.hosts)), .pd (.slice (rows ARule.pd a.o.rules)), .pd (.slice (rows ASide.pd a.o.from_)), .pd (.slice (rows ASide.pd a.o.to_)), int a.version, .pd (.slice (rows ACond.pd a.conds))]

structure ALook where
 s : AStore
 o : AStore
 r : ARef
 v : Int

abbrev ALook.pd (q : ALook) : List PD := [pInt q.s.version, pInt q.s.floor, .slice (rows AStored.pd q.s.l), .slice (rows AEvent.pd q.s.log), pInt q.o.version, pInt q.o.floor, .slice (rows AStored.pd q.o.l), .slice (rows AEvent.pd q.o.log), pInt q.r.kind, pStr q.r.space, pStr q.r.name, pInt q.v]
abbrev ALook.d (q : ALook) : D := .agg [int q.s.version, int q.s.floor, .pd (.slice (rows AStored.pd q.s.l)), .pd (.slice (rows AEvent.pd q.s.log)), int q.o.version, int q.o.floor, .pd (.slice (rows AStored.pd q.o.l)), .pd (.slice (rows AEvent.pd q.o.log)), int q.r.kind, str q.r.space, str q.r.name, int q.v]

structure AStale where
 s : AStore
 r : ARef
 a : List ACond
 b : List ACond

abbrev AStale.pd (q : AStale) : List PD := [pInt q.s.version, pInt q.s.floor, .slice (rows AStored.pd q.s.l), .slice (rows AEvent.pd q.s.log), pInt q.r.kind, pStr q.r.space, pStr q.r.name, .slice (rows ACond.pd q.a), .slice (rows ACond.pd q.b)]
abbrev AStale.d (q : AStale) : D := .agg [int q.s.version, int q.s.floor, .pd (.slice (rows AStored.pd q.s.l)), .pd (.slice (rows AEvent.pd q.s.log)), int q.r.kind, str q.r.space, str q.r.name, .pd (.slice (rows ACond.pd q.a)), .pd (.slice (rows ACond.pd q.b))]

section
variable {H : Type} {enc : TypeId × Value → H} {P : Program} {W : World} {base : Nat} {spare : Nat → Bool} {held : Bool}

theorem arg_store {t : TypeId} {fs : Array Field} {v : Value} {d : DataW H} {ps : List MemPlace} {n : Nat} (hu : P.underlying t = some (.struct fs)) (hv : Value.okWide P W .any base t v) (h : DataW.Trod enc P W 0 spare held t v d ps)
 (hs : shp P n t = some storeShs) : ∃ o : AStore, Rep (gh0 (allFz W)) W o.d v := by
 obtain ⟨ds, h1, h2⟩ := arg_struct hu hv h hs
 obtain ⟨o, rfl⟩ := store_rowS h2
 exact ⟨o, h1⟩

end

end Go.Proofs.YtjgpdjakehoofaaGreatDoor



namespace Go.Proofs.YtjgpdjakehoofaaGreatDoor
open Go Go.RowKit
set_option linter.unusedSimpArgs false
set_option linter.unusedVariables false
set_option maxRecDepth 100000


def posL (l : List AStored) (r : ARef) : Nat := (l.filter fun x => refLt x.o.ref r).length

theorem take_pos {l : List AStored} (h : Srt l) (r : ARef) : l.take (posL l r) = l.filter fun x => refLt x.o.ref r := by
 have e := splitS h r
 conv => lhs; rw [e]
 unfold posL
 rw [List.take_left']
 rw [← e]

theorem drop_pos {l : List AStored} (h : Srt l) (r : ARef) : l.drop (posL l r) = (at_ l r).toList ++ l.filter fun x => refLt r x.o.ref := by
 have e := splitS h r
 conv => lhs; rw [e]
 unfold posL
 rw [List.drop_left']
 rw [← e]

theorem pos_le (l : List AStored) (r : ARef) : posL l r ≤ l.length := List.length_filter_le _ _

theorem pos_at {l : List AStored} (h : Srt l) (r : ARef) {k : Nat} {x : AStored} (hx : l[k]? = some x) : refLt x.o.ref r = decide (k < posL l r) := by
 by_cases hk : k < posL l r
 ·rw [decide_eq_true hk]
  have : (l.take (posL l r))[k]? = some x := by rw [List.getElem?_take_of_lt hk]; exact hx
  rw [take_pos h] at this
  exact (List.mem_filter.1 (List.mem_of_getElem? this)).2
 ·rw [decide_eq_false hk]
  have : (l.drop (posL l r))[k - posL l r]? = some x := by
   rw [List.getElem?_drop, show posL l r + (k - posL l r) = k by omega]; exact hx
  rw [drop_pos h] at this
  rcases List.mem_append.1 (List.mem_of_getElem? this) with hm | hm
  ·rw [Option.mem_toList] at hm
   rw [(at_mem hm).2, refLt_self]
  ·exact refLt_asym (List.mem_filter.1 hm).2

theorem pos_some {l : List AStored} (h : Srt l) {r : ARef} {x : AStored} (ha : at_ l r = some x) : l[posL l r]? = some x ∧ posL l r < l.length := by
 have e : (l.drop (posL l r))[0]? = some x := by rw [drop_pos h, ha]; rfl
 rw [List.getElem?_drop, Nat.add_zero] at e
 exact ⟨e, (List.getElem?_eq_some_iff.1 e).1⟩

theorem at_isSome {l : List AStored} {r : ARef} {k : Nat} {x : AStored} (hx : l[k]? = some x) (e : x.o.ref = r) : (at_ l r).isSome = true := by
 unfold at_
 rw [List.find?_isSome]
 exact ⟨x, List.mem_of_getElem? hx, by simpa using e⟩

theorem pos_none {l : List AStored} {r : ARef} (ha : at_ l r = none) {k : Nat} {x : AStored} (hx : l[k]? = some x) : x.o.ref ≠ r := fun e => by
 have := at_isSome hx e
 rw [ha] at this
 cases this

theorem pos_there {l : List AStored} (h : Srt l) (r : ARef) {x : AStored} (hx : l[posL l r]? = some x) : decide (refCmp x.o.ref r = 0) = (at_ l r).isSome := by
 have hz : refCmp x.o.ref r = 0 ↔ x.o.ref = r := by
  unfold refCmp
  by_cases h : x.o.ref = r
  ·simp [h]
  ·rw [if_neg h]
   cases refLt x.o.ref r <;> simp [h]
 cases ha : at_ l r with
 | none => rw [decide_eq_false (fun e => pos_none ha hx (hz.1 e))]; rfl
 | some y =>
   have := (pos_some h ha).1
   rw [hx] at this
   cases this
   rw [decide_eq_true (hz.2 (at_mem ha).2)]; rfl

theorem pos_end {l : List AStored} (h : Srt l) (r : ARef) (hp : ¬ posL l r < l.length) : (at_ l r).isSome = false := by
 cases ha : at_ l r with
 | none => rfl
 | some y => exact absurd (pos_some h ha).2 hp

theorem put_pos {l : List AStored} (h : Srt l) (r : ARef) (new : List AStored) : putL l r new = l.take (posL l r) ++ (new ++ l.drop (posL l r + (at_ l r).toList.length)) := by
 unfold putL
 rw [take_pos h, ← List.drop_drop, drop_pos h, List.drop_left']
 rfl


theorem mem_isNaN_i (x : Int) (w : World) : Calls Tryz.prog 119 #[.int .i64 x] w fun e w' => e = .returned (.bool false) ∧ w' = w := by
 go_enter Tryz.func119, Tryz.ntmps119
 go_wp2
 go_ret
 exact ⟨by simp, rfl⟩

theorem mem_isNaN_s (x : ByteArray) (w : World) : Calls Tryz.prog 120 #[.string x] w fun e w' => e = .returned (.bool false) ∧ w' = w := by
 go_enter Tryz.func120, Tryz.ntmps120
 go_wp2
 go_ret
 exact ⟨by simp, rfl⟩

set_option maxHeartbeats 1000000 in
theorem mem_Compare_i (x y : Int) (w : World) : Calls Tryz.prog 80 #[.int .i64 x, .int .i64 y] w fun e w' => e = .returned (.int .i64 (Lib.compareInt x y)) ∧ w' = w := by
 go_enter Tryz.func80, Tryz.ntmps80
 go_wp2_with (go_at_call 119; refine (mem_isNaN_i _ _).mono ?_; rintro e w' ⟨rfl, hw⟩; rw [hw])
 all_goals (go_ret; refine ⟨?_, rfl⟩; unfold Lib.compareInt; (repeat' split) <;> first | rfl | (exfalso; omega))

set_option maxHeartbeats 1000000 in
theorem mem_Compare_s (x y : ByteArray) (w : World) : Calls Tryz.prog 81 #[.string x, .string y] w fun e w' => e = .returned (.int .i64 (cmpB x y)) ∧ w' = w := by
 have hg : ∀ w : World, Sem.run Tryz.prog (binOp .gtr 9 (.string x) (.string y)) w = .ok (.bool (bl y x)) w := fun w => by
  have := less_total x y
  unfold bl
  simp only [binOp, Op.stringOp, Sem.run_pure, bytes_eq]
  rw [← Bool.not_not (Op.bytesLess y.toList x.toList), ← this]
 go_enter Tryz.func81, Tryz.ntmps81
 go_wp2_with (go_at_call 120; refine (mem_isNaN_s _ _).mono ?_; rintro e w' ⟨rfl, hw⟩; rw [hw])
 all_goals (go_ret; refine ⟨?_, rfl⟩; unfold cmpB; unfold bl at *; simp [*])


theorem cmp_Compare_i (x y : Int) : Pure Tryz.prog 80 [int x, int y] (fun d => d = int (Lib.compareInt x y)) :=
 pure_of_calls (vs := [.int .i64 x, .int .i64 y]) (v := .int .i64 (Lib.compareInt x y)) (fun _ _ _ h => reps_two h) rfl (fun _ _ => by simp only [Rep]; exact .raw _ rfl) (mem_Compare_i x y)
theorem cmp_Compare_s (x y : ByteArray) : Pure Tryz.prog 81 [str x, str y] (fun d => d = int (cmpB x y)) :=
 pure_of_calls (vs := [.string x, .string y]) (v := .int .i64 (cmpB x y)) (fun _ _ _ h => reps_two h) rfl (fun _ _ => by simp only [Rep]; exact .raw _ rfl) (mem_Compare_s x y)

def firstNZ (l : List Int) : Int := (l.find? fun x => !decide (x = 0)).getD 0

theorem cmp_Or (l : List Int) (hl : l.length ≤ 1000) : Pure Tryz.prog 79 [.pd (.slice (ints l))] (fun d => d = int (firstNZ l)) := by
 refine pure_of_run follows an_zeird Tryz.func79 rfl ok_zeird.1 ok_zeird.2 (by simp [Tryz.ntmps79]) ?_
 rw [run_start]
 simp only [ac_zeird, go_sem, contS_seq, simprocAttr, rows_len]
 unfold firstNZ
 generalize hR : (l.find? fun x => !decide (x = 0)) = R
 refine loopS (fun k st => ∃ i : Nat, k = l.length - i ∧ i ≤ l.length ∧ ((l.drop i).find? fun x => !decide (x = 0)) = R ∧
  st = ⟨[(3, int 0), (6, .pd (.slice (ints l))), (7, int l.length), (8, int i)], [], [], .no⟩) l.length _ ?_ ⟨0, rfl, by omega, hR, rfl⟩ ?_
 ·exact lessA
 rintro k st ⟨i, rfl, hi, hF, rfl⟩
 have hw := i64_succ (show i < 1000000000 by omega)
 by_cases hlt : i < l.length
 ·obtain ⟨x, hx⟩ := at_lt hlt
  have h1 : ((i : Int) < (l.length : Int)) = True := eq_true (by omega)
  have hd : l.drop i = x :: l.drop (i + 1) := by obtain ⟨h, e⟩ := List.getElem?_eq_some_iff.1 hx; rw [← e]; exact List.drop_eq_getElem_cons h
  rw [hd] at hF
  by_cases h0 : x = 0
  ·have h0' := eq_true h0
   rw [List.find?_cons_of_neg (by simp [h0])] at hF
   simp only [go_sem, contS_seq, simprocAttr, rows_len, rows_get hx, h1, h0', hw]
   refine ⟨l.length - (i + 1), _, by omega, ?_, i + 1, rfl, by omega, hF, rfl⟩
   exact lessA
  ·have h0' := eq_false h0
   rw [List.find?_cons_of_pos (by simp [h0])] at hF
   simp only [go_sem, contS_seq, simprocAttr, rows_len, rows_get hx, h1, h0']
   simp only [retK, resD, retL, oneD, simprocAttr, Tryz.results79]
   exact ⟨_, rfl, rfl, by rw [← hF]; rfl⟩
 ·have h1 : ((i : Int) < (l.length : Int)) = False := eq_false (by omega)
  rw [List.drop_eq_nil_of_le (by omega)] at hF
  simp only [go_sem, contS_seq, simprocAttr, rows_len, h1]
  simp only [retK, resD, retL, oneD, simprocAttr, Tryz.results79]
  exact ⟨_, rfl, rfl, by rw [← hF]; rfl⟩

theorem first_or (a b : ARef) : firstNZ [Lib.compareInt a.kind b.kind, cmpB a.space b.space, cmpB a.name b.name] = refCmp a b := by
 rw [refCmp_or]
 generalize Lib.compareInt a.kind b.kind = x
 generalize cmpB a.space b.space = y
 generalize cmpB a.name b.name = z
 unfold firstNZ
 by_cases hx : x = 0
 ·by_cases hy : y = 0
  ·by_cases hz : z = 0 <;> simp [hx, hy, hz]
  ·simp [hx, hy]
 ·simp [hx]

set_option maxHeartbeats 2000000 in
theorem object_Order (a b : ARef) : Pure Tryz.prog 39 [a.d, b.d] (fun d => d = int (refCmp a b)) := by
 have cO := cmp_Or [Lib.compareInt a.kind b.kind, cmpB a.space b.space, cmpB a.name b.name] (by simp)
 rw [first_or] at cO
 have c1 := cmp_Compare_i a.kind b.kind
 have c2 := cmp_Compare_s a.space b.space
 have c3 := cmp_Compare_s a.name b.name
 generalize Lib.compareInt a.kind b.kind = x at cO c1
 generalize cmpB a.space b.space = y at cO c2
 generalize cmpB a.name b.name = z at cO c3
 refine pure_of_run follows an_zyyke Tryz.func39 rfl ok_zyyke.1 ok_zyyke.2 (by simp [Tryz.ntmps39]) ?_
 rw [run_start]
 simp only [ac_zyyke, go_sem, contS_seq, simprocAttr]
 refine c1.callX (enters_of Tryz.func80 rfl rfl) _ rfl rfl ?_
 rintro _ rfl
 simp only [go_sem, contS_seq, simprocAttr]
 refine c2.callX (enters_of Tryz.func81 rfl rfl) _ rfl rfl ?_
 rintro _ rfl
 simp only [go_sem, contS_seq, simprocAttr]
 refine c3.callX (enters_of Tryz.func81 rfl rfl) _ rfl rfl ?_
 rintro _ rfl
 simp only [go_sem, contS_seq, simprocAttr]
 refine cO.callX (enters_of Tryz.func79 rfl rfl) _ rfl rfl ?_
 rintro _ rfl
 simp only [go_sem, contS_seq, simprocAttr]
 simp only [retK, resD, retL, oneD, simprocAttr, Tryz.results39]
 exact ⟨_, rfl, rfl, rfl⟩


theorem find_1 (x : AStored) (r : ARef) : Pure Tryz.prog 98 [x.d, r.d] (fun d => d = int (refCmp x.o.ref r)) := by
 refine pure_of_run follows an_zukgz Tryz.func98 rfl ok_zukgz.1 ok_zukgz.2 (by simp [Tryz.ntmps98]) ?_
 rw [run_start]
 simp only [ac_zukgz, go_sem, contS_seq, simprocAttr]
 refine (object_Order x.o.ref r).callW (enters_of Tryz.func39 rfl rfl) _ rfl rfl ?_
 rintro _ rfl
 simp only [go_sem, contS_seq, simprocAttr]
 simp only [retK, resD, retL, oneD, simprocAttr, Tryz.results98]
 exact ⟨_, rfl, rfl, rfl⟩

theorem cmp_neg_lt (a b : ARef) : (refCmp a b < 0) = (refLt a b = true) := by
 unfold refCmp
 by_cases h : a = b
 ·subst h; simp [refLt_self]
 ·rw [if_neg h]
  cases refLt a b <;> simp

theorem u64_half {h : Nat} (hh : h < 1000000) : IntKind.u64.wrap (h : Int) = h := IntWalk.u64_in _ (by omega)

set_option maxHeartbeats 4000000 in
theorem search_Stored (l : List AStored) (hs : Srt l) (hl : l.length ≤ 1000) (r : ARef) :
 Pure Tryz.prog 97 [.pd (.slice (rows AStored.pd l)), r.d, .fn 98 []] (fun d => d = .tup [int (posL l r), bln (at_ l r).isSome]) := by
 refine pure_of_run follows an_zycx4 Tryz.func97 rfl ok_zycx4.1 ok_zycx4.2 (by simp [Tryz.ntmps97]) ?_
 rw [run_start]
 simp only [ac_zycx4, go_sem, contS_seq, simprocAttr, rows_len]
 refine loopS (fun k st => ∃ i j : Nat, k = j - i ∧ i ≤ j ∧ j ≤ l.length ∧ i ≤ posL l r ∧ posL l r ≤ j ∧
  st = ⟨[(0, .pd (.slice (rows AStored.pd l))), (2, .fn 98 []), (4, .ptr 4 0), (8, int l.length), (9, int i), (10, int j)], [(4, [int r.kind, str r.space, str r.name])], [], .no⟩) l.length _ ?_ ⟨0, l.length, by omega, by omega, by omega, by omega, pos_le l r, rfl⟩ ?_
 ·exact lessA
 rintro k st ⟨i, j, rfl, hij, hj, hi, hp, rfl⟩
 by_cases hlt : i < j
 ·have h1 : ((i : Int) < (j : Int)) = True := eq_true (by omega)
  obtain ⟨h, hh⟩ : ∃ h, h = (i + j) / 2 := ⟨_, rfl⟩
  obtain ⟨x, hx⟩ := at_lt (show h < l.length by omega)
  have w1 : IntKind.i64.wrap ((i : Int) + (j : Int)) = ((i + j : Nat) : Int) := IntWalk.i64_in _ (by omega)
  have w2 : IntKind.u64.wrap ((i + j : Nat) : Int) = ((i + j : Nat) : Int) := u64_half (by omega)
  have w3 : ((i + j : Nat) : Int) / 2 = (h : Int) := by omega
  have w4 : IntKind.i64.wrap (h : Int) = (h : Int) := IntWalk.i64_in _ (by omega)
  have w5 := i64_succ (show h < 1000000000 by omega)
  have q1 : ((0 : Int) ≤ ((i + j : Nat) : Int)) = True := eq_true (by omega)
  simp only [go_sem, contS_seq, simprocAttr, go_sem, h1, w1, w2, w3, w4, q1, rows_get hx]
  refine (find_1 x r).callX (enters_of Tryz.func98 rfl rfl) _ rfl rfl ?_
  rintro _ rfl
  have hc := pos_at hs r hx
  by_cases hlp : h < posL l r
  ·have c1 : (refCmp x.o.ref r < 0) = True := eq_true (by rw [cmp_neg_lt, hc]; simpa using hlp)
   simp only [go_sem, contS_seq, simprocAttr, go_sem, c1, w5]
   exact ⟨j - (h + 1), _, by omega, lessA, h + 1, j, rfl, by omega, by omega, by omega, by omega, rfl⟩
  ·have c1 : (refCmp x.o.ref r < 0) = False := eq_false (by rw [cmp_neg_lt, hc]; simpa using hlp)
   simp only [go_sem, contS_seq, simprocAttr, go_sem, c1, w5]
   exact ⟨h - i, _, by omega, lessA, i, h, rfl, by omega, by omega, by omega, by omega, rfl⟩
 ·have h1 : ((i : Int) < (j : Int)) = False := eq_false (by omega)
  obtain rfl : i = posL l r := by omega
  by_cases hlt2 : posL l r < l.length
  ·obtain ⟨x, hx⟩ := at_lt hlt2
   have h2 : ((posL l r : Int) < (l.length : Int)) = True := eq_true (by omega)
   simp only [go_sem, contS_seq, simprocAttr, go_sem, h1, h2, rows_get hx]
   refine (find_1 x r).callX (enters_of Tryz.func98 rfl rfl) _ rfl rfl ?_
   rintro _ rfl
   simp only [go_sem, contS_seq, simprocAttr, go_sem]
   simp only [retK, resD, retL, oneD, simprocAttr, Tryz.results97]
   exact ⟨_, rfl, rfl, by rw [← pos_there hs r hx]; rfl⟩
  ·have h2 : ((posL l r : Int) < (l.length : Int)) = False := eq_false (by omega)
   simp only [go_sem, contS_seq, simprocAttr, go_sem, h1, h2]
   simp only [retK, resD, retL, oneD, simprocAttr, Tryz.results97]
   exact ⟨_, rfl, rfl, by rw [pos_end hs r hlt2]; rfl⟩

theorem store_find (s : AStore) (hs : Srt s.l) (hl : s.l.length ≤ 1000) (r : ARef) : Pure Tryz.prog 49 [s.d, r.d] (fun d => d = .tup [int (posL s.l r), bln (at_ s.l r).isSome]) := by
 refine pure_of_run follows an_zfykq Tryz.func49 rfl ok_zfykq.1 ok_zfykq.2 (by simp [Tryz.ntmps49]) ?_
 rw [run_start]
 simp only [ac_zfykq, go_sem, contS_seq, simprocAttr]
 refine (search_Stored s.l hs hl r).callW (enters_of Tryz.func97 rfl rfl) _ rfl rfl ?_
 rintro _ rfl
 simp only [go_sem, contS_seq, simprocAttr]
 simp only [retK, resD, retL, oneD, simprocAttr, Tryz.results49]
 exact ⟨_, rfl, rfl, rfl⟩


theorem no_head {s : AStore} (h : headOK s = false) : storeMay s = false := by simp [storeMay, h]
theorem no_events {s : AStore} (h : evsOK s.floor s.log = false) : storeMay s = false := by simp [storeMay, h]
theorem no_event {s : AStore} {i : Nat} {e : AEvent} (hx : s.log[i]? = some e) (h : evOK s.floor i e = false) : storeMay s = false := by
 refine no_events ?_
 cases hh : evsOK s.floor s.log with
 | false => rfl
 | true => rw [evsOK_iff.1 hh i e hx] at h; cases h
theorem no_thing {s : AStore} {i : Nat} {x : AStored} (hx : s.l[i]? = some x) (h : stOK s.version x = false) : storeMay s = false := by
 cases hh : storeMay s with
 | false => rfl
 | true => rw [(smay_parts hh).2.2.1 x (List.mem_of_getElem? hx)] at h; cases h
theorem no_order {s : AStore} {i : Nat} {x y : AStored} (hx : s.l[i]? = some x) (hy : s.l[i + 1]? = some y) (h : refLt x.o.ref y.o.ref = false) : storeMay s = false := by
 cases hh : storeMay s with
 | false => rfl
 | true => rw [srt_iff.1 (smay_parts hh).2.2.2 i x y hx hy] at h; cases h
theorem yes_may {s : AStore} (h1 : headOK s = true) (h2 : ∀ (i : Nat) (e : AEvent), s.log[i]? = some e → evOK s.floor i e = true) (h3 : ∀ (i : Nat) (x : AStored), s.l[i]? = some x → stOK s.version x = true)
 (h4 : ∀ (i : Nat) (x y : AStored), s.l[i]? = some x → s.l[i + 1]? = some y → refLt x.o.ref y.o.ref = true) : storeMay s = true := by
 simp only [storeMay, Bool.and_eq_true, List.all_eq_true, decide_eq_true_eq]
 refine ⟨⟨⟨h1, evsOK_iff.2 h2⟩, fun x hx => ?_⟩, srt_iff.2 h4⟩
 obtain ⟨i, hi⟩ := List.getElem?_of_mem hx
 exact h3 i x hi

theorem geq_cmp (a b : ARef) : (0 ≤ refCmp a b) = (refLt a b = false) := by
 unfold refCmp
 by_cases h : a = b
 ·subst h; simp [refLt_self]
 ·rw [if_neg h]
  cases refLt a b <;> simp

def checkE (s : AStore) : Int := if storeMay s = true then 0 else 1

set_option maxHeartbeats 8000000 in
theorem store_Check (s : AStore) (hok : s.ok) : Pure Tryz.prog 14 [s.d] (fun d => d = int (checkE s)) := by
 have hl1 := hok.l
 have hl2 := hok.log
 refine pure_of_run follows an_zzimm Tryz.func14 rfl ok_zzimm.1 ok_zzimm.2 (by simp [Tryz.ntmps14]) ?_
 rw [run_start]
 simp only [ac_zzimm, go_sem, simprocAttr, rows_len]
 cases hh : headOK s
 ·have hn : ¬ (0 ≤ s.version ∧ s.version ≤ 1099511627775 ∧ 0 ≤ s.floor ∧ s.floor ≤ s.version ∧ s.l.length ≤ 40 ∧ s.log.length ≤ 16 ∧ s.floor + s.log.length = s.version) := fun h => by rw [head_iff.2 h] at hh; cases hh
  have hm := no_head hh
  rw [contS_seq]
  by_cases h40 : (40 : Int) < (s.l.length : Int)
  all_goals
   first
    | (have q40 := eq_true h40; simp only [go_sem, simprocAttr, rows_len, q40])
    | (have q40 := eq_false h40; simp only [go_sem, simprocAttr, rows_len, q40])
   repeat' (first | refine GifP.mk (fun _ => ?_) (fun _ => ?_) | refine Gif.mk (fun _ => ?_) (fun _ => ?_))
   all_goals first
    | (simp only [go_sem, contS_seq, simprocAttr, retK, resD, retL, oneD, simprocAttr, Tryz.results14]; exact ⟨_, rfl, rfl, by unfold checkE; rw [hm]; rfl⟩)
    | (exfalso
       have w := IntWalk.i64_in (s.version - s.floor) (by omega)
       omega)
 have hh' := head_iff.1 hh
 have c1 : (s.version < 0) = False := eq_false (by omega)
 have c2 : ((1099511627775 : Int) < s.version) = False := eq_false (by omega)
 have c3 : (s.floor < 0) = False := eq_false (by omega)
 have c4 : (s.version < s.floor) = False := eq_false (by omega)
 have c5 : ((16 : Int) < (s.log.length : Int)) = False := eq_false (by omega)
 have c6 : IntKind.i64.wrap (s.version - s.floor) = (s.log.length : Int) := by rw [IntWalk.i64_in _ (by omega)]; omega
 have c7 : ((40 : Int) < (s.l.length : Int)) = False := eq_false (by omega)
 have c8 : ((s.log.length : Int) = (s.log.length : Int)) = True := eq_self _
 simp only [go_sem, contS_seq, simprocAttr, rows_len, c1, c2, c3, c4, c5, c6, c7]
 refine loopS (fun k st => ∃ i : Nat, k = s.log.length - i ∧ i ≤ s.log.length ∧ (∀ (j : Nat) (e : AEvent), j < i → s.log[j]? = some e → evOK s.floor j e = true) ∧
  st = ⟨[(1, .ptr 1 0), (51, .pd (.slice (rows AEvent.pd s.log))), (52, int s.log.length), (53, int i)], [(1, [int s.version, int s.floor, .pd (.slice (rows AStored.pd s.l)), .pd (.slice (rows AEvent.pd s.log))])], [], .no⟩) s.log.length _ ?_ ⟨0, rfl, by omega, fun j e h => by omega, rfl⟩ ?_
 ·exact lessA
 rintro k st ⟨i, rfl, hi, hev, rfl⟩
 have hw := i64_succ (show i < 1000000000 by omega)
 by_cases hlt : i < s.log.length
 ·obtain ⟨e, he⟩ := at_lt hlt
  have h1 : ((i : Int) < (s.log.length : Int)) = True := eq_true (by omega)
  have w1 : IntKind.i64.wrap (s.floor + 1) = s.floor + 1 := IntWalk.i64_in _ (by omega)
  have w2 : IntKind.i64.wrap (s.floor + 1 + (i : Int)) = s.floor + 1 + (i : Int) := IntWalk.i64_in _ (by omega)
  by_cases hv : e.version = s.floor + 1 + (i : Int)
  ·have hv' := eq_true hv
   simp only [go_sem, contS_seq, simprocAttr, rows_len, h1, rows_get he, w1, w2, hv', hw]
   refine (object_MayRef e.ref).callW (enters_of Tryz.func44 rfl rfl) _ rfl rfl ?_
   rintro _ rfl
   cases hr : mayRef e.ref
   ·simp only [go_sem, contS_seq, simprocAttr]
    simp only [retK, resD, retL, oneD, simprocAttr, Tryz.results14]
    exact ⟨_, rfl, rfl, by unfold checkE; rw [no_event he (by simp [evOK, hr])]; rfl⟩
   ·simp only [go_sem, contS_seq, simprocAttr, hw]
    refine ⟨s.log.length - (i + 1), _, by omega, ?_, i + 1, rfl, by omega, fun j f hj hf => ?_, rfl⟩
    ·exact lessA
    ·by_cases hji : j < i
     ·exact hev j f hji hf
     ·obtain rfl : j = i := by omega
      rw [he] at hf; cases hf
      simp [evOK, hr, hv]
  ·have hv' := eq_false hv
   simp only [go_sem, contS_seq, simprocAttr, rows_len, h1, rows_get he, w1, w2, hv']
   simp only [retK, resD, retL, oneD, simprocAttr, Tryz.results14]
   exact ⟨_, rfl, rfl, by unfold checkE; rw [no_event he (by simp [evOK, hv])]; rfl⟩
 have h1 : ((i : Int) < (s.log.length : Int)) = False := eq_false (by omega)
 have hev' : ∀ (j : Nat) (e : AEvent), s.log[j]? = some e → evOK s.floor j e = true := fun j e he => hev j e (by have := (List.getElem?_eq_some_iff.1 he).1; omega) he
 clear hev hw
 simp only [go_sem, contS_seq, simprocAttr, rows_len, h1]
 clear h1 hlt hi i
 refine loopS (fun k st => ∃ i : Nat, k = s.l.length - i ∧ i ≤ s.l.length ∧ (∀ (j : Nat) (x : AStored), j < i → s.l[j]? = some x → stOK s.version x = true) ∧ (∀ (j : Nat) (x y : AStored), j + 1 < i → s.l[j]? = some x → s.l[j + 1]? = some y → refLt x.o.ref y.o.ref = true) ∧
  st = ⟨[(1, .ptr 1 0), (74, .pd (.slice (rows AStored.pd s.l))), (75, int s.l.length), (76, int i)], [(1, [int s.version, int s.floor, .pd (.slice (rows AStored.pd s.l)), .pd (.slice (rows AEvent.pd s.log))])], [], .no⟩) s.l.length _ ?_ ⟨0, rfl, by omega, fun j e h => by omega, fun j x y h => by omega, rfl⟩ ?_
 ·exact lessA
 rintro k st ⟨i, rfl, hi, hst, hsr, rfl⟩
 have hw := i64_succ (show i < 1000000000 by omega)
 by_cases hlt : i < s.l.length
 ·obtain ⟨x, hx⟩ := at_lt hlt
  have h1 : ((i : Int) < (s.l.length : Int)) = True := eq_true (by omega)
  simp only [go_sem, contS_seq, simprocAttr, go_sem, rows_len, h1, rows_get hx]
  refine (object_May x.o (hok.o x (List.mem_of_getElem? hx)).1).callX (enters_of Tryz.func42 rfl rfl) _ rfl rfl ?_
  rintro _ rfl
  cases hom : objMay x.o
  ·simp only [go_sem, contS_seq, simprocAttr, go_sem, rows_len]
   simp only [retK, resD, retL, oneD, simprocAttr, Tryz.results14]
   exact ⟨_, rfl, rfl, by unfold checkE; rw [no_thing hx (by simp [stOK, hom])]; rfl⟩
  by_cases hn : 1 ≤ x.born ∧ x.born ≤ x.version ∧ x.version ≤ s.version ∧ 1 ≤ x.gen ∧ x.gen ≤ x.version - x.born + 1 ∧ x.conds.length ≤ 40
  case neg =>
   have hm := no_thing hx (by
    cases h : stOK s.version x with
    | false => rfl
    | true => exact absurd (stOK_iff.1 h).2 hn)
   simp only [go_sem, contS_seq, simprocAttr, go_sem, rows_len]
   repeat' (first | refine GifP.mk (fun _ => ?_) (fun _ => ?_) | refine Gif.mk (fun _ => ?_) (fun _ => ?_))
   all_goals first
    | (simp only [retK, resD, retL, oneD, simprocAttr, Tryz.results14]; exact ⟨_, rfl, rfl, by unfold checkE; rw [hm]; rfl⟩)
    | (exfalso
       have w := IntWalk.i64_in (x.version - x.born) (by omega)
       have w' := IntWalk.i64_in (x.version - x.born + 1) (by omega)
       simp only [w, w'] at *
       omega)
  have d1 : (x.born < 1) = False := eq_false (by omega)
  have d2 : (x.version < x.born) = False := eq_false (by omega)
  have d3 : (s.version < x.version) = False := eq_false (by omega)
  have d4 : (x.gen < 1) = False := eq_false (by omega)
  have d5 : IntKind.i64.wrap (x.version - x.born) = x.version - x.born := IntWalk.i64_in _ (by omega)
  have d6 : IntKind.i64.wrap (x.version - x.born + 1) = x.version - x.born + 1 := IntWalk.i64_in _ (by omega)
  have d7 : (x.version - x.born + 1 < x.gen) = False := eq_false (by omega)
  have d8 : ((40 : Int) < (x.conds.length : Int)) = False := eq_false (by omega)
  have hsx : stOK s.version x = true := stOK_iff.2 ⟨hom, hn⟩
  cases i with
  | zero =>
    have z0 : ((0 : Int) < ((0 : Nat) : Int)) = False := eq_false (by omega)
    have z3 : IntKind.i64.wrap 1 = 1 := by decide
    simp only [go_sem, contS_seq, simprocAttr, go_sem, rows_len, d1, d2, d3, d4, d5, d6, d7, d8, z0, hw, z3]
    refine ⟨s.l.length - (0 + 1), _, by omega, ?_, 0 + 1, rfl, by omega, fun j y hj hy => ?_, fun j y z hj => by omega, rfl⟩
    ·exact lessA
    ·obtain rfl : j = 0 := by omega
     rw [hx] at hy; cases hy; exact hsx
  | succ i =>
    obtain ⟨y, hy⟩ := at_lt (show i < s.l.length by omega)
    have z0 : ((0 : Int) < ((i + 1 : Nat) : Int)) = True := eq_true (by omega)
    have z1 : IntKind.i64.wrap (((i + 1 : Nat) : Int) - 1) = (i : Int) := by rw [IntWalk.i64_in _ (by omega)]; omega
    simp only [go_sem, contS_seq, simprocAttr, go_sem, rows_len, d1, d2, d3, d4, d5, d6, d7, d8, z0, z1, rows_get hy]
    refine (object_Order y.o.ref x.o.ref).callX (enters_of Tryz.func39 rfl rfl) _ rfl rfl ?_
    rintro _ rfl
    cases hc : refLt y.o.ref x.o.ref
    ·have z2 : (0 ≤ refCmp y.o.ref x.o.ref) = True := by rw [geq_cmp]; exact eq_true hc
     simp only [go_sem, contS_seq, simprocAttr, go_sem, z2]
     simp only [retK, resD, retL, oneD, simprocAttr, Tryz.results14]
     exact ⟨_, rfl, rfl, by unfold checkE; rw [no_order hy hx hc]; rfl⟩
    ·have z2 : (0 ≤ refCmp y.o.ref x.o.ref) = False := by rw [geq_cmp]; exact eq_false (by simp [hc])
     simp only [go_sem, contS_seq, simprocAttr, go_sem, z2, hw]
     refine ⟨s.l.length - (i + 1 + 1), _, by omega, ?_, i + 1 + 1, rfl, by omega, fun j z hj hz => ?_, fun j z z' hj hz hz' => ?_, rfl⟩
     ·exact lessA
     ·by_cases hji : j < i + 1
      ·exact hst j z hji hz
      ·obtain rfl : j = i + 1 := by omega
       rw [hx] at hz; cases hz; exact hsx
     ·by_cases hji : j + 1 < i + 1
      ·exact hsr j z z' hji hz hz'
      ·obtain rfl : j = i := by omega
       rw [hy] at hz; rw [hx] at hz'
       cases hz; cases hz'; exact hc
 have h1 : ((i : Int) < (s.l.length : Int)) = False := eq_false (by omega)
 have hm : storeMay s = true := yes_may hh hev' (fun j x hx => hst j x (by have := (List.getElem?_eq_some_iff.1 hx).1; omega) hx) (fun j x y hx hy => hsr j x y (by have := (List.getElem?_eq_some_iff.1 hy).1; omega) hx hy)
 simp only [go_sem, contS_seq, simprocAttr, rows_len, h1]
 simp only [retK, resD, retL, oneD, simprocAttr, Tryz.results14]
 exact ⟨_, rfl, rfl, by unfold checkE; rw [hm]; rfl⟩


theorem eqf_dec {α : Type} [DecidableEq α] {q : α → α → Bool} (h : ∀ x y, q x y = decide (x = y)) : ∀ l m : List α, eqf q l m = decide (l = m)
 | [], [] => rfl
 | [], _ :: _ => rfl
 | _ :: _, [] => rfl
 | x :: l, y :: m => by
   simp only [eqf, h, eqf_dec h l m]
   rw [Bool.eq_iff_iff]
   simp

theorem needSame_dec (a b : ANeed) : needSame a b = decide (a = b) := by
 cases a; cases b
 rw [Bool.eq_iff_iff]
 simp [needSame, and_assoc]

theorem listenerSame_dec (a b : AListener) : listenerSame a b = decide (a = b) := by
 simp only [listenerSame, eqf_dec needSame_dec]
 cases a; cases b
 rw [Bool.eq_iff_iff]
 simp [and_assoc]

theorem matchSame_dec (a b : AMatch) : matchSame a b = decide (a = b) := by
 cases a; cases b
 rw [Bool.eq_iff_iff]
 simp [matchSame, and_assoc]

theorem ruleSame_dec (a b : ARule) : ruleSame a b = decide (a = b) := by
 simp only [ruleSame, eqf_dec matchSame_dec]
 cases a; cases b
 rw [Bool.eq_iff_iff]
 simp [and_assoc]

theorem objSame_iff (a b : AObj) : objSame a b = true ↔ a = b := by
 simp only [objSame, eqf_dec listenerSame_dec, eqf_dec ruleSame_dec]
 cases a; cases b
 simp [and_assoc]
 intro _ _
 constructor
 ·rintro ⟨h1, h2, h3, h4, h5, h6, h7, h8, h9⟩
  exact ⟨h2, h3, h1, h8, h5, h4, h9, h6, h7⟩
 ·rintro ⟨h2, h3, h1, h8, h5, h4, h9, h6, h7⟩
  exact ⟨h1, h2, h3, h4, h5, h6, h7, h8, h9⟩

def AObj.keep (o : AObj) : AObj :=
 if o.ref.kind = 1 ∨ o.ref.kind = 4 then { AObj.zero o.ref with good := o.good }
 else if o.ref.kind = 2 then { AObj.zero o.ref with labels := o.labels }
 else if o.ref.kind = 3 then { AObj.zero o.ref with ports := o.ports }
 else if o.ref.kind = 5 then { AObj.zero o.ref with listeners := o.listeners, cls := o.cls }
 else if o.ref.kind = 6 then { AObj.zero o.ref with parents := o.parents, hosts := o.hosts, rules := o.rules }
 else { AObj.zero o.ref with from_ := o.from_, to_ := o.to_ }


theorem PureW.writeW {P : Program} {f : FuncId} {args : List D} {st : St} {R : D → Prop} (h : PureW P f args st R) {K : D → St → Prop} (hk : ∀ d, R d → K d st) : WriteW P f args st none K :=
 ⟨h.1, fun C g a w vs hc hs hr => (h.2 C g a w vs hc hs hr).mono fun _ _ ⟨v, d, g', e, h1, h2, h3, h4⟩ => ⟨v, d, st, g', e, hk d h1, h2, h3, h4⟩⟩

abbrev AStored.ds (x : AStored) : List D := [int x.o.ref.kind, str x.o.ref.space, str x.o.ref.name, bln x.o.good, .pd (.slice (rows APair.pd x.o.labels)), .pd (.slice (ints x.o.ports)), str x.o.cls, .pd (.slice (rows AListener.pd x.o.listeners)),
 .pd (.slice (rows AParent.pd x.o.parents)), .pd (.slice (strs x.o.hosts)), .pd (.slice (rows ARule.pd x.o.rules)), .pd (.slice (rows ASide.pd x.o.from_)), .pd (.slice (rows ASide.pd x.o.to_)), int x.version, int x.gen, int x.born, .pd (.slice (rows ACond.pd x.conds))]

theorem Clone_Event (l : List AEvent) (hl : l.length ≤ 1000) : Full Tryz.prog 45 [.pd (.slice (rows AEvent.pd l))] [] true
 (fun d bs => (d = .own 78 4 (rows AEvent.pd l) 7 ∨ (l = [] ∧ d = .nils)) ∧ bs = []) := by
 refine full_of_run follows an_zloyn Tryz.func45 rfl ok_zloyn.1 ok_zloyn.2 (by simp [Tryz.ntmps45]) (by simp [Tryz.ntmps45]) (.inl rfl) ?_
 rw [run_start]
 cases l with
 | nil =>
   simp only [ac_zloyn, go_sem, contS_seq, simprocAttr]
   refine ⟨?_, by simp, ?_⟩
   ·simp only [retK, fullK, resD, retL, oneD, simprocAttr, Tryz.results45]
    exact ⟨_, _, rfl, by simp [lessL], .inr (by simp), rfl⟩
   ·simp only [retK, fullK, resD, retL, oneD, simprocAttr, Tryz.results45]
    exact ⟨_, _, rfl, by simp [lessL], .inl rfl, rfl⟩
 | cons x r =>
   simp only [ac_zloyn, go_sem, contS_seq, simprocAttr, List.map_cons]
   refine ⟨rows_row (f := AEvent.pd) (n := 4) (fun _ => rfl) (x :: r), ?_, ?_, ?_⟩
   ·simp only [List.length_cons, List.length_map, maxLen] at hl ⊢; omega
   ·simp only [List.length_cons, List.length_map] at hl ⊢; omega
   ·simp only [retK, fullK, resD, retL, oneD, simprocAttr, Tryz.results45]
    exact ⟨_, _, rfl, by simp [lessL], .inl rfl, rfl⟩

theorem Create_1 (o : AObj) (n : Int) : PureB Tryz.prog 61 [int n, .ptr 1000001 0] [(1000001, o.ds)] (fun d => d = .pd (.slice [AStored.pd ⟨o, n, 1, n, []⟩])) := by
 refine pureB_of_run follows an_zw36y Tryz.func61 rfl ok_zw36y.1 ok_zw36y.2 (by simp [Tryz.ntmps61]) ?_
 rw [run_start]
 simp only [ac_zw36y, go_sem, contS_seq, simprocAttr]
 simp only [retK, resD, retL, oneD, simprocAttr, Tryz.results61]
 exact ⟨_, rfl, rfl, rfl⟩

theorem Delete_1 (n : Int) : Pure Tryz.prog 63 [int n] (fun d => d = .pd (.slice [])) := by
 refine pure_of_run follows an_z1kzf Tryz.func63 rfl ok_z1kzf.1 ok_z1kzf.2 (by simp [Tryz.ntmps63]) ?_
 rw [run_start]
 simp only [ac_z1kzf, go_sem, contS_seq, simprocAttr]
 simp only [retK, resD, retL, oneD, simprocAttr, Tryz.results63]
 exact ⟨_, rfl, rfl, rfl⟩

theorem again_1 (x : AStored) (n : Int) : Full Tryz.prog 118 [int n, .ptr 500001 0] [(500001, x.ds)] true (fun d bs => d = .own 50 17 [AStored.pd { x with version := n }] 7 ∧ bs = []) := by
 refine full_of_run follows an_zuqxh Tryz.func118 rfl ok_zuqxh.1 ok_zuqxh.2 (by simp [Tryz.ntmps118]) (by simp [Tryz.ntmps118]) (.inl rfl) ?_
 rw [run_start]
 simp only [ac_zuqxh, go_sem, contS_seq, simprocAttr]
 simp only [retK, fullK, resD, retL, oneD, simprocAttr, Tryz.results118]
 exact ⟨_, _, rfl, by simp [lessL], rfl, rfl⟩

def changeAt (s : AStore) (r : ARef) (k out : Nat) (new : List AStored) : AStore × Int :=
 if s.version = 1099511627775 then (s, 5) else
 if 16 < (logL s r).length then (⟨s.version + 1, ((logL s r).head?.map (·.version)).getD 0, s.l.take k ++ (new ++ s.l.drop (k + out)), (logL s r).drop 1⟩, 0)
 else (⟨s.version + 1, s.floor, s.l.take k ++ (new ++ s.l.drop (k + out)), logL s r⟩, 0)

theorem changeAt_eq {s : AStore} (h : Srt s.l) (r : ARef) (new : List AStored) : changeAt s r (posL s.l r) (at_ s.l r).toList.length new = change s r new := by
 unfold changeAt change
 rw [put_pos h]


set_option maxHeartbeats 2000000 in
theorem store_Get (s : AStore) (r : ARef) (hok : s.ok) : Pure Tryz.prog 19 [s.d, r.d] (fun d => d = .tup [(getS s r).1.d, int (getS s r).2]) := by
 have hl := hok.l
 refine pure_of_run follows an_z4y8p Tryz.func19 rfl ok_z4y8p.1 ok_z4y8p.2 (by simp [Tryz.ntmps19]) ?_
 rw [run_start]
 simp only [ac_z4y8p, go_sem, contS_seq, simprocAttr]
 refine (store_Check s hok).callW (enters_of Tryz.func14 rfl rfl) _ rfl rfl ?_
 rintro _ rfl
 unfold checkE getS
 cases hm : storeMay s
 ·simp only [go_sem, contS_seq, simprocAttr]
  simp only [retK, resD, resA, AOp.ex, St.ev, retL, oneD, simprocAttr, ret_z4y8p]
  exact ⟨_, rfl, rfl, rfl⟩
 have hs := (smay_parts hm).2.2.2
 simp only [go_sem, contS_seq, simprocAttr]
 refine (store_find s hs (by omega) r).callW (enters_of Tryz.func49 rfl rfl) _ rfl rfl ?_
 rintro _ rfl
 cases ha : at_ s.l r with
 | none =>
   simp only [go_sem, contS_seq, simprocAttr]
   simp only [retK, resD, resA, AOp.ex, St.ev, retL, oneD, simprocAttr, ret_z4y8p]
   exact ⟨_, rfl, rfl, rfl⟩
 | some x =>
   have hx := (pos_some hs ha).1
   simp only [go_sem, contS_seq, simprocAttr, rows_get hx]
   simp only [retK, resD, resA, AOp.ex, St.ev, retL, oneD, simprocAttr, ret_z4y8p]
   exact ⟨_, rfl, rfl, rfl⟩

set_option maxHeartbeats 2000000 in
theorem store_Objects (s : AStore) (hl : s.l.length ≤ 100) : Pure Tryz.prog 26 [s.d] (fun d => d = .pd (.slice (rows AObj.pd (objects s)))) := by
 refine pure_of_run follows an_zqdmw Tryz.func26 rfl ok_zqdmw.1 ok_zqdmw.2 (by simp [Tryz.ntmps26]) ?_
 rw [run_start]
 simp only [ac_zqdmw, go_sem, contS_seq, simprocAttr, rows_len]
 refine loopS (fun k st => ∃ i : Nat, k = s.l.length - i ∧ i ≤ s.l.length ∧
  st = ⟨[(3, .own 47 13 (rows AObj.pd ((s.l.take i).map (·.o))) 17), (7, .pd (.slice (rows AStored.pd s.l))), (8, int s.l.length), (9, int i)], [], [], .no⟩) s.l.length _ ?_ ⟨0, rfl, by omega, rfl⟩ ?_
 ·exact Weak.own1 3 17 47 13 (by kernel_rfl) (by decide) rfl (by simp [lessL, lk, St.purge, St.put, D.purge, rows]) (by simp [lessL, lk, St.purge, D.purges, D.purge]) (by simp [lessL]) rfl
 rintro k st ⟨i, rfl, hi, rfl⟩
 have hw := i64_succ (show i < 1000000000 by omega)
 by_cases hlt : i < s.l.length
 ·obtain ⟨x, hx⟩ := at_lt hlt
  have h1 : ((i : Int) < (s.l.length : Int)) = True := eq_true (by omega)
  have hL : ((s.l.take i).map (·.o)).length = i := by simp; omega
  have hT : (s.l.take (i + 1)).map (·.o) = (s.l.take i).map (·.o) ++ [x.o] := by rw [take_at hx]; simp
  generalize (s.l.take i).map (·.o) = L at hL hT
  simp only [go_sem, contS_seq, simprocAttr, rows_len, rows_get hx, h1, hw]
  refine ⟨by simp, by unfold maxLen; omega, by omega, s.l.length - (i + 1), _, by omega, ?_, i + 1, rfl, by omega, rfl⟩
  rw [hT, ← rows_one L x.o]
  exact lessA
 ·have h1 : ((i : Int) < (s.l.length : Int)) = False := eq_false (by omega)
  simp only [go_sem, contS_seq, simprocAttr, rows_len, h1]
  simp only [retK, resD, retL, oneD, simprocAttr, Tryz.results26]
  exact ⟨_, rfl, rfl, by unfold objects; rw [List.take_of_length_le (by omega)]; rfl⟩

theorem objSame_dec (a b : AObj) : objSame a b = decide (a = b) := by
 rw [Bool.eq_iff_iff, objSame_iff, decide_eq_true_eq]


theorem take_len {k : Nat} {l : List AStored} (hk : k ≤ l.length) : ((rows AStored.pd l).take k).length = k := by simp [hk]
theorem rows_cat (l : List AStored) (k m : Nat) (new : List AStored) : (rows AStored.pd l).take k ++ rows AStored.pd new ++ (rows AStored.pd l).drop m = rows AStored.pd (l.take k ++ (new ++ l.drop m)) := by
 simp [rows]
theorem rows_cat0 (l : List AStored) (k m : Nat) (new : List AStored) (h : (rows AStored.pd l).drop m = []) : (rows AStored.pd l).take k ++ rows AStored.pd new = rows AStored.pd (l.take k ++ (new ++ l.drop m)) := by
 rw [← rows_cat, h, List.append_nil]
theorem stored_row (l : List AStored) : ∀ r ∈ rows AStored.pd l, r.length = 17 := rows_row (f := AStored.pd) (n := 17) (fun _ => rfl) l
theorem event_row (l : List AEvent) : ∀ r ∈ rows AEvent.pd l, r.length = 4 := rows_row (f := AEvent.pd) (n := 4) (fun _ => rfl) l
theorem take_row (l : List AStored) (k : Nat) : ∀ r ∈ (rows AStored.pd l).take k, r.length = 17 := fun r hr => stored_row l r (List.mem_of_mem_take hr)
theorem drop_row (l : List AStored) (k : Nat) : ∀ r ∈ (rows AStored.pd l).drop k, r.length = 17 := fun r hr => stored_row l r (List.mem_of_mem_drop hr)
theorem ok17 {l : List (List PD)} (h : ∀ r ∈ l, r.length = 17) : rowsOK 17 l = True := eq_true h

set_option maxHeartbeats 8000000 in
theorem change_Create (s : AStore) (r : ARef) (o : AObj) (k : Nat) (hv : 0 ≤ s.version ∧ s.version ≤ 1099511627775) (hk : k ≤ s.l.length) (hk2 : k + 0 ≤ s.l.length) (hl : s.l.length ≤ 100) (hg : s.log.length ≤ 100) :
 PureB Tryz.prog 60 [s.d, r.d, int k, int 0, .fn 61 [(1000001, 0)]] [(1000001, o.ds)] (fun d => d = .tup [(changeAt s r k 0 [⟨o, s.version + 1, 1, s.version + 1, []⟩]).1.d, int (changeAt s r k 0 [⟨o, s.version + 1, 1, s.version + 1, []⟩]).2]) := by
 refine pureB_of_run follows an_z3ut2 Tryz.func60 rfl ok_z3ut2.1 ok_z3ut2.2 (by simp [Tryz.ntmps60]) ?_
 rw [run_start]
 by_cases h5 : s.version = 1099511627775
 ·have h5' := eq_true h5
  simp only [ac_z3ut2, go_sem, contS_seq, simprocAttr, h5']
  simp only [retK, resD, resA, AOp.ex, St.ev, retL, oneD, simprocAttr, ret_z3ut2]
  have h5c : changeAt s r k 0 [⟨o, s.version + 1, 1, s.version + 1, []⟩] = (s, 5) := by unfold changeAt; rw [if_pos h5]
  exact ⟨_, rfl, rfl, by rw [h5c]; rfl⟩
 have h5' := eq_false h5
 have w1 : IntKind.i64.wrap (s.version + 1) = s.version + 1 := IntWalk.i64_in _ (by omega)
 have w2 : IntKind.i64.wrap ((k : Int) + 0) = ((k + 0 : Nat) : Int) := by rw [IntWalk.i64_in _ (by omega)]; omega
 have q1 : (k ≤ s.l.length) = True := eq_true hk
 have q1' : (k + 0 ≤ s.l.length) = True := eq_true hk2
 have q2 := ok17 (stored_row s.l)
 have q4 : (rows AStored.pd s.l).take s.l.length = rows AStored.pd s.l := List.take_of_length_le (by rw [rows_len]; omega)
 simp only [ac_z3ut2, go_sem, contS_seq, simprocAttr, h5', w1, q1, q2, rows_len]
 refine ⟨none, PureW.writeW ((Create_1 o (s.version + 1)).pureW (enters_of Tryz.func61 rfl rfl) _ [(1000001, 1000001)] rfl rfl rfl) ?_⟩
 rintro _ rfl
 simp only [go_sem, simprocAttr, take_len hk]
 refine ⟨by simp, by unfold maxLen; omega, by omega, ?_⟩
 obtain ⟨E, hE⟩ : ∃ E, E = (rows AStored.pd s.l).take k ++ rows AStored.pd [⟨o, s.version + 1, 1, s.version + 1, []⟩] := ⟨_, rfl⟩
 have eL : E.length = k + ([⟨o, s.version + 1, 1, s.version + 1, []⟩] : List AStored).length := by rw [hE, List.length_append, take_len hk, rows_len]
 have eR : ∀ q ∈ E, q.length = 17 := fun q hq => by
  rw [hE] at hq
  rcases List.mem_append.1 hq with h | h
  ·exact take_row _ _ q h
  ·exact stored_row _ q h
 obtain ⟨X, hX⟩ : ∃ X, X = s.l.take k ++ ([⟨o, s.version + 1, 1, s.version + 1, []⟩] ++ s.l.drop (k + 0)) := ⟨_, rfl⟩
 have eX : E ++ (rows AStored.pd s.l).drop (k + 0) = rows AStored.pd X := by rw [hE, hX]; exact rows_cat _ _ _ _
 have eX0 : (rows AStored.pd s.l).drop (k + 0) = [] → E = rows AStored.pd X := fun h => by rw [hE, hX]; exact rows_cat0 _ _ _ _ h
 rw [show (rows AStored.pd s.l).take k ++ [AStored.pd ⟨o, s.version + 1, 1, s.version + 1, []⟩] = E from hE.symm]
 have q3 := ok17 eR
 have eLn : E.length ≤ 101 := by rw [eL]; simp only [List.length_cons, List.length_nil]; omega
 have q5 : E.take E.length = E := List.take_of_length_le (Nat.le_refl _)
 clear hE eL
 rw [contS_seq]
 simp only [go_sem, simprocAttr, w2, q1', q2, q3, q4, q5, rows_len]
 refine ⟨drop_row _ _, ?_, ?_, fun hd => ?_, fun hd => ?_⟩
 ·simp only [List.length_drop, rows_len, maxLen]; omega
 ·simp only [List.length_drop, rows_len]; omega
 all_goals
  first
   | rw [eX0 hd]
   | rw [eX]
  obtain ⟨e0, rest, hL⟩ : ∃ e0 rest, logL s r = e0 :: rest := by
   unfold logL
   cases s.log with
   | nil => exact ⟨_, _, rfl⟩
   | cons x y => exact ⟨_, _, rfl⟩
  have hR : rows AEvent.pd s.log ++ [[PD.raw (Value.int IntKind.i64 (s.version + 1)), PD.raw (Value.int IntKind.i64 r.kind), PD.raw (Value.string r.space), PD.raw (Value.string r.name)]] = rows AEvent.pd (e0 :: rest) := by
   rw [← hL]; exact rows_one s.log ⟨s.version + 1, r⟩
  have hR0 : s.log = [] → [[PD.raw (Value.int IntKind.i64 (s.version + 1)), PD.raw (Value.int IntKind.i64 r.kind), PD.raw (Value.string r.space), PD.raw (Value.string r.name)]] = rows AEvent.pd (e0 :: rest) := fun h => by
   rw [← hR, h]; rfl
  have hLl : rest.length + 1 ≤ 101 := by
   have := congrArg List.length hL
   simp only [logL, List.length_append, List.length_cons, List.length_nil] at this
   omega
  have hC : changeAt s r k 0 [⟨o, s.version + 1, 1, s.version + 1, []⟩] = if 16 < rest.length + 1 then (⟨s.version + 1, e0.version, X, rest⟩, 0) else (⟨s.version + 1, s.floor, X, e0 :: rest⟩, 0) := by
   unfold changeAt
   rw [if_neg h5, ← hX, hL]
   rfl
  have r4 : rowsOK 4 (e0.pd :: rows AEvent.pd rest) = True := eq_true (event_row (e0 :: rest))
  have r5 : (rows AEvent.pd rest).take rest.length = rows AEvent.pd rest := List.take_of_length_le (by rw [rows_len]; omega)
  have r6 : (1 ≤ rest.length + 1) = True := eq_true (by omega)
  have r7 : e0.pd.length = 4 := rfl
  rw [contS_seq]
  simp only [go_sem, simprocAttr, rows_len]
  refine ⟨⟨none, (Clone_Event s.log (by omega)).writeW (enters_of Tryz.func45 rfl rfl) _ true [] [] [(7, 52)] none (by simp [wrN]) rfl rfl rfl ?_⟩, none, (Clone_Event s.log (by omega)).writeW (enters_of Tryz.func45 rfl rfl) _ true [] [] [(7, 52)] none (by simp [wrN]) rfl rfl rfl ?_⟩
  all_goals
   rintro d bs ⟨rfl | ⟨hnil, rfl⟩, rfl⟩
   all_goals
    simp only [go_sem, simprocAttr, rows_len]
    first
     | with_reducible refine ⟨by simp, by unfold maxLen; omega, by omega, ?_⟩
     | with_reducible refine ⟨by simp, by unfold maxLen; omega, ?_⟩
     | with_reducible refine ⟨by simp, ?_⟩
    first
     | rw [hR]
     | rw [hR0 hnil]
    rw [contS_seq]
    by_cases h16 : (16 : Int) < ((rest.length + 1 : Nat) : Int)
    ·have q16 := eq_true h16
     rw [if_pos (by omega)] at hC
     simp only [go_sem, contS_seq, simprocAttr, rows_len, List.map_cons, q16, r4, r5, r6, r7]
     simp only [retK, resD, resA, AOp.ex, St.ev, retL, oneD, simprocAttr, ret_z3ut2]
     exact ⟨_, rfl, rfl, by rw [hC]; rfl⟩
    ·have q16 := eq_false h16
     rw [if_neg (by omega)] at hC
     simp only [go_sem, contS_seq, simprocAttr, rows_len, List.map_cons, q16]
     simp only [retK, resD, resA, AOp.ex, St.ev, retL, oneD, simprocAttr, ret_z3ut2]
     exact ⟨_, rfl, rfl, by rw [hC]; rfl⟩


set_option maxHeartbeats 8000000 in
theorem change_Delete (s : AStore) (r : ARef)  (k : Nat) (hv : 0 ≤ s.version ∧ s.version ≤ 1099511627775) (hk : k ≤ s.l.length) (hk2 : k + 1 ≤ s.l.length) (hl : s.l.length ≤ 100) (hg : s.log.length ≤ 100) :
 Pure Tryz.prog 60 [s.d, r.d, int k, int 1, .fn 63 []]  (fun d => d = .tup [(changeAt s r k 1 []).1.d, int (changeAt s r k 1 []).2]) := by
 refine pure_of_run follows an_z3ut2 Tryz.func60 rfl ok_z3ut2.1 ok_z3ut2.2 (by simp [Tryz.ntmps60]) ?_
 rw [run_start]
 by_cases h5 : s.version = 1099511627775
 ·have h5' := eq_true h5
  simp only [ac_z3ut2, go_sem, contS_seq, simprocAttr, h5']
  simp only [retK, resD, resA, AOp.ex, St.ev, retL, oneD, simprocAttr, ret_z3ut2]
  have h5c : changeAt s r k 1 [] = (s, 5) := by unfold changeAt; rw [if_pos h5]
  exact ⟨_, rfl, rfl, by rw [h5c]; rfl⟩
 have h5' := eq_false h5
 have w1 : IntKind.i64.wrap (s.version + 1) = s.version + 1 := IntWalk.i64_in _ (by omega)
 have w2 : IntKind.i64.wrap ((k : Int) + 1) = ((k + 1 : Nat) : Int) := by rw [IntWalk.i64_in _ (by omega)]; omega
 have q1 : (k ≤ s.l.length) = True := eq_true hk
 have q1' : (k + 1 ≤ s.l.length) = True := eq_true hk2
 have q2 := ok17 (stored_row s.l)
 have q4 : (rows AStored.pd s.l).take s.l.length = rows AStored.pd s.l := List.take_of_length_le (by rw [rows_len]; omega)
 simp only [ac_z3ut2, go_sem, contS_seq, simprocAttr, h5', w1, q1, q2, rows_len]
 refine ⟨none, PureW.writeW ((Delete_1 (s.version + 1)).pureW (enters_of Tryz.func63 rfl rfl) _ rfl rfl) ?_⟩
 rintro _ rfl
 simp only [go_sem, simprocAttr, take_len hk]
 with_reducible refine ⟨by simp, by unfold maxLen; omega, by omega, ?_⟩
 obtain ⟨E, hE⟩ : ∃ E, E = (rows AStored.pd s.l).take k ++ rows AStored.pd [] := ⟨_, rfl⟩
 have eL : E.length = k + ([] : List AStored).length := by rw [hE, List.length_append, take_len hk, rows_len]
 have eR : ∀ q ∈ E, q.length = 17 := fun q hq => by
  rw [hE] at hq
  rcases List.mem_append.1 hq with h | h
  ·exact take_row _ _ q h
  ·exact stored_row _ q h
 obtain ⟨X, hX⟩ : ∃ X, X = s.l.take k ++ ([] ++ s.l.drop (k + 1)) := ⟨_, rfl⟩
 have eX : E ++ (rows AStored.pd s.l).drop (k + 1) = rows AStored.pd X := by rw [hE, hX]; exact rows_cat _ _ _ _
 have eX0 : (rows AStored.pd s.l).drop (k + 1) = [] → E = rows AStored.pd X := fun h => by rw [hE, hX]; exact rows_cat0 _ _ _ _ h
 rw [show (rows AStored.pd s.l).take k = E by rw [hE]; simp]
 have q3 := ok17 eR
 have eLn : E.length ≤ 101 := by rw [eL]; simp only [List.length_cons, List.length_nil]; omega
 have q5 : E.take E.length = E := List.take_of_length_le (Nat.le_refl _)
 clear hE eL
 rw [contS_seq]
 simp only [go_sem, simprocAttr, w2, q1', q2, q3, q4, q5, rows_len]
 refine ⟨drop_row _ _, ?_, ?_, fun hd => ?_, fun hd => ?_⟩
 ·simp only [List.length_drop, rows_len, maxLen]; omega
 ·simp only [List.length_drop, rows_len]; omega
 all_goals
  first
   | rw [eX0 hd]
   | rw [eX]
  obtain ⟨e0, rest, hL⟩ : ∃ e0 rest, logL s r = e0 :: rest := by
   unfold logL
   cases s.log with
   | nil => exact ⟨_, _, rfl⟩
   | cons x y => exact ⟨_, _, rfl⟩
  have hR : rows AEvent.pd s.log ++ [[PD.raw (Value.int IntKind.i64 (s.version + 1)), PD.raw (Value.int IntKind.i64 r.kind), PD.raw (Value.string r.space), PD.raw (Value.string r.name)]] = rows AEvent.pd (e0 :: rest) := by
   rw [← hL]; exact rows_one s.log ⟨s.version + 1, r⟩
  have hR0 : s.log = [] → [[PD.raw (Value.int IntKind.i64 (s.version + 1)), PD.raw (Value.int IntKind.i64 r.kind), PD.raw (Value.string r.space), PD.raw (Value.string r.name)]] = rows AEvent.pd (e0 :: rest) := fun h => by
   rw [← hR, h]; rfl
  have hLl : rest.length + 1 ≤ 101 := by
   have := congrArg List.length hL
   simp only [logL, List.length_append, List.length_cons, List.length_nil] at this
   omega
  have hC : changeAt s r k 1 [] = if 16 < rest.length + 1 then (⟨s.version + 1, e0.version, X, rest⟩, 0) else (⟨s.version + 1, s.floor, X, e0 :: rest⟩, 0) := by
   unfold changeAt
   rw [if_neg h5, ← hX, hL]
   rfl
  have r4 : rowsOK 4 (e0.pd :: rows AEvent.pd rest) = True := eq_true (event_row (e0 :: rest))
  have r5 : (rows AEvent.pd rest).take rest.length = rows AEvent.pd rest := List.take_of_length_le (by rw [rows_len]; omega)
  have r6 : (1 ≤ rest.length + 1) = True := eq_true (by omega)
  have r7 : e0.pd.length = 4 := rfl
  rw [contS_seq]
  simp only [go_sem, simprocAttr, rows_len]
  refine ⟨⟨none, (Clone_Event s.log (by omega)).writeW (enters_of Tryz.func45 rfl rfl) _ true [] [] [(7, 52)] none (by simp [wrN]) rfl rfl rfl ?_⟩, none, (Clone_Event s.log (by omega)).writeW (enters_of Tryz.func45 rfl rfl) _ true [] [] [(7, 52)] none (by simp [wrN]) rfl rfl rfl ?_⟩
  all_goals
   rintro d bs ⟨rfl | ⟨hnil, rfl⟩, rfl⟩
   all_goals
    simp only [go_sem, simprocAttr, rows_len]
    first
     | with_reducible refine ⟨by simp, by unfold maxLen; omega, by omega, ?_⟩
     | with_reducible refine ⟨by simp, by unfold maxLen; omega, ?_⟩
     | with_reducible refine ⟨by simp, ?_⟩
    first
     | rw [hR]
     | rw [hR0 hnil]
    rw [contS_seq]
    by_cases h16 : (16 : Int) < ((rest.length + 1 : Nat) : Int)
    ·have q16 := eq_true h16
     rw [if_pos (by omega)] at hC
     simp only [go_sem, contS_seq, simprocAttr, rows_len, List.map_cons, q16, r4, r5, r6, r7]
     simp only [retK, resD, resA, AOp.ex, St.ev, retL, oneD, simprocAttr, ret_z3ut2]
     exact ⟨_, rfl, rfl, by rw [hC]; rfl⟩
    ·have q16 := eq_false h16
     rw [if_neg (by omega)] at hC
     simp only [go_sem, contS_seq, simprocAttr, rows_len, List.map_cons, q16]
     simp only [retK, resD, resA, AOp.ex, St.ev, retL, oneD, simprocAttr, ret_z3ut2]
     exact ⟨_, rfl, rfl, by rw [hC]; rfl⟩

def changed (c : AStore × Int) (d : D) : Prop := ∃ L G, (L = .pd (.slice (rows AStored.pd c.1.l)) ∨ L = .own 50 17 (rows AStored.pd c.1.l) 48 ∨ L = .full 17 (rows AStored.pd c.1.l)) ∧
 (G = .pd (.slice (rows AEvent.pd c.1.log)) ∨ G = .own 78 4 (rows AEvent.pd c.1.log) 58) ∧ d = .tup [.agg [int c.1.version, int c.1.floor, L, G], int c.2]

set_option maxHeartbeats 8000000 in
theorem change_again (s : AStore) (r : ARef) (x : AStored) (k : Nat) (hv : 0 ≤ s.version ∧ s.version ≤ 1099511627775) (hk : k ≤ s.l.length) (hk2 : k + 1 ≤ s.l.length) (hl : s.l.length ≤ 100) (hg : s.log.length ≤ 100) :
 Full Tryz.prog 60 [s.d, r.d, int k, int 1, .fn 118 [(500001, 0)]] [(500001, x.ds)] true (fun d bs => changed (changeAt s r k 1 [{ x with version := s.version + 1 }]) d ∧ bs = []) := by
 refine full_of_run follows an_z3ut2 Tryz.func60 rfl ok_z3ut2.1 ok_z3ut2.2 (by simp [Tryz.ntmps60]) (by simp [Tryz.ntmps60]) (.inl rfl) ?_
 rw [run_start]
 by_cases h5 : s.version = 1099511627775
 ·have h5' := eq_true h5
  simp only [ac_z3ut2, go_sem, contS_seq, simprocAttr, h5']
  simp only [retK, fullK, resD, resA, AOp.ex, St.ev, retL, oneD, simprocAttr, ret_z3ut2]
  have h5c : changeAt s r k 1 [{ x with version := s.version + 1 }] = (s, 5) := by unfold changeAt; rw [if_pos h5]
  refine ⟨_, _, rfl, by simp [lessL], ?_, rfl⟩
  rw [h5c]
  exact ⟨_, _, .inl rfl, .inl rfl, rfl⟩
 have h5' := eq_false h5
 have w1 : IntKind.i64.wrap (s.version + 1) = s.version + 1 := IntWalk.i64_in _ (by omega)
 have w2 : IntKind.i64.wrap ((k : Int) + 1) = ((k + 1 : Nat) : Int) := by rw [IntWalk.i64_in _ (by omega)]; omega
 have q1 : (k ≤ s.l.length) = True := eq_true hk
 have q1' : (k + 1 ≤ s.l.length) = True := eq_true hk2
 have q2 := ok17 (stored_row s.l)
 have q4 : (rows AStored.pd s.l).take s.l.length = rows AStored.pd s.l := List.take_of_length_le (by rw [rows_len]; omega)
 simp only [ac_z3ut2, go_sem, contS_seq, simprocAttr, h5', w1, q1, q2, rows_len]
 refine ⟨some 500001, (again_1 x (s.version + 1)).writeW (enters_of Tryz.func118 rfl rfl) _ true [(500001, 500001)] [] [] (some 500001) (by simp [wrN]) rfl rfl rfl ?_⟩
 rintro d bs ⟨rfl, rfl⟩
 simp only [go_sem, simprocAttr, take_len hk]
 with_reducible refine ⟨by simp, by unfold maxLen; omega, by omega, ?_⟩
 obtain ⟨E, hE⟩ : ∃ E, E = (rows AStored.pd s.l).take k ++ rows AStored.pd [{ x with version := s.version + 1 }] := ⟨_, rfl⟩
 have eL : E.length = k + ([{ x with version := s.version + 1 }] : List AStored).length := by rw [hE, List.length_append, take_len hk, rows_len]
 have eR : ∀ q ∈ E, q.length = 17 := fun q hq => by
  rw [hE] at hq
  rcases List.mem_append.1 hq with h | h
  ·exact take_row _ _ q h
  ·exact stored_row _ q h
 obtain ⟨X, hX⟩ : ∃ X, X = s.l.take k ++ ([{ x with version := s.version + 1 }] ++ s.l.drop (k + 1)) := ⟨_, rfl⟩
 have eX : E ++ (rows AStored.pd s.l).drop (k + 1) = rows AStored.pd X := by rw [hE, hX]; exact rows_cat _ _ _ _
 have eX0 : (rows AStored.pd s.l).drop (k + 1) = [] → E = rows AStored.pd X := fun h => by rw [hE, hX]; exact rows_cat0 _ _ _ _ h
 rw [show (rows AStored.pd s.l).take k ++ [AStored.pd { x with version := s.version + 1 }] = E from hE.symm]
 have q3 := ok17 eR
 have eLn : E.length ≤ 101 := by rw [eL]; simp only [List.length_cons, List.length_nil]; omega
 have q5 : E.take E.length = E := List.take_of_length_le (Nat.le_refl _)
 clear hE eL
 rw [contS_seq]
 simp only [go_sem, simprocAttr, w2, q1', q2, q3, q4, q5, rows_len]
 refine ⟨drop_row _ _, ?_, ?_, fun hd => ?_, fun hd => ?_⟩
 ·simp only [List.length_drop, rows_len, maxLen]; omega
 ·simp only [List.length_drop, rows_len]; omega
 all_goals
  first
   | rw [eX0 hd]
   | rw [eX]
  obtain ⟨e0, rest, hL⟩ : ∃ e0 rest, logL s r = e0 :: rest := by
   unfold logL
   cases s.log with
   | nil => exact ⟨_, _, rfl⟩
   | cons x y => exact ⟨_, _, rfl⟩
  have hR : rows AEvent.pd s.log ++ [[PD.raw (Value.int IntKind.i64 (s.version + 1)), PD.raw (Value.int IntKind.i64 r.kind), PD.raw (Value.string r.space), PD.raw (Value.string r.name)]] = rows AEvent.pd (e0 :: rest) := by
   rw [← hL]; exact rows_one s.log ⟨s.version + 1, r⟩
  have hR0 : s.log = [] → [[PD.raw (Value.int IntKind.i64 (s.version + 1)), PD.raw (Value.int IntKind.i64 r.kind), PD.raw (Value.string r.space), PD.raw (Value.string r.name)]] = rows AEvent.pd (e0 :: rest) := fun h => by
   rw [← hR, h]; rfl
  have hLl : rest.length + 1 ≤ 101 := by
   have := congrArg List.length hL
   simp only [logL, List.length_append, List.length_cons, List.length_nil] at this
   omega
  have hC : changeAt s r k 1 [{ x with version := s.version + 1 }] = if 16 < rest.length + 1 then (⟨s.version + 1, e0.version, X, rest⟩, 0) else (⟨s.version + 1, s.floor, X, e0 :: rest⟩, 0) := by
   unfold changeAt
   rw [if_neg h5, ← hX, hL]
   rfl
  have r4 : rowsOK 4 (e0.pd :: rows AEvent.pd rest) = True := eq_true (event_row (e0 :: rest))
  have r5 : (rows AEvent.pd rest).take rest.length = rows AEvent.pd rest := List.take_of_length_le (by rw [rows_len]; omega)
  have r6 : (1 ≤ rest.length + 1) = True := eq_true (by omega)
  have r7 : e0.pd.length = 4 := rfl
  rw [contS_seq]
  simp only [go_sem, simprocAttr, rows_len]
  refine ⟨⟨none, (Clone_Event s.log (by omega)).writeW (enters_of Tryz.func45 rfl rfl) _ true [] [] [(7, 52)] none (by simp [wrN]) rfl rfl rfl ?_⟩, none, (Clone_Event s.log (by omega)).writeW (enters_of Tryz.func45 rfl rfl) _ true [] [] [(7, 52)] none (by simp [wrN]) rfl rfl rfl ?_⟩
  all_goals
   rintro d bs ⟨rfl | ⟨hnil, rfl⟩, rfl⟩
   all_goals
    simp only [go_sem, simprocAttr, rows_len]
    first
     | with_reducible refine ⟨by simp, by unfold maxLen; omega, by omega, ?_⟩
     | with_reducible refine ⟨by simp, by unfold maxLen; omega, ?_⟩
     | with_reducible refine ⟨by simp, ?_⟩
    first
     | rw [hR]
     | rw [hR0 hnil]
    rw [contS_seq]
    by_cases h16 : (16 : Int) < ((rest.length + 1 : Nat) : Int)
    ·have q16 := eq_true h16
     rw [if_pos (by omega)] at hC
     simp only [go_sem, contS_seq, simprocAttr, rows_len, List.map_cons, q16, r4, r5, r6, r7]
     simp only [retK, fullK, resD, resA, AOp.ex, St.ev, retL, oneD, simprocAttr, ret_z3ut2]
     refine ⟨_, _, rfl, by simp [lessL], ?_, rfl⟩
     rw [hC]
     first
      | exact ⟨_, _, .inl rfl, .inl rfl, rfl⟩
      | exact ⟨_, _, .inr (.inl rfl), .inl rfl, rfl⟩
      | exact ⟨_, _, .inr (.inr rfl), .inl rfl, rfl⟩
      | exact ⟨_, _, .inr (.inl rfl), .inr rfl, rfl⟩
      | exact ⟨_, _, .inr (.inr rfl), .inr rfl, rfl⟩
    ·have q16 := eq_false h16
     rw [if_neg (by omega)] at hC
     simp only [go_sem, contS_seq, simprocAttr, rows_len, List.map_cons, q16]
     simp only [retK, fullK, resD, resA, AOp.ex, St.ev, retL, oneD, simprocAttr, ret_z3ut2]
     refine ⟨_, _, rfl, by simp [lessL], ?_, rfl⟩
     rw [hC]
     first
      | exact ⟨_, _, .inl rfl, .inl rfl, rfl⟩
      | exact ⟨_, _, .inr (.inl rfl), .inl rfl, rfl⟩
      | exact ⟨_, _, .inr (.inr rfl), .inl rfl, rfl⟩
      | exact ⟨_, _, .inr (.inl rfl), .inr rfl, rfl⟩
      | exact ⟨_, _, .inr (.inr rfl), .inr rfl, rfl⟩


def oldI (s : AStore) (r : ARef) (v : Int) : Int := if (oldS s r v).2 = 0 then (posL s.l r : Int) else 0

set_option maxHeartbeats 2000000 in
theorem store_old (s : AStore) (r : ARef) (v : Int) (hok : s.ok) : Pure Tryz.prog 62 [s.d, r.d, int v] (fun d => d = .tup [int (oldI s r v), int (oldS s r v).2]) := by
 have hl := hok.l
 refine pure_of_run follows an_zncbw Tryz.func62 rfl ok_zncbw.1 ok_zncbw.2 (by simp [Tryz.ntmps62]) ?_
 rw [run_start]
 simp only [ac_zncbw, go_sem, contS_seq, simprocAttr]
 refine (store_Check s hok).callW (enters_of Tryz.func14 rfl rfl) _ rfl rfl ?_
 rintro _ rfl
 unfold oldI oldS checkE
 cases hm : storeMay s
 ·simp only [go_sem, contS_seq, simprocAttr]
  simp only [retK, resD, retL, oneD, simprocAttr, Tryz.results62]
  exact ⟨_, rfl, rfl, rfl⟩
 have hs := (smay_parts hm).2.2.2
 simp only [go_sem, contS_seq, simprocAttr]
 refine (store_find s hs (by omega) r).callW (enters_of Tryz.func49 rfl rfl) _ rfl rfl ?_
 rintro _ rfl
 cases ha : at_ s.l r with
 | none =>
   simp only [go_sem, contS_seq, simprocAttr]
   simp only [retK, resD, retL, oneD, simprocAttr, Tryz.results62]
   exact ⟨_, rfl, rfl, rfl⟩
 | some x =>
   have hx := (pos_some hs ha).1
   by_cases h0 : v = 0
   ·have h0' := eq_true h0
    simp only [go_sem, contS_seq, simprocAttr, h0']
    simp only [retK, resD, retL, oneD, simprocAttr, Tryz.results62]
    exact ⟨_, rfl, rfl, by simp; rfl⟩
   ·have h0' := eq_false h0
    by_cases h1 : v = x.version
    ·have h1' := eq_true h1
     simp only [go_sem, contS_seq, simprocAttr, h0', h1', rows_get hx]
     simp only [retK, resD, retL, oneD, simprocAttr, Tryz.results62]
     exact ⟨_, rfl, rfl, by simp [h1]; rfl⟩
    ·have h1' := eq_false h1
     simp only [go_sem, contS_seq, simprocAttr, h0', h1', rows_get hx]
     simp only [retK, resD, retL, oneD, simprocAttr, Tryz.results62]
     exact ⟨_, rfl, rfl, by simp [h0, h1]; rfl⟩

set_option maxHeartbeats 4000000 in
theorem store_Create (s : AStore) (o : AObj) (hok : s.ok) (ho : o.ok) : Pure Tryz.prog 29 [s.d, o.d] (fun d => d = .tup [(doCreate s o).1.d, int (doCreate s o).2]) := by
 have hl := hok.l
 have hg := hok.log
 refine pure_of_run follows an_zlx0b Tryz.func29 rfl ok_zlx0b.1 ok_zlx0b.2 (by simp [Tryz.ntmps29]) ?_
 rw [run_start]
 simp only [ac_zlx0b, go_sem, contS_seq, simprocAttr, rows_len]
 refine (store_Check s hok).callW (enters_of Tryz.func14 rfl rfl) _ rfl rfl ?_
 rintro _ rfl
 unfold checkE
 cases hm : storeMay s
 ·have e : doCreate s o = (s, 1) := by unfold doCreate; rw [if_pos (.inl hm)]
  rw [e]
  simp only [go_sem, contS_seq, simprocAttr]
  simp only [retK, resD, resA, AOp.ex, St.ev, retL, oneD, simprocAttr, ret_zlx0b]
  exact ⟨_, rfl, rfl, rfl⟩
 have hp := smay_parts hm
 have hh := head_iff.1 hp.1
 have hs := hp.2.2.2
 simp only [go_sem, contS_seq, simprocAttr]
 refine (object_May o ho).callW (enters_of Tryz.func42 rfl rfl) _ rfl rfl ?_
 rintro _ rfl
 cases hom : objMay o
 ·have e : doCreate s o = (s, 1) := by unfold doCreate; rw [if_pos (.inr hom)]
  rw [e]
  simp only [go_sem, contS_seq, simprocAttr]
  simp only [retK, resD, resA, AOp.ex, St.ev, retL, oneD, simprocAttr, ret_zlx0b]
  exact ⟨_, rfl, rfl, rfl⟩
 simp only [go_sem, contS_seq, simprocAttr]
 refine (store_find s hs (by omega) o.ref).callW (enters_of Tryz.func49 rfl rfl) _ rfl rfl ?_
 rintro _ rfl
 cases ha : at_ s.l o.ref with
 | some x =>
   have e : doCreate s o = (s, 4) := by unfold doCreate; rw [if_neg (by rw [hm, hom]; simp), if_pos (by rw [ha]; rfl)]
   rw [e]
   simp only [go_sem, contS_seq, simprocAttr]
   simp only [retK, resD, resA, AOp.ex, St.ev, retL, oneD, simprocAttr, ret_zlx0b]
   exact ⟨_, rfl, rfl, rfl⟩
 | none =>
   by_cases h40 : (s.l.length : Int) = 40
   ·have h40' := eq_true h40
    have e : doCreate s o = (s, 5) := by unfold doCreate; rw [if_neg (by rw [hm, hom]; simp), if_neg (by rw [ha]; simp), if_pos (by omega)]
    rw [e]
    simp only [go_sem, contS_seq, simprocAttr, rows_len, h40']
    simp only [retK, resD, resA, AOp.ex, St.ev, retL, oneD, simprocAttr, ret_zlx0b]
    exact ⟨_, rfl, rfl, rfl⟩
   ·have h40' := eq_false h40
    simp only [go_sem, contS_seq, simprocAttr, rows_len, h40']
    have hpos := pos_le s.l o.ref
    refine (change_Create s o.ref o (posL s.l o.ref) ⟨hh.1, hh.2.1⟩ hpos (by omega) (by omega) (by omega)).callW (enters_of Tryz.func60 rfl rfl) _ [(3, 1000001)] rfl rfl rfl ?_
    rintro _ rfl
    simp only [go_sem, contS_seq, simprocAttr]
    simp only [retK, resD, resA, AOp.ex, St.ev, retL, oneD, simprocAttr, ret_zlx0b]
    have hc := changeAt_eq hs o.ref [⟨o, s.version + 1, 1, s.version + 1, []⟩]
    rw [ha] at hc
    have e : doCreate s o = change s o.ref [⟨o, s.version + 1, 1, s.version + 1, []⟩] := by unfold doCreate; rw [if_neg (by rw [hm, hom]; simp), if_neg (by rw [ha]; simp), if_neg (by omega)]
    exact ⟨_, rfl, rfl, by rw [e, ← hc]; rfl⟩

theorem Update_1 (x : AStored) (o : AObj) (hg : 0 ≤ x.gen ∧ x.gen < 1000000000000000) :
 Full Tryz.prog 96 [.ptr 500001 0, .ptr 1000001 0] [(500001, x.ds), (1000001, o.ds)] true (fun d bs => d = .tup [] ∧ bs = [(500001, AStored.ds ⟨o, x.version, x.gen + 1, x.born, x.conds⟩)]) := by
 have w1 : IntKind.i64.wrap (x.gen + 1) = x.gen + 1 := IntWalk.i64_in _ (by omega)
 refine full_of_run follows an_zdlvu Tryz.func96 rfl ok_zdlvu.1 ok_zdlvu.2 (by simp [Tryz.ntmps96]) (by simp [Tryz.ntmps96]) (.inl rfl) ?_
 rw [run_start]
 simp only [ac_zdlvu, go_sem, contS_seq, simprocAttr, w1]
 simp only [retK, fullK, resD, retL, oneD, simprocAttr, Tryz.results96]
 exact ⟨_, _, rfl, by simp [lessL, lk], rfl, rfl⟩

theorem Clone_Events (l : List AEvent) (hl : l.length ≤ 1000) : Pure Tryz.prog 45 [.pd (.slice (rows AEvent.pd l))] (fun d => d = .pd (.slice (rows AEvent.pd l))) := by
 refine pure_of_run follows an_zloyn Tryz.func45 rfl ok_zloyn.1 ok_zloyn.2 (by simp [Tryz.ntmps45]) ?_
 rw [run_start]
 cases l with
 | nil =>
   simp only [ac_zloyn, go_sem, contS_seq, simprocAttr]
   refine ⟨?_, by simp, ?_⟩
   ·simp only [retK, resD, retL, oneD, simprocAttr, Tryz.results45]
    exact ⟨_, rfl, rfl, rfl⟩
   ·simp only [retK, resD, retL, oneD, simprocAttr, Tryz.results45]
    exact ⟨_, rfl, rfl, rfl⟩
 | cons x r =>
   simp only [ac_zloyn, go_sem, contS_seq, simprocAttr, List.map_cons]
   refine ⟨rows_row (f := AEvent.pd) (n := 4) (fun _ => rfl) (x :: r), ?_, ?_, ?_⟩
   ·simp only [List.length_cons, List.length_map, maxLen] at hl ⊢; omega
   ·simp only [List.length_cons, List.length_map] at hl ⊢; omega
   ·simp only [retK, resD, retL, oneD, simprocAttr, Tryz.results45]
    exact ⟨_, rfl, rfl, rfl⟩

set_option maxHeartbeats 4000000 in
theorem again_Update (s : AStore) (o : AObj) (k : Nat) (x : AStored) (hx : s.l[k]? = some x) (hg : 0 ≤ x.gen ∧ x.gen < 1000000000000000) (hv : 0 ≤ s.version ∧ s.version ≤ 1099511627775) (hl : s.l.length ≤ 100) (hlog : s.log.length ≤ 100) :
 PureB Tryz.prog 76 [s.d, int k, .fn 96 [(1000001, 0)]] [(1000001, o.ds)]
  (fun d => d = .tup [(changeAt s o.ref k 1 [⟨o, s.version + 1, x.gen + 1, x.born, x.conds⟩]).1.d, int (changeAt s o.ref k 1 [⟨o, s.version + 1, x.gen + 1, x.born, x.conds⟩]).2]) := by
 have hk := (List.getElem?_eq_some_iff.1 hx).1
 refine pureB_of_run follows an_zidid Tryz.func76 rfl ok_zidid.1 ok_zidid.2 (by simp [Tryz.ntmps76]) ?_
 rw [run_start]
 simp only [ac_zidid, go_sem, contS_seq, simprocAttr, rows_get hx]
 refine (Update_1 x o hg).callW (enters_of Tryz.func96 rfl rfl) _ true [(8, 500001), (1000001, 1000001)] [] [] [] rfl rfl rfl ?_
 rintro d bs ⟨rfl, rfl⟩
 simp only [go_sem, contS_seq, simprocAttr]
 refine (change_again s o.ref ⟨o, x.version, x.gen + 1, x.born, x.conds⟩ k hv (by omega) (by omega) hl hlog).callW (enters_of Tryz.func60 rfl rfl) _ true [(8, 500001)] [] [] [] rfl rfl rfl ?_
 rintro d bs ⟨⟨L, G, hL, hG, rfl⟩, rfl⟩
 rcases hL with rfl | rfl | rfl <;> rcases hG with rfl | rfl
 all_goals
  simp only [go_sem, contS_seq, simprocAttr]
  simp only [retK, resD, resA, AOp.ex, St.ev, retL, oneD, simprocAttr, ret_zidid]
  exact ⟨_, rfl, rfl, rfl⟩


theorem old_may {s : AStore} {r : ARef} {v : Int} (h : (oldS s r v).2 = 0) : ∃ x, (oldS s r v).1 = x ∧ storeMay s = true ∧ at_ s.l r = some x ∧ s.l[posL s.l r]? = some x ∧ oldI s r v = (posL s.l r : Int) ∧ stOK s.version x = true ∧ x.o.ref = r ∧ Srt s.l ∧ headOK s = true := by
 obtain ⟨hm, ha, _⟩ := oldS_some h
 have hp := smay_parts hm
 exact ⟨_, rfl, hm, ha, (pos_some hp.2.2.2 ha).1, if_pos h, (there_stOK hm ha).1, (there_stOK hm ha).2, hp.2.2.2, hp.1⟩

set_option maxHeartbeats 4000000 in
theorem store_Update (s : AStore) (o : AObj) (v : Int) (hok : s.ok) (ho : o.ok) : Pure Tryz.prog 47 [s.d, o.d, int v] (fun d => d = .tup [(doUpdate s o v).1.d, int (doUpdate s o v).2]) := by
 have hl := hok.l
 have hg := hok.log
 refine pure_of_run follows an_zcxqw Tryz.func47 rfl ok_zcxqw.1 ok_zcxqw.2 (by simp [Tryz.ntmps47]) ?_
 rw [run_start]
 simp only [ac_zcxqw, go_sem, contS_seq, simprocAttr]
 refine (object_May o ho).callW (enters_of Tryz.func42 rfl rfl) _ rfl rfl ?_
 rintro _ rfl
 cases hom : objMay o
 ·have e : doUpdate s o v = (s, 1) := by unfold doUpdate; rw [if_pos hom]
  rw [e]
  simp only [go_sem, contS_seq, simprocAttr]
  simp only [retK, resD, resA, AOp.ex, St.ev, retL, oneD, simprocAttr, ret_zcxqw]
  exact ⟨_, rfl, rfl, rfl⟩
 simp only [go_sem, contS_seq, simprocAttr]
 refine (store_old s o.ref v hok).callW (enters_of Tryz.func62 rfl rfl) _ rfl rfl ?_
 rintro _ rfl
 by_cases h0 : (oldS s o.ref v).2 = 0
 case neg =>
  have e : doUpdate s o v = (s, (oldS s o.ref v).2) := by unfold doUpdate; rw [if_neg (by rw [hom]; simp), if_pos h0]
  rw [e]
  generalize (oldS s o.ref v).2 = y at h0
  have h0' := eq_false h0
  simp only [go_sem, contS_seq, simprocAttr, h0']
  simp only [retK, resD, resA, AOp.ex, St.ev, retL, oneD, simprocAttr, ret_zcxqw]
  exact ⟨_, rfl, rfl, rfl⟩
 obtain ⟨x, hx0, hm, ha, hx, hi, hst, hr, hs, hhd⟩ := old_may h0
 have hh := head_iff.1 hhd
 have hst' := stOK_iff.1 hst
 have hxm := hok.o x (List.mem_of_getElem? hx)
 rw [hi, h0]
 simp only [go_sem, contS_seq, simprocAttr, go_sem, rows_get hx]
 refine (object_Same x.o o hxm.1 ho).callX (enters_of Tryz.func53 rfl rfl) _ rfl rfl ?_
 rintro _ rfl
 rw [objSame_dec]
 by_cases hxo : x.o = o
 ·have e : doUpdate s o v = (s, 0) := by unfold doUpdate; rw [if_neg (by rw [hom]; simp), if_neg (by rw [h0]; simp), hx0, if_pos hxo]
  have hxo' := eq_true hxo
  rw [e]
  simp only [go_sem, contS_seq, simprocAttr, go_sem, hxo']
  simp only [retK, resD, resA, AOp.ex, St.ev, retL, oneD, simprocAttr, ret_zcxqw]
  exact ⟨_, rfl, rfl, rfl⟩
 ·have hc := changeAt_eq hs o.ref [⟨o, s.version + 1, x.gen + 1, x.born, x.conds⟩]
  rw [ha] at hc
  have e : doUpdate s o v = changeAt s o.ref (posL s.l o.ref) 1 [⟨o, s.version + 1, x.gen + 1, x.born, x.conds⟩] := by
   unfold doUpdate; rw [if_neg (by rw [hom]; simp), if_neg (by rw [h0]; simp), hx0, if_neg hxo]; exact hc.symm
  have hxo' := eq_false hxo
  rw [e]
  simp only [go_sem, contS_seq, simprocAttr, go_sem, hxo']
  refine (again_Update s o (posL s.l o.ref) x hx ⟨by omega, by omega⟩ ⟨hh.1, hh.2.1⟩ hl hg).callW (enters_of Tryz.func76 rfl rfl) _ [(4, 1000001)] rfl rfl rfl ?_
  rintro _ rfl
  simp only [go_sem, contS_seq, simprocAttr]
  simp only [retK, resD, resA, AOp.ex, St.ev, retL, oneD, simprocAttr, ret_zcxqw]
  exact ⟨_, rfl, rfl, rfl⟩

set_option maxHeartbeats 4000000 in
theorem store_Delete (s : AStore) (r : ARef) (v : Int) (hok : s.ok) : Pure Tryz.prog 30 [s.d, r.d, int v] (fun d => d = .tup [(doDelete s r v).1.d, int (doDelete s r v).2]) := by
 have hl := hok.l
 have hg := hok.log
 refine pure_of_run follows an_zmk9z Tryz.func30 rfl ok_zmk9z.1 ok_zmk9z.2 (by simp [Tryz.ntmps30]) ?_
 rw [run_start]
 simp only [ac_zmk9z, go_sem, contS_seq, simprocAttr]
 refine (store_old s r v hok).callW (enters_of Tryz.func62 rfl rfl) _ rfl rfl ?_
 rintro _ rfl
 by_cases h0 : (oldS s r v).2 = 0
 case neg =>
  have e : doDelete s r v = (s, (oldS s r v).2) := by unfold doDelete; rw [if_pos h0]
  rw [e]
  generalize (oldS s r v).2 = y at h0
  have h0' := eq_false h0
  simp only [go_sem, contS_seq, simprocAttr, h0']
  simp only [retK, resD, resA, AOp.ex, St.ev, retL, oneD, simprocAttr, ret_zmk9z]
  exact ⟨_, rfl, rfl, rfl⟩
 obtain ⟨x, hx0, hm, ha, hx, hi, hst, hr, hs, hhd⟩ := old_may h0
 have hh := head_iff.1 hhd
 have hk := (List.getElem?_eq_some_iff.1 hx).1
 have hc := changeAt_eq hs r []
 rw [ha] at hc
 have e : doDelete s r v = changeAt s r (posL s.l r) 1 [] := by unfold doDelete; rw [if_neg (by rw [h0]; simp)]; exact hc.symm
 rw [e, hi, h0]
 simp only [go_sem, contS_seq, simprocAttr]
 refine (change_Delete s r (posL s.l r) ⟨hh.1, hh.2.1⟩ (by omega) (by omega) hl hg).callW (enters_of Tryz.func60 rfl rfl) _ rfl rfl ?_
 rintro _ rfl
 simp only [go_sem, contS_seq, simprocAttr]
 simp only [retK, resD, resA, AOp.ex, St.ev, retL, oneD, simprocAttr, ret_zmk9z]
 exact ⟨_, rfl, rfl, rfl⟩

set_option maxHeartbeats 4000000 in
theorem store_Since (s : AStore) (v : Int) (hok : s.ok) : Pure Tryz.prog 15 [s.d, int v] (fun d => d = .tup [.pd (.slice (rows AEvent.pd (sinceS s v).1)), int (sinceS s v).2]) := by
 have hl := hok.l
 have hg := hok.log
 refine pure_of_run follows an_ziosv Tryz.func15 rfl ok_ziosv.1 ok_ziosv.2 (by simp [Tryz.ntmps15]) ?_
 rw [run_start]
 simp only [ac_ziosv, go_sem, contS_seq, simprocAttr]
 refine (store_Check s hok).callW (enters_of Tryz.func14 rfl rfl) _ rfl rfl ?_
 rintro _ rfl
 unfold checkE sinceS
 cases hm : storeMay s
 ·simp only [go_sem, contS_seq, simprocAttr]
  simp only [retK, resD, retL, oneD, simprocAttr, Tryz.results15]
  exact ⟨_, rfl, rfl, by simp; rfl⟩
 have hh := head_iff.1 (smay_parts hm).1
 by_cases h1 : v < 0
 ·have h1' := eq_true h1
  simp only [go_sem, contS_seq, simprocAttr, h1']
  simp only [retK, resD, retL, oneD, simprocAttr, Tryz.results15]
  exact ⟨_, rfl, rfl, by simp; rfl⟩
 have h1' := eq_false h1
 by_cases h2 : s.version < v
 ·have h2' := eq_true h2
  simp only [go_sem, contS_seq, simprocAttr, h1', h2']
  simp only [retK, resD, retL, oneD, simprocAttr, Tryz.results15]
  exact ⟨_, rfl, rfl, by simp; rfl⟩
 have h2' := eq_false h2
 by_cases h3 : v < s.floor
 ·have h3' := eq_true h3
  simp only [go_sem, contS_seq, simprocAttr, h1', h2', h3']
  simp only [retK, resD, retL, oneD, simprocAttr, Tryz.results15]
  exact ⟨_, rfl, rfl, by simp; rfl⟩
 have h3' := eq_false h3
 have w : IntKind.i64.wrap (v - s.floor) = (((v - s.floor).toNat : Nat) : Int) := by rw [IntWalk.i64_in _ (by omega)]; omega
 have hd : (v - s.floor).toNat ≤ s.log.length := by omega
 generalize (v - s.floor).toNat = k at w hd
 have q1 : (k ≤ s.log.length) = True := eq_true hd
 have q2 : rowsOK 4 (rows AEvent.pd s.log) = True := rowsOK_rows (f := AEvent.pd) (n := 4) (fun _ => rfl) _
 have q3 : ((rows AEvent.pd s.log).take s.log.length).drop k = rows AEvent.pd (s.log.drop k) := by
  rw [List.take_of_length_le (by rw [rows_len]; omega)]
  simp [rows]
 simp only [go_sem, contS_seq, simprocAttr, h1', h2', h3', w, q1, q2, q3, rows_len]
 refine (Clone_Events (s.log.drop k) (by rw [List.length_drop]; omega)).callW (enters_of Tryz.func45 rfl rfl) _ rfl rfl ?_
 rintro _ rfl
 simp only [go_sem, contS_seq, simprocAttr]
 simp only [retK, resD, retL, oneD, simprocAttr, Tryz.results15]
 exact ⟨_, rfl, rfl, by simp; rfl⟩



theorem fewObj_sok (o : AObj) : (fewObj o).sok where
 rs := Nat.le_trans (few_size _) (by decide)
 rn := Nat.le_trans (few_size _) (by decide)
 lv := fun p hp => by
  obtain ⟨x, _, rfl⟩ := List.mem_map.1 hp
  exact Nat.le_trans (few_size _) (by decide)
 ln := fun l hl => by
  obtain ⟨x, _, rfl⟩ := List.mem_map.1 hl
  refine ⟨Nat.le_trans (few_size _) (by decide), Nat.le_trans (few_size _) (by decide), fun n hn s hs => ?_⟩
  obtain ⟨y, _, rfl⟩ := List.mem_map.1 hn
  obtain ⟨z, _, rfl⟩ := List.mem_map.1 hs
  exact Nat.le_trans (few_size _) (by decide)
 pa := fun p hp => by
  obtain ⟨x, _, rfl⟩ := List.mem_map.1 hp
  exact ⟨Nat.le_trans (few_size _) (by decide), Nat.le_trans (few_size _) (by decide)⟩
 ru := fun r hr => by
  obtain ⟨x, _, rfl⟩ := List.mem_map.1 hr
  refine ⟨fun m hm => ?_, fun f hf => ?_, fun b hb => ?_⟩
  ·obtain ⟨y, _, rfl⟩ := List.mem_map.1 hm
   exact Nat.le_trans (few_size _) (by decide)
  ·obtain ⟨y, _, rfl⟩ := List.mem_map.1 hf
   exact ⟨Nat.le_trans (few_size _) (by decide), Nat.le_trans (few_size _) (by decide)⟩
  ·obtain ⟨y, _, rfl⟩ := List.mem_map.1 hb
   exact Nat.le_trans (few_size _) (by decide)
 si := fun s hs => by
  obtain ⟨y, _, rfl⟩ := List.mem_map.1 hs
  exact Nat.le_trans (few_size _) (by decide)


theorem map_step {α β : Type} {f : α → β} {g : β → List PD} {l : List α} {i : Nat} {x : α} (hx : l[i]? = some x) : rows g ((l.take i).map f) ++ [g (f x)] = rows g ((l.take (i + 1)).map f) := by
 rw [take_at hx]; simp [rows]
theorem map_len {α β : Type} {f : α → β} {g : β → List PD} {l : List α} {i n : Nat} (hi : i ≤ n) : (rows g ((l.take i).map f)).length ≤ n := by
 simp [rows]; omega

set_option maxHeartbeats 2000000 in
theorem ref10_SameConds (l m : List ACond) (hl : l.length ≤ 1000) (hm : m.length ≤ 1000) : Pure Tryz.prog 38 [.pd (.slice (rows ACond.pd l)), .pd (.slice (rows ACond.pd m))] (fun d => d = bln (decide (l = m))) := by
 refine pure_of_run follows an_zjcqq Tryz.func38 rfl ok_zjcqq.1 ok_zjcqq.2 (by simp [Tryz.ntmps38]) ?_
 rw [run_start]
 by_cases hn : (l.length : Int) = (m.length : Int)
 case neg =>
  have hn' := eq_false hn
  simp only [ac_zjcqq, go_sem, contS_seq, simprocAttr, rows_len, hn']
  simp only [retK, resD, retL, oneD, simprocAttr, Tryz.results38]
  exact ⟨_, rfl, rfl, congrArg bln (decide_eq_false (fun h => hn (by rw [h]))).symm⟩
 have hn' := eq_true hn
 simp only [ac_zjcqq, go_sem, contS_seq, simprocAttr, rows_len, hn']
 refine loopS (fun k st => ∃ i : Nat, k = l.length - i ∧ i ≤ l.length ∧ decide (l.drop i = m.drop i) = decide (l = m) ∧
  st = ⟨[(0, .pd (.slice (rows ACond.pd l))), (1, .pd (.slice (rows ACond.pd m))), (5, int i)], [], [], .no⟩) l.length _ ?_ ⟨0, rfl, Nat.zero_le _, rfl, rfl⟩ ?_
 ·exact lessA
 rintro k st ⟨i, rfl, hi, hr, rfl⟩
 by_cases hlt : i < l.length
 ·obtain ⟨x, hx⟩ := at_lt hlt
  obtain ⟨y, hy⟩ := at_lt (show i < m.length by omega)
  have hlt' : ((i : Int) < (l.length : Int)) = True := eq_true (by omega)
  have hlt2 : ((i : Int) < (m.length : Int)) = True := eq_true (by omega)
  have hw := i64_succ (show i < 1000000000 by omega)
  rw [drop_at hx, drop_at hy] at hr
  by_cases h : x = y
  ·have h' := eq_true h
   simp only [go_sem, contS_seq, simprocAttr, go_sem, rows_len, hlt', hlt2, rows_get hx, rows_get hy, eqVs, eqV, eq_Cond, h', hw]
   subst h
   simp only [List.cons.injEq, true_and] at hr
   refine ⟨l.length - (i + 1), _, by omega, ?_, i + 1, rfl, by omega, hr, rfl⟩
   exact lessA
  ·have h' := eq_false h
   simp only [go_sem, contS_seq, simprocAttr, go_sem, rows_len, hlt', hlt2, rows_get hx, rows_get hy, eqVs, eqV, eq_Cond, h', hw]
   simp only [retK, resD, retL, oneD, simprocAttr, Tryz.results38]
   rw [decide_eq_false (fun e => h (List.cons.inj e).1)] at hr
   exact ⟨_, rfl, rfl, congrArg bln hr⟩
 ·have hlt' : ((i : Int) < (l.length : Int)) = False := eq_false (by omega)
  have hlt2 : ((i : Int) < (m.length : Int)) = False := eq_false (by omega)
  rw [List.drop_eq_nil_of_le (by omega), List.drop_eq_nil_of_le (by omega)] at hr
  simp only [go_sem, contS_seq, simprocAttr, go_sem, rows_len, hlt', hlt2]
  simp only [retK, resD, retL, oneD, simprocAttr, Tryz.results38]
  exact ⟨_, rfl, rfl, congrArg bln (by simpa using hr)⟩

set_option maxHeartbeats 2000000 in
theorem ref10_SameEvents (l m : List AEvent) (hl : l.length ≤ 1000) (hm : m.length ≤ 1000) : Pure Tryz.prog 17 [.pd (.slice (rows AEvent.pd l)), .pd (.slice (rows AEvent.pd m))] (fun d => d = bln (decide (l = m))) := by
 refine pure_of_run follows an_zllz5 Tryz.func17 rfl ok_zllz5.1 ok_zllz5.2 (by simp [Tryz.ntmps17]) ?_
 rw [run_start]
 by_cases hn : (l.length : Int) = (m.length : Int)
 case neg =>
  have hn' := eq_false hn
  simp only [ac_zllz5, go_sem, contS_seq, simprocAttr, rows_len, hn']
  simp only [retK, resD, retL, oneD, simprocAttr, Tryz.results17]
  exact ⟨_, rfl, rfl, congrArg bln (decide_eq_false (fun h => hn (by rw [h]))).symm⟩
 have hn' := eq_true hn
 simp only [ac_zllz5, go_sem, contS_seq, simprocAttr, rows_len, hn']
 refine loopS (fun k st => ∃ i : Nat, k = l.length - i ∧ i ≤ l.length ∧ decide (l.drop i = m.drop i) = decide (l = m) ∧
  st = ⟨[(0, .pd (.slice (rows AEvent.pd l))), (1, .pd (.slice (rows AEvent.pd m))), (5, int i)], [], [], .no⟩) l.length _ ?_ ⟨0, rfl, Nat.zero_le _, rfl, rfl⟩ ?_
 ·exact lessA
 rintro k st ⟨i, rfl, hi, hr, rfl⟩
 by_cases hlt : i < l.length
 ·obtain ⟨x, hx⟩ := at_lt hlt
  obtain ⟨y, hy⟩ := at_lt (show i < m.length by omega)
  have hlt' : ((i : Int) < (l.length : Int)) = True := eq_true (by omega)
  have hlt2 : ((i : Int) < (m.length : Int)) = True := eq_true (by omega)
  have hw := i64_succ (show i < 1000000000 by omega)
  rw [drop_at hx, drop_at hy] at hr
  by_cases h : x = y
  ·have h' := eq_true h
   simp only [go_sem, contS_seq, simprocAttr, go_sem, rows_len, hlt', hlt2, rows_get hx, rows_get hy, eqVs, eqV, eq_Event, h', hw]
   subst h
   simp only [List.cons.injEq, true_and] at hr
   refine ⟨l.length - (i + 1), _, by omega, ?_, i + 1, rfl, by omega, hr, rfl⟩
   exact lessA
  ·have h' := eq_false h
   simp only [go_sem, contS_seq, simprocAttr, go_sem, rows_len, hlt', hlt2, rows_get hx, rows_get hy, eqVs, eqV, eq_Event, h', hw]
   simp only [retK, resD, retL, oneD, simprocAttr, Tryz.results17]
   rw [decide_eq_false (fun e => h (List.cons.inj e).1)] at hr
   exact ⟨_, rfl, rfl, congrArg bln hr⟩
 ·have hlt' : ((i : Int) < (l.length : Int)) = False := eq_false (by omega)
  have hlt2 : ((i : Int) < (m.length : Int)) = False := eq_false (by omega)
  rw [List.drop_eq_nil_of_le (by omega), List.drop_eq_nil_of_le (by omega)] at hr
  simp only [go_sem, contS_seq, simprocAttr, go_sem, rows_len, hlt', hlt2]
  simp only [retK, resD, retL, oneD, simprocAttr, Tryz.results17]
  exact ⟨_, rfl, rfl, congrArg bln (by simpa using hr)⟩

theorem stored_dec (x y : AStored) : (decide (x.o = y.o) && (decide (x.version = y.version) && (decide (x.gen = y.gen) && (decide (x.born = y.born) && decide (x.conds = y.conds))))) = decide (x = y) := by
 obtain ⟨o, v, g, b, c⟩ := x
 obtain ⟨o', v', g', b', c'⟩ := y
 rw [Bool.eq_iff_iff]
 simp

def storedEq (x y : AStored) : Bool := decide (x.o = y.o) && (decide (x.version = y.version) && (decide (x.gen = y.gen) && (decide (x.born = y.born) && decide (x.conds = y.conds))))

set_option maxHeartbeats 2000000 in
theorem ref10_SameStored (x y : AStored) (hx : x.o.ok) (hx2 : x.conds.length ≤ 100) (hy2 : y.conds.length ≤ 100) : Pure Tryz.prog 22 [x.d, y.d] (fun d => d = bln (decide (x = y))) := by
 rw [← stored_dec]
 refine pure_of_run follows an_zz1z4 Tryz.func22 rfl ok_zz1z4.1 ok_zz1z4.2 (by simp [Tryz.ntmps22]) ?_
 rw [run_start]
 simp only [ac_zz1z4, go_sem, contS_seq, simprocAttr]
 (repeat' (first | (refine GifP.mk (fun _ => ?_) (fun _ => ?_)) | (refine Gif.mk (fun _ => ?_) (fun _ => ?_)) | ((first | refine (ref9_Same x.o y.o hx).callW (enters_of Tryz.func35 rfl rfl) _ rfl rfl ?_ | refine (ref10_SameConds x.conds y.conds (by omega) (by omega)).callW (enters_of Tryz.func38 rfl rfl) _ rfl rfl ?_); rintro _ rfl; try simp only [go_sem, contS_seq, simprocAttr]))) <;> (simp only [retK, resD, retL, oneD, simprocAttr, Tryz.results22]; exact ⟨_, rfl, rfl, congrArg bln (by first | rfl | (rw [Bool.eq_iff_iff]; simp only [storedEq]; (first | (simp; done) | (simp; omega) | (simp [*]; done) | (simp [*]; omega))) | (simp_all [storedEq]; done) | (exfalso; omega))⟩)

set_option maxHeartbeats 4000000 in
theorem ref10_Same (a b : AStore) (ha : a.ok) (hb : b.ok) : Pure Tryz.prog 24 [a.d, b.d] (fun d => d = bln (decide (a = b))) := by
 have h1 := ha.l
 have h2 := hb.l
 have h3 := ha.log
 have h4 := hb.log
 refine pure_of_run follows an_zvt1d Tryz.func24 rfl ok_zvt1d.1 ok_zvt1d.2 (by simp [Tryz.ntmps24]) ?_
 rw [run_start]
 have no : ∀ {p : Prop}, (a = b → p) → ¬ p → decide (a = b) = false := fun h k => decide_eq_false fun e => k (h e)
 by_cases e1 : a.version = b.version
 case neg =>
  have e1' := eq_false e1
  rw [no (fun h => by rw [h]) e1]
  simp only [ac_zvt1d, go_sem, contS_seq, simprocAttr, rows_len, e1']
  simp only [retK, resD, retL, oneD, simprocAttr, Tryz.results24]
  exact ⟨_, rfl, rfl, rfl⟩
 have e1' := eq_true e1
 by_cases e2 : a.floor = b.floor
 case neg =>
  have e2' := eq_false e2
  rw [no (fun h => by rw [h]) e2]
  simp only [ac_zvt1d, go_sem, contS_seq, simprocAttr, rows_len, e1', e2']
  simp only [retK, resD, retL, oneD, simprocAttr, Tryz.results24]
  exact ⟨_, rfl, rfl, rfl⟩
 have e2' := eq_true e2
 by_cases e3 : (a.l.length : Int) = (b.l.length : Int)
 case neg =>
  have e3' := eq_false e3
  rw [no (fun h => by rw [h]) e3]
  simp only [ac_zvt1d, go_sem, contS_seq, simprocAttr, rows_len, e1', e2', e3']
  simp only [retK, resD, retL, oneD, simprocAttr, Tryz.results24]
  exact ⟨_, rfl, rfl, rfl⟩
 have e3' := eq_true e3
 simp only [ac_zvt1d, go_sem, contS_seq, simprocAttr, rows_len, e1', e2', e3']
 refine (ref10_SameEvents a.log b.log (by omega) (by omega)).callW (enters_of Tryz.func17 rfl rfl) _ rfl rfl ?_
 rintro _ rfl
 by_cases e4 : a.log = b.log
 case neg =>
  have e4' := eq_false e4
  rw [no (fun h => by rw [h]) e4]
  simp only [go_sem, contS_seq, simprocAttr, rows_len, e4']
  simp only [retK, resD, retL, oneD, simprocAttr, Tryz.results24]
  exact ⟨_, rfl, rfl, rfl⟩
 have e4' := eq_true e4
 simp only [go_sem, contS_seq, simprocAttr, rows_len, e4']
 have hab : decide (a.l = b.l) = decide (a = b) := by
  obtain ⟨v, f, l, g⟩ := a
  obtain ⟨v', f', l', g'⟩ := b
  simp only at e1 e2 e4
  subst e1; subst e2; subst e4
  rw [Bool.eq_iff_iff]; simp
 rw [← hab]
 refine loopS (fun k st => ∃ i : Nat, k = a.l.length - i ∧ i ≤ a.l.length ∧ decide (a.l.drop i = b.l.drop i) = decide (a.l = b.l) ∧
  st = ⟨[(2, .ptr 2 0), (3, .ptr 3 0), (5, int i)], [(2, [int a.version, int a.floor, .pd (.slice (rows AStored.pd a.l)), .pd (.slice (rows AEvent.pd a.log))]), (3, [int b.version, int b.floor, .pd (.slice (rows AStored.pd b.l)), .pd (.slice (rows AEvent.pd b.log))])], [], .no⟩) a.l.length _ ?_ ⟨0, rfl, Nat.zero_le _, rfl, rfl⟩ ?_
 ·exact lessA
 rintro k st ⟨i, rfl, hi, hr, rfl⟩
 by_cases hlt : i < a.l.length
 ·obtain ⟨x, hx⟩ := at_lt hlt
  obtain ⟨y, hy⟩ := at_lt (show i < b.l.length by omega)
  have hlt' : ((i : Int) < (a.l.length : Int)) = True := eq_true (by omega)
  have hlt2 : ((i : Int) < (b.l.length : Int)) = True := eq_true (by omega)
  have hw := i64_succ (show i < 1000000000 by omega)
  rw [drop_at hx, drop_at hy] at hr
  simp only [go_sem, contS_seq, simprocAttr, go_sem, rows_len, hlt', hlt2, rows_get hx, rows_get hy]
  refine (ref10_SameStored x y (ha.o x (List.mem_of_getElem? hx)).1 (ha.c x (List.mem_of_getElem? hx)) (hb.c y (List.mem_of_getElem? hy))).callX (enters_of Tryz.func22 rfl rfl) _ rfl rfl ?_
  rintro _ rfl
  by_cases h : x = y
  ·have h' := eq_true h
   simp only [go_sem, contS_seq, simprocAttr, go_sem, h', hw]
   subst h
   simp only [List.cons.injEq, true_and] at hr
   refine ⟨a.l.length - (i + 1), _, by omega, ?_, i + 1, rfl, by omega, hr, rfl⟩
   exact lessA
  ·have h' := eq_false h
   simp only [go_sem, contS_seq, simprocAttr, go_sem, h', hw]
   simp only [retK, resD, retL, oneD, simprocAttr, Tryz.results24]
   rw [decide_eq_false (fun e => h (List.cons.inj e).1)] at hr
   exact ⟨_, rfl, rfl, congrArg bln hr⟩
 ·have hlt' : ((i : Int) < (a.l.length : Int)) = False := eq_false (by omega)
  have hlt2 : ((i : Int) < (b.l.length : Int)) = False := eq_false (by omega)
  rw [List.drop_eq_nil_of_le (by omega), List.drop_eq_nil_of_le (by omega)] at hr
  simp only [go_sem, contS_seq, simprocAttr, go_sem, rows_len, hlt', hlt2]
  simp only [retK, resD, retL, oneD, simprocAttr, Tryz.results24]
  exact ⟨_, rfl, rfl, congrArg bln (by simpa using hr)⟩

set_option maxHeartbeats 2000000 in
theorem law10_Conds (l : List ACond) : Pure Tryz.prog 36 [.pd (.slice (rows ACond.pd l))] (fun d => d = .pd (.slice (rows ACond.pd (l.take 41)))) := by
 refine pure_of_run follows an_zqk2u Tryz.func36 rfl ok_zqk2u.1 ok_zqk2u.2 (by simp [Tryz.ntmps36]) ?_
 rw [run_start]
 simp only [ac_zqk2u, go_sem, contS_seq, simprocAttr, rows_len]
 refine loopS (fun k st => ∃ i : Nat, k = 41 - i ∧ i ≤ 41 ∧ i ≤ l.length ∧
  st = ⟨[(0, .pd (.slice (rows ACond.pd l))), (3, .own 117 6 (rows ACond.pd (l.take i)) 21), (4, int i)], [], [], .no⟩) 41 _ ?_ ⟨0, rfl, by omega, by omega, rfl⟩ ?_
 ·exact Weak.own1 3 21 117 6 (by kernel_rfl) (by decide) rfl (by simp [lessL, lk, St.purge, St.put, D.purge, rows]) (by simp [lessL, lk, St.purge, D.purges, D.purge]) (by simp [lessL]) rfl
 rintro k st ⟨i, rfl, hi6, hi, rfl⟩
 have hw := i64_succ (show i < 1000000000 by omega)
 by_cases hlt : i < l.length ∧ i < 41
 ·obtain ⟨x, hx⟩ := at_lt hlt.1
  have h1 : ((i : Int) < (l.length : Int)) = True := eq_true (by omega)
  have h2 : ((i : Int) < 41) = True := eq_true (by omega)
  have hL : (l.take i).length = i := by simp; omega
  have hT : l.take (i + 1) = l.take i ++ [x] := take_at hx
  generalize l.take i = L at hL hT
  simp only [go_sem, contS_seq, simprocAttr, rows_len, rows_get hx, h1, h2, hw]
  refine ⟨by simp, by unfold maxLen; omega, by omega, 41 - (i + 1), _, by omega, ?_, i + 1, rfl, by omega, by omega, rfl⟩
  rw [hT, ← rows_one L x]
  exact lessA
 ·have hT : l.take i = l.take 41 := by
   rcases Nat.lt_or_ge i 41 with h | h
   ·rw [List.take_of_length_le (by omega), List.take_of_length_le (by omega)]
   ·rw [show i = 41 by omega]
  rw [← hT]
  by_cases h1 : i < l.length
  ·have h1' : ((i : Int) < (l.length : Int)) = True := eq_true (by omega)
   have h2 : ((i : Int) < 41) = False := eq_false (by omega)
   simp only [go_sem, contS_seq, simprocAttr, rows_len, h1', h2]
   simp only [retK, resD, retL, oneD, simprocAttr, Tryz.results36]
   exact ⟨_, rfl, rfl, rfl⟩
  ·have h1' : ((i : Int) < (l.length : Int)) = False := eq_false (by omega)
   simp only [go_sem, contS_seq, simprocAttr, rows_len, h1']
   simp only [retK, resD, retL, oneD, simprocAttr, Tryz.results36]
   exact ⟨_, rfl, rfl, rfl⟩

def fewStored (x : AStored) : AStored := ⟨fewObj x.o, x.version, x.gen, x.born, x.conds.take 41⟩
def fewEvent (e : AEvent) : AEvent := ⟨e.version, fewRef e.ref⟩
def fewStore (s : AStore) : AStore := ⟨s.version, s.floor, (s.l.take 41).map fewStored, (s.log.take 17).map fewEvent⟩

theorem fewStore_ok (s : AStore) : (fewStore s).ok where
 l := by simp [fewStore]; omega
 log := by simp [fewStore]; omega
 o := fun x hx => by
   obtain ⟨y, _, rfl⟩ := List.mem_map.1 hx
   exact ⟨fewObj_ok _, fewObj_sok _⟩
 c := fun x hx => by
   obtain ⟨y, _, rfl⟩ := List.mem_map.1 hx
   simp [fewStored]; omega


set_option maxHeartbeats 8000000 in
theorem law10_Few (s : AStore) : Pure Tryz.prog 13 [s.d] (fun d => d = (fewStore s).d) := by
 refine pure_of_run follows an_z98z1 Tryz.func13 rfl ok_z98z1.1 ok_z98z1.2 (by simp [Tryz.ntmps13]) ?_
 rw [run_start]
 simp only [ac_z98z1, go_sem, contS_seq, simprocAttr, rows_len]
 refine loopS (fun k st => ∃ i : Nat, k = 41 - i ∧ i ≤ 41 ∧ i ≤ s.l.length ∧
  st = ⟨[(1, .ptr 1 0), (2, .ptr 2 0), (3, .ptr 3 0), (4, int i)], [(3, [int s.version, int s.floor, .own 50 17 (rows AStored.pd ((s.l.take i).map fewStored)) 44, .nils]), (2, [int 0, int 0, .nils, .nils]),
   (1, [int s.version, int s.floor, .pd (.slice (rows AStored.pd s.l)), .pd (.slice (rows AEvent.pd s.log))])], [], .no⟩) 41 _ ?_ ⟨0, rfl, by omega, by omega, rfl⟩ ?_
 ·exact Weak.ownB 3 2 44 50 17 (by kernel_rfl) (by decide) rfl rfl (by simp [lessL, lk, St.purge, D.purge, rows]) (by simp [lessL, lk, St.purge, D.purges, D.purge, rows]) (by simp [lessL]) rfl
 rintro k st ⟨i, rfl, hi6, hi, rfl⟩
 have hw := i64_succ (show i < 1000000000 by omega)
 by_cases hlt : i < s.l.length ∧ i < 41
 ·obtain ⟨x, hx⟩ := at_lt hlt.1
  have h1 : ((i : Int) < (s.l.length : Int)) = True := eq_true (by omega)
  have h2 : ((i : Int) < 41) = True := eq_true (by omega)
  have e1 := map_step (f := fewStored) (g := AStored.pd) hx
  have e2 := map_len (f := fewStored) (g := AStored.pd) (l := s.l) hi6
  generalize rows AStored.pd ((s.l.take i).map fewStored) = E at e1 e2
  simp only [go_sem, contS_seq, simprocAttr, go_sem, rows_len, rows_get hx, h1, h2]
  repeat' (first
   | (refine (law9_Few x.o).callX (enters_of Tryz.func28 rfl rfl) _ rfl rfl ?_; rintro _ rfl; simp only [go_sem, contS_seq, simprocAttr, go_sem, rows_len, rows_get hx])
   | (refine (law10_Conds x.conds).callX (enters_of Tryz.func36 rfl rfl) _ rfl rfl ?_; rintro _ rfl; simp only [go_sem, contS_seq, simprocAttr, go_sem, rows_len, rows_get hx])
   | with_reducible refine And.intro ?_ ?_)
  ·simp
  ·unfold maxLen; omega
  ·omega
  ·refine ⟨41 - (i + 1), _, by omega, ?_, i + 1, rfl, by omega, by omega, rfl⟩
   rw [← e1, hw]
   exact Weak.less (by simp [lessL, lk]) (by simp [lessL, lk, fewStored]) (by simp [lessL, lk]) rfl
 have hT : s.l.take i = s.l.take 41 := by
  rcases Nat.lt_or_ge i 41 with h | h
  ·rw [List.take_of_length_le (by omega), List.take_of_length_le (by omega)]
  ·rw [show i = 41 by omega]
 have hcond : ((i : Int) < (s.l.length : Int)) = False ∨ (((i : Int) < (s.l.length : Int)) = True ∧ ((i : Int) < 41) = False) := by
  by_cases h : i < s.l.length
  ·exact .inr ⟨eq_true (by omega), eq_false (by omega)⟩
  ·exact .inl (eq_false (by omega))
 rw [hT]
 clear hT hlt hw
 generalize hX : (s.l.take 41).map fewStored = X
 rcases hcond with h1 | ⟨h1, h2⟩
 case' inl => simp only [go_sem, contS_seq, simprocAttr, rows_len, h1]
 case' inr => simp only [go_sem, contS_seq, simprocAttr, rows_len, h1, h2]
 all_goals
  clear hi hi6 h1
  try clear h2
  clear i
  refine loopS (fun k st => ∃ i : Nat, k = 17 - i ∧ i ≤ 17 ∧ i ≤ s.log.length ∧
   st = ⟨[(1, .ptr 1 0), (2, .ptr 2 0), (3, .ptr 3 0), (6, int i)], [(3, [int s.version, int s.floor, .own 50 17 (rows AStored.pd X) 44, .own 78 4 (rows AEvent.pd ((s.log.take i).map fewEvent)) 74]), (2, [int 0, int 0, .nils, .nils]),
    (1, [int s.version, int s.floor, .pd (.slice (rows AStored.pd s.l)), .pd (.slice (rows AEvent.pd s.log))])], [], .no⟩) 17 _ ?_ ⟨0, rfl, by omega, by omega, rfl⟩ ?_
  ·exact Weak.ownB 3 3 74 78 4 (by kernel_rfl) (by decide) rfl rfl (by simp [lessL, lk, St.purge, D.purge, rows]) (by simp [lessL, lk, St.purge, D.purges, D.purge, rows]) (by simp [lessL]) rfl
  rintro k st ⟨i, rfl, hi6, hi, rfl⟩
  have hw := i64_succ (show i < 1000000000 by omega)
  by_cases hlt : i < s.log.length ∧ i < 17
  ·obtain ⟨x, hx⟩ := at_lt hlt.1
   have h1 : ((i : Int) < (s.log.length : Int)) = True := eq_true (by omega)
   have h2 : ((i : Int) < 17) = True := eq_true (by omega)
   have e1 := map_step (f := fewEvent) (g := AEvent.pd) hx
   have e2 := map_len (f := fewEvent) (g := AEvent.pd) (l := s.log) hi6
   generalize rows AEvent.pd ((s.log.take i).map fewEvent) = E at e1 e2
   simp only [go_sem, contS_seq, simprocAttr, go_sem, rows_len, rows_get hx, h1, h2]
   repeat' (first
    | (refine (law9_FewRef x.ref).callX (enters_of Tryz.func18 rfl rfl) _ rfl rfl ?_; rintro _ rfl; simp only [go_sem, contS_seq, simprocAttr, go_sem, rows_len, rows_get hx])
    | with_reducible refine And.intro ?_ ?_)
   ·simp
   ·unfold maxLen; omega
   ·omega
   ·refine ⟨17 - (i + 1), _, by omega, ?_, i + 1, rfl, by omega, by omega, rfl⟩
    rw [← e1, hw]
    exact Weak.less (by simp [lessL, lk]) (by simp [lessL, lk, fewEvent]) (by simp [lessL, lk]) rfl
  have hT : s.log.take i = s.log.take 17 := by
   rcases Nat.lt_or_ge i 17 with h | h
   ·rw [List.take_of_length_le (by omega), List.take_of_length_le (by omega)]
   ·rw [show i = 17 by omega]
  have hcond : ((i : Int) < (s.log.length : Int)) = False ∨ (((i : Int) < (s.log.length : Int)) = True ∧ ((i : Int) < 17) = False) := by
   by_cases h : i < s.log.length
   ·exact .inr ⟨eq_true (by omega), eq_false (by omega)⟩
   ·exact .inl (eq_false (by omega))
  rw [hT]
  rcases hcond with h1 | ⟨h1, h2⟩
  ·simp only [go_sem, contS_seq, simprocAttr, rows_len, h1]
   simp only [retK, resD, resA, AOp.ex, St.ev, retL, oneD, simprocAttr, ret_z98z1]
   exact ⟨_, rfl, rfl, by unfold fewStore; rw [hX]; rfl⟩
  ·simp only [go_sem, contS_seq, simprocAttr, rows_len, h1, h2]
   simp only [retK, resD, resA, AOp.ex, St.ev, retL, oneD, simprocAttr, ret_z98z1]
   exact ⟨_, rfl, rfl, by unfold fewStore; rw [hX]; rfl⟩

def oA (b : Bool) : AObj := ⟨⟨1, ⟨#[]⟩, ⟨#[97]⟩⟩, b, [], [], ⟨#[]⟩, [], [], [], [], [], []⟩
theorem oA_ok (b : Bool) : (oA b).ok := by constructor <;> simp [oA]
theorem oA_sok (b : Bool) : (oA b).sok := by constructor <;> simp [oA] <;> decide

theorem law10_class (b : Bool) : Pure Tryz.prog 46 [str ⟨#[97]⟩, bln b] (fun d => d = (oA b).d) := by
 refine pure_of_run follows an_zalwn Tryz.func46 rfl ok_zalwn.1 ok_zalwn.2 (by simp [Tryz.ntmps46]) ?_
 rw [run_start]
 simp only [ac_zalwn, go_sem, contS_seq, simprocAttr]
 simp only [retK, resD, resA, AOp.ex, St.ev, retL, oneD, simprocAttr, ret_zalwn]
 exact ⟨_, rfl, rfl, rfl⟩

def sU (i : Nat) : AStore := ⟨i + 1, if i = 16 then 1 else 0, [⟨oA (decide (i % 2 = 1)), i + 1, i + 1, 1, []⟩], ((List.range (i + 1)).map fun k => ⟨k + 1, ⟨1, ⟨#[]⟩, ⟨#[97]⟩⟩⟩).drop (if i = 16 then 1 else 0)⟩

theorem sU_ok {i : Nat} (h : i ≤ 16) : (sU i).ok where
 l := by simp [sU]
 log := by simp [sU]; omega
 o := fun x hx => by
   simp only [sU, List.mem_singleton] at hx
   subst hx
   exact ⟨oA_ok _, oA_sok _⟩
 c := fun x hx => by
   simp only [sU, List.mem_singleton] at hx
   subst hx
   simp

theorem s0_ok : (⟨0, 0, [], []⟩ : AStore).ok := by constructor <;> simp
theorem aw1 : doCreate ⟨0, 0, [], []⟩ (oA false) = (sU 0, 0) := by decide +kernel
theorem aw2 : doUpdate (sU 0) (oA true) 5 = (sU 0, 7) := by decide +kernel
theorem aw3 : doUpdate (sU 0) (oA false) 0 = (sU 0, 0) := by decide +kernel
theorem aw4 : getS (sU 0) ⟨1, ⟨#[]⟩, ⟨#[97]⟩⟩ = (⟨oA false, 1, 1, 1, []⟩, 0) := by decide +kernel
theorem aw5 : ∀ i, i < 16 → doUpdate (sU i) (oA (decide (i % 2 = 0))) 0 = (sU (i + 1), 0) := by decide +kernel
theorem aw6 : sinceS (sU 16) 0 = ([], 6) := by decide +kernel


abbrev AStore.ds (s : AStore) : List D := [int s.version, int s.floor, .pd (.slice (rows AStored.pd s.l)), .pd (.slice (rows AEvent.pd s.log))]

set_option maxHeartbeats 8000000 in
theorem awake10 : Pure Tryz.prog 16 [] (fun d => d = bln true) := by
 have c1 := store_Create ⟨0, 0, [], []⟩ (oA false) s0_ok (oA_ok _)
 rw [aw1] at c1
 have c2 := store_Update (sU 0) (oA true) 5 (sU_ok (by omega)) (oA_ok _)
 rw [aw2] at c2
 have c3 := store_Update (sU 0) (oA false) 0 (sU_ok (by omega)) (oA_ok _)
 rw [aw3] at c3
 have c4 := store_Get (sU 0) ⟨1, ⟨#[]⟩, ⟨#[97]⟩⟩ (sU_ok (by omega))
 rw [aw4] at c4
 have c6 := store_Since (sU 16) 0 (sU_ok (by omega))
 rw [aw6] at c6
 have c7 := ref10_Same (sU 0) (sU 0) (sU_ok (by omega)) (sU_ok (by omega))
 rw [decide_eq_true rfl] at c7
 refine pure_of_run follows an_zxx1t Tryz.func16 rfl ok_zxx1t.1 ok_zxx1t.2 (by simp [Tryz.ntmps16]) ?_
 rw [run_start]
 simp only [ac_zxx1t]
 apply run_cut
 ·intro K' hK
  simp only [go_sem, contS_seq, simprocAttr]
  exact hK
 apply run_cut
 ·intro K' hK
  simp only [go_sem, contS_seq, simprocAttr]
  refine (law10_class false).callW (enters_of Tryz.func46 rfl rfl) _ rfl rfl ?_
  rintro _ rfl
  simp only [go_sem, contS_seq, simprocAttr]
  refine c1.callW (enters_of Tryz.func29 rfl rfl) _ rfl rfl ?_
  rintro _ rfl
  simp only [go_sem, contS_seq, simprocAttr]
  exact hK
 apply run_cut
 ·intro K' hK
  simp only [go_sem, contS_seq, simprocAttr, go_sem]
  repeat' (first
   | exact hK
   | (refine (law10_class true).callX (enters_of Tryz.func46 rfl rfl) _ rfl rfl ?_; rintro _ rfl; simp only [go_sem, contS_seq, simprocAttr, go_sem])
   | (refine c2.callX (enters_of Tryz.func47 rfl rfl) _ rfl rfl ?_; rintro _ rfl; simp only [go_sem, contS_seq, simprocAttr, go_sem])
   | with_reducible refine And.intro ?_ ?_)
 apply run_cut
 ·intro K' hK
  simp only [go_sem, contS_seq, simprocAttr, go_sem]
  repeat' (first
   | exact hK
   | (refine (law10_class false).callX (enters_of Tryz.func46 rfl rfl) _ rfl rfl ?_; rintro _ rfl; simp only [go_sem, contS_seq, simprocAttr, go_sem])
   | (refine c3.callX (enters_of Tryz.func47 rfl rfl) _ rfl rfl ?_; rintro _ rfl; simp only [go_sem, contS_seq, simprocAttr, go_sem])
   | with_reducible refine And.intro ?_ ?_)
 apply run_cut
 ·intro K' hK
  simp only [go_sem, contS_seq, simprocAttr, go_sem]
  repeat' (first
   | exact hK
   | (refine (law10_class false).callX (enters_of Tryz.func46 rfl rfl) _ rfl rfl ?_; rintro _ rfl; simp only [go_sem, contS_seq, simprocAttr, go_sem])
   | (refine c4.callX (enters_of Tryz.func19 rfl rfl) _ rfl rfl ?_; rintro _ rfl; simp only [go_sem, contS_seq, simprocAttr, go_sem])
   | with_reducible refine And.intro ?_ ?_)
 simp only [go_sem, contS_seq, simprocAttr]
 refine loopS (fun k st => ∃ i : Nat, k = 16 - i ∧ i ≤ 16 ∧
  st = ⟨[(1, .ptr 1 0), (2, int 0), (4, int 7), (5, .ptr 5 0), (6, int 0), (7, .ptr 7 0), (8, int 0), (9, .ptr 9 0), (10, int i)], [(9, (sU i).ds), (7, AStored.ds ⟨oA false, 1, 1, 1, []⟩), (5, (sU 0).ds), (1, (sU 0).ds)], [], .no⟩) 16 _ ?_ ⟨0, rfl, by omega, rfl⟩ ?_
 ·exact lessA
 rintro k st ⟨i, rfl, hi, rfl⟩
 have hw := i64_succ (show i < 1000000000 by omega)
 by_cases hlt : i < 16
 ·have h1 : ((i : Int) < 16) = True := eq_true (by omega)
  have c5 := fun b => store_Update (sU i) (oA b) 0 (sU_ok hi) (oA_ok _)
  have a5 := aw5 i hlt
  have hz : ((2 : Int) = 0) = False := eq_false (by omega)
  by_cases hm : i % 2 = 0
  ·have hm' : ((i : Int).tmod 2 = 0) = True := eq_true (by rw [Int.tmod_eq_emod_of_nonneg (by omega)]; omega)
   rw [decide_eq_true hm] at a5
   have c := c5 true
   rw [a5] at c
   simp only [go_sem, contS_seq, simprocAttr, go_sem, h1, hm', hz]
   refine (law10_class true).callX (enters_of Tryz.func46 rfl rfl) _ rfl rfl ?_
   rintro _ rfl
   simp only [go_sem, contS_seq, simprocAttr, go_sem]
   refine c.callX (enters_of Tryz.func47 rfl rfl) _ rfl rfl ?_
   rintro _ rfl
   simp only [go_sem, contS_seq, simprocAttr, go_sem, hw]
   refine ⟨16 - (i + 1), _, by omega, ?_, i + 1, rfl, by omega, rfl⟩
   exact lessA
  ·have hm' : ((i : Int).tmod 2 = 0) = False := eq_false (by rw [Int.tmod_eq_emod_of_nonneg (by omega)]; omega)
   rw [decide_eq_false hm] at a5
   have c := c5 false
   rw [a5] at c
   simp only [go_sem, contS_seq, simprocAttr, go_sem, h1, hm', hz]
   refine (law10_class false).callX (enters_of Tryz.func46 rfl rfl) _ rfl rfl ?_
   rintro _ rfl
   simp only [go_sem, contS_seq, simprocAttr, go_sem]
   refine c.callX (enters_of Tryz.func47 rfl rfl) _ rfl rfl ?_
   rintro _ rfl
   simp only [go_sem, contS_seq, simprocAttr, go_sem, hw]
   refine ⟨16 - (i + 1), _, by omega, ?_, i + 1, rfl, by omega, rfl⟩
   exact lessA
 ·have h1 : ((i : Int) < 16) = False := eq_false (by omega)
  obtain rfl : i = 16 := by omega
  simp only [go_sem, contS_seq, simprocAttr, h1]
  refine c6.callW (enters_of Tryz.func15 rfl rfl) _ rfl rfl ?_
  rintro _ rfl
  have hv : ((sU 0).version = 1) = True := eq_true rfl
  simp only [go_sem, contS_seq, simprocAttr, hv]
  refine c7.callW (enters_of Tryz.func24 rfl rfl) _ rfl rfl ?_
  rintro _ rfl
  simp only [go_sem, contS_seq, simprocAttr]
  simp only [retK, resD, retL, oneD, simprocAttr, Tryz.results16]
  exact ⟨_, rfl, rfl, rfl⟩


theorem step_get {s t : AStore} {r : ARef} {new : List AStored} (h : Step s r new t) (hn : ∀ x ∈ new, x.o.ref = r) : at_ t.l r = new.head? := by
 rw [h.l, at_putL hn, if_pos rfl]

theorem put_gone {l : List AStored} {r : ARef} {x : AStored} (h : Srt l) (hx : x.o.ref = r) (ha : at_ l r = none) : putL (putL l r [x]) r [] = l := by
 have e := splitS h r
 rw [ha, Option.toList_none, List.nil_append] at e
 unfold putL
 simp only [List.filter_append, List.filter_filter, List.nil_append, List.filter_cons, hx, refLt_self, Bool.false_eq_true, if_false, List.filter_nil]
 have e1 : l.filter (fun y => refLt y.o.ref r && refLt y.o.ref r) = l.filter fun y => refLt y.o.ref r := List.filter_congr fun y _ => Bool.and_self _
 have e2 : l.filter (fun y => refLt r y.o.ref && refLt r y.o.ref) = l.filter fun y => refLt r y.o.ref := List.filter_congr fun y _ => Bool.and_self _
 have e3 : l.filter (fun y => refLt y.o.ref r && refLt r y.o.ref) = [] := List.filter_eq_nil_iff.2 fun y _ hy => by
  rw [Bool.and_eq_true] at hy
  rw [refLt_asym hy.1] at hy
  cases hy.2
 have e4 : l.filter (fun y => refLt r y.o.ref && refLt y.o.ref r) = [] := List.filter_eq_nil_iff.2 fun y _ hy => by
  rw [Bool.and_eq_true] at hy
  rw [refLt_asym hy.1] at hy
  cases hy.2
 rw [e1, e2, e3, e4, List.append_nil, List.nil_append]
 exact e.symm

theorem back_law {s : AStore} {o : AObj} (hv : s.version ≤ 1099511627772) (h : (doCreate s o).2 = 0) :
 (doDelete (doCreate s o).1 o.ref 0).2 = 0 ∧ (doDelete (doCreate s o).1 o.ref 0).1.l = s.l ∧ (doCreate (doDelete (doCreate s o).1 o.ref 0).1 o).2 = 0 ∧
 ∃ t, getS (doCreate (doDelete (doCreate s o).1 o.ref 0).1 o).1 o.ref = (t, 0) ∧ t.gen = 1 ∧ t.born = s.version + 3 ∧ objects (doCreate (doDelete (doCreate s o).1 o.ref 0).1 o).1 = objects (doCreate s o).1 ∧
   storeMay s = true ∧ objMay o = true ∧ Step s o.ref [⟨o, s.version + 1, 1, s.version + 1, []⟩] (doCreate s o).1 ∧ Step (doCreate s o).1 o.ref [] (doDelete (doCreate s o).1 o.ref 0).1 ∧
   Step (doDelete (doCreate s o).1 o.ref 0).1 o.ref [⟨o, s.version + 3, 1, s.version + 3, []⟩] (doCreate (doDelete (doCreate s o).1 o.ref 0).1 o).1 := by
 obtain ⟨hm, ho, ha, hl⟩ := create_cases h
 rcases create_step hm ho ha hl with ⟨h1, _⟩ | ⟨_, _, h1⟩
 ·omega
 generalize (doCreate s o).1 = x at h1 ⊢
 have hx := step_get h1 (by simp)
 have hd : doDelete x o.ref 0 = change x o.ref [] := by
  unfold doDelete oldS
  rw [h1.may, hx]
  rfl
 have hxv := h1.ver
 rcases there_step (new := []) h1.may hx (by simp) (by simp) (by simp) with ⟨h2, _⟩ | ⟨_, h2, h3⟩
 ·omega
 rw [← hd] at h2 h3
 generalize (doDelete x o.ref 0) = q at h2 h3 ⊢
 obtain ⟨y, e⟩ := q
 simp only at h2 h3 ⊢
 subst h2
 have hyl : y.l = s.l := by
  rw [h3.l, h1.l]
  exact put_gone (smay_parts hm).2.2.2 rfl ha
 have hyv := h3.ver
 rcases create_step h3.may ho (by rw [hyl]; exact ha) (by rw [hyl]; exact hl) with ⟨h4, _⟩ | ⟨_, h4, h5⟩
 ·omega
 have hz := step_get h5 (by simp)
 have e3 : y.version + 1 = s.version + 3 := by omega
 rw [e3] at h5 hz
 refine ⟨rfl, hyl, h4, _, getS_of h5.may hz, rfl, rfl, ?_, hm, ho, h1, h3, h5⟩
 unfold objects
 rw [h5.l, h1.l, hyl]
 unfold putL
 simp


set_option maxHeartbeats 2000000 in
theorem ref10_SameObjects (l m : List AObj) (hl : l.length ≤ 1000) (hm : m.length ≤ 1000) (ho : ∀ x ∈ l, x.ok) : Pure Tryz.prog 25 [.pd (.slice (rows AObj.pd l)), .pd (.slice (rows AObj.pd m))] (fun d => d = bln (decide (l = m))) := by
 refine pure_of_run follows an_z28fu Tryz.func25 rfl ok_z28fu.1 ok_z28fu.2 (by simp [Tryz.ntmps25]) ?_
 rw [run_start]
 by_cases hn : (l.length : Int) = (m.length : Int)
 case neg =>
  have hn' := eq_false hn
  simp only [ac_z28fu, go_sem, contS_seq, simprocAttr, rows_len, hn']
  simp only [retK, resD, retL, oneD, simprocAttr, Tryz.results25]
  exact ⟨_, rfl, rfl, congrArg bln (decide_eq_false (fun h => hn (by rw [h]))).symm⟩
 have hn' := eq_true hn
 simp only [ac_z28fu, go_sem, contS_seq, simprocAttr, rows_len, hn']
 refine loopS (fun k st => ∃ i : Nat, k = l.length - i ∧ i ≤ l.length ∧ decide (l.drop i = m.drop i) = decide (l = m) ∧
  st = ⟨[(0, .pd (.slice (rows AObj.pd l))), (1, .pd (.slice (rows AObj.pd m))), (5, int i)], [], [], .no⟩) l.length _ ?_ ⟨0, rfl, Nat.zero_le _, rfl, rfl⟩ ?_
 ·exact lessA
 rintro k st ⟨i, rfl, hi, hr, rfl⟩
 by_cases hlt : i < l.length
 ·obtain ⟨x, hx⟩ := at_lt hlt
  obtain ⟨y, hy⟩ := at_lt (show i < m.length by omega)
  have hlt' : ((i : Int) < (l.length : Int)) = True := eq_true (by omega)
  have hlt2 : ((i : Int) < (m.length : Int)) = True := eq_true (by omega)
  have hw := i64_succ (show i < 1000000000 by omega)
  rw [drop_at hx, drop_at hy] at hr
  simp only [go_sem, contS_seq, simprocAttr, go_sem, rows_len, hlt', hlt2, rows_get hx, rows_get hy]
  refine (ref9_Same x y (ho x (List.mem_of_getElem? hx))).callX (enters_of Tryz.func35 rfl rfl) _ rfl rfl ?_
  rintro _ rfl
  by_cases h : x = y
  ·have h' := eq_true h
   simp only [go_sem, contS_seq, simprocAttr, go_sem, h', hw]
   subst h
   simp only [List.cons.injEq, true_and] at hr
   refine ⟨l.length - (i + 1), _, by omega, ?_, i + 1, rfl, by omega, hr, rfl⟩
   exact lessA
  ·have h' := eq_false h
   simp only [go_sem, contS_seq, simprocAttr, go_sem, h', hw]
   simp only [retK, resD, retL, oneD, simprocAttr, Tryz.results25]
   rw [decide_eq_false (fun e => h (List.cons.inj e).1)] at hr
   exact ⟨_, rfl, rfl, congrArg bln hr⟩
 ·have hlt' : ((i : Int) < (l.length : Int)) = False := eq_false (by omega)
  have hlt2 : ((i : Int) < (m.length : Int)) = False := eq_false (by omega)
  rw [List.drop_eq_nil_of_le (by omega), List.drop_eq_nil_of_le (by omega)] at hr
  simp only [go_sem, contS_seq, simprocAttr, go_sem, rows_len, hlt', hlt2]
  simp only [retK, resD, retL, oneD, simprocAttr, Tryz.results25]
  exact ⟨_, rfl, rfl, congrArg bln (by simpa using hr)⟩

theorem objects_ok {s : AStore} (h : s.ok) : (objects s).length ≤ 100 ∧ ∀ x ∈ objects s, x.ok := by
 refine ⟨by simp [objects, h.l], fun x hx => ?_⟩
 obtain ⟨y, hy, rfl⟩ := List.mem_map.1 hx
 exact (h.o y hy).1

set_option maxHeartbeats 8000000 in
theorem law_StoreBack (s0 : AStore) (o0 : AObj) : Pure Tryz.prog 5 [s0.d, o0.d] (fun d => d = bln true) := by
 refine pure_of_run follows an_zmweq Tryz.func5 rfl ok_zmweq.1 ok_zmweq.2 (by simp [Tryz.ntmps5]) ?_
 rw [run_start]
 simp only [ac_zmweq]
 apply run_cut
 ·intro K' hK
  simp only [go_sem, contS_seq, simprocAttr]
  exact hK
 apply run_cut
 ·intro K' hK
  simp only [go_sem, contS_seq, simprocAttr, go_sem]
  repeat' (first
   | exact hK
   | (refine (law10_Few s0).callX (enters_of Tryz.func13 rfl rfl) _ rfl rfl ?_; rintro _ rfl; simp only [go_sem, contS_seq, simprocAttr, go_sem])
   | (refine (law9_Few o0).callX (enters_of Tryz.func28 rfl rfl) _ rfl rfl ?_; rintro _ rfl; simp only [go_sem, contS_seq, simprocAttr, go_sem])
   | with_reducible refine And.intro ?_ ?_)
 have hok := fewStore_ok s0
 have hoo := fewObj_ok o0
 have hos := fewObj_sok o0
 generalize fewStore s0 = s at hok ⊢
 generalize fewObj o0 = o at hoo hos ⊢
 by_cases hv : (1099511627772 : Int) < s.version
 case pos =>
  have hv' := eq_true hv
  simp only [go_sem, contS_seq, simprocAttr, hv']
  refine awake10.callW (enters_of Tryz.func16 rfl rfl) _ rfl rfl ?_
  rintro _ rfl
  simp only [go_sem, contS_seq, simprocAttr]
  simp only [retK, resD, retL, oneD, simprocAttr, Tryz.results5]
  exact ⟨_, rfl, rfl, rfl⟩
 have hv' := eq_false hv
 simp only [go_sem, contS_seq, simprocAttr, hv']
 refine (store_Create s o hok hoo).callW (enters_of Tryz.func29 rfl rfl) _ rfl rfl ?_
 rintro _ rfl
 by_cases hc : (doCreate s o).2 = 0
 case neg =>
  have hc' := eq_false hc
  rw [create_refused hc]
  generalize (doCreate s o).2 = y at hc hc'
  simp only [go_sem, contS_seq, simprocAttr, hc']
  refine (ref10_Same s s hok hok).callW (enters_of Tryz.func24 rfl rfl) _ rfl rfl ?_
  rintro _ rfl
  rw [decide_eq_true rfl]
  simp only [go_sem, contS_seq, simprocAttr]
  refine awake10.callW (enters_of Tryz.func16 rfl rfl) _ rfl rfl ?_
  rintro _ rfl
  simp only [go_sem, contS_seq, simprocAttr]
  simp only [retK, resD, retL, oneD, simprocAttr, Tryz.results5]
  exact ⟨_, rfl, rfl, rfl⟩
 obtain ⟨B1, B2, B3, t, B4, B5, B6, B7, hm, hom, S1, S2, S3⟩ := back_law (by omega) hc
 have hokx := ok_step hok S1 (by simp [hoo, hos])
 have hoky := ok_step hokx S2 (by simp)
 have hokz := ok_step hoky S3 (by simp [hoo, hos])
 have c2 := store_Delete (doCreate s o).1 o.ref 0 hokx
 have c3 := store_Create (doDelete (doCreate s o).1 o.ref 0).1 o hoky hoo
 have c4 := store_Get (doCreate (doDelete (doCreate s o).1 o.ref 0).1 o).1 o.ref hokz
 rw [B1] at c2
 rw [B3] at c3
 rw [B4] at c4
 rw [hc]
 have O1 : objects (doDelete (doCreate s o).1 o.ref 0).1 = objects s := by unfold objects; rw [B2]
 generalize (doCreate (doDelete (doCreate s o).1 o.ref 0).1 o).1 = z at c3 c4 hokz B7
 generalize (doDelete (doCreate s o).1 o.ref 0).1 = y at c2 c3 hoky O1
 generalize (doCreate s o).1 = x at c2 hokx B7
 have hh := head_iff.1 (smay_parts hm).1
 have w1 : IntKind.i64.wrap (s.version + 3) = s.version + 3 := IntWalk.i64_in _ (by omega)
 have b5 := eq_true B5
 have b6 := eq_true B6
 have c5 := store_Objects y hoky.l
 rw [O1] at c5
 have c6 := store_Objects s hok.l
 have c7 := store_Objects z hokz.l
 rw [B7] at c7
 have c8 := store_Objects x hokx.l
 have c9 := ref10_SameObjects (objects s) (objects s) (by have := (objects_ok hok).1; omega) (by have := (objects_ok hok).1; omega) (objects_ok hok).2
 have c10 := ref10_SameObjects (objects x) (objects x) (by have := (objects_ok hokx).1; omega) (by have := (objects_ok hokx).1; omega) (objects_ok hokx).2
 rw [decide_eq_true rfl] at c9 c10
 simp only [go_sem, contS_seq, simprocAttr]
 refine c2.callW (enters_of Tryz.func30 rfl rfl) _ rfl rfl ?_
 rintro _ rfl
 simp only [go_sem, contS_seq, simprocAttr]
 refine c3.callW (enters_of Tryz.func29 rfl rfl) _ rfl rfl ?_
 rintro _ rfl
 simp only [go_sem, contS_seq, simprocAttr]
 refine c4.callW (enters_of Tryz.func19 rfl rfl) _ rfl rfl ?_
 rintro _ rfl
 simp only [go_sem, contS_seq, simprocAttr, go_sem, w1, b5, b6]
 repeat' (first
  | (refine c5.callX (enters_of Tryz.func26 rfl rfl) _ rfl rfl ?_; rintro _ rfl; simp only [go_sem, contS_seq, simprocAttr, go_sem, w1, b5, b6])
  | (refine c6.callX (enters_of Tryz.func26 rfl rfl) _ rfl rfl ?_; rintro _ rfl; simp only [go_sem, contS_seq, simprocAttr, go_sem, w1, b5, b6])
  | (refine c9.callX (enters_of Tryz.func25 rfl rfl) _ rfl rfl ?_; rintro _ rfl; simp only [go_sem, contS_seq, simprocAttr, go_sem, w1, b5, b6])
  | (refine c7.callX (enters_of Tryz.func26 rfl rfl) _ rfl rfl ?_; rintro _ rfl; simp only [go_sem, contS_seq, simprocAttr, go_sem, w1, b5, b6])
  | (refine c8.callX (enters_of Tryz.func26 rfl rfl) _ rfl rfl ?_; rintro _ rfl; simp only [go_sem, contS_seq, simprocAttr, go_sem, w1, b5, b6])
  | (refine c10.callX (enters_of Tryz.func25 rfl rfl) _ rfl rfl ?_; rintro _ rfl; simp only [go_sem, contS_seq, simprocAttr, go_sem, w1, b5, b6])
  | (refine awake10.callX (enters_of Tryz.func16 rfl rfl) _ rfl rfl ?_; rintro _ rfl; simp only [go_sem, contS_seq, simprocAttr, go_sem, w1, b5, b6])
  | with_reducible refine And.intro ?_ ?_)
 all_goals
  simp only [retK, resD, retL, oneD, simprocAttr, Tryz.results5]
  exact ⟨_, rfl, rfl, rfl⟩

end Go.Proofs.YtjgpdjakehoofaaGreatDoor


