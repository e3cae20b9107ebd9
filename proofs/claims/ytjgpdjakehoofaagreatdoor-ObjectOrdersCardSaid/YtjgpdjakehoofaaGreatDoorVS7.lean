/- Texts of the prover's, joined: Q8 QA QM QK QO R8. -/
import Derived.Test.YtjgpdjakehoofaaGreatDoorVS6

namespace Go.Proofs.YtjgpdjakehoofaaGreatDoor
open Go Go.RowKit
set_option linter.unusedSimpArgs false
set_option linter.unusedVariables false
set_option maxRecDepth 100000

theorem refSort_eq {l s : List ARef} (hp : s.Perm l) (hs : s.Pairwise fun x y => refLt y x = false) : refSort l = s := by
 refine List.Perm.eq_of_pairwise (le := fun x y => refLt y x = false) (fun a b _ _ h1 h2 => refLt_tri h2 h1) ?_ hs ((List.mergeSort_perm _ _).trans hp.symm)
 have h := List.pairwise_mergeSort (le := fun x y => !refLt y x) (fun a b c h1 h2 => by
  simp only [Bool.not_eq_true'] at *
  cases h3 : refLt c a with
  | false => rfl
  | true =>
    exfalso
    cases h4 : refLt b a with
    | true => rw [h4] at h1; cases h1
    | false =>
      cases h5 : refLt a b with
      | true => have := refLt_tr h3 h5; rw [this] at h2; cases h2
      | false => rw [refLt_tri h5 h4] at h3; rw [h3] at h2; cases h2) (fun a b => by
  cases h1 : refLt b a with
  | false => rfl
  | true => rw [refLt_asym h1]; rfl) l
 exact h.imp fun {a b} h => by simpa using h

abbrev tWeb : ByteArray := ⟨#[119, 101, 98]⟩
abbrev tApp : ByteArray := ⟨#[97, 112, 112]⟩
abbrev tApi : ByteArray := ⟨#[97, 112, 105]⟩
abbrev tGw : ByteArray := ⟨#[103, 119]⟩

def rt9 : AObj := ⟨⟨6, tWeb, ⟨#[97]⟩⟩, false, [], [], ⟨#[]⟩, [], [⟨⟨#[]⟩, tGw, ⟨#[]⟩, 0⟩], [], [⟨[], [], [⟨⟨3, tApp, tApi⟩, 0, 0⟩]⟩], [], []⟩
def gw9 : AObj := ⟨⟨5, tWeb, tGw⟩, false, [], [], ⟨#[99]⟩, [], [], [], [], [], []⟩

theorem rt9_ok : rt9.ok := by
 constructor
 all_goals first
  | (simp [rt9]; done)
  | (intro r hr
     simp only [rt9, List.mem_singleton] at hr
     subst hr
     constructor <;> simp)
theorem gw9_ok : gw9.ok := by constructor <;> simp [gw9]
theorem rt9_few : rt9.few := by constructor <;> simp [rt9]
theorem rt9_refs : refsOf rt9 = [⟨2, ⟨#[]⟩, tWeb⟩, ⟨3, tApp, tApi⟩, ⟨5, tWeb, tGw⟩] := by
 have h1 : objMay rt9 = true := by decide +kernel
 have h2 : refsList rt9 = [⟨5, tWeb, tGw⟩, ⟨3, tApp, tApi⟩, ⟨2, ⟨#[]⟩, tWeb⟩] := by decide +kernel
 unfold refsOf
 rw [if_pos h1, h2, refSort_eq (s := [⟨2, ⟨#[]⟩, tWeb⟩, ⟨3, tApp, tApi⟩, ⟨5, tWeb, tGw⟩]) (by decide) (by decide +kernel)]
 decide +kernel

theorem law9_route : Pure Tryz.prog 86 [] (fun d => d = rt9.d) := by
 refine pure_of_run follows an_zlfbg Tryz.func86 rfl ok_zlfbg.1 ok_zlfbg.2 (by simp [Tryz.ntmps86]) ?_
 rw [run_start]
 simp only [ac_zlfbg, go_sem, simprocAttr]
 simp only [retK, resD, resA, AOp.ex, St.ev, retL, oneD, simprocAttr, ret_zlfbg]
 exact ⟨_, rfl, rfl, rfl⟩

set_option maxHeartbeats 2000000 in
theorem awake9 : Pure Tryz.prog 41 [] (fun d => d = bln true) := by
 have cT := object_Text rt9.ref
 rw [if_pos (show mayRef rt9.ref = true by decide +kernel), show textOf rt9.ref = ⟨#[54, 32, 119, 101, 98, 47, 97]⟩ by decide +kernel] at cT
 have cM := object_May gw9 gw9_ok
 rw [show objMay gw9 = false by decide +kernel] at cM
 have cR := object_Refs rt9 rt9_ok rt9_few
 rw [rt9_refs] at cR
 have cS := ref9_SameRefs [⟨2, ⟨#[]⟩, tWeb⟩, ⟨3, tApp, tApi⟩, ⟨5, tWeb, tGw⟩] [⟨2, ⟨#[]⟩, tWeb⟩, ⟨3, tApp, tApi⟩, ⟨5, tWeb, tGw⟩] (by decide)
 rw [decide_eq_true rfl] at cS
 refine pure_of_run follows an_z7f18 Tryz.func41 rfl ok_z7f18.1 ok_z7f18.2 (by simp [Tryz.ntmps41]) ?_
 rw [run_start]
 simp only [ac_z7f18, go_sem, simprocAttr]
 refine law9_route.callW (enters_of Tryz.func86 rfl rfl) _ rfl rfl ?_
 rintro _ rfl
 simp only [rt9, go_sem, simprocAttr]
 refine cT.callW (enters_of Tryz.func85 rfl rfl) _ rfl rfl ?_
 rintro _ rfl
 simp only [go_sem, simprocAttr]
 refine cM.callW (enters_of Tryz.func42 rfl rfl) _ rfl rfl ?_
 rintro _ rfl
 simp only [go_sem, simprocAttr]
 refine law9_route.callW (enters_of Tryz.func86 rfl rfl) _ rfl rfl ?_
 rintro _ rfl
 simp only [rt9, go_sem, simprocAttr]
 refine cR.callW (enters_of Tryz.func40 rfl rfl) _ rfl rfl ?_
 rintro _ rfl
 simp only [go_sem, simprocAttr]
 refine cS.callW (enters_of Tryz.func43 rfl rfl) _ rfl rfl ?_
 rintro _ rfl
 simp only [go_sem, simprocAttr]
 simp only [retK, resD, retL, oneD, simprocAttr, Tryz.results41]
 exact ⟨_, rfl, rfl, rfl⟩


abbrev Rise (l : List ARef) : Prop := l.Pairwise fun x y => refLt x y = true

theorem rise_unique : ∀ {l m : List ARef}, Rise l → Rise m → (∀ x, x ∈ l ↔ x ∈ m) → l = m
 | [], [], _, _, _ => rfl
 | [], b :: m, _, _, h => by have := (h b).2 List.mem_cons_self; cases this
 | a :: l, [], _, _, h => by have := (h a).1 List.mem_cons_self; cases this
 | a :: l, b :: m, hl, hm, h => by
   obtain ⟨hl1, hl2⟩ := List.pairwise_cons.1 hl
   obtain ⟨hm1, hm2⟩ := List.pairwise_cons.1 hm
   have hab : a = b := by
    rcases List.mem_cons.1 ((h a).1 List.mem_cons_self) with e | e
    ·exact e
    ·rcases List.mem_cons.1 ((h b).2 List.mem_cons_self) with e' | e'
     ·exact e'.symm
     ·have h1 := hm1 a e
      have h2 := hl1 b e'
      rw [refLt_asym h1] at h2
      cases h2
   subst hab
   rw [rise_unique hl2 hm2 fun x => ?_]
   constructor
   ·intro hx
    rcases List.mem_cons.1 ((h x).1 (List.mem_cons_of_mem _ hx)) with e | e
    ·subst e
     have := hl1 x hx
     rw [refLt_self] at this
     cases this
    ·exact e
   ·intro hx
    rcases List.mem_cons.1 ((h x).2 (List.mem_cons_of_mem _ hx)) with e | e
    ·subst e
     have := hm1 x hx
     rw [refLt_self] at this
     cases this
    ·exact e

abbrev refLe (x y : ARef) : Prop := refLt y x = false

theorem le_lt {x y z : ARef} (h : refLe x y) (k : refLt y z = true) : refLt x z = true := by
 cases h1 : refLt x z with
 | true => rfl
 | false =>
   cases h2 : refLt z x with
   | true => have h' : refLt y x = false := h; have := refLt_tr k h2; rw [this] at h'; cases h'
   | false => have h' : refLt y x = false := h; rw [refLt_tri h1 h2] at h'; rw [h'] at k; cases k

theorem le_ne {x y : ARef} (h : refLe x y) (k : ¬ x = y) : refLt x y = true := by
 cases h1 : refLt x y with
 | true => rfl
 | false => exact absurd (refLt_tri h1 h) k

theorem le_tr {x y z : ARef} (h : refLe x y) (k : refLe y z) : refLe x z := by
 have h' : refLt y x = false := h
 have k' : refLt z y = false := k
 show refLt z x = false
 cases h1 : refLt z x with
 | false => rfl
 | true =>
   exfalso
   by_cases e : x = y
   ·subst e; rw [h1] at k'; cases k'
   ·have := refLt_tr h1 (le_ne h e)
    rw [this] at k'
    cases k'

theorem compact_rise {d : Array ARef} (hd : ∀ i j, i ≤ j → j < d.size → refLe d[i]! d[j]!) : ∀ m, m ≤ d.size → Rise (Lib.compactUpTo d m) ∧ (∀ x, x ∈ Lib.compactUpTo d m ↔ ∃ j, j < m ∧ d[j]! = x)
 | 0, _ => by simp [Lib.compactUpTo]
 | m + 1, hm => by
   obtain ⟨h1, h2⟩ := compact_rise hd m (by omega)
   rw [Lib.compactUpTo_succ]
   have hle : ∀ x, x ∈ Lib.compactUpTo d m → refLe x d[m]! := fun x hx => by
    obtain ⟨j, hj, rfl⟩ := (h2 x).1 hx
    exact hd j m (by omega) (by omega)
   by_cases hk : Lib.keeps d m = true
   ·rw [if_pos hk]
    constructor
    ·refine List.pairwise_append.2 ⟨h1, List.pairwise_singleton _ _, fun x hx y hy => ?_⟩
     rw [List.mem_singleton.1 hy]
     simp only [Lib.keeps, decide_eq_true_eq] at hk
     rcases hk with hk | hk
     ·subst hk; cases hx
     ·obtain ⟨j, hj, rfl⟩ := (h2 x).1 hx
      exact le_lt (hd j (m - 1) (by omega) (by omega)) (le_ne (hd (m - 1) m (by omega) (by omega)) (fun e => hk e.symm))
    ·intro x
     rw [List.mem_append, h2, List.mem_singleton]
     constructor
     ·rintro (⟨j, hj, e⟩ | e)
      ·exact ⟨j, by omega, e⟩
      ·exact ⟨m, by omega, e.symm⟩
     ·rintro ⟨j, hj, e⟩
      by_cases hjm : j = m
      ·subst hjm; exact .inr e.symm
      ·exact .inl ⟨j, by omega, e⟩
   ·rw [if_neg hk, List.append_nil]
    refine ⟨h1, fun x => ?_⟩
    rw [h2]
    constructor
    ·rintro ⟨j, hj, e⟩
     exact ⟨j, by omega, e⟩
    ·rintro ⟨j, hj, e⟩
     by_cases hjm : j = m
     ·subst hjm
      simp only [Lib.keeps, decide_eq_true_eq, not_or, Decidable.not_not] at hk
      exact ⟨j - 1, by omega, by rw [← hk.2, e]⟩
     ·exact ⟨j, by omega, e⟩

theorem refSort_le (l : List ARef) : (refSort l).Pairwise refLe := by
 have h := List.pairwise_mergeSort (le := fun x y => !refLt y x) (fun a b c h1 h2 => by
  simp only [Bool.not_eq_true'] at *
  exact le_tr h1 h2) (fun a b => by
  cases h1 : refLt b a with
  | false => rfl
  | true => rw [refLt_asym h1]; rfl) l
 exact h.imp fun {a b} h => by simpa using h

theorem refs_rise (l : List ARef) : Rise (refComp (refSort l)) ∧ ∀ x, x ∈ refComp (refSort l) ↔ x ∈ l := by
 have hp := List.pairwise_iff_getElem.1 (refSort_le l)
 have hd : ∀ i j, i ≤ j → j < (refSort l).toArray.size → refLe (refSort l).toArray[i]! (refSort l).toArray[j]! := fun i j hij hj => by
  have hj' : j < (refSort l).length := by simpa using hj
  rw [getElem!_pos (refSort l).toArray i (by simp; omega), getElem!_pos (refSort l).toArray j hj]
  simp only [List.getElem_toArray]
  rcases Nat.lt_or_ge i j with h | h
  ·exact hp i j (by omega) hj' h
  ·obtain rfl : i = j := by omega
   exact refLt_self _
 obtain ⟨h1, h2⟩ := compact_rise hd (refSort l).toArray.size (Nat.le_refl _)
 have e : refComp (refSort l) = Lib.compactUpTo (refSort l).toArray (refSort l).toArray.size := by unfold refComp Lib.compact; simp
 rw [e]
 refine ⟨h1, fun x => (h2 x).trans ?_⟩
 have hm : x ∈ refSort l ↔ x ∈ l := (List.mergeSort_perm l _).mem_iff
 rw [← hm]
 constructor
 ·rintro ⟨j, hj, e⟩
  rw [getElem!_pos (refSort l).toArray j hj] at e
  have hj' : j < (refSort l).length := by simpa using hj
  rw [← e]
  simp only [List.getElem_toArray]
  exact List.getElem_mem hj'
 ·intro h
  obtain ⟨j, hj, e⟩ := List.getElem_of_mem h
  refine ⟨j, by simpa using hj, ?_⟩
  rw [getElem!_pos (refSort l).toArray j (by simpa using hj)]
  simpa using e

def insR (l : List ARef) (r : ARef) : List ARef := (l.filter fun x => refLt x r) ++ [r] ++ (l.filter fun x => refLt r x)
def insAll (l : List ARef) : List ARef := l.foldl insR []

theorem insR_rise {l : List ARef} {r : ARef} (h : Rise l) : Rise (insR l r) ∧ ∀ x, x ∈ insR l r ↔ x ∈ l ∨ x = r := by
 constructor
 ·unfold insR
  refine List.pairwise_append.2 ⟨List.pairwise_append.2 ⟨h.sublist List.filter_sublist, List.pairwise_singleton _ _, fun x hx y hy => ?_⟩, h.sublist List.filter_sublist, fun x hx y hy => ?_⟩
  ·rw [List.mem_singleton.1 hy]
   exact (List.mem_filter.1 hx).2
  ·have hy' := (List.mem_filter.1 hy).2
   rcases List.mem_append.1 hx with hx | hx
   ·exact refLt_tr (List.mem_filter.1 hx).2 hy'
   ·rw [List.mem_singleton.1 hx]; exact hy'
 ·intro x
  unfold insR
  simp only [List.mem_append, List.mem_filter, List.mem_singleton]
  constructor
  ·rintro ((⟨h1, _⟩ | h1) | ⟨h1, _⟩)
   ·exact .inl h1
   ·exact .inr h1
   ·exact .inl h1
  ·rintro (h1 | h1)
   ·cases k1 : refLt x r with
    | true => exact .inl (.inl ⟨h1, rfl⟩)
    | false =>
      cases k2 : refLt r x with
      | true => exact .inr ⟨h1, rfl⟩
      | false => exact .inl (.inr (refLt_tri k1 k2))
   ·exact .inl (.inr h1)

theorem insAll_from : ∀ {m l : List ARef}, Rise l → Rise (m.foldl insR l) ∧ ∀ x, x ∈ m.foldl insR l ↔ x ∈ l ∨ x ∈ m
 | [], l, h => ⟨h, fun x => by simp⟩
 | r :: m, l, h => by
   obtain ⟨h1, h2⟩ := insR_rise (r := r) h
   obtain ⟨h3, h4⟩ := insAll_from (m := m) h1
   refine ⟨h3, fun x => ?_⟩
   rw [List.foldl_cons, h4, h2, List.mem_cons, or_assoc]

theorem insAll_eq {l m : List ARef} (h : ∀ x, x ∈ l ↔ x ∈ m) : insAll l = refComp (refSort m) := by
 obtain ⟨h1, h2⟩ := insAll_from (m := l) (l := []) List.Pairwise.nil
 obtain ⟨h3, h4⟩ := refs_rise m
 refine rise_unique h1 h3 fun x => ?_
 unfold insAll at *
 rw [h2, h4, ← h x]
 simp


theorem cmp_lt {a b : ARef} : refCmp a b = -1 ↔ refLt a b = true := by
 unfold refCmp
 by_cases h : a = b
 ·subst h; simp [refLt_self]
 ·rw [if_neg h]
  cases refLt a b <;> simp

theorem cmp_zero {a b : ARef} : refCmp a b = 0 ↔ a = b := by
 unfold refCmp
 by_cases h : a = b
 ·simp [h]
 ·rw [if_neg h]
  cases refLt a b <;> simp [h]

theorem cmp_gt {a b : ARef} : refCmp a b = 1 ↔ refLt b a = true := by
 unfold refCmp
 by_cases h : a = b
 ·subst h; simp [refLt_self]
 ·rw [if_neg h]
  cases h1 : refLt a b with
  | true => simp [refLt_asym h1]
  | false =>
    cases h2 : refLt b a with
    | true => simp
    | false => exact absurd (refLt_tri h1 h2) h

theorem cmp_vals (a b : ARef) : refCmp a b = -1 ∨ refCmp a b = 0 ∨ refCmp a b = 1 := by
 unfold refCmp
 split
 ·simp
 ·split <;> simp

theorem cmp_neg (a b : ARef) : refCmp b a = - refCmp a b := by
 rcases cmp_vals a b with h | h | h
 ·rw [h]; exact cmp_gt.2 (cmp_lt.1 h)
 ·rw [h]; exact cmp_zero.2 (cmp_zero.1 h).symm
 ·rw [h]; exact cmp_lt.2 (cmp_gt.1 h)

theorem cmp_tr {a b c : ARef} (h : refCmp a b ≤ 0) (k : refCmp b c ≤ 0) : refCmp a c ≤ 0 ∧ (refCmp a b < 0 → refCmp a c < 0) := by
 rcases cmp_vals a b with h1 | h1 | h1
 ·rcases cmp_vals b c with h2 | h2 | h2
  ·rw [cmp_lt.2 (refLt_tr (cmp_lt.1 h1) (cmp_lt.1 h2))]; omega
  ·rw [← cmp_zero.1 h2, h1]; omega
  ·omega
 ·rw [cmp_zero.1 h1] at *
  exact ⟨k, fun h => by have := cmp_zero.2 (rfl : b = b); omega⟩
 ·omega

theorem ord_law (a b c : ARef) : refCmp b a = - refCmp a b ∧ (decide (refCmp a b = 0) = decide (a = b)) ∧ ¬ (refCmp a b ≤ 0 ∧ refCmp b c ≤ 0 ∧ 0 < refCmp a c) ∧ ¬ (refCmp a b < 0 ∧ refCmp b c ≤ 0 ∧ 0 ≤ refCmp a c) := by
 refine ⟨cmp_neg a b, decide_eq_decide.2 cmp_zero, fun h => ?_, fun h => ?_⟩
 ·have := (cmp_tr h.1 h.2.1).1; omega
 ·have := (cmp_tr (by omega) h.2.1).2 h.1; omega

theorem rise_at {l : List ARef} (h : Rise l) {i : Nat} {x y : ARef} (hx : l[i]? = some x) (hy : l[i + 1]? = some y) : refCmp x y < 0 := by
 have := List.pairwise_iff_getElem.1 h i (i + 1) (List.getElem?_eq_some_iff.1 hx).1 (List.getElem?_eq_some_iff.1 hy).1 (by omega)
 rw [(List.getElem?_eq_some_iff.1 hx).2, (List.getElem?_eq_some_iff.1 hy).2] at this
 rw [cmp_lt.2 this]; omega

theorem refsOf_rise (o : AObj) : Rise (refsOf o) := by
 unfold refsOf
 split
 ·exact (refs_rise _).1
 ·exact List.Pairwise.nil


theorem cmp_Compare_i (x y : Int) : Pure Tryz.prog 80 [int x, int y] (fun d => d = int (Lib.compareInt x y)) :=
 pure_of_calls (vs := [.int .i64 x, .int .i64 y]) (v := .int .i64 (Lib.compareInt x y)) (fun _ _ _ h => reps_two h) rfl (fun _ _ => by simp only [Rep]; exact .raw _ rfl) (mem_Compare_i x y)
theorem cmp_Compare_s (x y : ByteArray) : Pure Tryz.prog 81 [str x, str y] (fun d => d = int (cmpB x y)) :=
 pure_of_calls (vs := [.string x, .string y]) (v := .int .i64 (cmpB x y)) (fun _ _ _ h => reps_two h) rfl (fun _ _ => by simp only [Rep]; exact .raw _ rfl) (mem_Compare_s x y)

def firstNZ (l : List Int) : Int := (l.find? fun x => !decide (x = 0)).getD 0

theorem cmp_Or (l : List Int) (hl : l.length ≤ 1000) : Pure Tryz.prog 79 [.pd (.slice (ints l))] (fun d => d = int (firstNZ l)) := by
 refine pure_of_run follows an_zeird Tryz.func79 rfl ok_zeird.1 ok_zeird.2 (by simp [Tryz.ntmps79]) ?_
 rw [run_start]
 simp only [ac_zeird, go_sem, simprocAttr]
 unfold firstNZ
 generalize hR : (l.find? fun x => !decide (x = 0)) = R
 refine loopS (fun k st => ∃ i : Nat, k = l.length - i ∧ i ≤ l.length ∧ ((l.drop i).find? fun x => !decide (x = 0)) = R ∧
  st = ⟨[(3, int 0), (6, .pd (.slice (ints l))), (7, int l.length), (8, int i)], [], [], .no⟩) l.length _ ?_ ⟨0, rfl, by omega, hR, rfl⟩ ?_
 ·exact lessA
 rintro k st ⟨i, rfl, hi, hF, rfl⟩
 have hw := i64_succ (show i < 1000000000 by omega)
 by_cases hlt : i < l.length
 ·obtain ⟨x, hx⟩ := at_lt hlt
  have h1 : ((i : Int) < (l.length : Int)) = True := eq_true (by omega)
  have hd : l.drop i = x :: l.drop (i + 1) := by obtain ⟨h, e⟩ := List.getElem?_eq_some_iff.1 hx; rw [← e]; exact List.drop_eq_getElem_cons h
  rw [hd] at hF
  by_cases h0 : x = 0
  ·have h0' := eq_true h0
   rw [List.find?_cons_of_neg (by simp [h0])] at hF
   simp only [go_sem, simprocAttr, rows_get hx, h1, h0', hw]
   refine ⟨l.length - (i + 1), _, by omega, ?_, i + 1, rfl, by omega, hF, rfl⟩
   exact lessA
  ·have h0' := eq_false h0
   rw [List.find?_cons_of_pos (by simp [h0])] at hF
   simp only [go_sem, simprocAttr, rows_get hx, h1, h0']
   simp only [retK, resD, retL, oneD, simprocAttr, Tryz.results79]
   exact ⟨_, rfl, rfl, by rw [← hF]; rfl⟩
 ·have h1 : ((i : Int) < (l.length : Int)) = False := eq_false (by omega)
  rw [List.drop_eq_nil_of_le (by omega)] at hF
  simp only [go_sem, simprocAttr, h1]
  simp only [retK, resD, retL, oneD, simprocAttr, Tryz.results79]
  exact ⟨_, rfl, rfl, by rw [← hF]; rfl⟩

theorem first_or (a b : ARef) : firstNZ [Lib.compareInt a.kind b.kind, cmpB a.space b.space, cmpB a.name b.name] = refCmp a b := by
 rw [refCmp_or]
 generalize Lib.compareInt a.kind b.kind = x
 generalize cmpB a.space b.space = y
 generalize cmpB a.name b.name = z
 unfold firstNZ
 by_cases hx : x = 0
 ·by_cases hy : y = 0
  ·by_cases hz : z = 0 <;> simp [hx, hy, hz]
  ·simp [hx, hy]
 ·simp [hx]

set_option maxHeartbeats 2000000 in
theorem object_Order (a b : ARef) : Pure Tryz.prog 39 [a.d, b.d] (fun d => d = int (refCmp a b)) := by
 have cO := cmp_Or [Lib.compareInt a.kind b.kind, cmpB a.space b.space, cmpB a.name b.name] (by simp)
 rw [first_or] at cO
 have c1 := cmp_Compare_i a.kind b.kind
 have c2 := cmp_Compare_s a.space b.space
 have c3 := cmp_Compare_s a.name b.name
 generalize Lib.compareInt a.kind b.kind = x at cO c1
 generalize cmpB a.space b.space = y at cO c2
 generalize cmpB a.name b.name = z at cO c3
 refine pure_of_run follows an_zyyke Tryz.func39 rfl ok_zyyke.1 ok_zyyke.2 (by simp [Tryz.ntmps39]) ?_
 rw [run_start]
 simp only [ac_zyyke, go_sem, simprocAttr]
 refine c1.callX (enters_of Tryz.func80 rfl rfl) _ rfl rfl ?_
 rintro _ rfl
 simp only [go_sem, simprocAttr]
 refine c2.callX (enters_of Tryz.func81 rfl rfl) _ rfl rfl ?_
 rintro _ rfl
 simp only [go_sem, simprocAttr]
 refine c3.callX (enters_of Tryz.func81 rfl rfl) _ rfl rfl ?_
 rintro _ rfl
 simp only [go_sem, simprocAttr]
 refine cO.callX (enters_of Tryz.func79 rfl rfl) _ rfl rfl ?_
 rintro _ rfl
 simp only [go_sem, simprocAttr]
 simp only [retK, resD, retL, oneD, simprocAttr, Tryz.results39]
 exact ⟨_, rfl, rfl, rfl⟩


structure AThree where
 a : ARef
 b : ARef
 c : ARef
 o : AObj

abbrev AThree.pd (q : AThree) : List PD := [pInt q.a.kind, pStr q.a.space, pStr q.a.name, pInt q.b.kind, pStr q.b.space, pStr q.b.name, pInt q.c.kind, pStr q.c.space, pStr q.c.name,
 pInt q.o.ref.kind, pStr q.o.ref.space, pStr q.o.ref.name, pBln q.o.good, .slice (rows APair.pd q.o.labels), .slice (ints q.o.ports), pStr q.o.cls, .slice (rows AListener.pd q.o.listeners), .slice (rows AParent.pd q.o.parents), .slice (strs q.o.hosts), .slice (rows ARule.pd q.o.rules), .slice (rows ASide.pd q.o.from_), .slice (rows ASide.pd q.o.to_)]
abbrev AThree.d (q : AThree) : D := .agg [int q.a.kind, str q.a.space, str q.a.name, int q.b.kind, str q.b.space, str q.b.name, int q.c.kind, str q.c.space, str q.c.name,
 int q.o.ref.kind, str q.o.ref.space, str q.o.ref.name, bln q.o.good, .pd (.slice (rows APair.pd q.o.labels)), .pd (.slice (ints q.o.ports)), str q.o.cls, .pd (.slice (rows AListener.pd q.o.listeners)), .pd (.slice (rows AParent.pd q.o.parents)), .pd (.slice (strs q.o.hosts)), .pd (.slice (rows ARule.pd q.o.rules)), .pd (.slice (rows ASide.pd q.o.from_)), .pd (.slice (rows ASide.pd q.o.to_))]

theorem insR_lenO (l : List ARef) (r : ARef) : (insR l r).length ≤ l.length + 1 := by
 have h : ∀ m : List ARef, (m.filter fun x => refLt x r).length + (m.filter fun x => refLt r x).length ≤ m.length := fun m => by
  induction m with
  | nil => simp
  | cons x m ih =>
    simp only [List.filter_cons, List.length_cons]
    cases k1 : refLt x r with
    | true => rw [refLt_asym k1]; simp; omega
    | false => cases refLt r x <;> simp <;> omega
 have := h l
 unfold insR
 simp only [List.length_append, List.length_singleton]
 omega

theorem insAll_lenO : ∀ (m l : List ARef), (m.foldl insR l).length ≤ l.length + m.length
 | [], _ => by simp
 | r :: m, l => by
   have h1 := insAll_lenO m (insR l r)
   have h2 := insR_lenO l r
   rw [List.foldl_cons, List.length_cons]
   omega

theorem refsRul_lenO (s : ByteArray) : ∀ (l : List ARule), (∀ r ∈ l, r.backends.length ≤ 100) → (refsRul s l).length ≤ 100 * l.length
 | [], _ => by simp [refsRul]
 | r :: l, h => by
   have h1 := refsRul_lenO s l fun x hx => h x (List.mem_cons_of_mem _ hx)
   have h2 := h r List.mem_cons_self
   unfold refsRul at *
   rw [List.flatMap_cons, List.length_append, List.length_cons]
   have : (refsBack s r.backends).length = r.backends.length := by unfold refsBack; exact List.length_map _
   omega

theorem refsOf_lenO {o : AObj} (hf : o.few) : (refsOf o).length ≤ 20000 := by
 have hl1 := hf.li
 have hl2 := hf.pa
 have hl3 := hf.ru
 have h4 := refsRul_lenO o.ref.space o.rules hf.ba
 have h5 : (refsLis o.ref.space o.listeners).length ≤ o.listeners.length := by unfold refsLis; rw [List.length_map]; exact List.length_filter_le _ _
 have h6 : (refsPar o.ref.space o.parents).length = o.parents.length := by unfold refsPar; exact List.length_map _
 have h7 : (refsCls o).length ≤ 1 := by unfold refsCls; split <;> simp
 have h8 : (refsOwn o).length ≤ 1 := by unfold refsOwn; split <;> simp
 have h9 : (refsList o).length ≤ 20000 := by unfold refsList; simp only [List.length_append]; omega
 have h0 := insAll_lenO (refsList o) []
 have e := insAll_eq (l := refsList o) (m := refsList o) fun _ => Iff.rfl
 unfold refsOf
 split
 ·rw [← e]
  unfold insAll
  rw [List.length_nil] at h0
  omega
 ·simp

theorem fewObj_fewO (o : AObj) : (fewObj o).few where
 li := by simp [fewObj]; omega
 pa := by simp [fewObj]; omega
 ru := by simp [fewObj]; omega
 ba := fun r hr => by
  obtain ⟨y, _, rfl⟩ := take_map_mem hr
  simp [fewRule]; omega

theorem i64_pred {i : Nat} (h : 1 ≤ i) (h2 : i < 1000000000) : IntKind.i64.wrap ((i : Int) - 1) = ((i - 1 : Nat) : Int) := by rw [IntWalk.i64_in _ (by omega)]; omega

set_option maxHeartbeats 8000000 in
theorem law_ObjectOrders (q : AThree) : Pure Tryz.prog 11 [q.d] (fun d => d = bln true) := by
 refine pure_of_run follows an_zn02s Tryz.func11 rfl ok_zn02s.1 ok_zn02s.2 (by simp [Tryz.ntmps11]) ?_
 rw [run_start]
 simp only [ac_zn02s]
 apply run_cut
 ·intro K' hK
  simp only [go_sem, simprocAttr]
  exact hK
 apply run_cut
 ·intro K' hK
  simp only [go_sem, simprocAttr, go_sem]
  repeat' (first
   | exact hK
   | (show lateB _ _ _ _ = true; rfl)
   | (refine (law9_FewRef q.a).callX (enters_of Tryz.func18 rfl rfl) _ rfl rfl ?_; rintro _ rfl; simp only [go_sem, simprocAttr, go_sem])
   | (refine (law9_FewRef q.b).callX (enters_of Tryz.func18 rfl rfl) _ rfl rfl ?_; rintro _ rfl; simp only [go_sem, simprocAttr, go_sem])
   | (refine (law9_FewRef q.c).callX (enters_of Tryz.func18 rfl rfl) _ rfl rfl ?_; rintro _ rfl; simp only [go_sem, simprocAttr, go_sem])
   | (refine (law9_Few q.o).callX (enters_of Tryz.func28 rfl rfl) _ rfl rfl ?_; rintro _ rfl; simp only [go_sem, simprocAttr, go_sem])
   | with_reducible refine And.intro ?_ ?_)
 have ho := fewObj_ok q.o
 have hf := fewObj_fewO q.o
 generalize fewObj q.o = o at ho hf ⊢
 generalize fewRef q.a = a
 generalize fewRef q.b = b
 generalize fewRef q.c = c
 apply run_cut
 ·intro K' hK
  simp only [go_sem, simprocAttr, go_sem]
  repeat' (first
   | exact hK
   | (refine (object_Order a b).callX (enters_of Tryz.func39 rfl rfl) _ rfl rfl ?_; rintro _ rfl; simp only [go_sem, simprocAttr, go_sem])
   | (refine (object_Order b c).callX (enters_of Tryz.func39 rfl rfl) _ rfl rfl ?_; rintro _ rfl; simp only [go_sem, simprocAttr, go_sem])
   | (refine (object_Order a c).callX (enters_of Tryz.func39 rfl rfl) _ rfl rfl ?_; rintro _ rfl; simp only [go_sem, simprocAttr, go_sem])
   | with_reducible refine And.intro ?_ ?_)
 obtain ⟨h1, h2, h3, h4⟩ := ord_law a b c
 have vx := cmp_vals a b
 have vy := cmp_vals b c
 have vz := cmp_vals a c
 have cB := object_Order b a
 rw [h1] at cB
 rw [decide_eq_decide] at h2
 generalize refCmp a b = x at h1 h2 h3 h4 vx cB ⊢
 generalize refCmp b c = y at h3 h4 vy ⊢
 generalize refCmp a c = z at h3 h4 vz ⊢
 apply run_cut
 ·intro K' hK
  have w1 : IntKind.i64.wrap 1 = 1 := by decide
  have w2 : IntKind.i64.wrap (-1) = -1 := by decide
  have w3 : IntKind.i64.wrap 0 = 0 := by decide
  have hab : (a = b) = (x = 0) := propext h2.symm
  rcases id vx with ex | ex | ex <;> rcases id vy with ey | ey | ey <;> rcases id vz with ez | ez | ez <;> first | (exfalso; omega) | (simp only [go_sem, simprocAttr]; refine cB.callW (enters_of Tryz.func39 rfl rfl) _ rfl rfl ?_; rintro _ rfl; simp only [go_sem, simprocAttr, eqVs, eqV, eq_Ref, hab, ex, ey, ez, w1, w2, w3, beq_self_eq_true, Int.neg_neg, Int.neg_zero]; exact hK)
 simp only [go_sem, simprocAttr]
 refine (object_Refs o ho hf).callW (enters_of Tryz.func40 rfl rfl) _ rfl rfl ?_
 rintro _ rfl
 have hr := refsOf_rise o
 have hlen := refsOf_lenO hf
 generalize refsOf o = l at hr hlen ⊢
 simp only [go_sem, simprocAttr]
 refine loopS (fun k st => ∃ (i : Nat), k = l.length - i ∧ 1 ≤ i ∧ i ≤ l.length + 1 ∧
  st = ⟨[(10, .pd (.slice (rows ARef.pd l))), (11, int i)], [], [], .no⟩) (l.length - 1) _ ?_ ⟨1, rfl, by omega, by omega, rfl⟩ ?_
 ·exact lessA
 rintro k st ⟨i, rfl, hi1, hi, rfl⟩
 have hw := i64_succ (show i < 1000000000 by omega)
 have hp := i64_pred hi1 (by omega)
 by_cases hlt : i < l.length
 ·obtain ⟨y, hy⟩ := at_lt hlt
  obtain ⟨x, hx⟩ := at_lt (show i - 1 < l.length by omega)
  have h1 : ((i : Int) < (l.length : Int)) = True := eq_true (by omega)
  have hxy := rise_at hr hx (by rw [Nat.sub_add_cancel hi1]; exact hy)
  have c := object_Order x y
  generalize refCmp x y = z at hxy c
  have h5 : (0 ≤ z) = False := eq_false (by omega)
  simp only [go_sem, simprocAttr, go_sem, rows_len, rows_get hx, rows_get hy, h1, hp]
  refine c.callX (enters_of Tryz.func39 rfl rfl) _ rfl rfl ?_
  rintro _ rfl
  simp only [go_sem, simprocAttr, go_sem, h5, hw]
  refine ⟨l.length - (i + 1), _, by omega, ?_, i + 1, rfl, by omega, by omega, rfl⟩
  exact lessA
 have h1 : ((i : Int) < (l.length : Int)) = False := eq_false (by omega)
 simp only [go_sem, simprocAttr, go_sem, rows_len, h1]
 refine awake9.callW (enters_of Tryz.func41 rfl rfl) _ rfl rfl ?_
 rintro _ rfl
 simp only [go_sem, simprocAttr]
 simp only [retK, resD, retL, oneD, simprocAttr, Tryz.results11]
 exact ⟨_, rfl, rfl, rfl⟩

end Go.Proofs.YtjgpdjakehoofaaGreatDoor



namespace Go.Proofs.YtjgpdjakehoofaaGreatDoor
open Go Go.RowKit Go.ChangeShapes Go.WideShapes Go.ChangeAt Go.WideMaps Go.WideElems
set_option linter.unusedSimpArgs false
set_option linter.unusedVariables false
set_option maxRecDepth 100000

abbrev threeShs : List Sh := ref_Shs ++ (ref_Shs ++ (ref_Shs ++ objShs))

theorem three_rowS {r : List PD} (h : HasShs threeShs r) : ∃ a, r = AThree.pd a := by
 obtain ⟨r0, q0, rfl, g0, t0⟩ := HasShs.cut h
 obtain ⟨o0, rfl⟩ := ref__rowS g0
 obtain ⟨r1, q1, rfl, g1, t1⟩ := HasShs.cut t0
 obtain ⟨o1, rfl⟩ := ref__rowS g1
 obtain ⟨r2, q2, rfl, g2, t2⟩ := HasShs.cut t1
 obtain ⟨o2, rfl⟩ := ref__rowS g2
 obtain ⟨o3, rfl⟩ := obj_row t2
 exact ⟨⟨o0, o1, o2, o3⟩, rfl⟩

section
variable {H : Type} {enc : TypeId × Value → H} {P : Program} {W : World} {base : Nat} {spare : Nat → Bool} {held : Bool}

theorem arg_three {t : TypeId} {fs : Array Field} {v : Value} {d : DataW H} {ps : List MemPlace} {n : Nat} (hu : P.underlying t = some (.struct fs)) (hv : Value.okWide P W .any base t v) (h : DataW.Trod enc P W 0 spare held t v d ps)
 (hs : shp P n t = some threeShs) : ∃ o : AThree, Rep (gh0 (allFz W)) W o.d v := by
 obtain ⟨ds, h1, h2⟩ := arg_struct hu hv h hs
 obtain ⟨o, rfl⟩ := three_rowS h2
 exact ⟨o, h1⟩
end

end Go.Proofs.YtjgpdjakehoofaaGreatDoor


