/- Texts of the prover's, joined: F9 FB FC FA D1 E2 E3 D2 E6 E7 D6 FF. -/
import Derived.Test.YtjhomppadppfnaaGreatDoorK6
import Derived.Test.YtjhomppadppfnaaGreatDoorProg
import Derived.KernelRfl

namespace Go.Proofs.YtjhomppadppfnaaGreatDoor
open Go Go.RowKit
set_option linter.unusedSimpArgs false
set_option linter.unusedVariables false
set_option maxRecDepth 100000

def bytesLe (a b : ByteArray) : Bool := !Op.bytesLess b.toList a.toList

def labelsFrom (l : List APair) : Nat → Nat → Bool
  | 0, _ => true
  | k + 1, i => (match l[i]? with
    | some p => dname p.name && labValue p.val && (decide (i = 0) || (match l[i - 1]? with | some q => Op.bytesLess q.name.toList p.name.toList | none => false))
    | none => true) && labelsFrom l k (i + 1)

def labelsMay (l : List APair) : Bool := labelsFrom l l.length 0 && decide (l.length ≤ 8)

set_option maxHeartbeats 1000000 in
theorem label_May (l : List APair) (hl : l.length ≤ 1000000) : Pure Tryz.prog 108 [.pd (.slice (rows APair.pd l))] (fun d => d = bln (labelsMay l)) := by
  refine pure_of_run follows an_z2iq3 Tryz.func108 rfl ok_z2iq3 dst_z2iq3 (by simp [Tryz.ntmps108]) ?_
  rw [run_start]
  simp only [ac_z2iq3, go_sem, contS_seq, simprocAttr, rows_len]
  refine loopS (fun k st => ∃ i : Nat, k = l.length - i ∧ i ≤ l.length ∧ labelsFrom l k i = labelsFrom l l.length 0 ∧
    st = ⟨[(0, .pd (.slice (rows APair.pd l))), (5, .pd (.slice (rows APair.pd l))), (6, int l.length), (7, int i)], [], [], .no⟩) l.length _ (Weak.refl _ _) ⟨0, rfl, Nat.zero_le _, rfl, rfl⟩ ?_
  rintro k st ⟨i, rfl, hi, hr, rfl⟩
  by_cases hlt : i < l.length
  · obtain ⟨x, hx⟩ := at_lt hlt
    have hlt' : ((i : Int) < (l.length : Int)) = True := eq_true (by omega)
    have hw := i64_succ (show i < 1000000000 by omega)
    obtain ⟨m, hm⟩ : ∃ m, l.length - i = m + 1 := ⟨l.length - i - 1, by omega⟩
    rw [hm, labelsFrom, hx] at hr
    have bad : labelsFrom l l.length 0 = false → labelsMay l = false := fun h => by simp [labelsMay, h]
    have good : ∀ st, Weak Tryz.prog st ⟨[(0, .pd (.slice (rows APair.pd l))), (5, .pd (.slice (rows APair.pd l))), (6, int l.length), (7, int (i + 1 : Nat))], [], [], .no⟩ → labelsFrom l m (i + 1) = labelsFrom l l.length 0 →
        Round Tryz.prog (fun k st => ∃ i : Nat, k = l.length - i ∧ i ≤ l.length ∧ labelsFrom l k i = labelsFrom l l.length 0 ∧
          st = ⟨[(0, .pd (.slice (rows APair.pd l))), (5, .pd (.slice (rows APair.pd l))), (6, int l.length), (7, int i)], [], [], .no⟩) (l.length - i) st := fun st hst hr =>
      ⟨m, _, by omega, hst, i + 1, by omega, by omega, hr, rfl⟩
    simp (maxSteps := 2000000) only [go_sem, contS_seq, simprocAttr, go_sem, hlt', rows_get hx, rows_len]
    refine (dns_Name x.name).callX (enters_of Tryz.func115 rfl rfl) _ rfl rfl ?_
    rintro d rfl
    simp (maxSteps := 2000000) only [go_sem, contS_seq, simprocAttr, go_sem, rows_len]
    refine Gif.mk (fun h1 => ?_) (fun h1 => ?_)
    · refine (label_value x.val).callX (enters_of Tryz.func150 rfl rfl) _ rfl rfl ?_
      rintro d rfl
      by_cases hi0 : 0 < i
      · obtain ⟨q, hq⟩ := at_lt (show i - 1 < l.length by omega)
        have h0 : ((0 : Int) < (i : Int)) = True := eq_true (by omega)
        have hw1 : IntKind.i64.wrap ((i : Int) - 1) = ((i - 1 : Nat) : Int) := by rw [IntWalk.i64_in _ (by omega)]; omega
        simp (maxSteps := 2000000) only [go_sem, contS_seq, simprocAttr, go_sem, rows_len, h0, hw1, rows_get hq, hw]
        refine Gif.mk (fun h2 => ?_) (fun h2 => ?_)
        · refine Gif.mk (fun h3 => ?_) (fun h3 => ?_)
          · refine good _ (Weak.less (by simp [lessL, lk]) (by simp [lessL, lk]) (by simp [lessL, lk]) rfl) ?_
            simpa [h1, h2, h3, hq] using hr
          · simp only [retK, fullK, iterK, resD, resA, AOp.ex, St.ev, Option.map_some, Option.bind_some, St.get, lk, reduceIte, Nat.reduceEqDiff, Option.getD_some, oneD, List.getElem?_cons_zero, List.getElem?_cons_succ, List.drop_zero, List.drop_succ_cons, List.take_succ_cons, List.take_zero, List.length_cons, List.length_nil, Nat.zero_add, Nat.reduceAdd, Nat.le_refl, Nat.reduceLeDiff, D.pub, D.pubs, Tryz.results108]
            refine ⟨_, rfl, rfl, congrArg bln (bad ?_).symm⟩
            rw [← hr]; simp [h1, h2, h3, hq]; omega
        · simp only [retK, fullK, iterK, resD, resA, AOp.ex, St.ev, Option.map_some, Option.bind_some, St.get, lk, reduceIte, Nat.reduceEqDiff, Option.getD_some, oneD, List.getElem?_cons_zero, List.getElem?_cons_succ, List.drop_zero, List.drop_succ_cons, List.take_succ_cons, List.take_zero, List.length_cons, List.length_nil, Nat.zero_add, Nat.reduceAdd, Nat.le_refl, Nat.reduceLeDiff, D.pub, D.pubs, Tryz.results108]
          refine ⟨_, rfl, rfl, congrArg bln (bad ?_).symm⟩
          rw [← hr]; simp [h1, h2]
      · have h0 : ((0 : Int) < (i : Int)) = False := eq_false (by omega)
        simp (maxSteps := 2000000) only [go_sem, contS_seq, simprocAttr, go_sem, rows_len, h0, hw]
        refine Gif.mk (fun h2 => ?_) (fun h2 => ?_)
        · refine good _ (Weak.less (by simp [lessL, lk]) (by simp [lessL, lk]) (by simp [lessL, lk]) rfl) ?_
          simpa [h1, h2, show i = 0 by omega] using hr
        · simp only [retK, fullK, iterK, resD, resA, AOp.ex, St.ev, Option.map_some, Option.bind_some, St.get, lk, reduceIte, Nat.reduceEqDiff, Option.getD_some, oneD, List.getElem?_cons_zero, List.getElem?_cons_succ, List.drop_zero, List.drop_succ_cons, List.take_succ_cons, List.take_zero, List.length_cons, List.length_nil, Nat.zero_add, Nat.reduceAdd, Nat.le_refl, Nat.reduceLeDiff, D.pub, D.pubs, Tryz.results108]
          refine ⟨_, rfl, rfl, congrArg bln (bad ?_).symm⟩
          rw [← hr]; simp [h1, h2]
    · simp only [retK, fullK, iterK, resD, resA, AOp.ex, St.ev, Option.map_some, Option.bind_some, St.get, lk, reduceIte, Nat.reduceEqDiff, Option.getD_some, oneD, List.getElem?_cons_zero, List.getElem?_cons_succ, List.drop_zero, List.drop_succ_cons, List.take_succ_cons, List.take_zero, List.length_cons, List.length_nil, Nat.zero_add, Nat.reduceAdd, Nat.le_refl, Nat.reduceLeDiff, D.pub, D.pubs, Tryz.results108]
      refine ⟨_, rfl, rfl, congrArg bln (bad ?_).symm⟩
      rw [← hr]; simp [h1]
  · have hlt' : ((i : Int) < (l.length : Int)) = False := eq_false (by omega)
    rw [show l.length - i = 0 by omega, labelsFrom] at hr
    simp only [go_sem, contS_seq, simprocAttr, rows_len, hlt']
    repeat' (first | refine GifP.mk (fun _ => ?_) (fun _ => ?_) | refine Gif.mk (fun _ => ?_) (fun _ => ?_))
    all_goals
      simp only [retK, fullK, iterK, resD, resA, AOp.ex, St.ev, Option.map_some, Option.bind_some, St.get, lk, reduceIte, Nat.reduceEqDiff, Option.getD_some, oneD, List.getElem?_cons_zero, List.getElem?_cons_succ, List.drop_zero, List.drop_succ_cons, List.take_succ_cons, List.take_zero, List.length_cons, List.length_nil, Nat.zero_add, Nat.reduceAdd, Nat.le_refl, Nat.reduceLeDiff, D.pub, D.pubs, Tryz.results108]
      exact ⟨_, rfl, rfl, congrArg bln (by first | rfl | (rw [Bool.eq_iff_iff]; simp only [labelsMay, ← hr]; simp; done) | (rw [Bool.eq_iff_iff]; simp only [labelsMay, ← hr]; simp; omega) | (rw [Bool.eq_iff_iff]; simp only [labelsMay, ← hr]; simp [*]; done) | (rw [Bool.eq_iff_iff]; simp only [labelsMay, ← hr]; simp [*]; omega) | (simp_all [labelsMay, ← hr]; done) | (exfalso; omega))⟩

theorem slices_Index_int (l : List Int) (hl : l.length ≤ 1000000) (v : Int) : Pure Tryz.prog 107 [.pd (.slice (ints l)), int v] (fun d => d = int (lidx (fun x => decide (v = x)) l 0)) := by
  refine pure_of_run follows an_zeh38 Tryz.func107 rfl ok_zeh38 dst_zeh38 (by simp [Tryz.ntmps107]) ?_
  rw [run_start]
  simp only [ac_zeh38, go_sem, contS_seq, simprocAttr, rows_len]
  refine loopS (fun k st => ∃ i : Nat, k = l.length - i ∧ i ≤ l.length ∧ lidx (fun x => decide (v = x)) (l.drop i) i = lidx (fun x => decide (v = x)) l 0 ∧
    st = ⟨[(0, .pd (.slice (ints l))), (1, int v), (7, int l.length), (8, int i)], [], [], .no⟩) l.length _ (Weak.refl _ _) ⟨0, rfl, Nat.zero_le _, rfl, rfl⟩ ?_
  rintro k st ⟨i, rfl, hi, hr, rfl⟩
  by_cases hlt : i < l.length
  · obtain ⟨x, hx⟩ := at_lt hlt
    have hlt' : ((i : Int) < (l.length : Int)) = True := eq_true (by omega)
    have hw := i64_succ (show i < 1000000000 by omega)
    rw [drop_at hx, lidx] at hr
    simp only [go_sem, contS_seq, simprocAttr, hlt', rows_get hx, hw]
    refine GifP.mk (fun h => ?_) (fun h => ?_)
    · rw [if_pos (by simp [h])] at hr
      simp only [retK, fullK, iterK, resD, resA, AOp.ex, St.ev, Option.map_some, Option.bind_some, St.get, lk, reduceIte, Nat.reduceEqDiff, Option.getD_some, oneD, List.getElem?_cons_zero, List.getElem?_cons_succ, List.drop_zero, List.drop_succ_cons, List.take_succ_cons, List.take_zero, List.length_cons, List.length_nil, Nat.zero_add, Nat.reduceAdd, Nat.le_refl, Nat.reduceLeDiff, D.pub, D.pubs, Tryz.results107]
      exact ⟨_, rfl, rfl, congrArg int hr⟩
    · rw [if_neg (by simp [h])] at hr
      refine ⟨l.length - (i + 1), _, ?_, ?_, i + 1, rfl, ?_, hr, rfl⟩
      · omega
      · exact Weak.less (by simp [lessL, lk]) (by simp [lessL, lk]) (by simp [lessL, lk]) rfl
      · omega
  · have hlt' : ((i : Int) < (l.length : Int)) = False := eq_false (by omega)
    rw [List.drop_eq_nil_of_le (by omega), lidx] at hr
    simp only [go_sem, contS_seq, simprocAttr, rows_len, hlt']
    simp only [retK, fullK, iterK, resD, resA, AOp.ex, St.ev, Option.map_some, Option.bind_some, St.get, lk, reduceIte, Nat.reduceEqDiff, Option.getD_some, oneD, List.getElem?_cons_zero, List.getElem?_cons_succ, List.drop_zero, List.drop_succ_cons, List.take_succ_cons, List.take_zero, List.length_cons, List.length_nil, Nat.zero_add, Nat.reduceAdd, Nat.le_refl, Nat.reduceLeDiff, D.pub, D.pubs, Tryz.results107]
    exact ⟨_, rfl, rfl, congrArg int hr⟩

def hasInt (l : List Int) (v : Int) : Bool := l.any fun x => decide (v = x)

theorem slices_Contains_int (l : List Int) (hl : l.length ≤ 1000000) (v : Int) : Pure Tryz.prog 76 [.pd (.slice (ints l)), int v] (fun d => d = bln (hasInt l v)) := by
  refine pure_of_run follows an_zw1w5 Tryz.func76 rfl ok_zw1w5 dst_zw1w5 (by simp [Tryz.ntmps76]) ?_
  rw [run_start]
  simp only [ac_zw1w5, go_sem, contS_seq, simprocAttr, rows_len]
  refine (slices_Index_int l hl v).callW (enters_of Tryz.func107 rfl rfl) _ rfl rfl ?_
  rintro d rfl
  simp only [go_sem, contS_seq, simprocAttr]
  simp only [retK, fullK, iterK, resD, resA, AOp.ex, St.ev, Option.map_some, Option.bind_some, St.get, lk, reduceIte, Nat.reduceEqDiff, Option.getD_some, oneD, List.getElem?_cons_zero, List.getElem?_cons_succ, List.drop_zero, List.drop_succ_cons, List.take_succ_cons, List.take_zero, List.length_cons, List.length_nil, Nat.zero_add, Nat.reduceAdd, Nat.le_refl, Nat.reduceLeDiff, D.pub, D.pubs, Tryz.results76]
  exact ⟨_, rfl, rfl, congrArg bln (lidx_any _ l)⟩

def sortFrom (l : List Int) : Nat → Bool
  | 0 => true
  | i + 1 => (match l[i + 1]?, l[i]? with
    | some a, some b => !intLess a b
    | _, _ => true) && sortFrom l i

def sortedInts (l : List Int) : Bool := sortFrom l (l.length - 1)

theorem slices_IsSorted_int (l : List Int) (hl : l.length ≤ 1000000) : Pure Tryz.prog 111 [.pd (.slice (ints l))] (fun d => d = bln (sortedInts l)) := by
  refine pure_of_run follows an_zhfyj Tryz.func111 rfl ok_zhfyj dst_zhfyj (by simp [Tryz.ntmps111]) ?_
  rw [run_start]
  have hw0 : IntKind.i64.wrap ((l.length : Int) - 1) = (l.length : Int) - 1 := IntWalk.i64_in _ (by omega)
  simp only [ac_zhfyj, go_sem, contS_seq, simprocAttr, go_sem, rows_len, hw0]
  refine loopS (fun k st => ∃ i : Int, k = i.toNat ∧ -1 ≤ i ∧ i < (l.length : Int) ∧ sortFrom l i.toNat = sortedInts l ∧
    st = ⟨[(0, .pd (.slice (ints l))), (3, int i)], [], [], .no⟩) ((l.length : Int) - 1).toNat _ (Weak.refl _ _) ⟨(l.length : Int) - 1, rfl, by omega, by omega, by
      rw [sortedInts]; congr 1; omega, rfl⟩ ?_
  rintro k st ⟨i, rfl, hi, hi2, hr, rfl⟩
  by_cases hlt : 0 < i
  · obtain ⟨j, rfl⟩ : ∃ j : Nat, i = (j + 1 : Nat) := ⟨(i - 1).toNat, by omega⟩
    obtain ⟨x, hx⟩ := at_lt (show j + 1 < l.length by omega)
    obtain ⟨y, hy⟩ := at_lt (show j < l.length by omega)
    have hlt' : ((0 : Int) < ((j + 1 : Nat) : Int)) = True := eq_true (by omega)
    have hw : IntKind.i64.wrap (((j + 1 : Nat) : Int) - 1) = (j : Int) := by rw [IntWalk.i64_in _ (by omega)]; omega
    rw [Int.toNat_natCast, sortFrom, hx, hy] at hr
    simp only [go_sem, contS_seq, simprocAttr, go_sem, hlt', rows_get hx, rows_get hy, hw]
    refine (cmp_Less x y).callX (enters_of Tryz.func153 rfl rfl) _ rfl rfl ?_
    rintro d rfl
    simp only [go_sem, contS_seq, simprocAttr, go_sem, hw]
    refine Gif.mk (fun h => ?_) (fun h => ?_)
    · simp only [h, Bool.not_true, Bool.false_and] at hr
      simp only [retK, fullK, iterK, resD, resA, AOp.ex, St.ev, Option.map_some, Option.bind_some, St.get, lk, reduceIte, Nat.reduceEqDiff, Option.getD_some, oneD, List.getElem?_cons_zero, List.getElem?_cons_succ, List.drop_zero, List.drop_succ_cons, List.take_succ_cons, List.take_zero, List.length_cons, List.length_nil, Nat.zero_add, Nat.reduceAdd, Nat.le_refl, Nat.reduceLeDiff, D.pub, D.pubs, Tryz.results111]
      exact ⟨_, rfl, rfl, congrArg bln hr⟩
    · simp only [h, Bool.not_false, Bool.true_and] at hr
      refine ⟨j, _, ?_, ?_, (j : Int), by simp, by omega, by omega, by simpa using hr, rfl⟩
      · omega
      · exact Weak.less (by simp [lessL, lk]) (by simp [lessL, lk]) (by simp [lessL, lk]) rfl
  · have hlt' : ((0 : Int) < i) = False := eq_false hlt
    rw [show i.toNat = 0 by omega, sortFrom] at hr
    simp only [go_sem, contS_seq, simprocAttr, go_sem, hlt']
    simp only [retK, fullK, iterK, resD, resA, AOp.ex, St.ev, Option.map_some, Option.bind_some, St.get, lk, reduceIte, Nat.reduceEqDiff, Option.getD_some, oneD, List.getElem?_cons_zero, List.getElem?_cons_succ, List.drop_zero, List.drop_succ_cons, List.take_succ_cons, List.take_zero, List.length_cons, List.length_nil, Nat.zero_add, Nat.reduceAdd, Nat.le_refl, Nat.reduceLeDiff, D.pub, D.pubs, Tryz.results111]
    exact ⟨_, rfl, rfl, congrArg bln hr⟩

structure AObj.ok (o : AObj) : Prop where
  la : o.labels.length ≤ 1000000
  po : o.ports.length ≤ 1000000
  li : o.listeners.length ≤ 1000000
  pa : o.parents.length ≤ 1000000
  ho : o.hosts.length ≤ 1000000
  ru : o.rules.length ≤ 1000000
  fr : o.from_.length ≤ 1000000
  to : o.to_.length ≤ 1000000
  lis : ∀ x ∈ o.listeners, x.ok
  rus : ∀ x ∈ o.rules, x.ok

abbrev AObj.ds (o : AObj) : List D := [int o.ref.kind, str o.ref.space, str o.ref.name, bln o.good, .pd (.slice (rows APair.pd o.labels)), .pd (.slice (ints o.ports)), str o.cls, .pd (.slice (rows AListener.pd o.listeners)),
  .pd (.slice (rows AParent.pd o.parents)), .pd (.slice (strs o.hosts)), .pd (.slice (rows ARule.pd o.rules)), .pd (.slice (rows ASide.pd o.from_)), .pd (.slice (rows ASide.pd o.to_))]


theorem thing_class (o : AObj) : Full Tryz.prog 84 [.ptr 500001 0] [(500001, o.ds)] true (fun d bs => d = bln true ∧ bs = [(500001,
    [int o.ref.kind, str o.ref.space, str o.ref.name, bln false, .pd (.slice (rows APair.pd o.labels)), .pd (.slice (ints o.ports)), str o.cls, .pd (.slice (rows AListener.pd o.listeners)),
      .pd (.slice (rows AParent.pd o.parents)), .pd (.slice (strs o.hosts)), .pd (.slice (rows ARule.pd o.rules)), .pd (.slice (rows ASide.pd o.from_)), .pd (.slice (rows ASide.pd o.to_))])]) := by
  refine full_of_run follows an_zk71m Tryz.func84 rfl ok_zk71m dst_zk71m (by simp [Tryz.ntmps84]) (by simp [Tryz.ntmps84]) (.inl rfl) ?_
  rw [run_start]
  simp only [ac_zk71m, go_sem, contS_seq, simprocAttr]
  simp only [retK, fullK, iterK, resD, resA, AOp.ex, St.ev, Option.map_some, Option.bind_some, St.get, lk, reduceIte, Nat.reduceEqDiff, Option.getD_some, oneD, List.getElem?_cons_zero, List.getElem?_cons_succ, List.drop_zero, List.drop_succ_cons, List.take_succ_cons, List.take_zero, List.length_cons, List.length_nil, Nat.zero_add, Nat.reduceAdd, Nat.le_refl, Nat.reduceLeDiff, D.pub, D.pubs, Tryz.results84]
  exact ⟨_, _, rfl, by simp [lessL, lk], rfl, rfl⟩

theorem thing_space (o : AObj) (h : o.ok) : Full Tryz.prog 85 [.ptr 500001 0] [(500001, o.ds)] true (fun d bs => d = bln (labelsMay o.labels) ∧ bs = [(500001,
    [int o.ref.kind, str o.ref.space, str o.ref.name, bln o.good, .nils, .pd (.slice (ints o.ports)), str o.cls, .pd (.slice (rows AListener.pd o.listeners)),
      .pd (.slice (rows AParent.pd o.parents)), .pd (.slice (strs o.hosts)), .pd (.slice (rows ARule.pd o.rules)), .pd (.slice (rows ASide.pd o.from_)), .pd (.slice (rows ASide.pd o.to_))])]) := by
  refine full_of_run follows an_zag3z Tryz.func85 rfl ok_zag3z dst_zag3z (by simp [Tryz.ntmps85]) (by simp [Tryz.ntmps85]) (.inl rfl) ?_
  rw [run_start]
  simp only [ac_zag3z, go_sem, contS_seq, simprocAttr]
  refine (label_May o.labels h.la).callW (enters_of Tryz.func108 rfl rfl) _ rfl rfl ?_
  rintro d rfl
  simp only [go_sem, contS_seq, simprocAttr]
  simp only [retK, fullK, iterK, resD, resA, AOp.ex, St.ev, Option.map_some, Option.bind_some, St.get, lk, reduceIte, Nat.reduceEqDiff, Option.getD_some, oneD, List.getElem?_cons_zero, List.getElem?_cons_succ, List.drop_zero, List.drop_succ_cons, List.take_succ_cons, List.take_zero, List.length_cons, List.length_nil, Nat.zero_add, Nat.reduceAdd, Nat.le_refl, Nat.reduceLeDiff, D.pub, D.pubs, Tryz.results85]
  exact ⟨_, _, rfl, by simp [lessL, lk], rfl, rfl⟩

def serviceMay (l : List Int) : Bool := decide (0 < l.length) && every oport l 8 && sortedInts l && !twice intSame l

theorem thing_service (o : AObj) (h : o.ok) : Full Tryz.prog 86 [.ptr 500001 0] [(500001, o.ds)] true (fun d bs => d = bln (serviceMay o.ports) ∧ bs = [(500001,
    [int o.ref.kind, str o.ref.space, str o.ref.name, bln o.good, .pd (.slice (rows APair.pd o.labels)), .nils, str o.cls, .pd (.slice (rows AListener.pd o.listeners)),
      .pd (.slice (rows AParent.pd o.parents)), .pd (.slice (strs o.hosts)), .pd (.slice (rows ARule.pd o.rules)), .pd (.slice (rows ASide.pd o.from_)), .pd (.slice (rows ASide.pd o.to_))])]) := by
  refine full_of_run follows an_zxlfl Tryz.func86 rfl ok_zxlfl dst_zxlfl (by simp [Tryz.ntmps86]) (by simp [Tryz.ntmps86]) (.inl rfl) ?_
  rw [run_start]
  simp only [ac_zxlfl, go_sem, contS_seq, simprocAttr, rows_len]
  (repeat' (first | (refine GifP.mk (fun _ => ?_) (fun _ => ?_)) | (refine Gif.mk (fun _ => ?_) (fun _ => ?_)) | ((first | refine (every_int oport _ (enters_of Tryz.func110 rfl rfl) o.ports h.po 8 (fun x _ => object_port x)).callW (enters_of Tryz.func109 rfl rfl) _ rfl rfl ?_ | refine (slices_IsSorted_int o.ports h.po).callW (enters_of Tryz.func111 rfl rfl) _ rfl rfl ?_ | refine (twice_int intSame _ (enters_of Tryz.func113 rfl rfl) o.ports h.po (fun x _ y _ => thing_service_1 x y)).callW (enters_of Tryz.func112 rfl rfl) _ rfl rfl ?_); rintro _ rfl; try simp only [go_sem, contS_seq, simprocAttr]))) <;> (simp only [retK, fullK, iterK, resD, resA, AOp.ex, St.ev, Option.map_some, Option.bind_some, St.get, lk, reduceIte, Nat.reduceEqDiff, Option.getD_some, oneD, List.getElem?_cons_zero, List.getElem?_cons_succ, List.drop_zero, List.drop_succ_cons, List.take_succ_cons, List.take_zero, List.length_cons, List.length_nil, Nat.zero_add, Nat.reduceAdd, Nat.le_refl, Nat.reduceLeDiff, D.pub, D.pubs, Tryz.results86]; exact ⟨_, _, rfl, by simp [lessL, lk], congrArg bln (by first | rfl | (rw [Bool.eq_iff_iff]; simp only [serviceMay]; simp; done) | (rw [Bool.eq_iff_iff]; simp only [serviceMay]; simp; omega) | (rw [Bool.eq_iff_iff]; simp only [serviceMay]; simp [*]; done) | (rw [Bool.eq_iff_iff]; simp only [serviceMay]; simp [*]; omega) | (simp_all [serviceMay]; done) | (exfalso; omega)), rfl⟩)

def gatewayMay (s : ByteArray) (l : List AListener) : Bool := dname s && decide (0 < l.length) && every listenerMay l 8 && !twice lisName l

theorem thing_gateway (o : AObj) (h : o.ok) : Full Tryz.prog 87 [.ptr 500001 0] [(500001, o.ds)] true (fun d bs => d = bln (gatewayMay o.cls o.listeners) ∧ bs = [(500001,
    [int o.ref.kind, str o.ref.space, str o.ref.name, bln o.good, .pd (.slice (rows APair.pd o.labels)), .pd (.slice (ints o.ports)), str ⟨#[]⟩, .nils,
      .pd (.slice (rows AParent.pd o.parents)), .pd (.slice (strs o.hosts)), .pd (.slice (rows ARule.pd o.rules)), .pd (.slice (rows ASide.pd o.from_)), .pd (.slice (rows ASide.pd o.to_))])]) := by
  refine full_of_run follows an_zqquk Tryz.func87 rfl ok_zqquk dst_zqquk (by simp [Tryz.ntmps87]) (by simp [Tryz.ntmps87]) (.inl rfl) ?_
  rw [run_start]
  simp only [ac_zqquk, go_sem, contS_seq, simprocAttr, go_sem, rows_len]
  (repeat' (first | (refine GifP.mk (fun _ => ?_) (fun _ => ?_)) | (refine Gif.mk (fun _ => ?_) (fun _ => ?_)) | ((first | refine (dns_Name _).callW (enters_of Tryz.func115 rfl rfl) _ rfl rfl ?_ | refine (every_Listener listenerMay _ (enters_of Tryz.func117 rfl rfl) o.listeners h.li 8 (fun x hx => object_listener x (h.lis x hx))).callW (enters_of Tryz.func116 rfl rfl) _ rfl rfl ?_ | refine (twice_Listener lisName _ (enters_of Tryz.func114 rfl rfl) o.listeners h.li (fun x _ y _ => thing_gateway_1 x y)).callW (enters_of Tryz.func118 rfl rfl) _ rfl rfl ?_); rintro _ rfl; try simp only [go_sem, contS_seq, simprocAttr, rows_len]))) <;> (simp only [retK, fullK, iterK, resD, resA, AOp.ex, St.ev, Option.map_some, Option.bind_some, St.get, lk, reduceIte, Nat.reduceEqDiff, Option.getD_some, oneD, List.getElem?_cons_zero, List.getElem?_cons_succ, List.drop_zero, List.drop_succ_cons, List.take_succ_cons, List.take_zero, List.length_cons, List.length_nil, Nat.zero_add, Nat.reduceAdd, Nat.le_refl, Nat.reduceLeDiff, D.pub, D.pubs, Tryz.results87]; exact ⟨_, _, rfl, by simp [lessL, lk], congrArg bln (by first | rfl | (rw [Bool.eq_iff_iff]; simp only [gatewayMay]; simp; done) | (rw [Bool.eq_iff_iff]; simp only [gatewayMay]; simp; omega) | (rw [Bool.eq_iff_iff]; simp only [gatewayMay]; simp [*]; done) | (rw [Bool.eq_iff_iff]; simp only [gatewayMay]; simp [*]; omega) | (simp_all [gatewayMay]; done) | (exfalso; omega)), rfl⟩)

def routeMay (ps : List AParent) (hs : List ByteArray) (rs : List ARule) : Bool :=
  !(twice parSame ps || twice strSame hs) && every parentMay ps 4 && every patMay hs 4 && every ruleMay rs 6

theorem thing_route (o : AObj) (h : o.ok) : Full Tryz.prog 88 [.ptr 500001 0] [(500001, o.ds)] true (fun d bs => d = bln (routeMay o.parents o.hosts o.rules) ∧ bs = [(500001,
    [int o.ref.kind, str o.ref.space, str o.ref.name, bln o.good, .pd (.slice (rows APair.pd o.labels)), .pd (.slice (ints o.ports)), str o.cls, .pd (.slice (rows AListener.pd o.listeners)),
      .nils, .nils, .nils, .pd (.slice (rows ASide.pd o.from_)), .pd (.slice (rows ASide.pd o.to_))])]) := by
  refine full_of_run follows an_ztpho Tryz.func88 rfl ok_ztpho dst_ztpho (by simp [Tryz.ntmps88]) (by simp [Tryz.ntmps88]) (.inl rfl) ?_
  rw [run_start]
  simp (maxSteps := 5000000) only [ac_ztpho, go_sem, contS_seq, simprocAttr, go_sem, rows_len]
  (repeat' (first | (refine GifP.mk (fun _ => ?_) (fun _ => ?_)) | (refine Gif.mk (fun _ => ?_) (fun _ => ?_)) | ((first | refine (twice_Parent parSame _ (enters_of Tryz.func120 rfl rfl) o.parents h.pa (fun x _ y _ => thing_route_1 x y)).callW (enters_of Tryz.func119 rfl rfl) _ rfl rfl ?_ | refine (twice_string strSame _ (enters_of Tryz.func122 rfl rfl) o.hosts h.ho (fun x _ y _ => thing_route_2 x y)).callW (enters_of Tryz.func121 rfl rfl) _ rfl rfl ?_ | refine (every_Parent parentMay _ (enters_of Tryz.func126 rfl rfl) o.parents h.pa 4 (fun x _ => object_parent x)).callW (enters_of Tryz.func125 rfl rfl) _ rfl rfl ?_ | refine (every_string patMay _ (enters_of Tryz.func123 rfl rfl) o.hosts h.ho 4 (fun x _ => thing_route_3 x)).callW (enters_of Tryz.func127 rfl rfl) _ rfl rfl ?_ | refine (every_Rule ruleMay _ (enters_of Tryz.func129 rfl rfl) o.rules h.ru 6 (fun x hx => object_ruled x (h.rus x hx))).callW (enters_of Tryz.func128 rfl rfl) _ rfl rfl ?_); rintro _ rfl; try simp only [go_sem, contS_seq, simprocAttr, rows_len]))) <;> (simp only [retK, fullK, iterK, resD, resA, AOp.ex, St.ev, Option.map_some, Option.bind_some, St.get, lk, reduceIte, Nat.reduceEqDiff, Option.getD_some, oneD, List.getElem?_cons_zero, List.getElem?_cons_succ, List.drop_zero, List.drop_succ_cons, List.take_succ_cons, List.take_zero, List.length_cons, List.length_nil, Nat.zero_add, Nat.reduceAdd, Nat.le_refl, Nat.reduceLeDiff, D.pub, D.pubs, Tryz.results88]; exact ⟨_, _, rfl, by simp [lessL, lk], congrArg bln (by first | rfl | (rw [Bool.eq_iff_iff]; simp only [routeMay]; simp; done) | (rw [Bool.eq_iff_iff]; simp only [routeMay]; simp; omega) | (rw [Bool.eq_iff_iff]; simp only [routeMay]; simp [*]; done) | (rw [Bool.eq_iff_iff]; simp only [routeMay]; simp [*]; omega) | (simp_all [routeMay]; done) | (exfalso; omega)), rfl⟩)

def grantMay (f t : List ASide) : Bool := decide (0 < f.length) && decide (0 < t.length) && every sideFrom f 4 && every sideTo t 4

theorem thing_grant (o : AObj) (h : o.ok) : Full Tryz.prog 89 [.ptr 500001 0] [(500001, o.ds)] true (fun d bs => d = bln (grantMay o.from_ o.to_) ∧ bs = [(500001,
    [int o.ref.kind, str o.ref.space, str o.ref.name, bln o.good, .pd (.slice (rows APair.pd o.labels)), .pd (.slice (ints o.ports)), str o.cls, .pd (.slice (rows AListener.pd o.listeners)),
      .pd (.slice (rows AParent.pd o.parents)), .pd (.slice (strs o.hosts)), .pd (.slice (rows ARule.pd o.rules)), .nils, .nils])]) := by
  refine full_of_run follows an_zlbax Tryz.func89 rfl ok_zlbax dst_zlbax (by simp [Tryz.ntmps89]) (by simp [Tryz.ntmps89]) (.inl rfl) ?_
  rw [run_start]
  simp only [ac_zlbax, go_sem, contS_seq, simprocAttr, go_sem, rows_len]
  (repeat' (first | (refine GifP.mk (fun _ => ?_) (fun _ => ?_)) | (refine Gif.mk (fun _ => ?_) (fun _ => ?_)) | ((first | refine (every_Side sideFrom _ (enters_of Tryz.func130 rfl rfl) o.from_ h.fr 4 (fun x _ => thing_grant_1 x)).callW (enters_of Tryz.func134 rfl rfl) _ rfl rfl ?_ | refine (every_Side sideTo _ (enters_of Tryz.func133 rfl rfl) o.to_ h.to 4 (fun x _ => thing_grant_2 x)).callW (enters_of Tryz.func134 rfl rfl) _ rfl rfl ?_); rintro _ rfl; try simp only [go_sem, contS_seq, simprocAttr, rows_len]))) <;> (simp only [retK, fullK, iterK, resD, resA, AOp.ex, St.ev, Option.map_some, Option.bind_some, St.get, lk, reduceIte, Nat.reduceEqDiff, Option.getD_some, oneD, List.getElem?_cons_zero, List.getElem?_cons_succ, List.drop_zero, List.drop_succ_cons, List.take_succ_cons, List.take_zero, List.length_cons, List.length_nil, Nat.zero_add, Nat.reduceAdd, Nat.le_refl, Nat.reduceLeDiff, D.pub, D.pubs, Tryz.results89]; exact ⟨_, _, rfl, by simp [lessL, lk], congrArg bln (by first | rfl | (rw [Bool.eq_iff_iff]; simp only [grantMay]; simp; done) | (rw [Bool.eq_iff_iff]; simp only [grantMay]; simp; omega) | (rw [Bool.eq_iff_iff]; simp only [grantMay]; simp [*]; done) | (rw [Bool.eq_iff_iff]; simp only [grantMay]; simp [*]; omega) | (simp_all [grantMay]; done) | (exfalso; omega)), rfl⟩)


def objSame (a b : AObj) : Bool :=
  decide (a.ref = b.ref) && (a.good == b.good) && decide (a.cls = b.cls) && decide (a.labels = b.labels) && decide (a.ports = b.ports) && decide (a.hosts = b.hosts) && decide (a.parents = b.parents) && decide (a.from_ = b.from_) && decide (a.to_ = b.to_) &&
  eqf listenerSame a.listeners b.listeners && eqf ruleSame a.rules b.rules

set_option maxHeartbeats 1000000 in
theorem object_Same (a b : AObj) (ha : a.ok) (hb : b.ok) : Pure Tryz.prog 91 [a.d, b.d] (fun d => d = bln (objSame a b)) := by
  refine pure_of_run follows an_zhbvt Tryz.func91 rfl ok_zhbvt dst_zhbvt (by simp [Tryz.ntmps91]) ?_
  rw [run_start]
  simp only [ac_zhbvt, go_sem, contS_seq, simprocAttr, eqVs, eqV, eq_Ref]
  (repeat' (first | (refine GifP.mk (fun _ => ?_) (fun _ => ?_)) | (refine Gif.mk (fun _ => ?_) (fun _ => ?_)) | ((first | refine (Equal_Pair a.labels b.labels ha.la hb.la).callW (enters_of Tryz.func135 rfl rfl) _ rfl rfl ?_ | refine (Equal_int a.ports b.ports ha.po hb.po).callW (enters_of Tryz.func136 rfl rfl) _ rfl rfl ?_ | refine (Equal_string a.hosts b.hosts ha.ho hb.ho).callW (enters_of Tryz.func137 rfl rfl) _ rfl rfl ?_ | refine (Equal_Parent a.parents b.parents ha.pa hb.pa).callW (enters_of Tryz.func138 rfl rfl) _ rfl rfl ?_ | refine (Equal_Side a.from_ b.from_ ha.fr hb.fr).callW (enters_of Tryz.func139 rfl rfl) _ rfl rfl ?_ | refine (Equal_Side a.to_ b.to_ ha.to hb.to).callW (enters_of Tryz.func139 rfl rfl) _ rfl rfl ?_ | refine (EqualFunc_Listener listenerSame _ (enters_of Tryz.func141 rfl rfl) a.listeners b.listeners ha.li hb.li (fun x hx y hy => object_sameListener x y (ha.lis x hx) (hb.lis y hy))).callW (enters_of Tryz.func140 rfl rfl) _ rfl rfl ?_ | refine (EqualFunc_Rule ruleSame _ (enters_of Tryz.func143 rfl rfl) a.rules b.rules ha.ru hb.ru (fun x hx y hy => object_sameRule x y (ha.rus x hx) (hb.rus y hy))).callW (enters_of Tryz.func142 rfl rfl) _ rfl rfl ?_); rintro _ rfl; try simp only [go_sem, contS_seq, simprocAttr, eqVs, eqV, eq_Ref]))) <;> (simp only [retK, fullK, iterK, resD, resA, AOp.ex, St.ev, Option.map_some, Option.bind_some, St.get, lk, reduceIte, Nat.reduceEqDiff, Option.getD_some, oneD, List.getElem?_cons_zero, List.getElem?_cons_succ, List.drop_zero, List.drop_succ_cons, List.take_succ_cons, List.take_zero, List.length_cons, List.length_nil, Nat.zero_add, Nat.reduceAdd, Nat.le_refl, Nat.reduceLeDiff, D.pub, D.pubs, Tryz.results91]; exact ⟨_, rfl, rfl, congrArg bln (by first | rfl | (rw [Bool.eq_iff_iff]; simp only [objSame]; simp; done) | (rw [Bool.eq_iff_iff]; simp only [objSame]; simp; omega) | (rw [Bool.eq_iff_iff]; simp only [objSame]; simp [*]; done) | (rw [Bool.eq_iff_iff]; simp only [objSame]; simp [*]; omega) | (simp_all [objSame]; done) | (exfalso; omega))⟩)


def AObj.zero (r : ARef) : AObj := ⟨r, false, [], [], ⟨#[]⟩, [], [], [], [], [], []⟩

theorem AObj.zero_ok (r : ARef) : (AObj.zero r).ok := ⟨by simp [AObj.zero], by simp [AObj.zero], by simp [AObj.zero], by simp [AObj.zero], by simp [AObj.zero], by simp [AObj.zero], by simp [AObj.zero], by simp [AObj.zero], by simp [AObj.zero], by simp [AObj.zero]⟩

def AObj.strip (o : AObj) : AObj :=
  if o.ref.kind = 1 ∨ o.ref.kind = 4 then { o with good := false }
  else if o.ref.kind = 2 then { o with labels := [] }
  else if o.ref.kind = 3 then { o with ports := [] }
  else if o.ref.kind = 5 then { o with listeners := [], cls := ⟨#[]⟩ }
  else if o.ref.kind = 6 then { o with parents := [], hosts := [], rules := [] }
  else { o with from_ := [], to_ := [] }

def kindMay (o : AObj) : Bool :=
  if o.ref.kind = 1 ∨ o.ref.kind = 4 then true
  else if o.ref.kind = 2 then labelsMay o.labels
  else if o.ref.kind = 3 then serviceMay o.ports
  else if o.ref.kind = 5 then gatewayMay o.cls o.listeners
  else if o.ref.kind = 6 then routeMay o.parents o.hosts o.rules
  else grantMay o.from_ o.to_

def objMay (o : AObj) : Bool := mayRef o.ref && kindMay o && objSame o.strip (AObj.zero o.ref)

theorem mayRef_kind {r : ARef} (h : mayRef r = true) : r.kind = 1 ∨ r.kind = 2 ∨ r.kind = 3 ∨ r.kind = 4 ∨ r.kind = 5 ∨ r.kind = 6 ∨ r.kind = 7 := by
  unfold mayRef at h
  split at h
  · omega
  · split at h
    · omega
    · simp [okind] at h; omega

theorem strip_ok {o s : AObj} (h : o.ok) (h1 : s.labels = o.labels ∨ s.labels = []) (h2 : s.ports = o.ports ∨ s.ports = []) (h3 : s.listeners = o.listeners ∨ s.listeners = []) (h4 : s.parents = o.parents ∨ s.parents = []) (h5 : s.hosts = o.hosts ∨ s.hosts = [])
    (h6 : s.rules = o.rules ∨ s.rules = []) (h7 : s.from_ = o.from_ ∨ s.from_ = []) (h8 : s.to_ = o.to_ ∨ s.to_ = []) : s.ok where
  la := by rcases h1 with e | e <;> rw [e] <;> first | exact h.la | simp
  po := by rcases h2 with e | e <;> rw [e] <;> first | exact h.po | simp
  li := by rcases h3 with e | e <;> rw [e] <;> first | exact h.li | simp
  pa := by rcases h4 with e | e <;> rw [e] <;> first | exact h.pa | simp
  ho := by rcases h5 with e | e <;> rw [e] <;> first | exact h.ho | simp
  ru := by rcases h6 with e | e <;> rw [e] <;> first | exact h.ru | simp
  fr := by rcases h7 with e | e <;> rw [e] <;> first | exact h.fr | simp
  to := by rcases h8 with e | e <;> rw [e] <;> first | exact h.to | simp
  lis := by rcases h3 with e | e <;> rw [e] <;> first | exact h.lis | simp
  rus := by rcases h6 with e | e <;> rw [e] <;> first | exact h.rus | simp

set_option maxHeartbeats 4000000 in
theorem object_May (o : AObj) (h : o.ok) : Pure Tryz.prog 52 [o.d] (fun d => d = bln (objMay o)) := by
  refine pure_of_run follows an_zfwje Tryz.func52 rfl ok_zfwje dst_zfwje (by simp [Tryz.ntmps52]) ?_
  rw [run_start]
  simp (maxSteps := 5000000) only [ac_zfwje, go_sem, contS_seq, simprocAttr, go_sem]
  refine (object_MayRef o.ref).callX (enters_of Tryz.func90 rfl rfl) _ rfl rfl ?_
  rintro d rfl
  by_cases hm : mayRef o.ref = true
  · have stop : kindMay o = false → objMay o = false := fun e => by simp [objMay, e]
    have go : ∀ s : AObj, o.strip = s → kindMay o = true → objMay o = objSame s (AObj.zero o.ref) := fun s e1 e2 => by simp [objMay, hm, e1, e2]
    rcases mayRef_kind hm with hk | hk | hk | hk | hk | hk | hk
    · obtain ⟨⟨kd, sp, nm⟩, gd, la, po, cl, li, pa, ho, ru, fr, to⟩ := o
      simp only at hk
      subst hk
      simp (maxSteps := 5000000) only [go_sem, contS_seq, simprocAttr, go_sem, hm]
      refine (thing_class ⟨⟨1, sp, nm⟩, gd, la, po, cl, li, pa, ho, ru, fr, to⟩).callW (enters_of Tryz.func84 rfl rfl) _ false [(9, 500001)] [] [] [] rfl rfl rfl ?_
      rintro d bs ⟨rfl, rfl⟩
      simp (maxSteps := 5000000) only [go_sem, contS_seq, simprocAttr, go_sem]
      have hs : (⟨⟨1, sp, nm⟩, gd, la, po, cl, li, pa, ho, ru, fr, to⟩ : AObj).strip = { (⟨⟨1, sp, nm⟩, gd, la, po, cl, li, pa, ho, ru, fr, to⟩ : AObj) with good := false } := by simp [AObj.strip]
      have hkm : kindMay (⟨⟨1, sp, nm⟩, gd, la, po, cl, li, pa, ho, ru, fr, to⟩ : AObj) = true := by simp [kindMay]
      refine (object_Same ({ (⟨⟨1, sp, nm⟩, gd, la, po, cl, li, pa, ho, ru, fr, to⟩ : AObj) with good := false } : AObj) (AObj.zero ⟨1, sp, nm⟩) (strip_ok h (by simp) (by simp) (by simp) (by simp) (by simp) (by simp) (by simp) (by simp)) (AObj.zero_ok ⟨1, sp, nm⟩)).callX (enters_of Tryz.func91 rfl rfl) _ rfl rfl ?_
      rintro d rfl
      simp (maxSteps := 5000000) only [go_sem, contS_seq, simprocAttr, go_sem]
      simp only [retK, fullK, iterK, resD, resA, AOp.ex, St.ev, Option.map_some, Option.bind_some, St.get, lk, reduceIte, Nat.reduceEqDiff, Option.getD_some, oneD, List.getElem?_cons_zero, List.getElem?_cons_succ, List.drop_zero, List.drop_succ_cons, List.take_succ_cons, List.take_zero, List.length_cons, List.length_nil, Nat.zero_add, Nat.reduceAdd, Nat.le_refl, Nat.reduceLeDiff, D.pub, D.pubs, Tryz.results52]
      exact ⟨_, rfl, rfl, congrArg bln (go _ hs (by rw [hkm])).symm⟩
    · obtain ⟨⟨kd, sp, nm⟩, gd, la, po, cl, li, pa, ho, ru, fr, to⟩ := o
      simp only at hk
      subst hk
      simp (maxSteps := 5000000) only [go_sem, contS_seq, simprocAttr, go_sem, hm]
      refine (thing_space ⟨⟨2, sp, nm⟩, gd, la, po, cl, li, pa, ho, ru, fr, to⟩ h).callW (enters_of Tryz.func85 rfl rfl) _ false [(9, 500001)] [] [] [] rfl rfl rfl ?_
      rintro d bs ⟨rfl, rfl⟩
      simp (maxSteps := 5000000) only [go_sem, contS_seq, simprocAttr, go_sem]
      have hs : (⟨⟨2, sp, nm⟩, gd, la, po, cl, li, pa, ho, ru, fr, to⟩ : AObj).strip = { (⟨⟨2, sp, nm⟩, gd, la, po, cl, li, pa, ho, ru, fr, to⟩ : AObj) with labels := [] } := by simp [AObj.strip]
      have hkm : kindMay (⟨⟨2, sp, nm⟩, gd, la, po, cl, li, pa, ho, ru, fr, to⟩ : AObj) = labelsMay la := by simp [kindMay]
      refine Gif.mk (fun h1 => ?_) (fun h1 => ?_)
      · refine (object_Same ({ (⟨⟨2, sp, nm⟩, gd, la, po, cl, li, pa, ho, ru, fr, to⟩ : AObj) with labels := [] } : AObj) (AObj.zero ⟨2, sp, nm⟩) (strip_ok h (by simp) (by simp) (by simp) (by simp) (by simp) (by simp) (by simp) (by simp)) (AObj.zero_ok ⟨2, sp, nm⟩)).callX (enters_of Tryz.func91 rfl rfl) _ rfl rfl ?_
        rintro d rfl
        simp (maxSteps := 5000000) only [go_sem, contS_seq, simprocAttr, go_sem]
        simp only [retK, fullK, iterK, resD, resA, AOp.ex, St.ev, Option.map_some, Option.bind_some, St.get, lk, reduceIte, Nat.reduceEqDiff, Option.getD_some, oneD, List.getElem?_cons_zero, List.getElem?_cons_succ, List.drop_zero, List.drop_succ_cons, List.take_succ_cons, List.take_zero, List.length_cons, List.length_nil, Nat.zero_add, Nat.reduceAdd, Nat.le_refl, Nat.reduceLeDiff, D.pub, D.pubs, Tryz.results52]
        exact ⟨_, rfl, rfl, congrArg bln (go _ hs (by rw [hkm]; exact h1)).symm⟩
      · simp only [retK, fullK, iterK, resD, resA, AOp.ex, St.ev, Option.map_some, Option.bind_some, St.get, lk, reduceIte, Nat.reduceEqDiff, Option.getD_some, oneD, List.getElem?_cons_zero, List.getElem?_cons_succ, List.drop_zero, List.drop_succ_cons, List.take_succ_cons, List.take_zero, List.length_cons, List.length_nil, Nat.zero_add, Nat.reduceAdd, Nat.le_refl, Nat.reduceLeDiff, D.pub, D.pubs, Tryz.results52]
        exact ⟨_, rfl, rfl, congrArg bln (stop (by rw [hkm]; exact h1)).symm⟩
    · obtain ⟨⟨kd, sp, nm⟩, gd, la, po, cl, li, pa, ho, ru, fr, to⟩ := o
      simp only at hk
      subst hk
      simp (maxSteps := 5000000) only [go_sem, contS_seq, simprocAttr, go_sem, hm]
      refine (thing_service ⟨⟨3, sp, nm⟩, gd, la, po, cl, li, pa, ho, ru, fr, to⟩ h).callW (enters_of Tryz.func86 rfl rfl) _ false [(9, 500001)] [] [] [] rfl rfl rfl ?_
      rintro d bs ⟨rfl, rfl⟩
      simp (maxSteps := 5000000) only [go_sem, contS_seq, simprocAttr, go_sem]
      have hs : (⟨⟨3, sp, nm⟩, gd, la, po, cl, li, pa, ho, ru, fr, to⟩ : AObj).strip = { (⟨⟨3, sp, nm⟩, gd, la, po, cl, li, pa, ho, ru, fr, to⟩ : AObj) with ports := [] } := by simp [AObj.strip]
      have hkm : kindMay (⟨⟨3, sp, nm⟩, gd, la, po, cl, li, pa, ho, ru, fr, to⟩ : AObj) = serviceMay po := by simp [kindMay]
      refine Gif.mk (fun h1 => ?_) (fun h1 => ?_)
      · refine (object_Same ({ (⟨⟨3, sp, nm⟩, gd, la, po, cl, li, pa, ho, ru, fr, to⟩ : AObj) with ports := [] } : AObj) (AObj.zero ⟨3, sp, nm⟩) (strip_ok h (by simp) (by simp) (by simp) (by simp) (by simp) (by simp) (by simp) (by simp)) (AObj.zero_ok ⟨3, sp, nm⟩)).callX (enters_of Tryz.func91 rfl rfl) _ rfl rfl ?_
        rintro d rfl
        simp (maxSteps := 5000000) only [go_sem, contS_seq, simprocAttr, go_sem]
        simp only [retK, fullK, iterK, resD, resA, AOp.ex, St.ev, Option.map_some, Option.bind_some, St.get, lk, reduceIte, Nat.reduceEqDiff, Option.getD_some, oneD, List.getElem?_cons_zero, List.getElem?_cons_succ, List.drop_zero, List.drop_succ_cons, List.take_succ_cons, List.take_zero, List.length_cons, List.length_nil, Nat.zero_add, Nat.reduceAdd, Nat.le_refl, Nat.reduceLeDiff, D.pub, D.pubs, Tryz.results52]
        exact ⟨_, rfl, rfl, congrArg bln (go _ hs (by rw [hkm]; exact h1)).symm⟩
      · simp only [retK, fullK, iterK, resD, resA, AOp.ex, St.ev, Option.map_some, Option.bind_some, St.get, lk, reduceIte, Nat.reduceEqDiff, Option.getD_some, oneD, List.getElem?_cons_zero, List.getElem?_cons_succ, List.drop_zero, List.drop_succ_cons, List.take_succ_cons, List.take_zero, List.length_cons, List.length_nil, Nat.zero_add, Nat.reduceAdd, Nat.le_refl, Nat.reduceLeDiff, D.pub, D.pubs, Tryz.results52]
        exact ⟨_, rfl, rfl, congrArg bln (stop (by rw [hkm]; exact h1)).symm⟩
    · obtain ⟨⟨kd, sp, nm⟩, gd, la, po, cl, li, pa, ho, ru, fr, to⟩ := o
      simp only at hk
      subst hk
      simp (maxSteps := 5000000) only [go_sem, contS_seq, simprocAttr, go_sem, hm]
      refine (thing_class ⟨⟨4, sp, nm⟩, gd, la, po, cl, li, pa, ho, ru, fr, to⟩).callW (enters_of Tryz.func84 rfl rfl) _ false [(9, 500001)] [] [] [] rfl rfl rfl ?_
      rintro d bs ⟨rfl, rfl⟩
      simp (maxSteps := 5000000) only [go_sem, contS_seq, simprocAttr, go_sem]
      have hs : (⟨⟨4, sp, nm⟩, gd, la, po, cl, li, pa, ho, ru, fr, to⟩ : AObj).strip = { (⟨⟨4, sp, nm⟩, gd, la, po, cl, li, pa, ho, ru, fr, to⟩ : AObj) with good := false } := by simp [AObj.strip]
      have hkm : kindMay (⟨⟨4, sp, nm⟩, gd, la, po, cl, li, pa, ho, ru, fr, to⟩ : AObj) = true := by simp [kindMay]
      refine (object_Same ({ (⟨⟨4, sp, nm⟩, gd, la, po, cl, li, pa, ho, ru, fr, to⟩ : AObj) with good := false } : AObj) (AObj.zero ⟨4, sp, nm⟩) (strip_ok h (by simp) (by simp) (by simp) (by simp) (by simp) (by simp) (by simp) (by simp)) (AObj.zero_ok ⟨4, sp, nm⟩)).callX (enters_of Tryz.func91 rfl rfl) _ rfl rfl ?_
      rintro d rfl
      simp (maxSteps := 5000000) only [go_sem, contS_seq, simprocAttr, go_sem]
      simp only [retK, fullK, iterK, resD, resA, AOp.ex, St.ev, Option.map_some, Option.bind_some, St.get, lk, reduceIte, Nat.reduceEqDiff, Option.getD_some, oneD, List.getElem?_cons_zero, List.getElem?_cons_succ, List.drop_zero, List.drop_succ_cons, List.take_succ_cons, List.take_zero, List.length_cons, List.length_nil, Nat.zero_add, Nat.reduceAdd, Nat.le_refl, Nat.reduceLeDiff, D.pub, D.pubs, Tryz.results52]
      exact ⟨_, rfl, rfl, congrArg bln (go _ hs (by rw [hkm])).symm⟩
    · obtain ⟨⟨kd, sp, nm⟩, gd, la, po, cl, li, pa, ho, ru, fr, to⟩ := o
      simp only at hk
      subst hk
      simp (maxSteps := 5000000) only [go_sem, contS_seq, simprocAttr, go_sem, hm]
      refine (thing_gateway ⟨⟨5, sp, nm⟩, gd, la, po, cl, li, pa, ho, ru, fr, to⟩ h).callW (enters_of Tryz.func87 rfl rfl) _ false [(9, 500001)] [] [] [] rfl rfl rfl ?_
      rintro d bs ⟨rfl, rfl⟩
      simp (maxSteps := 5000000) only [go_sem, contS_seq, simprocAttr, go_sem]
      have hs : (⟨⟨5, sp, nm⟩, gd, la, po, cl, li, pa, ho, ru, fr, to⟩ : AObj).strip = { (⟨⟨5, sp, nm⟩, gd, la, po, cl, li, pa, ho, ru, fr, to⟩ : AObj) with listeners := [], cls := ⟨#[]⟩ } := by simp [AObj.strip]
      have hkm : kindMay (⟨⟨5, sp, nm⟩, gd, la, po, cl, li, pa, ho, ru, fr, to⟩ : AObj) = gatewayMay cl li := by simp [kindMay]
      refine Gif.mk (fun h1 => ?_) (fun h1 => ?_)
      · refine (object_Same ({ (⟨⟨5, sp, nm⟩, gd, la, po, cl, li, pa, ho, ru, fr, to⟩ : AObj) with listeners := [], cls := ⟨#[]⟩ } : AObj) (AObj.zero ⟨5, sp, nm⟩) (strip_ok h (by simp) (by simp) (by simp) (by simp) (by simp) (by simp) (by simp) (by simp)) (AObj.zero_ok ⟨5, sp, nm⟩)).callX (enters_of Tryz.func91 rfl rfl) _ rfl rfl ?_
        rintro d rfl
        simp (maxSteps := 5000000) only [go_sem, contS_seq, simprocAttr, go_sem]
        simp only [retK, fullK, iterK, resD, resA, AOp.ex, St.ev, Option.map_some, Option.bind_some, St.get, lk, reduceIte, Nat.reduceEqDiff, Option.getD_some, oneD, List.getElem?_cons_zero, List.getElem?_cons_succ, List.drop_zero, List.drop_succ_cons, List.take_succ_cons, List.take_zero, List.length_cons, List.length_nil, Nat.zero_add, Nat.reduceAdd, Nat.le_refl, Nat.reduceLeDiff, D.pub, D.pubs, Tryz.results52]
        exact ⟨_, rfl, rfl, congrArg bln (go _ hs (by rw [hkm]; exact h1)).symm⟩
      · simp only [retK, fullK, iterK, resD, resA, AOp.ex, St.ev, Option.map_some, Option.bind_some, St.get, lk, reduceIte, Nat.reduceEqDiff, Option.getD_some, oneD, List.getElem?_cons_zero, List.getElem?_cons_succ, List.drop_zero, List.drop_succ_cons, List.take_succ_cons, List.take_zero, List.length_cons, List.length_nil, Nat.zero_add, Nat.reduceAdd, Nat.le_refl, Nat.reduceLeDiff, D.pub, D.pubs, Tryz.results52]
        exact ⟨_, rfl, rfl, congrArg bln (stop (by rw [hkm]; exact h1)).symm⟩
    · obtain ⟨⟨kd, sp, nm⟩, gd, la, po, cl, li, pa, ho, ru, fr, to⟩ := o
      simp only at hk
      subst hk
      simp (maxSteps := 5000000) only [go_sem, contS_seq, simprocAttr, go_sem, hm]
      refine (thing_route ⟨⟨6, sp, nm⟩, gd, la, po, cl, li, pa, ho, ru, fr, to⟩ h).callW (enters_of Tryz.func88 rfl rfl) _ false [(9, 500001)] [] [] [] rfl rfl rfl ?_
      rintro d bs ⟨rfl, rfl⟩
      simp (maxSteps := 5000000) only [go_sem, contS_seq, simprocAttr, go_sem]
      have hs : (⟨⟨6, sp, nm⟩, gd, la, po, cl, li, pa, ho, ru, fr, to⟩ : AObj).strip = { (⟨⟨6, sp, nm⟩, gd, la, po, cl, li, pa, ho, ru, fr, to⟩ : AObj) with parents := [], hosts := [], rules := [] } := by simp [AObj.strip]
      have hkm : kindMay (⟨⟨6, sp, nm⟩, gd, la, po, cl, li, pa, ho, ru, fr, to⟩ : AObj) = routeMay pa ho ru := by simp [kindMay]
      refine Gif.mk (fun h1 => ?_) (fun h1 => ?_)
      · refine (object_Same ({ (⟨⟨6, sp, nm⟩, gd, la, po, cl, li, pa, ho, ru, fr, to⟩ : AObj) with parents := [], hosts := [], rules := [] } : AObj) (AObj.zero ⟨6, sp, nm⟩) (strip_ok h (by simp) (by simp) (by simp) (by simp) (by simp) (by simp) (by simp) (by simp)) (AObj.zero_ok ⟨6, sp, nm⟩)).callX (enters_of Tryz.func91 rfl rfl) _ rfl rfl ?_
        rintro d rfl
        simp (maxSteps := 5000000) only [go_sem, contS_seq, simprocAttr, go_sem]
        simp only [retK, fullK, iterK, resD, resA, AOp.ex, St.ev, Option.map_some, Option.bind_some, St.get, lk, reduceIte, Nat.reduceEqDiff, Option.getD_some, oneD, List.getElem?_cons_zero, List.getElem?_cons_succ, List.drop_zero, List.drop_succ_cons, List.take_succ_cons, List.take_zero, List.length_cons, List.length_nil, Nat.zero_add, Nat.reduceAdd, Nat.le_refl, Nat.reduceLeDiff, D.pub, D.pubs, Tryz.results52]
        exact ⟨_, rfl, rfl, congrArg bln (go _ hs (by rw [hkm]; exact h1)).symm⟩
      · simp only [retK, fullK, iterK, resD, resA, AOp.ex, St.ev, Option.map_some, Option.bind_some, St.get, lk, reduceIte, Nat.reduceEqDiff, Option.getD_some, oneD, List.getElem?_cons_zero, List.getElem?_cons_succ, List.drop_zero, List.drop_succ_cons, List.take_succ_cons, List.take_zero, List.length_cons, List.length_nil, Nat.zero_add, Nat.reduceAdd, Nat.le_refl, Nat.reduceLeDiff, D.pub, D.pubs, Tryz.results52]
        exact ⟨_, rfl, rfl, congrArg bln (stop (by rw [hkm]; exact h1)).symm⟩
    · obtain ⟨⟨kd, sp, nm⟩, gd, la, po, cl, li, pa, ho, ru, fr, to⟩ := o
      simp only at hk
      subst hk
      simp (maxSteps := 5000000) only [go_sem, contS_seq, simprocAttr, go_sem, hm]
      refine (thing_grant ⟨⟨7, sp, nm⟩, gd, la, po, cl, li, pa, ho, ru, fr, to⟩ h).callW (enters_of Tryz.func89 rfl rfl) _ false [(9, 500001)] [] [] [] rfl rfl rfl ?_
      rintro d bs ⟨rfl, rfl⟩
      simp (maxSteps := 5000000) only [go_sem, contS_seq, simprocAttr, go_sem]
      have hs : (⟨⟨7, sp, nm⟩, gd, la, po, cl, li, pa, ho, ru, fr, to⟩ : AObj).strip = { (⟨⟨7, sp, nm⟩, gd, la, po, cl, li, pa, ho, ru, fr, to⟩ : AObj) with from_ := [], to_ := [] } := by simp [AObj.strip]
      have hkm : kindMay (⟨⟨7, sp, nm⟩, gd, la, po, cl, li, pa, ho, ru, fr, to⟩ : AObj) = grantMay fr to := by simp [kindMay]
      refine Gif.mk (fun h1 => ?_) (fun h1 => ?_)
      · refine (object_Same ({ (⟨⟨7, sp, nm⟩, gd, la, po, cl, li, pa, ho, ru, fr, to⟩ : AObj) with from_ := [], to_ := [] } : AObj) (AObj.zero ⟨7, sp, nm⟩) (strip_ok h (by simp) (by simp) (by simp) (by simp) (by simp) (by simp) (by simp) (by simp)) (AObj.zero_ok ⟨7, sp, nm⟩)).callX (enters_of Tryz.func91 rfl rfl) _ rfl rfl ?_
        rintro d rfl
        simp (maxSteps := 5000000) only [go_sem, contS_seq, simprocAttr, go_sem]
        simp only [retK, fullK, iterK, resD, resA, AOp.ex, St.ev, Option.map_some, Option.bind_some, St.get, lk, reduceIte, Nat.reduceEqDiff, Option.getD_some, oneD, List.getElem?_cons_zero, List.getElem?_cons_succ, List.drop_zero, List.drop_succ_cons, List.take_succ_cons, List.take_zero, List.length_cons, List.length_nil, Nat.zero_add, Nat.reduceAdd, Nat.le_refl, Nat.reduceLeDiff, D.pub, D.pubs, Tryz.results52]
        exact ⟨_, rfl, rfl, congrArg bln (go _ hs (by rw [hkm]; exact h1)).symm⟩
      · simp only [retK, fullK, iterK, resD, resA, AOp.ex, St.ev, Option.map_some, Option.bind_some, St.get, lk, reduceIte, Nat.reduceEqDiff, Option.getD_some, oneD, List.getElem?_cons_zero, List.getElem?_cons_succ, List.drop_zero, List.drop_succ_cons, List.take_succ_cons, List.take_zero, List.length_cons, List.length_nil, Nat.zero_add, Nat.reduceAdd, Nat.le_refl, Nat.reduceLeDiff, D.pub, D.pubs, Tryz.results52]
        exact ⟨_, rfl, rfl, congrArg bln (stop (by rw [hkm]; exact h1)).symm⟩
  · have hm' : mayRef o.ref = false := by simpa using hm
    simp (maxSteps := 5000000) only [go_sem, contS_seq, simprocAttr, go_sem, hm']
    simp only [retK, fullK, iterK, resD, resA, AOp.ex, St.ev, Option.map_some, Option.bind_some, St.get, lk, reduceIte, Nat.reduceEqDiff, Option.getD_some, oneD, List.getElem?_cons_zero, List.getElem?_cons_succ, List.drop_zero, List.drop_succ_cons, List.take_succ_cons, List.take_zero, List.length_cons, List.length_nil, Nat.zero_add, Nat.reduceAdd, Nat.le_refl, Nat.reduceLeDiff, D.pub, D.pubs, Tryz.results52]
    exact ⟨_, rfl, rfl, congrArg bln (by simp [objMay, hm'])⟩

end Go.Proofs.YtjhomppadppfnaaGreatDoor

namespace Go.Proofs.YtjhomppadppfnaaGreatDoor
open Go

def an_zuvzh : Ann := ⟨[(0, [0, 1]), (1, [4, 5])], [], []⟩
def ac_zuvzh : AC := (.seq (.region [.mk none (some 4) (.mv (.const (.int .i64 0))), .mk none (some 5) (.mv (.const (.bool false)))] (some [0, 1])) (.seq (.region [.mk none (some 6) (.mv (.tmp 0)), .mk none (some 7) (.mv (.tmp 1)), .mk none (some 8) (.call 105 [.tmp 6, .tmp 7, .func 106]), .mk none (some 9) (.extract (.tmp 8) 0), .mk none (some 10) (.extract (.tmp 8) 1), .mk none (some 4) (.mv (.tmp 9)), .mk none (some 5) (.mv (.tmp 10))] (some [4, 5])) .ret))
theorem ok_zuvzh : compC Tryz.prog an_zuvzh (Tryz.f75.body.getD .skip) = some ac_zuvzh := by kernel_rfl
theorem dst_zuvzh : ac_zuvzh.dstOK Tryz.f75.ntmps (fun i => decide (i < Tryz.f75.ntmps)) = true := by kernel_rfl

def an_zhsg2 : Ann := ⟨[(0, [0, 1, 5]), (1, [0, 1, 8]), (2, [0, 1, 8, 9]), (3, [0, 1, 8, 9, 16, 17, 18]), (4, [0, 1, 8, 9, 16, 17, 18, 19]), (5, [0, 1, 8, 9, 11, 16, 17, 18]), (6, [0, 1, 8, 9, 16, 17, 18]), (7, [0, 1, 8, 9, 16, 17, 18]), (8, [0, 1, 8, 9, 29]), (9, [6, 7]), (10, [0, 1, 8]), (11, [1, 8, 33, 34, 35]), (12, [1, 8, 33, 34, 35, 36]), (13, [1, 8, 12, 13, 33, 34, 35]), (14, [1, 8, 12, 14, 33, 34, 35]), (15, [1, 8, 12, 14, 33, 34, 35, 45]), (16, [6, 7]), (17, [1, 8, 33, 34, 35]), (18, [1, 8, 33, 34, 35]), (19, [6, 7])], [], []⟩
def ac_zhsg2 : AC := (.seq (.region [.mk none (some 5) (.box 148 (.tmp 2)), .mk none (some 6) (.mv (.const (.int .i64 0))), .mk none (some 7) (.mv (.const (.bool false)))] (some [0, 1, 5])) (.seq (.region [.mk none (some 15) (.mkfn 149 [.tmp 5]), .mk none (some 8) (.mv (.tmp 15))] (some [0, 1, 8])) (.seq (.region [.mk none (some 9) (.mv (.const (.int .u64 0)))] (some [0, 1, 8, 9])) (.seq (.seq (.region [.mk none (some 16) (.mv (.tmp 0)), .mk none (some 17) (.len (.tmp 16) false), .mk none (some 18) (.mv (.const (.int .i64 0)))] (some [0, 1, 8, 9, 16, 17, 18])) (.block 0 (.loop (.seq (.region [.mk none (some 19) (.bin .lss (.tmp 18) (.tmp 17))] (some [0, 1, 8, 9, 16, 17, 18, 19])) (.seq (.cond (.tmp 19) .skip (.exit 0)) (.seq (.block 1 (.seq (.region [.mk none (some 20) (.idxA 1 (.tmp 16) (.tmp 18)), .mk none (some 21) (.load none (.tmp 20)), .mk none (some 11) (.mv (.tmp 21))] (some [0, 1, 8, 9, 11, 16, 17, 18])) (.region [.mk none (some 22) (.mv (.tmp 9)), .mk none (some 23) (.mv (.tmp 8)), .mk none (some 24) (.mv (.tmp 11)), .mk none (some 25) (.callv (.tmp 23) [.tmp 24]), .mk none (some 26) (.bin .add (.tmp 22) (.tmp 25)), .mk none (some 9) (.mv (.tmp 26))] (some [0, 1, 8, 9, 16, 17, 18])))) (.region [.mk none (some 27) (.bin .add (.tmp 18) (.const (.int .i64 1))), .mk none (some 18) (.mv (.tmp 27))] (some [0, 1, 8, 9, 16, 17, 18])))))))) (.seq (.seq (.region [.mk none (some 28) (.mv (.tmp 9)), .mk none (some 29) (.bin .eql (.tmp 28) (.const (.int .u64 0)))] (some [0, 1, 8, 9, 29])) (.cond (.tmp 29) (.seq (.region [.mk none (some 6) (.mv (.const (.int .i64 0))), .mk none (some 7) (.mv (.const (.bool false)))] (some [6, 7])) .ret) .skip)) (.seq (.region [.mk none (some 30) (.mv (.tmp 1)), .mk none (some 31) (.mv (.tmp 9)), .mk none (some 32) (.bin .rem (.tmp 30) (.tmp 31)), .mk none (some 1) (.mv (.tmp 32))] (some [0, 1, 8])) (.seq (.seq (.region [.mk none (some 33) (.mv (.tmp 0)), .mk none (some 34) (.len (.tmp 33) false), .mk none (some 35) (.mv (.const (.int .i64 0)))] (some [1, 8, 33, 34, 35])) (.block 2 (.loop (.seq (.region [.mk none (some 36) (.bin .lss (.tmp 35) (.tmp 34))] (some [1, 8, 33, 34, 35, 36])) (.seq (.cond (.tmp 36) .skip (.exit 2)) (.seq (.block 3 (.seq (.region [.mk none (some 37) (.mv (.tmp 35)), .mk none (some 38) (.idxA 1 (.tmp 33) (.tmp 35)), .mk none (some 39) (.load none (.tmp 38)), .mk none (some 12) (.mv (.tmp 37)), .mk none (some 13) (.mv (.tmp 39))] (some [1, 8, 12, 13, 33, 34, 35])) (.seq (.region [.mk none (some 40) (.mv (.tmp 8)), .mk none (some 41) (.mv (.tmp 13)), .mk none (some 42) (.callv (.tmp 40) [.tmp 41]), .mk none (some 14) (.mv (.tmp 42))] (some [1, 8, 12, 14, 33, 34, 35])) (.seq (.seq (.region [.mk none (some 43) (.mv (.tmp 1)), .mk none (some 44) (.mv (.tmp 14)), .mk none (some 45) (.bin .lss (.tmp 43) (.tmp 44))] (some [1, 8, 12, 14, 33, 34, 35, 45])) (.cond (.tmp 45) (.seq (.region [.mk none (some 46) (.mv (.tmp 12)), .mk none (some 6) (.mv (.tmp 46)), .mk none (some 7) (.mv (.const (.bool true)))] (some [6, 7])) .ret) .skip)) (.region [.mk none (some 47) (.mv (.tmp 1)), .mk none (some 48) (.mv (.tmp 14)), .mk none (some 49) (.bin .sub (.tmp 47) (.tmp 48)), .mk none (some 1) (.mv (.tmp 49))] (some [1, 8, 33, 34, 35])))))) (.region [.mk none (some 50) (.bin .add (.tmp 35) (.const (.int .i64 1))), .mk none (some 35) (.mv (.tmp 50))] (some [1, 8, 33, 34, 35])))))))) (.seq (.region [.mk none (some 6) (.mv (.const (.int .i64 0))), .mk none (some 7) (.mv (.const (.bool false)))] (some [6, 7])) .ret))))))))
theorem ok_zhsg2 : compC Tryz.prog an_zhsg2 (Tryz.f105.body.getD .skip) = some ac_zhsg2 := by kernel_rfl
theorem dst_zhsg2 : ac_zhsg2.dstOK Tryz.f105.ntmps (fun i => decide (i < Tryz.f105.ntmps)) = true := by kernel_rfl

def an_z886m : Ann := ⟨[(0, [0]), (1, [2])], [], []⟩
def ac_z886m : AC := (.seq (.region [.mk none (some 2) (.mv (.const (.int .i64 0)))] (some [0])) (.seq (.region [.mk none (some 3) (.mv (.tmp 0)), .mk none (some 2) (.mv (.tmp 3))] (some [2])) .ret))
theorem ok_z886m : compC Tryz.prog an_z886m (Tryz.f106.body.getD .skip) = some ac_z886m := by kernel_rfl
theorem dst_z886m : ac_z886m.dstOK Tryz.f106.ntmps (fun i => decide (i < Tryz.f106.ntmps)) = true := by kernel_rfl

def an_z9f90 : Ann := ⟨[(0, [0, 1]), (1, [3])], [], []⟩
def ac_z9f90 : AC := (.seq (.region [.mk none (some 3) (.mv (.const (.int .u64 0)))] (some [0, 1])) (.seq (.region [.mk none (some 4) (.load none (.tmp 1)), .mk none (some 5) (.mv (.tmp 0)), .mk none (some 6) (.callv (.tmp 4) [.tmp 5]), .mk none (some 7) (.minmax false (.tmp 6) (.const (.int .i64 1000))), .mk none (some 8) (.minmax true (.const (.int .i64 0)) (.tmp 7)), .mk none (some 9) (.conv .u64 (.tmp 8)), .mk none (some 3) (.mv (.tmp 9))] (some [3])) .ret))
theorem ok_z9f90 : compC Tryz.prog an_z9f90 (Tryz.f149.body.getD .skip) = some ac_z9f90 := by kernel_rfl
theorem dst_z9f90 : ac_z9f90.dstOK Tryz.f149.ntmps (fun i => decide (i < Tryz.f149.ntmps)) = true := by kernel_rfl

def an_zfsgx : Ann := ⟨[(0, [4, 5, 6, 7]), (1, [8])], [], []⟩
def ac_zfsgx : AC := (.seq (.region [.mk none (some 4) (.box 22 (.tmp 0)), .mk none (some 5) (.box 3 (.tmp 1)), .mk none (some 6) (.box 9 (.tmp 2)), .mk none (some 7) (.box 24 (.tmp 3)), .mk none (some 8) (.mv (.const .nilFunc))] (some [4, 5, 6, 7])) (.seq (.region [.mk none (some 9) (.mkfn 83 [.tmp 4, .tmp 5, .tmp 6, .tmp 7]), .mk none (some 8) (.mv (.tmp 9))] (some [8])) .ret))
theorem ok_zfsgx : compC Tryz.prog an_zfsgx (Tryz.f49.body.getD .skip) = some ac_zfsgx := by kernel_rfl
theorem dst_zfsgx : ac_zfsgx.dstOK Tryz.f49.ntmps (fun i => decide (i < Tryz.f49.ntmps)) = true := by kernel_rfl

def an_zvbe : Ann := ⟨[(0, [0, 2, 3, 4, 8, 9, 10]), (1, [0, 2, 3, 4, 8, 9, 10, 11]), (2, [0, 2, 3, 4, 7, 8, 9, 10]), (3, [0, 2, 3, 4, 8, 9, 10, 25]), (4, [0, 2, 3, 4, 8, 9, 10])], [], []⟩
def ac_zvbe : AC := (.seq (.region [.mk none (some 8) (.load none (.tmp 1)), .mk none (some 9) (.len (.tmp 8) false), .mk none (some 10) (.mv (.const (.int .i64 0)))] (some [0, 2, 3, 4, 8, 9, 10])) (.block 0 (.loop (.seq (.region [.mk none (some 11) (.bin .lss (.tmp 10) (.tmp 9))] (some [0, 2, 3, 4, 8, 9, 10, 11])) (.seq (.cond (.tmp 11) .skip (.exit 0)) (.seq (.block 1 (.seq (.region [.mk none (some 12) (.idxA 13 (.tmp 8) (.tmp 10)), .mk none (some 13) (.load (some 13) (.tmp 12)), .mk none (some 7) (.alloc 39 [.pd (.raw (.int .i64 0)), .pd (.raw (.string ⟨#[]⟩)), .pd (.raw (.string ⟨#[]⟩)), .pd (.raw (.bool false)), .nils, .nils, .pd (.raw (.string ⟨#[]⟩)), .nils, .nils, .nils, .nils, .nils, .nils]), .mk none none (.store 13 (.tmp 7) (.tmp 13))] (some [0, 2, 3, 4, 7, 8, 9, 10])) (.seq (.region [.mk none (some 14) (.load (some 13) (.tmp 7)), .mk none (some 15) (.load none (.tmp 2)), .mk none (some 16) (.load none (.tmp 3)), .mk none (some 17) (.load (some 3) (.tmp 4)), .mk none (some 18) (.call 18 [.tmp 14, .tmp 15, .tmp 16, .tmp 17]), .mk none (some 19) (.mv (.tmp 18)), .mk (some (19, true)) (some 20) (.mv (.tmp 0)), .mk (some (19, true)) (some 21) (.fieldA 0 (.tmp 7)), .mk (some (19, true)) (some 22) (.load (some 3) (.tmp 21)), .mk (some (19, true)) (some 23) (.callv (.tmp 20) [.tmp 22]), .mk (some (19, true)) (some 24) (.un .not (.tmp 23)), .mk none (some 25) (.pick (.tmp 19) (.tmp 24) (.const (.bool false)))] (some [0, 2, 3, 4, 8, 9, 10, 25])) (.cond (.tmp 25) .ret .skip)))) (.region [.mk none (some 26) (.bin .add (.tmp 10) (.const (.int .i64 1))), .mk none (some 10) (.mv (.tmp 26))] (some [0, 2, 3, 4, 8, 9, 10]))))))))
theorem ok_zvbe : compC Tryz.prog an_zvbe (Tryz.f83.body.getD .skip) = some ac_zvbe := by kernel_rfl
theorem dst_zvbe : ac_zvbe.dstOK Tryz.f83.ntmps (fun i => decide (i < Tryz.f83.ntmps)) = true := by kernel_rfl

def an_zj2qb : Ann := ⟨[(0, [0, 1, 2, 7, 8]), (1, [2, 7, 8, 13]), (2, []), (3, [8])], [], [(14, [7, 8])]⟩
def ac_zj2qb : AC := (.seq (.region [.mk none (some 7) (.box 24 (.tmp 3)), .mk none (some 8) (.alloc 4 [.pd (.raw (.bool false))])] (some [0, 1, 2, 7, 8])) (.seq (.seq (.region [.mk none (some 9) (.mv (.tmp 0)), .mk none (some 10) (.mv (.tmp 1)), .mk none (some 11) (.mv (.tmp 2)), .mk none (some 12) (.load (some 3) (.tmp 7)), .mk none (some 13) (.call 49 [.tmp 9, .tmp 10, .tmp 11, .tmp 12])] (some [2, 7, 8, 13])) (.block 0 (.rangeF [7, 8] 14 none (.tmp 13) (.block 1 (.seq (.region [.mk none none (.store 1 (.tmp 8) (.const (.bool true)))] (some [])) .ret))))) (.seq (.region [.mk none (some 15) (.mv (.tmp 2)), .mk none (some 16) (.fieldA 1 (.tmp 7)), .mk none (some 17) (.load none (.tmp 16)), .mk none (some 18) (.bin .eql (.tmp 15) (.tmp 17)), .mk none none (.store 1 (.tmp 8) (.tmp 18))] (some [8])) .ret)))
theorem ok_zj2qb : compC Tryz.prog an_zj2qb (Tryz.f17.body.getD .skip) = some ac_zj2qb := by kernel_rfl
theorem ret_zj2qb (st : St) : resD Tryz.prog st Tryz.f17.results.toList = resA st [.cell 8 none] := resD_of (by kernel_rfl)
theorem dst_zj2qb : ac_zj2qb.dstOK Tryz.f17.ntmps (fun i => decide (i < Tryz.f17.ntmps)) = true := by kernel_rfl

end Go.Proofs.YtjhomppadppfnaaGreatDoor

namespace Go.Proofs.YtjhomppadppfnaaGreatDoor
open Go Go.RowKit
set_option linter.unusedSimpArgs false
set_option linter.unusedVariables false
set_option maxRecDepth 100000

theorem choose_weight (x : Int) : Pure Tryz.prog 106 [int x] (fun d => d = int x) := by
  refine pure_of_run follows an_z886m Tryz.func106 rfl ok_z886m dst_z886m (by simp [Tryz.ntmps106]) ?_
  rw [run_start]
  simp only [ac_z886m, go_sem, contS_seq, simprocAttr]
  simp only [retK, fullK, iterK, resD, resA, AOp.ex, St.ev, Option.map_some, Option.bind_some, St.get, lk, reduceIte, Nat.reduceEqDiff, Option.getD_some, oneD, List.getElem?_cons_zero, List.getElem?_cons_succ, List.drop_zero, List.drop_succ_cons, List.take_succ_cons, List.take_zero, List.length_cons, List.length_nil, Nat.zero_add, Nat.reduceAdd, Nat.le_refl, Nat.reduceLeDiff, D.pub, D.pubs, Tryz.results106]
  exact ⟨_, rfl, rfl, rfl⟩

def heavy (x : Int) : Int := max 0 (min x 1000)

theorem chosen_heavy (x : Int) : PureB Tryz.prog 149 [int x, .ptr 1000001 0] [(1000001, [.fn 106 []])] (fun d => d = .pd (.raw (.int .u64 (heavy x)))) := by
  refine pureB_of_run follows an_z9f90 Tryz.func149 rfl ok_z9f90 dst_z9f90 (by simp [Tryz.ntmps149]) ?_
  rw [run_start]
  simp only [ac_z9f90, go_sem, contS_seq, simprocAttr]
  refine (choose_weight x).callW (enters_of Tryz.func106 rfl rfl) _ rfl rfl ?_
  rintro d rfl
  simp only [go_sem, contS_seq, simprocAttr]
  simp only [retK, fullK, iterK, resD, resA, AOp.ex, St.ev, Option.map_some, Option.bind_some, St.get, lk, reduceIte, Nat.reduceEqDiff, Option.getD_some, oneD, List.getElem?_cons_zero, List.getElem?_cons_succ, List.drop_zero, List.drop_succ_cons, List.take_succ_cons, List.take_zero, List.length_cons, List.length_nil, Nat.zero_add, Nat.reduceAdd, Nat.le_refl, Nat.reduceLeDiff, D.pub, D.pubs, Tryz.results149]
  refine ⟨_, rfl, rfl, ?_⟩
  have e : (if (0 : Int) < if 1000 < x then 1000 else x then if 1000 < x then 1000 else x else 0) = heavy x := by
    unfold heavy
    split <;> split <;> omega
  have hr : 0 ≤ heavy x ∧ heavy x ≤ 1000 := by unfold heavy; omega
  simp only [D.pub, e, IntWalk.u64_in (heavy x) (by omega)]


def total : List Int → Int
  | [] => 0
  | w :: ws => heavy w + total ws

def pos : Nat → List Int → Int → Option Nat
  | _, [], _ => none
  | i, w :: ws, n => if n < heavy w then some i else pos (i + 1) ws (n - heavy w)

theorem heavy_bd (x : Int) : 0 ≤ heavy x ∧ heavy x ≤ 1000 := by unfold heavy; omega

theorem total_bd : ∀ ws : List Int, 0 ≤ total ws ∧ total ws ≤ 1000 * ws.length
  | [] => by simp [total]
  | w :: ws => by
    have := total_bd ws
    have := heavy_bd w
    simp only [total, List.length_cons]
    omega

theorem total_drop {ws : List Int} {i : Nat} {x : Int} (h : ws[i]? = some x) : total (ws.drop i) = heavy x + total (ws.drop (i + 1)) := by
  obtain ⟨hi, hx⟩ := List.getElem?_eq_some_iff.1 h
  rw [List.drop_eq_getElem_cons hi, hx, total]

theorem pos_drop {ws : List Int} {i : Nat} {x : Int} (h : ws[i]? = some x) (m : Int) : pos i (ws.drop i) m = if m < heavy x then some i else pos (i + 1) (ws.drop (i + 1)) (m - heavy x) := by
  obtain ⟨hi, hx⟩ := List.getElem?_eq_some_iff.1 h
  rw [List.drop_eq_getElem_cons hi, hx, pos]

set_option maxRecDepth 100000 in
theorem chosen_int (ws : List Int) (n : Nat) (hn : n < 2 ^ 64) (hl : ws.length ≤ 8) : Pure Tryz.prog 105 [.pd (.slice (ints ws)), u64 n, .fn 106 []]
    (fun d => d = if total ws = 0 then .tup [int 0, bln false] else match pos 0 ws (n % total ws) with | some i => .tup [int i, bln true] | none => .tup [int 0, bln false]) := by
  refine pure_of_run follows an_zhsg2 Tryz.func105 rfl ok_zhsg2 dst_zhsg2 (by simp [Tryz.ntmps105]) ?_
  rw [run_start]
  have hen : Enters Tryz.prog 149 := enters_of Tryz.func149 rfl rfl
  simp only [ac_zhsg2, go_sem, contS_seq, simprocAttr, ints_len]
  refine loopS (fun k st => ∃ (i : Nat) (s : Int), k = ws.length - i ∧ i ≤ ws.length ∧ 0 ≤ s ∧ s + total (ws.drop i) = total ws ∧
    st = ⟨[(0, .pd (.slice (ints ws))), (1, u64 n), (8, .fn 149 [(5, 0)]), (9, u64 s), (16, .pd (.slice (ints ws))), (17, int ws.length), (18, int i)], [(5, [.fn 106 []])], [], .no⟩) ws.length _
    (Weak.refl _ _) ⟨0, 0, rfl, Nat.zero_le _, by omega, by simp, rfl⟩ ?_
  rintro k st ⟨i, s, rfl, hi, hs0, hs, rfl⟩
  by_cases hlt : i < ws.length
  · obtain ⟨x, hx⟩ : ∃ x, ws[i]? = some x := ⟨_, List.getElem?_eq_getElem hlt⟩
    have hlt' : (i : Int) < (ws.length : Int) := by omega
    simp only [go_sem, contS_seq, simprocAttr, ints_len, hlt', ints_get hx]
    refine (chosen_heavy x).callW hen _ [(5, 1000001)] rfl rfl rfl ?_
    rintro d rfl
    simp only [go_sem, contS_seq, simprocAttr]
    have hi1 : IntKind.i64.wrap ((i : Int) + 1) = ((i + 1 : Nat) : Int) := by rw [IntWalk.i64_in _ (by omega)]; omega
    have hd := total_drop hx
    have hb := heavy_bd x
    have hb1 := total_bd (ws.drop (i + 1))
    have hb2 := total_bd ws
    have hsw : IntKind.u64.wrap (s + heavy x) = s + heavy x := IntWalk.u64_in _ (by omega)
    rw [hi1, hsw]
    exact ⟨ws.length - (i + 1), _, by omega, Weak.refl _ _, i + 1, _, rfl, by omega, by omega, by omega, rfl⟩
  · have hiw : i = ws.length := by omega
    have hs2 : s = total ws := by rw [← hs, hiw]; simp [total]
    subst hs2
    have hlt' : ¬ (i : Int) < (ws.length : Int) := by omega
    simp only [go_sem, contS_seq, simprocAttr, ints_len, hlt']
    refine ⟨fun h0 => ?_, fun h0 => ?_⟩
    · simp only [retK, fullK, iterK, resD, resA, AOp.ex, St.ev, Option.map_some, Option.bind_some, St.get, lk, reduceIte, Nat.reduceEqDiff, Option.getD_some, oneD, List.getElem?_cons_zero, List.getElem?_cons_succ, List.drop_zero, List.drop_succ_cons, List.take_succ_cons, List.take_zero, List.length_cons, List.length_nil, Nat.zero_add, Nat.reduceAdd, Nat.le_refl, Nat.reduceLeDiff, D.pub, D.pubs, Tryz.results105]
      exact ⟨_, rfl, rfl, by rw [if_pos h0]; rfl⟩
    · have hm : (n : Int).tmod (total ws) = (n : Int) % total ws := Int.tmod_eq_emod_of_nonneg (by omega)
      simp only [go_sem, contS_seq, simprocAttr, ints_len, h0, hm]
      have htb := total_bd ws
      have hn0 : 0 ≤ (n : Int) % total ws := Int.emod_nonneg _ h0
      have hnm : (n : Int) % total ws < total ws := Int.emod_lt_of_pos _ (by omega)
      refine loopS (fun k st => ∃ (j : Nat) (m : Int), k = ws.length - j ∧ j ≤ ws.length ∧ 0 ≤ m ∧ m < 100000 ∧ pos j (ws.drop j) m = pos 0 ws ((n : Int) % total ws) ∧
        st = ⟨[(1, u64 m), (8, .fn 149 [(5, 0)]), (33, .pd (.slice (ints ws))), (34, int ws.length), (35, int j)], [(5, [.fn 106 []])], [], .no⟩) ws.length _
        (Weak.refl _ _) ⟨0, _, rfl, Nat.zero_le _, hn0, by omega, by simp, rfl⟩ ?_
      rintro k st ⟨j, m, rfl, hj, hm0, hm1, hp, rfl⟩
      by_cases hjl : j < ws.length
      · obtain ⟨x, hx⟩ : ∃ x, ws[j]? = some x := ⟨_, List.getElem?_eq_getElem hjl⟩
        have hjl' : (j : Int) < (ws.length : Int) := by omega
        simp only [go_sem, contS_seq, simprocAttr, ints_len, hjl', ints_get hx]
        refine (chosen_heavy x).callW hen _ [(5, 1000001)] rfl rfl rfl ?_
        rintro d rfl
        have hj1 : IntKind.i64.wrap ((j : Int) + 1) = ((j + 1 : Nat) : Int) := by rw [IntWalk.i64_in _ (by omega)]; omega
        have hb := heavy_bd x
        have hpd := pos_drop hx m
        rw [hp] at hpd
        simp only [go_sem, contS_seq, simprocAttr]
        refine ⟨fun h1 => ?_, fun h1 => ?_⟩
        · simp only [retK, fullK, iterK, resD, resA, AOp.ex, St.ev, Option.map_some, Option.bind_some, St.get, lk, reduceIte, Nat.reduceEqDiff, Option.getD_some, oneD, List.getElem?_cons_zero, List.getElem?_cons_succ, List.drop_zero, List.drop_succ_cons, List.take_succ_cons, List.take_zero, List.length_cons, List.length_nil, Nat.zero_add, Nat.reduceAdd, Nat.le_refl, Nat.reduceLeDiff, D.pub, D.pubs, Tryz.results105]
          rw [if_pos h1] at hpd
          refine ⟨_, rfl, rfl, ?_⟩
          rw [hpd]
          rfl
        · rw [if_neg h1] at hpd
          have hmw : IntKind.u64.wrap (m - heavy x) = m - heavy x := IntWalk.u64_in _ (by omega)
          rw [hj1, hmw]
          exact ⟨ws.length - (j + 1), _, by omega, Weak.refl _ _, j + 1, _, rfl, by omega, by omega, by omega, hpd.symm, rfl⟩
      · have hjl' : ¬ (j : Int) < (ws.length : Int) := by omega
        simp only [go_sem, contS_seq, simprocAttr, ints_len, hjl']
        simp only [retK, fullK, iterK, resD, resA, AOp.ex, St.ev, Option.map_some, Option.bind_some, St.get, lk, reduceIte, Nat.reduceEqDiff, Option.getD_some, oneD, List.getElem?_cons_zero, List.getElem?_cons_succ, List.drop_zero, List.drop_succ_cons, List.take_succ_cons, List.take_zero, List.length_cons, List.length_nil, Nat.zero_add, Nat.reduceAdd, Nat.le_refl, Nat.reduceLeDiff, D.pub, D.pubs, Tryz.results105]
        refine ⟨_, rfl, rfl, ?_⟩
        have hnone : pos 0 ws ((n : Int) % total ws) = none := by rw [← hp, List.drop_eq_nil_of_le (by omega)]; rfl
        rw [hnone]
        rfl

end Go.Proofs.YtjhomppadppfnaaGreatDoor

namespace Go.Proofs.YtjhomppadppfnaaGreatDoor
open Go

def an_zrkgf : Ann := ⟨[(0, [1, 2, 4]), (1, [1, 2, 4, 17]), (2, [2, 4]), (3, [4])], [], []⟩
def ac_zrkgf : AC := (.seq (.region [.mk none (some 2) (.box 24 (.tmp 0)), .mk none (some 4) (.alloc 24 [.pd (.raw (.int .i64 0)), .pd (.raw (.string ⟨#[]⟩)), .pd (.raw (.string ⟨#[]⟩))])] (some [1, 2, 4])) (.seq (.seq (.region [.mk none (some 5) (.fieldA 1 (.tmp 2)), .mk none (some 6) (.load none (.tmp 5)), .mk none (some 7) (.bin .eql (.tmp 6) (.const (.string ⟨#[]⟩))), .mk none (some 8) (.mv (.tmp 7)), .mk (some (8, true)) (some 9) (.fieldA 0 (.tmp 2)), .mk (some (8, true)) (some 10) (.load none (.tmp 9)), .mk (some (8, true)) (some 11) (.bin .neq (.tmp 10) (.const (.int .i64 1))), .mk none (some 12) (.pick (.tmp 8) (.tmp 11) (.const (.bool false))), .mk none (some 13) (.mv (.tmp 12)), .mk (some (13, true)) (some 14) (.fieldA 0 (.tmp 2)), .mk (some (13, true)) (some 15) (.load none (.tmp 14)), .mk (some (13, true)) (some 16) (.bin .neq (.tmp 15) (.const (.int .i64 2))), .mk none (some 17) (.pick (.tmp 13) (.tmp 16) (.const (.bool false)))] (some [1, 2, 4, 17])) (.cond (.tmp 17) (.region [.mk none (some 18) (.mv (.tmp 1)), .mk none (some 19) (.fieldA 1 (.tmp 2)), .mk none none (.store 1 (.tmp 19) (.tmp 18))] (some [2, 4])) .skip)) (.seq (.region [.mk none (some 20) (.load (some 3) (.tmp 2)), .mk none none (.store 3 (.tmp 4) (.tmp 20))] (some [4])) .ret)))
theorem ok_zrkgf : compC Tryz.prog an_zrkgf (Tryz.f27.body.getD .skip) = some ac_zrkgf := by kernel_rfl
theorem ret_zrkgf (st : St) : resD Tryz.prog st Tryz.f27.results.toList = resA st [.cell 4 (some 3)] := resD_of (by kernel_rfl)
theorem dst_zrkgf : ac_zrkgf.dstOK Tryz.f27.ntmps (fun i => decide (i < Tryz.f27.ntmps)) = true := by kernel_rfl

def an_zcgje : Ann := ⟨[(0, [0, 4, 5]), (1, [0, 4, 5, 7]), (2, [0, 4, 5, 7, 18]), (3, [6]), (4, [0, 5, 7, 25]), (5, [6]), (6, [5, 8, 9]), (7, [46]), (8, [6]), (9, [6])], [], []⟩
def ac_zcgje : AC := (.seq (.region [.mk none (some 4) (.box 39 (.tmp 1)), .mk none (some 5) (.box 74 (.tmp 2)), .mk none (some 6) (.mv (.const (.string ⟨#[]⟩)))] (some [0, 4, 5])) (.seq (.region [.mk none (some 10) (.fieldA 0 (.tmp 5)), .mk none (some 11) (.load (some 3) (.tmp 10)), .mk none (some 12) (.fieldA 0 (.tmp 4)), .mk none (some 13) (.fieldA 1 (.tmp 12)), .mk none (some 14) (.load none (.tmp 13)), .mk none (some 15) (.call 27 [.tmp 11, .tmp 14]), .mk none (some 7) (.alloc 24 [.pd (.raw (.int .i64 0)), .pd (.raw (.string ⟨#[]⟩)), .pd (.raw (.string ⟨#[]⟩))]), .mk none none (.store 3 (.tmp 7) (.tmp 15))] (some [0, 4, 5, 7])) (.seq (.seq (.region [.mk none (some 16) (.fieldA 0 (.tmp 7)), .mk none (some 17) (.load none (.tmp 16)), .mk none (some 18) (.bin .neq (.tmp 17) (.const (.int .i64 3)))] (some [0, 4, 5, 7, 18])) (.cond (.tmp 18) (.seq (.region [.mk none (some 6) (.mv (.const (.string ⟨#[73, 110, 118, 97, 108, 105, 100, 75, 105, 110, 100]⟩)))] (some [6])) .ret) .skip)) (.seq (.seq (.region [.mk none (some 19) (.mv (.tmp 0)), .mk none (some 20) (.fieldA 0 (.tmp 4)), .mk none (some 21) (.fieldA 1 (.tmp 20)), .mk none (some 22) (.load none (.tmp 21)), .mk none (some 23) (.load (some 3) (.tmp 7)), .mk none (some 24) (.call 17 [.tmp 19, .const (.int .i64 6), .tmp 22, .tmp 23]), .mk none (some 25) (.un .not (.tmp 24))] (some [0, 5, 7, 25])) (.cond (.tmp 25) (.seq (.region [.mk none (some 6) (.mv (.const (.string ⟨#[82, 101, 102, 78, 111, 116, 80, 101, 114, 109, 105, 116, 116, 101, 100]⟩)))] (some [6])) .ret) .skip)) (.seq (.seq (.region [.mk none (some 27) (.mv (.tmp 0)), .mk none (some 28) (.load (some 3) (.tmp 7)), .mk none (some 29) (.call 25 [.tmp 27, .tmp 28]), .mk none (some 26) (.mv (.tmp 29)), .mk none (some 30) (.extract (.tmp 26) 0), .mk none (some 31) (.extract (.tmp 26) 1), .mk none (some 8) (.alloc 39 [.pd (.raw (.int .i64 0)), .pd (.raw (.string ⟨#[]⟩)), .pd (.raw (.string ⟨#[]⟩)), .pd (.raw (.bool false)), .nils, .nils, .pd (.raw (.string ⟨#[]⟩)), .nils, .nils, .nils, .nils, .nils, .nils]), .mk none none (.store 13 (.tmp 8) (.tmp 30)), .mk none (some 9) (.mv (.tmp 31))] (some [5, 8, 9])) (.seq (.region [.mk none (some 32) (.mv (.tmp 9)), .mk none (some 33) (.un .not (.tmp 32)), .mk none (some 34) (.mv (.tmp 33)), .mk (some (34, false)) (some 35) (.load (some 13) (.tmp 8)), .mk (some (34, false)) (some 36) (.call 52 [.tmp 35]), .mk (some (34, false)) (some 37) (.un .not (.tmp 36)), .mk none (some 38) (.pick (.tmp 34) (.const (.bool true)) (.tmp 37)), .mk none (some 39) (.mv (.tmp 38)), .mk (some (39, false)) (some 40) (.fieldA 5 (.tmp 8)), .mk (some (39, false)) (some 41) (.load none (.tmp 40)), .mk (some (39, false)) (some 42) (.fieldA 3 (.tmp 5)), .mk (some (39, false)) (some 43) (.load none (.tmp 42)), .mk (some (39, false)) (some 44) (.call 76 [.tmp 41, .tmp 43]), .mk (some (39, false)) (some 45) (.un .not (.tmp 44)), .mk none (some 46) (.pick (.tmp 39) (.const (.bool true)) (.tmp 45))] (some [46])) (.cond (.tmp 46) (.seq (.region [.mk none (some 6) (.mv (.const (.string ⟨#[66, 97, 99, 107, 101, 110, 100, 78, 111, 116, 70, 111, 117, 110, 100]⟩)))] (some [6])) .ret) .skip))) (.seq (.region [.mk none (some 6) (.mv (.const (.string ⟨#[]⟩)))] (some [6])) .ret))))))
theorem ok_zcgje : compC Tryz.prog an_zcgje (Tryz.f37.body.getD .skip) = some ac_zcgje := by kernel_rfl
theorem dst_zcgje : ac_zcgje.dstOK Tryz.f37.ntmps (fun i => decide (i < Tryz.f37.ntmps)) = true := by kernel_rfl

def an_z9y7y : Ann := ⟨[(0, [0, 1, 5]), (1, [0, 1, 8]), (2, [0, 1, 8, 9]), (3, [0, 1, 8, 9, 16, 17, 18]), (4, [0, 1, 8, 9, 16, 17, 18, 19]), (5, [0, 1, 8, 9, 11, 16, 17, 18]), (6, [0, 1, 8, 9, 16, 17, 18]), (7, [0, 1, 8, 9, 16, 17, 18]), (8, [0, 1, 8, 9, 29]), (9, [6, 7]), (10, [0, 1, 8]), (11, [1, 8, 33, 34, 35]), (12, [1, 8, 33, 34, 35, 36]), (13, [1, 8, 12, 13, 33, 34, 35]), (14, [1, 8, 12, 14, 33, 34, 35]), (15, [1, 8, 12, 14, 33, 34, 35, 45]), (16, [6, 7]), (17, [1, 8, 33, 34, 35]), (18, [1, 8, 33, 34, 35]), (19, [6, 7])], [], []⟩
def ac_z9y7y : AC := (.seq (.region [.mk none (some 5) (.box 114 (.tmp 2)), .mk none (some 6) (.mv (.const (.int .i64 0))), .mk none (some 7) (.mv (.const (.bool false)))] (some [0, 1, 5])) (.seq (.region [.mk none (some 15) (.mkfn 104 [.tmp 5]), .mk none (some 8) (.mv (.tmp 15))] (some [0, 1, 8])) (.seq (.region [.mk none (some 9) (.mv (.const (.int .u64 0)))] (some [0, 1, 8, 9])) (.seq (.seq (.region [.mk none (some 16) (.mv (.tmp 0)), .mk none (some 17) (.len (.tmp 16) false), .mk none (some 18) (.mv (.const (.int .i64 0)))] (some [0, 1, 8, 9, 16, 17, 18])) (.block 0 (.loop (.seq (.region [.mk none (some 19) (.bin .lss (.tmp 18) (.tmp 17))] (some [0, 1, 8, 9, 16, 17, 18, 19])) (.seq (.cond (.tmp 19) .skip (.exit 0)) (.seq (.block 1 (.seq (.region [.mk none (some 20) (.idxA 6 (.tmp 16) (.tmp 18)), .mk none (some 21) (.load (some 6) (.tmp 20)), .mk none (some 11) (.alloc 64 [.pd (.raw (.int .i64 0)), .pd (.raw (.string ⟨#[]⟩)), .pd (.raw (.string ⟨#[]⟩)), .pd (.raw (.int .i64 0)), .pd (.raw (.int .i64 0)), .pd (.raw (.bool false))]), .mk none none (.store 6 (.tmp 11) (.tmp 21))] (some [0, 1, 8, 9, 11, 16, 17, 18])) (.region [.mk none (some 22) (.mv (.tmp 9)), .mk none (some 23) (.mv (.tmp 8)), .mk none (some 24) (.load (some 6) (.tmp 11)), .mk none (some 25) (.callv (.tmp 23) [.tmp 24]), .mk none (some 26) (.bin .add (.tmp 22) (.tmp 25)), .mk none (some 9) (.mv (.tmp 26))] (some [0, 1, 8, 9, 16, 17, 18])))) (.region [.mk none (some 27) (.bin .add (.tmp 18) (.const (.int .i64 1))), .mk none (some 18) (.mv (.tmp 27))] (some [0, 1, 8, 9, 16, 17, 18])))))))) (.seq (.seq (.region [.mk none (some 28) (.mv (.tmp 9)), .mk none (some 29) (.bin .eql (.tmp 28) (.const (.int .u64 0)))] (some [0, 1, 8, 9, 29])) (.cond (.tmp 29) (.seq (.region [.mk none (some 6) (.mv (.const (.int .i64 0))), .mk none (some 7) (.mv (.const (.bool false)))] (some [6, 7])) .ret) .skip)) (.seq (.region [.mk none (some 30) (.mv (.tmp 1)), .mk none (some 31) (.mv (.tmp 9)), .mk none (some 32) (.bin .rem (.tmp 30) (.tmp 31)), .mk none (some 1) (.mv (.tmp 32))] (some [0, 1, 8])) (.seq (.seq (.region [.mk none (some 33) (.mv (.tmp 0)), .mk none (some 34) (.len (.tmp 33) false), .mk none (some 35) (.mv (.const (.int .i64 0)))] (some [1, 8, 33, 34, 35])) (.block 2 (.loop (.seq (.region [.mk none (some 36) (.bin .lss (.tmp 35) (.tmp 34))] (some [1, 8, 33, 34, 35, 36])) (.seq (.cond (.tmp 36) .skip (.exit 2)) (.seq (.block 3 (.seq (.region [.mk none (some 37) (.mv (.tmp 35)), .mk none (some 38) (.idxA 6 (.tmp 33) (.tmp 35)), .mk none (some 39) (.load (some 6) (.tmp 38)), .mk none (some 13) (.alloc 64 [.pd (.raw (.int .i64 0)), .pd (.raw (.string ⟨#[]⟩)), .pd (.raw (.string ⟨#[]⟩)), .pd (.raw (.int .i64 0)), .pd (.raw (.int .i64 0)), .pd (.raw (.bool false))]), .mk none (some 12) (.mv (.tmp 37)), .mk none none (.store 6 (.tmp 13) (.tmp 39))] (some [1, 8, 12, 13, 33, 34, 35])) (.seq (.region [.mk none (some 40) (.mv (.tmp 8)), .mk none (some 41) (.load (some 6) (.tmp 13)), .mk none (some 42) (.callv (.tmp 40) [.tmp 41]), .mk none (some 14) (.mv (.tmp 42))] (some [1, 8, 12, 14, 33, 34, 35])) (.seq (.seq (.region [.mk none (some 43) (.mv (.tmp 1)), .mk none (some 44) (.mv (.tmp 14)), .mk none (some 45) (.bin .lss (.tmp 43) (.tmp 44))] (some [1, 8, 12, 14, 33, 34, 35, 45])) (.cond (.tmp 45) (.seq (.region [.mk none (some 46) (.mv (.tmp 12)), .mk none (some 6) (.mv (.tmp 46)), .mk none (some 7) (.mv (.const (.bool true)))] (some [6, 7])) .ret) .skip)) (.region [.mk none (some 47) (.mv (.tmp 1)), .mk none (some 48) (.mv (.tmp 14)), .mk none (some 49) (.bin .sub (.tmp 47) (.tmp 48)), .mk none (some 1) (.mv (.tmp 49))] (some [1, 8, 33, 34, 35])))))) (.region [.mk none (some 50) (.bin .add (.tmp 35) (.const (.int .i64 1))), .mk none (some 35) (.mv (.tmp 50))] (some [1, 8, 33, 34, 35])))))))) (.seq (.region [.mk none (some 6) (.mv (.const (.int .i64 0))), .mk none (some 7) (.mv (.const (.bool false)))] (some [6, 7])) .ret))))))))
theorem ok_z9y7y : compC Tryz.prog an_z9y7y (Tryz.f73.body.getD .skip) = some ac_z9y7y := by kernel_rfl
theorem dst_z9y7y : ac_z9y7y.dstOK Tryz.f73.ntmps (fun i => decide (i < Tryz.f73.ntmps)) = true := by kernel_rfl

def an_zraa7 : Ann := ⟨[(0, [1]), (1, [2])], [], []⟩
def ac_zraa7 : AC := (.seq (.region [.mk none (some 1) (.box 64 (.tmp 0)), .mk none (some 2) (.mv (.const (.int .i64 0)))] (some [1])) (.seq (.region [.mk none (some 3) (.fieldA 4 (.tmp 1)), .mk none (some 4) (.load none (.tmp 3)), .mk none (some 2) (.mv (.tmp 4))] (some [2])) .ret))
theorem ok_zraa7 : compC Tryz.prog an_zraa7 (Tryz.f74.body.getD .skip) = some ac_zraa7 := by kernel_rfl
theorem dst_zraa7 : ac_zraa7.dstOK Tryz.f74.ntmps (fun i => decide (i < Tryz.f74.ntmps)) = true := by kernel_rfl

def an_zwtxd : Ann := ⟨[(0, [1, 2]), (1, [3])], [], []⟩
def ac_zwtxd : AC := (.seq (.region [.mk none (some 2) (.box 64 (.tmp 0)), .mk none (some 3) (.mv (.const (.int .u64 0)))] (some [1, 2])) (.seq (.region [.mk none (some 4) (.load none (.tmp 1)), .mk none (some 5) (.load (some 6) (.tmp 2)), .mk none (some 6) (.callv (.tmp 4) [.tmp 5]), .mk none (some 7) (.minmax false (.tmp 6) (.const (.int .i64 1000))), .mk none (some 8) (.minmax true (.const (.int .i64 0)) (.tmp 7)), .mk none (some 9) (.conv .u64 (.tmp 8)), .mk none (some 3) (.mv (.tmp 9))] (some [3])) .ret))
theorem ok_zwtxd : compC Tryz.prog an_zwtxd (Tryz.f104.body.getD .skip) = some ac_zwtxd := by kernel_rfl
theorem dst_zwtxd : ac_zwtxd.dstOK Tryz.f104.ntmps (fun i => decide (i < Tryz.f104.ntmps)) = true := by kernel_rfl

def an_z3oq3 : Ann := ⟨[(0, [0, 1, 4]), (1, [0, 4, 6, 7]), (2, [0, 4, 6, 22]), (3, [4, 5]), (4, [4, 5])], [], []⟩
def ac_z3oq3 : AC := (.seq (.region [.mk none (some 4) (.alloc 64 [.pd (.raw (.int .i64 0)), .pd (.raw (.string ⟨#[]⟩)), .pd (.raw (.string ⟨#[]⟩)), .pd (.raw (.int .i64 0)), .pd (.raw (.int .i64 0)), .pd (.raw (.bool false))]), .mk none (some 5) (.mv (.const (.bool false)))] (some [0, 1, 4])) (.seq (.region [.mk none (some 9) (.mv (.tmp 0)), .mk none (some 10) (.mv (.tmp 1)), .mk none (some 11) (.call 73 [.tmp 9, .tmp 10, .func 74]), .mk none (some 8) (.mv (.tmp 11)), .mk none (some 12) (.extract (.tmp 8) 0), .mk none (some 13) (.extract (.tmp 8) 1), .mk none (some 6) (.mv (.tmp 12)), .mk none (some 7) (.mv (.tmp 13))] (some [0, 4, 6, 7])) (.seq (.seq (.region [.mk none (some 14) (.mv (.tmp 7)), .mk none (some 15) (.un .not (.tmp 14)), .mk none (some 16) (.mv (.tmp 15)), .mk (some (16, false)) (some 17) (.mv (.tmp 0)), .mk (some (16, false)) (some 18) (.mv (.tmp 6)), .mk (some (16, false)) (some 19) (.idxA 6 (.tmp 17) (.tmp 18)), .mk (some (16, false)) (some 20) (.fieldA 5 (.tmp 19)), .mk (some (16, false)) (some 21) (.load none (.tmp 20)), .mk none (some 22) (.pick (.tmp 16) (.const (.bool true)) (.tmp 21))] (some [0, 4, 6, 22])) (.cond (.tmp 22) (.seq (.region [.mk none (some 23) (.build [.pd (.raw (.int .i64 0)), .pd (.raw (.string ⟨#[]⟩)), .pd (.raw (.string ⟨#[]⟩)), .pd (.raw (.int .i64 0)), .pd (.raw (.int .i64 0)), .pd (.raw (.bool false))] []), .mk none none (.store 6 (.tmp 4) (.tmp 23)), .mk none (some 5) (.mv (.const (.bool false)))] (some [4, 5])) .ret) .skip)) (.seq (.region [.mk none (some 24) (.mv (.tmp 0)), .mk none (some 25) (.mv (.tmp 6)), .mk none (some 26) (.idxA 6 (.tmp 24) (.tmp 25)), .mk none (some 27) (.load (some 6) (.tmp 26)), .mk none none (.store 6 (.tmp 4) (.tmp 27)), .mk none (some 5) (.mv (.const (.bool true)))] (some [4, 5])) .ret))))
theorem ok_z3oq3 : compC Tryz.prog an_z3oq3 (Tryz.f35.body.getD .skip) = some ac_z3oq3 := by kernel_rfl
theorem ret_z3oq3 (st : St) : resD Tryz.prog st Tryz.f35.results.toList = resA st [.cell 4 (some 6), .tmp 5] := resD_of (by kernel_rfl)
theorem dst_z3oq3 : ac_z3oq3.dstOK Tryz.f35.ntmps (fun i => decide (i < Tryz.f35.ntmps)) = true := by kernel_rfl

def an_zqmb1 : Ann := ⟨[(0, [0]), (1, [0, 3]), (2, [0, 3, 4]), (3, [0, 3, 4, 13]), (4, [0, 3, 4]), (5, [0, 3, 4, 5]), (6, [0, 3, 4, 5]), (7, [0, 3, 4]), (8, [2])], [], []⟩
def ac_zqmb1 : AC := (.seq (.region [.mk none (some 2) (.mv (.const (.slice none 0 0)))] (some [0])) (.seq (.region [.mk none (some 3) (.mv (.const (.slice none 0 0)))] (some [0, 3])) (.seq (.seq (.region [.mk none (some 4) (.mv (.const (.int .i64 0)))] (some [0, 3, 4])) (.block 0 (.loop (.seq (.seq (.region [.mk none (some 6) (.mv (.tmp 4)), .mk none (some 7) (.mv (.tmp 0)), .mk none (some 8) (.len (.tmp 7) false), .mk none (some 9) (.bin .lss (.tmp 6) (.tmp 8)), .mk none (some 10) (.mv (.tmp 9)), .mk (some (10, true)) (some 11) (.mv (.tmp 4)), .mk (some (10, true)) (some 12) (.bin .lss (.tmp 11) (.const (.int .i64 6))), .mk none (some 13) (.pick (.tmp 10) (.tmp 12) (.const (.bool false)))] (some [0, 3, 4, 13])) (.cond (.tmp 13) .skip (.exit 0))) (.seq (.block 1 (.seq (.region [.mk none (some 16) (.mv (.tmp 0)), .mk none (some 17) (.mv (.tmp 4)), .mk none (some 18) (.idxA 6 (.tmp 16) (.tmp 17)), .mk none (some 19) (.load (some 6) (.tmp 18)), .mk none (some 5) (.alloc 64 [.pd (.raw (.int .i64 0)), .pd (.raw (.string ⟨#[]⟩)), .pd (.raw (.string ⟨#[]⟩)), .pd (.raw (.int .i64 0)), .pd (.raw (.int .i64 0)), .pd (.raw (.bool false))]), .mk none none (.store 6 (.tmp 5) (.tmp 19))] (some [0, 3, 4, 5])) (.seq (.region [.mk none (some 20) (.fieldA 0 (.tmp 5)), .mk none (some 21) (.load (some 3) (.tmp 20)), .mk none (some 22) (.call 21 [.tmp 21]), .mk none (some 23) (.fieldA 0 (.tmp 5)), .mk none none (.store 3 (.tmp 23) (.tmp 22))] (some [0, 3, 4, 5])) (.region [.mk none (some 24) (.mv (.tmp 3)), .mk none (some 25) (.load (some 6) (.tmp 5)), .mk none (some 26) (.bslice 64 6 [.tmp 25]), .mk none (some 27) (.append 64 6 64 (.tmp 24) (.tmp 26)), .mk none (some 3) (.mv (.tmp 27))] (some [0, 3, 4]))))) (.region [.mk none (some 14) (.mv (.tmp 4)), .mk none (some 15) (.bin .add (.tmp 14) (.const (.int .i64 1))), .mk none (some 4) (.mv (.tmp 15))] (some [0, 3, 4]))))))) (.seq (.region [.mk none (some 28) (.mv (.tmp 3)), .mk none (some 2) (.mv (.tmp 28))] (some [2])) .ret))))
theorem ok_zqmb1 : compC Tryz.prog an_zqmb1 (Tryz.f34.body.getD .skip) = some ac_zqmb1 := by kernel_rfl
theorem dst_zqmb1 : ac_zqmb1.dstOK Tryz.f34.ntmps (fun i => decide (i < Tryz.f34.ntmps)) = true := by kernel_rfl

def an_zn42u : Ann := ⟨[(0, [1, 2]), (1, [2])], [(1, ([0, 1, 0, 4, 12, 0, 32, 124, 255, 511], .take 0 (.take 1 (.take 2 (.take 3 (.take 5 (.take 6 (.alts (.cons 4 false (.alts (.cons 7 false (.take 8 (.alts (.cons 9 true (.done) (.nil)))) (.nil))) (.nil))))))))))], []⟩
def ac_zn42u : AC := (.seq (.region [.mk none (some 1) (.box 24 (.tmp 0)), .mk none (some 2) (.alloc 24 [.pd (.raw (.int .i64 0)), .pd (.raw (.string ⟨#[]⟩)), .pd (.raw (.string ⟨#[]⟩))])] (some [1, 2])) (.seq (.draw [.mk none (some 3) (.fieldA 0 (.tmp 1)), .mk none (some 4) (.load none (.tmp 3)), .mk none (some 5) (.fieldA 1 (.tmp 1)), .mk none (some 6) (.load none (.tmp 5)), .mk none (some 7) (.call 22 [.tmp 6]), .mk none (some 8) (.fieldA 2 (.tmp 1)), .mk none (some 9) (.load none (.tmp 8)), .mk none (some 10) (.call 22 [.tmp 9]), .mk none (some 11) (.build [.pd (.raw (.int .i64 0)), .pd (.raw (.string ⟨#[]⟩)), .pd (.raw (.string ⟨#[]⟩))] [(0, 1, .tmp 4), (1, 1, .tmp 7), (2, 1, .tmp 10)]), .mk none none (.store 3 (.tmp 2) (.tmp 11))] [0, 1, 0, 4, 12, 0, 32, 124, 255, 511] (.take 0 (.take 1 (.take 2 (.take 3 (.take 5 (.take 6 (.alts (.cons 4 false (.alts (.cons 7 false (.take 8 (.alts (.cons 9 true .done .nil))) .nil)) .nil)))))))) (some [2])) .ret))
theorem ok_zn42u : compC Tryz.prog an_zn42u (Tryz.f21.body.getD .skip) = some ac_zn42u := by kernel_rfl
theorem ret_zn42u (st : St) : resD Tryz.prog st Tryz.f21.results.toList = resA st [.cell 2 (some 3)] := resD_of (by kernel_rfl)
theorem dst_zn42u : ac_zn42u.dstOK Tryz.f21.ntmps (fun i => decide (i < Tryz.f21.ntmps)) = true := by kernel_rfl

def an_zba9k : Ann := ⟨[(0, [0]), (1, [0, 5]), (2, [2]), (3, [2])], [], []⟩
def ac_zba9k : AC := (.seq (.region [.mk none (some 2) (.mv (.const (.string ⟨#[]⟩)))] (some [0])) (.seq (.seq (.region [.mk none (some 3) (.mv (.tmp 0)), .mk none (some 4) (.len (.tmp 3) true), .mk none (some 5) (.bin .gtr (.tmp 4) (.const (.int .i64 100)))] (some [0, 5])) (.cond (.tmp 5) (.seq (.region [.mk none (some 6) (.mv (.tmp 0)), .mk none (some 7) (.slcS (.tmp 6) none (some (.const (.int .i64 100)))), .mk none (some 2) (.mv (.tmp 7))] (some [2])) .ret) .skip)) (.seq (.region [.mk none (some 8) (.mv (.tmp 0)), .mk none (some 2) (.mv (.tmp 8))] (some [2])) .ret)))
theorem ok_zba9k : compC Tryz.prog an_zba9k (Tryz.f22.body.getD .skip) = some ac_zba9k := by kernel_rfl
theorem dst_zba9k : ac_zba9k.dstOK Tryz.f22.ntmps (fun i => decide (i < Tryz.f22.ntmps)) = true := by kernel_rfl

end Go.Proofs.YtjhomppadppfnaaGreatDoor

namespace Go.Proofs.YtjhomppadppfnaaGreatDoor
open Go Go.RowKit
set_option linter.unusedSimpArgs false
set_option linter.unusedVariables false
set_option maxRecDepth 100000

theorem pick_weight (g : AGoal) : Pure Tryz.prog 74 [g.d] (fun d => d = int g.weight) := by
  refine pure_of_run follows an_zraa7 Tryz.func74 rfl ok_zraa7 dst_zraa7 (by simp [Tryz.ntmps74]) ?_
  rw [run_start]
  simp only [ac_zraa7, go_sem, contS_seq, simprocAttr]
  simp only [retK, fullK, iterK, resD, resA, AOp.ex, St.ev, Option.map_some, Option.bind_some, St.get, lk, reduceIte, Nat.reduceEqDiff, Option.getD_some, oneD, List.getElem?_cons_zero, List.getElem?_cons_succ, List.drop_zero, List.drop_succ_cons, List.take_succ_cons, List.take_zero, List.length_cons, List.length_nil, Nat.zero_add, Nat.reduceAdd, Nat.le_refl, Nat.reduceLeDiff, D.pub, D.pubs, Tryz.results74]
  exact ⟨_, rfl, rfl, rfl⟩

theorem goal_heavy (g : AGoal) : PureB Tryz.prog 104 [g.d, .ptr 1000001 0] [(1000001, [.fn 74 []])] (fun d => d = .pd (.raw (.int .u64 (heavy g.weight)))) := by
  refine pureB_of_run follows an_zwtxd Tryz.func104 rfl ok_zwtxd dst_zwtxd (by simp [Tryz.ntmps104]) ?_
  rw [run_start]
  simp only [ac_zwtxd, go_sem, contS_seq, simprocAttr]
  refine (pick_weight g).callW (enters_of Tryz.func74 rfl rfl) _ rfl rfl ?_
  rintro d rfl
  generalize g.weight = x
  simp only [go_sem, contS_seq, simprocAttr]
  simp only [retK, fullK, iterK, resD, resA, AOp.ex, St.ev, Option.map_some, Option.bind_some, St.get, lk, reduceIte, Nat.reduceEqDiff, Option.getD_some, oneD, List.getElem?_cons_zero, List.getElem?_cons_succ, List.drop_zero, List.drop_succ_cons, List.take_succ_cons, List.take_zero, List.length_cons, List.length_nil, Nat.zero_add, Nat.reduceAdd, Nat.le_refl, Nat.reduceLeDiff, D.pub, D.pubs, Tryz.results104]
  refine ⟨_, rfl, rfl, ?_⟩
  have e : (if (0 : Int) < if 1000 < x then 1000 else x then if 1000 < x then 1000 else x else 0) = heavy x := by
    unfold heavy
    split <;> split <;> omega
  have hr : 0 ≤ heavy x ∧ heavy x ≤ 1000 := by unfold heavy; omega
  simp only [D.pub, e, IntWalk.u64_in (heavy x) (by omega)]

set_option maxRecDepth 100000 in
theorem chosen_goal (gs : List AGoal) (n : Nat) (hn : n < 2 ^ 64) (hl : gs.length ≤ 8) (ws : List Int) (hws : ws = gs.map (·.weight)) : Pure Tryz.prog 73 [.pd (.slice (rows AGoal.pd gs)), u64 n, .fn 74 []]
    (fun d => d = if total ws = 0 then .tup [int 0, bln false] else match pos 0 ws (n % total ws) with | some i => .tup [int i, bln true] | none => .tup [int 0, bln false]) := by
  have hlw : ws.length = gs.length := by rw [hws]; simp
  refine pure_of_run follows an_z9y7y Tryz.func73 rfl ok_z9y7y dst_z9y7y (by simp [Tryz.ntmps73]) ?_
  rw [run_start]
  have hen : Enters Tryz.prog 104 := enters_of Tryz.func104 rfl rfl
  simp only [ac_z9y7y, go_sem, contS_seq, simprocAttr, rows_len, ← hlw]
  refine loopS (fun k st => ∃ (i : Nat) (s : Int), k = ws.length - i ∧ i ≤ ws.length ∧ 0 ≤ s ∧ s + total (ws.drop i) = total ws ∧
    st = ⟨[(0, .pd (.slice (rows AGoal.pd gs))), (1, u64 n), (8, .fn 104 [(5, 0)]), (9, u64 s), (16, .pd (.slice (rows AGoal.pd gs))), (17, int ws.length), (18, int i)], [(5, [.fn 74 []])], [], .no⟩) ws.length _
    (Weak.refl _ _) ⟨0, 0, rfl, Nat.zero_le _, by omega, by simp, rfl⟩ ?_
  rintro k st ⟨i, s, rfl, hi, hs0, hs, rfl⟩
  by_cases hlt : i < ws.length
  · obtain ⟨gl, hg⟩ := at_lt (show i < gs.length by omega)
    obtain ⟨x, hxe⟩ : ∃ x, gl.weight = x := ⟨_, rfl⟩
    have hx : ws[i]? = some x := by rw [hws, List.getElem?_map, hg, ← hxe]; rfl
    have hlt' : (i : Int) < (ws.length : Int) := by omega
    simp only [go_sem, contS_seq, simprocAttr, rows_len, ← hlw, hlt', rows_get hg]
    refine (goal_heavy gl).callW hen _ [(5, 1000001)] rfl rfl rfl ?_
    rintro d rfl
    rw [hxe]
    simp only [go_sem, contS_seq, simprocAttr]
    have hi1 : IntKind.i64.wrap ((i : Int) + 1) = ((i + 1 : Nat) : Int) := by rw [IntWalk.i64_in _ (by omega)]; omega
    have hd := total_drop hx
    have hb := heavy_bd x
    have hb1 := total_bd (ws.drop (i + 1))
    have hb2 := total_bd ws
    have hsw : IntKind.u64.wrap (s + heavy x) = s + heavy x := IntWalk.u64_in _ (by omega)
    rw [hi1, hsw]
    refine ⟨ws.length - (i + 1), _, by omega, ?_, i + 1, s + heavy x, rfl, ?_, ?_, ?_, rfl⟩
    · exact Weak.less (by simp [lessL, lk]) (by simp [lessL, lk]) (by simp [lessL, lk]) rfl
    all_goals omega
  · have hiw : i = ws.length := by omega
    have hs2 : s = total ws := by rw [← hs, hiw]; simp [total]
    subst hs2
    have hlt' : ¬ (i : Int) < (ws.length : Int) := by omega
    simp only [go_sem, contS_seq, simprocAttr, rows_len, ← hlw, hlt']
    refine ⟨fun h0 => ?_, fun h0 => ?_⟩
    · simp only [retK, fullK, iterK, resD, resA, AOp.ex, St.ev, Option.map_some, Option.bind_some, St.get, lk, reduceIte, Nat.reduceEqDiff, Option.getD_some, oneD, List.getElem?_cons_zero, List.getElem?_cons_succ, List.drop_zero, List.drop_succ_cons, List.take_succ_cons, List.take_zero, List.length_cons, List.length_nil, Nat.zero_add, Nat.reduceAdd, Nat.le_refl, Nat.reduceLeDiff, D.pub, D.pubs, Tryz.results73]
      exact ⟨_, rfl, rfl, by rw [if_pos h0]; rfl⟩
    · have hm : (n : Int).tmod (total ws) = (n : Int) % total ws := Int.tmod_eq_emod_of_nonneg (by omega)
      simp only [go_sem, contS_seq, simprocAttr, rows_len, ← hlw, h0, hm]
      have htb := total_bd ws
      have hn0 : 0 ≤ (n : Int) % total ws := Int.emod_nonneg _ h0
      have hnm : (n : Int) % total ws < total ws := Int.emod_lt_of_pos _ (by omega)
      refine loopS (fun k st => ∃ (j : Nat) (m : Int), k = ws.length - j ∧ j ≤ ws.length ∧ 0 ≤ m ∧ m < 100000 ∧ pos j (ws.drop j) m = pos 0 ws ((n : Int) % total ws) ∧
        st = ⟨[(1, u64 m), (8, .fn 104 [(5, 0)]), (33, .pd (.slice (rows AGoal.pd gs))), (34, int ws.length), (35, int j)], [(5, [.fn 74 []])], [], .no⟩) ws.length _
        (Weak.refl _ _) ⟨0, _, rfl, Nat.zero_le _, hn0, by omega, by simp, rfl⟩ ?_
      rintro k st ⟨j, m, rfl, hj, hm0, hm1, hp, rfl⟩
      by_cases hjl : j < ws.length
      · obtain ⟨gl, hg⟩ := at_lt (show j < gs.length by omega)
        obtain ⟨x, hxe⟩ : ∃ x, gl.weight = x := ⟨_, rfl⟩
        have hx : ws[j]? = some x := by rw [hws, List.getElem?_map, hg, ← hxe]; rfl
        have hjl' : (j : Int) < (ws.length : Int) := by omega
        simp only [go_sem, contS_seq, simprocAttr, rows_len, ← hlw, hjl', rows_get hg]
        refine (goal_heavy gl).callW hen _ [(5, 1000001)] rfl rfl rfl ?_
        rintro d rfl
        rw [hxe]
        have hj1 : IntKind.i64.wrap ((j : Int) + 1) = ((j + 1 : Nat) : Int) := by rw [IntWalk.i64_in _ (by omega)]; omega
        have hb := heavy_bd x
        have hpd := pos_drop hx m
        rw [hp] at hpd
        simp only [go_sem, contS_seq, simprocAttr]
        refine ⟨fun h1 => ?_, fun h1 => ?_⟩
        · simp only [retK, fullK, iterK, resD, resA, AOp.ex, St.ev, Option.map_some, Option.bind_some, St.get, lk, reduceIte, Nat.reduceEqDiff, Option.getD_some, oneD, List.getElem?_cons_zero, List.getElem?_cons_succ, List.drop_zero, List.drop_succ_cons, List.take_succ_cons, List.take_zero, List.length_cons, List.length_nil, Nat.zero_add, Nat.reduceAdd, Nat.le_refl, Nat.reduceLeDiff, D.pub, D.pubs, Tryz.results73]
          rw [if_pos h1] at hpd
          refine ⟨_, rfl, rfl, ?_⟩
          rw [hpd]
          rfl
        · rw [if_neg h1] at hpd
          have hmw : IntKind.u64.wrap (m - heavy x) = m - heavy x := IntWalk.u64_in _ (by omega)
          rw [hj1, hmw]
          refine ⟨ws.length - (j + 1), _, by omega, ?_, j + 1, m - heavy x, rfl, ?_, ?_, ?_, hpd.symm, rfl⟩
          · exact Weak.less (by simp [lessL, lk]) (by simp [lessL, lk]) (by simp [lessL, lk]) rfl
          all_goals omega
      · have hjl' : ¬ (j : Int) < (ws.length : Int) := by omega
        simp only [go_sem, contS_seq, simprocAttr, rows_len, ← hlw, hjl']
        simp only [retK, fullK, iterK, resD, resA, AOp.ex, St.ev, Option.map_some, Option.bind_some, St.get, lk, reduceIte, Nat.reduceEqDiff, Option.getD_some, oneD, List.getElem?_cons_zero, List.getElem?_cons_succ, List.drop_zero, List.drop_succ_cons, List.take_succ_cons, List.take_zero, List.length_cons, List.length_nil, Nat.zero_add, Nat.reduceAdd, Nat.le_refl, Nat.reduceLeDiff, D.pub, D.pubs, Tryz.results73]
        refine ⟨_, rfl, rfl, ?_⟩
        have hnone : pos 0 ws ((n : Int) % total ws) = none := by rw [← hp, List.drop_eq_nil_of_le (by omega)]; rfl
        rw [hnone]
        rfl

def choose (ws : List Int) (n : Nat) : Option Nat := if total ws = 0 then none else pos 0 ws (n % total ws)

def placeD : Option Nat → D
  | some i => .tup [int i, bln true]
  | none => .tup [int 0, bln false]

theorem chosen_int' (ws : List Int) (n : Nat) (hn : n < 2 ^ 64) (hl : ws.length ≤ 8) : Pure Tryz.prog 105 [.pd (.slice (ints ws)), u64 n, .fn 106 []] (fun d => d = placeD (choose ws n)) :=
  (chosen_int ws n hn hl).mono fun d h => by
    rw [h]; unfold choose placeD
    split <;> rfl

theorem chosen_goal' (gs : List AGoal) (n : Nat) (hn : n < 2 ^ 64) (hl : gs.length ≤ 8) : Pure Tryz.prog 73 [.pd (.slice (rows AGoal.pd gs)), u64 n, .fn 74 []] (fun d => d = placeD (choose (gs.map (·.weight)) n)) :=
  (chosen_goal gs n hn hl _ rfl).mono fun d h => by
    rw [h]; unfold choose placeD
    split <;> rfl

theorem back_Choose (ws : List Int) (n : Nat) (hn : n < 2 ^ 64) (hl : ws.length ≤ 8) : Pure Tryz.prog 75 [.pd (.slice (ints ws)), u64 n] (fun d => d = placeD (choose ws n)) := by
  refine pure_of_run follows an_zuvzh Tryz.func75 rfl ok_zuvzh dst_zuvzh (by simp [Tryz.ntmps75]) ?_
  rw [run_start]
  simp only [ac_zuvzh, go_sem, contS_seq, simprocAttr]
  refine (chosen_int' ws n hn hl).callW (enters_of Tryz.func105 rfl rfl) _ rfl rfl ?_
  rintro d rfl
  cases choose ws n <;> (simp only [go_sem, contS_seq, simprocAttr, placeD]; simp only [retK, fullK, iterK, resD, resA, AOp.ex, St.ev, Option.map_some, Option.bind_some, St.get, lk, reduceIte, Nat.reduceEqDiff, Option.getD_some, oneD, List.getElem?_cons_zero, List.getElem?_cons_succ, List.drop_zero, List.drop_succ_cons, List.take_succ_cons, List.take_zero, List.length_cons, List.length_nil, Nat.zero_add, Nat.reduceAdd, Nat.le_refl, Nat.reduceLeDiff, D.pub, D.pubs, Tryz.results75]; exact ⟨_, rfl, rfl, rfl⟩)

theorem pos_lt : ∀ {ws : List Int} {i j : Nat} {m : Int}, pos i ws m = some j → i ≤ j ∧ j < i + ws.length
  | [], _, _, _, h => by simp [pos] at h
  | w :: ws, i, j, m, h => by
    simp only [pos] at h
    split at h
    · cases h; simp
    · have := pos_lt h
      simp only [List.length_cons]; omega

theorem choose_lt {ws : List Int} {n i : Nat} (h : choose ws n = some i) : i < ws.length := by
  unfold choose at h
  split at h
  · cases h
  · have := pos_lt h; omega

def goal0 : AGoal := ⟨⟨0, ⟨#[]⟩, ⟨#[]⟩⟩, 0, 0, false⟩

def pick (gs : List AGoal) (n : Nat) : AGoal × Bool := match choose (gs.map (·.weight)) n with
  | none => (goal0, false)
  | some i => match gs[i]? with
    | some g => if g.bad then (goal0, false) else (g, true)
    | none => (goal0, false)

set_option maxRecDepth 100000 in
theorem back_Pick (gs : List AGoal) (n : Nat) (hn : n < 2 ^ 64) (hl : gs.length ≤ 8) : Pure Tryz.prog 35 [.pd (.slice (rows AGoal.pd gs)), u64 n] (fun d => d = .tup [(pick gs n).1.d, bln (pick gs n).2]) := by
  refine pure_of_run follows an_z3oq3 Tryz.func35 rfl ok_z3oq3 dst_z3oq3 (by simp [Tryz.ntmps35]) ?_
  rw [run_start]
  simp only [ac_z3oq3, go_sem, contS_seq, simprocAttr]
  refine (chosen_goal' gs n hn hl).callW (enters_of Tryz.func73 rfl rfl) _ rfl rfl ?_
  rintro d rfl
  unfold pick
  cases hch : choose (gs.map (·.weight)) n with
  | none =>
    simp only [placeD, go_sem, contS_seq, simprocAttr]
    simp only [retK, fullK, iterK, resD, resA, AOp.ex, St.ev, Option.map_some, Option.bind_some, St.get, lk, reduceIte, Nat.reduceEqDiff, Option.getD_some, oneD, List.getElem?_cons_zero, List.getElem?_cons_succ, List.drop_zero, List.drop_succ_cons, List.take_succ_cons, List.take_zero, List.length_cons, List.length_nil, Nat.zero_add, Nat.reduceAdd, Nat.le_refl, Nat.reduceLeDiff, D.pub, D.pubs, ret_z3oq3]
    exact ⟨_, rfl, rfl, rfl⟩
  | some i =>
    have hi := choose_lt hch
    rw [List.length_map] at hi
    obtain ⟨g, hg⟩ := at_lt hi
    simp only [placeD, go_sem, contS_seq, simprocAttr, rows_get hg]
    refine ⟨fun hb => ?_, fun hb => ?_⟩
    · simp only [retK, fullK, iterK, resD, resA, AOp.ex, St.ev, Option.map_some, Option.bind_some, St.get, lk, reduceIte, Nat.reduceEqDiff, Option.getD_some, oneD, List.getElem?_cons_zero, List.getElem?_cons_succ, List.drop_zero, List.drop_succ_cons, List.take_succ_cons, List.take_zero, List.length_cons, List.length_nil, Nat.zero_add, Nat.reduceAdd, Nat.le_refl, Nat.reduceLeDiff, D.pub, D.pubs, ret_z3oq3, hg, hb]
      exact ⟨_, rfl, rfl, rfl⟩
    · simp only [retK, fullK, iterK, resD, resA, AOp.ex, St.ev, Option.map_some, Option.bind_some, St.get, lk, reduceIte, Nat.reduceEqDiff, Option.getD_some, oneD, List.getElem?_cons_zero, List.getElem?_cons_succ, List.drop_zero, List.drop_succ_cons, List.take_succ_cons, List.take_zero, List.length_cons, List.length_nil, Nat.zero_add, Nat.reduceAdd, Nat.le_refl, Nat.reduceLeDiff, D.pub, D.pubs, ret_z3oq3, hg, hb]
      exact ⟨_, rfl, rfl, by simp [hb, D.pub, D.pubs]⟩


def few (s : ByteArray) : ByteArray := if s.size ≤ 100 then s else s.extract 0 100

set_option maxRecDepth 100000 in
theorem law1_Few (s : ByteArray) : Pure Tryz.prog 22 [str s] (fun d => d = str (few s)) := by
  refine pure_of_run follows an_zba9k Tryz.func22 rfl ok_zba9k dst_zba9k (by simp [Tryz.ntmps22]) ?_
  rw [run_start]
  by_cases h : 100 < s.size
  · have h1 : (100 : Int) < (s.size : Int) := by omega
    have h2 : 100 ≤ s.size := by omega
    simp only [ac_zba9k, go_sem, contS_seq, simprocAttr, h1, h2]
    simp only [retK, fullK, iterK, resD, resA, AOp.ex, St.ev, Option.map_some, Option.bind_some, St.get, lk, reduceIte, Nat.reduceEqDiff, Option.getD_some, oneD, List.getElem?_cons_zero, List.getElem?_cons_succ, List.drop_zero, List.drop_succ_cons, List.take_succ_cons, List.take_zero, List.length_cons, List.length_nil, Nat.zero_add, Nat.reduceAdd, Nat.le_refl, Nat.reduceLeDiff, D.pub, D.pubs, Tryz.results22]
    exact ⟨_, rfl, rfl, by simp [few, show ¬ s.size ≤ 100 by omega, D.pub]⟩
  · have h1 : ¬ (100 : Int) < (s.size : Int) := by omega
    simp only [ac_zba9k, go_sem, contS_seq, simprocAttr, h1]
    simp only [retK, fullK, iterK, resD, resA, AOp.ex, St.ev, Option.map_some, Option.bind_some, St.get, lk, reduceIte, Nat.reduceEqDiff, Option.getD_some, oneD, List.getElem?_cons_zero, List.getElem?_cons_succ, List.drop_zero, List.drop_succ_cons, List.take_succ_cons, List.take_zero, List.length_cons, List.length_nil, Nat.zero_add, Nat.reduceAdd, Nat.le_refl, Nat.reduceLeDiff, D.pub, D.pubs, Tryz.results22]
    exact ⟨_, rfl, rfl, by simp [few, show s.size ≤ 100 by omega, D.pub]⟩

def fewRef (r : ARef) : ARef := ⟨r.kind, few r.space, few r.name⟩

set_option maxRecDepth 100000 in
theorem law9_FewRef (r : ARef) : Pure Tryz.prog 21 [r.d] (fun d => d = (fewRef r).d) := by
  refine pure_of_run follows an_zn42u Tryz.func21 rfl ok_zn42u dst_zn42u (by simp [Tryz.ntmps21]) ?_
  rw [run_start]
  simp only [ac_zn42u, go_sem, contS_seq, simprocAttr, go_sem]
  refine (law1_Few r.space).callX (enters_of Tryz.func22 rfl rfl) _ rfl rfl ?_
  rintro d rfl
  simp only [go_sem, contS_seq, simprocAttr, go_sem]
  refine (law1_Few r.name).callX (enters_of Tryz.func22 rfl rfl) _ rfl rfl ?_
  rintro d rfl
  simp only [go_sem, contS_seq, simprocAttr, go_sem]
  simp only [retK, fullK, iterK, resD, resA, AOp.ex, St.ev, Option.map_some, Option.bind_some, St.get, lk, reduceIte, Nat.reduceEqDiff, Option.getD_some, oneD, List.getElem?_cons_zero, List.getElem?_cons_succ, List.drop_zero, List.drop_succ_cons, List.take_succ_cons, List.take_zero, List.length_cons, List.length_nil, Nat.zero_add, Nat.reduceAdd, Nat.le_refl, Nat.reduceLeDiff, D.pub, D.pubs, ret_zn42u]
  exact ⟨_, rfl, rfl, rfl⟩

def fewGoal (g : AGoal) : AGoal := { g with ref := fewRef g.ref }
def fewGoals (gs : List AGoal) : List AGoal := (gs.take 6).map fewGoal

set_option maxRecDepth 100000 in
theorem law14_Few (gs : List AGoal) : Pure Tryz.prog 34 [.pd (.slice (rows AGoal.pd gs))] (fun d => d = .pd (.slice (rows AGoal.pd (fewGoals gs)))) := by
  refine pure_of_run follows an_zqmb1 Tryz.func34 rfl ok_zqmb1 dst_zqmb1 (by simp [Tryz.ntmps34]) ?_
  rw [run_start]
  simp only [ac_zqmb1, go_sem, contS_seq, simprocAttr, rows_len]
  have hpos : 0 < 6 := by omega
  refine loopS (fun k st => ∃ i : Nat, k = 6 - i ∧ i ≤ 6 ∧ i ≤ gs.length ∧
    st = ⟨[(0, .pd (.slice (rows AGoal.pd gs))), (3, .own 64 6 (rows AGoal.pd ((gs.take i).map fewGoal)) 27), (4, int i)], [], [], .no⟩) 6 _
    ?_ ⟨0, rfl, by omega, by omega, rfl⟩ ?_
  · exact Weak.own1 3 27 64 6 (by kernel_rfl) (by decide) rfl (by simp [lessL, lk, St.purge, St.put, D.purge, rows]) (by simp [lessL, lk, St.purge, D.purges, D.purge]) (by simp [lessL]) rfl
  rintro k st ⟨i, rfl, hi6, hi, rfl⟩
  have hi1 : IntKind.i64.wrap ((i : Int) + 1) = ((i + 1 : Nat) : Int) := by rw [IntWalk.i64_in _ (by omega)]; omega
  by_cases hlt : i < gs.length ∧ i < 6
  · obtain ⟨g, hg⟩ := at_lt hlt.1
    have h1 : (i : Int) < (gs.length : Int) := by omega
    have h2 : (i : Int) < 6 := by omega
    simp only [go_sem, contS_seq, simprocAttr, rows_len, rows_get hg, h1, h2]
    refine (law9_FewRef g.ref).callW (enters_of Tryz.func21 rfl rfl) _ rfl rfl ?_
    rintro d rfl
    simp only [go_sem, contS_seq, simprocAttr, rows_one, hi1]
    have e1 : rows AGoal.pd ((gs.take i).map fewGoal) ++ [[PD.raw (Value.int IntKind.i64 (fewRef g.ref).kind), PD.raw (Value.string (fewRef g.ref).space),
        PD.raw (Value.string (fewRef g.ref).name), pInt g.port, pInt g.weight, pBln g.bad]] = rows AGoal.pd ((gs.take (i + 1)).map fewGoal) := by
      rw [take_at hg, List.map_append]; exact rows_one _ (fewGoal g)
    have hl : (rows AGoal.pd ((gs.take i).map fewGoal)).length ≤ 6 := by simp [rows]; omega
    rw [e1]
    refine ⟨by simp, by unfold maxLen; omega, by omega, 6 - (i + 1), _, by omega, ?_, i + 1, rfl, by omega, by omega, rfl⟩
    exact Weak.less (by simp [lessL, lk]) (by simp [lessL, lk]) (by simp [lessL, lk]) rfl
  · have h3 : (gs.take i).map fewGoal = fewGoals gs := by
      unfold fewGoals
      rcases Nat.lt_or_ge i 6 with h6 | h6
      · rw [List.take_of_length_le (by omega), List.take_of_length_le (by omega)]
      · rw [show i = 6 by omega]
    rw [h3]
    by_cases h1 : i < gs.length
    · have h1' : (i : Int) < (gs.length : Int) := by omega
      have h2 : ¬ (i : Int) < 6 := by omega
      simp only [go_sem, contS_seq, simprocAttr, rows_len, h1', h2]
      simp only [retK, fullK, iterK, resD, resA, AOp.ex, St.ev, Option.map_some, Option.bind_some, St.get, lk, reduceIte, Nat.reduceEqDiff, Option.getD_some, oneD, List.getElem?_cons_zero, List.getElem?_cons_succ, List.drop_zero, List.drop_succ_cons, List.take_succ_cons, List.take_zero, List.length_cons, List.length_nil, Nat.zero_add, Nat.reduceAdd, Nat.le_refl, Nat.reduceLeDiff, D.pub, D.pubs, Tryz.results34]
      exact ⟨_, rfl, rfl, rfl⟩
    · have h1' : ¬ (i : Int) < (gs.length : Int) := by omega
      simp only [go_sem, contS_seq, simprocAttr, rows_len, h1']
      simp only [retK, fullK, iterK, resD, resA, AOp.ex, St.ev, Option.map_some, Option.bind_some, St.get, lk, reduceIte, Nat.reduceEqDiff, Option.getD_some, oneD, List.getElem?_cons_zero, List.getElem?_cons_succ, List.drop_zero, List.drop_succ_cons, List.take_succ_cons, List.take_zero, List.length_cons, List.length_nil, Nat.zero_add, Nat.reduceAdd, Nat.le_refl, Nat.reduceLeDiff, D.pub, D.pubs, Tryz.results34]
      exact ⟨_, rfl, rfl, rfl⟩

end Go.Proofs.YtjhomppadppfnaaGreatDoor

namespace Go.Proofs.YtjhomppadppfnaaGreatDoor
open Go

def an_zjzrx : Ann := ⟨[(0, [1]), (1, [2])], [], []⟩
def ac_zjzrx : AC := (.seq (.region [.mk none (some 1) (.box 39 (.tmp 0)), .mk none (some 2) (.mv (.const (.bool false)))] (some [1])) (.seq (.region [.mk none (some 3) (.fieldA 0 (.tmp 1)), .mk none (some 4) (.fieldA 0 (.tmp 3)), .mk none (some 5) (.load none (.tmp 4)), .mk none (some 6) (.bin .eql (.tmp 5) (.const (.int .i64 6))), .mk none (some 7) (.mv (.tmp 6)), .mk (some (7, true)) (some 8) (.load (some 13) (.tmp 1)), .mk (some (7, true)) (some 9) (.call 52 [.tmp 8]), .mk none (some 10) (.pick (.tmp 7) (.tmp 9) (.const (.bool false))), .mk none (some 2) (.mv (.tmp 10))] (some [2])) .ret))
theorem ok_zjzrx : compC Tryz.prog an_zjzrx (Tryz.f77.body.getD .skip) = some ac_zjzrx := by kernel_rfl
theorem dst_zjzrx : ac_zjzrx.dstOK Tryz.f77.ntmps (fun i => decide (i < Tryz.f77.ntmps)) = true := by kernel_rfl

def an_zqnyx : Ann := ⟨[(0, [0, 3]), (1, [0, 3, 12]), (2, [4]), (3, [0, 3, 14, 15, 16]), (4, [0, 3, 14, 15, 16, 17]), (5, [0, 3, 6, 14, 15, 16]), (6, [0, 3, 14, 15, 16, 21, 22, 23]), (7, [0, 3, 14, 15, 16, 21, 22, 23, 24]), (8, [0, 3, 8, 14, 15, 16, 21, 22, 23]), (9, [0, 3, 9, 14, 15, 16, 21, 22, 23]), (10, [0, 3, 9, 14, 15, 16, 21, 22, 23, 32]), (11, [4]), (12, [0, 3, 14, 15, 16, 21, 22, 23]), (13, [0, 3, 14, 15, 16]), (14, [4])], [], []⟩
def ac_zqnyx : AC := (.seq (.region [.mk none (some 3) (.box 39 (.tmp 1)), .mk none (some 4) (.mv (.const (.string ⟨#[]⟩)))] (some [0, 3])) (.seq (.seq (.region [.mk none (some 10) (.load (some 13) (.tmp 3)), .mk none (some 11) (.call 77 [.tmp 10]), .mk none (some 12) (.un .not (.tmp 11))] (some [0, 3, 12])) (.cond (.tmp 12) (.seq (.region [.mk none (some 4) (.mv (.const (.string ⟨#[]⟩)))] (some [4])) .ret) .skip)) (.seq (.seq (.region [.mk none (some 13) (.fieldA 10 (.tmp 3)), .mk none (some 14) (.load none (.tmp 13)), .mk none (some 15) (.len (.tmp 14) false), .mk none (some 16) (.mv (.const (.int .i64 0)))] (some [0, 3, 14, 15, 16])) (.block 0 (.loop (.seq (.region [.mk none (some 17) (.bin .lss (.tmp 16) (.tmp 15))] (some [0, 3, 14, 15, 16, 17])) (.seq (.cond (.tmp 17) .skip (.exit 0)) (.seq (.block 1 (.seq (.region [.mk none (some 18) (.idxA 3 (.tmp 14) (.tmp 16)), .mk none (some 19) (.load (some 3) (.tmp 18)), .mk none (some 6) (.alloc 72 [.nils, .nils, .nils]), .mk none none (.store 3 (.tmp 6) (.tmp 19))] (some [0, 3, 6, 14, 15, 16])) (.seq (.region [.mk none (some 20) (.fieldA 2 (.tmp 6)), .mk none (some 21) (.load none (.tmp 20)), .mk none (some 22) (.len (.tmp 21) false), .mk none (some 23) (.mv (.const (.int .i64 0)))] (some [0, 3, 14, 15, 16, 21, 22, 23])) (.block 2 (.loop (.seq (.region [.mk none (some 24) (.bin .lss (.tmp 23) (.tmp 22))] (some [0, 3, 14, 15, 16, 21, 22, 23, 24])) (.seq (.cond (.tmp 24) .skip (.exit 2)) (.seq (.block 3 (.seq (.region [.mk none (some 25) (.idxA 5 (.tmp 21) (.tmp 23)), .mk none (some 26) (.load (some 5) (.tmp 25)), .mk none (some 8) (.alloc 74 [.pd (.raw (.int .i64 0)), .pd (.raw (.string ⟨#[]⟩)), .pd (.raw (.string ⟨#[]⟩)), .pd (.raw (.int .i64 0)), .pd (.raw (.int .i64 0))]), .mk none none (.store 5 (.tmp 8) (.tmp 26))] (some [0, 3, 8, 14, 15, 16, 21, 22, 23])) (.seq (.region [.mk none (some 27) (.mv (.tmp 0)), .mk none (some 28) (.load (some 13) (.tmp 3)), .mk none (some 29) (.load (some 5) (.tmp 8)), .mk none (some 30) (.call 37 [.tmp 27, .tmp 28, .tmp 29]), .mk none (some 9) (.mv (.tmp 30))] (some [0, 3, 9, 14, 15, 16, 21, 22, 23])) (.seq (.region [.mk none (some 31) (.mv (.tmp 9)), .mk none (some 32) (.bin .neq (.tmp 31) (.const (.string ⟨#[]⟩)))] (some [0, 3, 9, 14, 15, 16, 21, 22, 23, 32])) (.cond (.tmp 32) (.seq (.region [.mk none (some 33) (.mv (.tmp 9)), .mk none (some 4) (.mv (.tmp 33))] (some [4])) .ret) .skip))))) (.region [.mk none (some 34) (.bin .add (.tmp 23) (.const (.int .i64 1))), .mk none (some 23) (.mv (.tmp 34))] (some [0, 3, 14, 15, 16, 21, 22, 23])))))))))) (.region [.mk none (some 35) (.bin .add (.tmp 16) (.const (.int .i64 1))), .mk none (some 16) (.mv (.tmp 35))] (some [0, 3, 14, 15, 16])))))))) (.seq (.region [.mk none (some 4) (.mv (.const (.string ⟨#[]⟩)))] (some [4])) .ret))))
theorem ok_zqnyx : compC Tryz.prog an_zqnyx (Tryz.f39.body.getD .skip) = some ac_zqnyx := by kernel_rfl
theorem dst_zqnyx : ac_zqnyx.dstOK Tryz.f39.ntmps (fun i => decide (i < Tryz.f39.ntmps)) = true := by kernel_rfl

def an_z7x5b : Ann := ⟨[(0, [0, 2, 4]), (1, [0, 2, 4, 23]), (2, [6]), (3, [0, 2, 4, 7]), (4, [0, 4, 7, 29, 30, 31]), (5, [0, 4, 7, 29, 30, 31, 32]), (6, [0, 4, 7, 9, 29, 30, 31]), (7, [0, 4, 7, 29, 30, 31]), (8, [0, 4, 7, 29, 30, 31]), (9, [6])], [(7, ([0, 0, 2, 0, 8, 24, 62, 0, 128, 0, 512, 0, 0, 0, 14462, 30846, 65534, 131070, 262143, 524287], .take 0 (.take 1 (.take 2 (.take 3 (.take 4 (.take 5 (.take 7 (.take 8 (.take 9 (.take 10 (.take 11 (.take 12 (.take 13 (.alts (.cons 6 false (.alts (.cons 14 false (.take 15 (.take 16 (.alts (.cons 17 false (.alts (.cons 18 true (.take 19 (.done)) (.nil))) (.nil))))) (.nil))) (.nil)))))))))))))))))], []⟩
def ac_z7x5b : AC := (.seq (.region [.mk none (some 4) (.box 39 (.tmp 1)), .mk none (some 6) (.mv (.const (.slice none 0 0)))] (some [0, 2, 4])) (.seq (.seq (.region [.mk none (some 10) (.load (some 13) (.tmp 4)), .mk none (some 11) (.call 77 [.tmp 10]), .mk none (some 12) (.un .not (.tmp 11)), .mk none (some 13) (.mv (.tmp 12)), .mk (some (13, false)) (some 14) (.mv (.tmp 2)), .mk (some (13, false)) (some 15) (.bin .lss (.tmp 14) (.const (.int .i64 0))), .mk none (some 16) (.pick (.tmp 13) (.const (.bool true)) (.tmp 15)), .mk none (some 17) (.mv (.tmp 16)), .mk (some (17, false)) (some 18) (.mv (.tmp 2)), .mk (some (17, false)) (some 19) (.fieldA 10 (.tmp 4)), .mk (some (17, false)) (some 20) (.load none (.tmp 19)), .mk (some (17, false)) (some 21) (.len (.tmp 20) false), .mk (some (17, false)) (some 22) (.bin .geq (.tmp 18) (.tmp 21)), .mk none (some 23) (.pick (.tmp 17) (.const (.bool true)) (.tmp 22))] (some [0, 2, 4, 23])) (.cond (.tmp 23) (.seq (.region [.mk none (some 6) (.mv (.const (.slice none 0 0)))] (some [6])) .ret) .skip)) (.seq (.region [.mk none (some 7) (.mv (.const (.slice none 0 0)))] (some [0, 2, 4, 7])) (.seq (.seq (.region [.mk none (some 24) (.fieldA 10 (.tmp 4)), .mk none (some 25) (.load none (.tmp 24)), .mk none (some 26) (.mv (.tmp 2)), .mk none (some 27) (.idxA 3 (.tmp 25) (.tmp 26)), .mk none (some 28) (.fieldA 2 (.tmp 27)), .mk none (some 29) (.load none (.tmp 28)), .mk none (some 30) (.len (.tmp 29) false), .mk none (some 31) (.mv (.const (.int .i64 0)))] (some [0, 4, 7, 29, 30, 31])) (.block 0 (.loop (.seq (.region [.mk none (some 32) (.bin .lss (.tmp 31) (.tmp 30))] (some [0, 4, 7, 29, 30, 31, 32])) (.seq (.cond (.tmp 32) .skip (.exit 0)) (.seq (.block 1 (.seq (.region [.mk none (some 33) (.idxA 5 (.tmp 29) (.tmp 31)), .mk none (some 34) (.load (some 5) (.tmp 33)), .mk none (some 9) (.alloc 74 [.pd (.raw (.int .i64 0)), .pd (.raw (.string ⟨#[]⟩)), .pd (.raw (.string ⟨#[]⟩)), .pd (.raw (.int .i64 0)), .pd (.raw (.int .i64 0))]), .mk none none (.store 5 (.tmp 9) (.tmp 34))] (some [0, 4, 7, 9, 29, 30, 31])) (.draw [.mk none (some 35) (.mv (.tmp 7)), .mk none (some 36) (.fieldA 0 (.tmp 9)), .mk none (some 37) (.load (some 3) (.tmp 36)), .mk none (some 38) (.fieldA 0 (.tmp 4)), .mk none (some 39) (.fieldA 1 (.tmp 38)), .mk none (some 40) (.load none (.tmp 39)), .mk none (some 41) (.call 27 [.tmp 37, .tmp 40]), .mk none (some 42) (.fieldA 3 (.tmp 9)), .mk none (some 43) (.load none (.tmp 42)), .mk none (some 44) (.fieldA 4 (.tmp 9)), .mk none (some 45) (.load none (.tmp 44)), .mk none (some 46) (.mv (.tmp 0)), .mk none (some 47) (.load (some 13) (.tmp 4)), .mk none (some 48) (.load (some 5) (.tmp 9)), .mk none (some 49) (.call 37 [.tmp 46, .tmp 47, .tmp 48]), .mk none (some 50) (.bin .neq (.tmp 49) (.const (.string ⟨#[]⟩))), .mk none (some 51) (.build [.pd (.raw (.int .i64 0)), .pd (.raw (.string ⟨#[]⟩)), .pd (.raw (.string ⟨#[]⟩)), .pd (.raw (.int .i64 0)), .pd (.raw (.int .i64 0)), .pd (.raw (.bool false))] [(0, 3, .tmp 41), (3, 1, .tmp 43), (4, 1, .tmp 45), (5, 1, .tmp 50)]), .mk none (some 52) (.bslice 64 6 [.tmp 51]), .mk none (some 53) (.append 64 6 64 (.tmp 35) (.tmp 52)), .mk none (some 7) (.mv (.tmp 53))] [0, 0, 2, 0, 8, 24, 62, 0, 128, 0, 512, 0, 0, 0, 14462, 30846, 65534, 131070, 262143, 524287] (.take 0 (.take 1 (.take 2 (.take 3 (.take 4 (.take 5 (.take 7 (.take 8 (.take 9 (.take 10 (.take 11 (.take 12 (.take 13 (.alts (.cons 6 false (.alts (.cons 14 false (.take 15 (.take 16 (.alts (.cons 17 false (.alts (.cons 18 true (.take 19 .done) .nil)) .nil)))) .nil)) .nil))))))))))))))) (some [0, 4, 7, 29, 30, 31])))) (.region [.mk none (some 54) (.bin .add (.tmp 31) (.const (.int .i64 1))), .mk none (some 31) (.mv (.tmp 54))] (some [0, 4, 7, 29, 30, 31])))))))) (.seq (.region [.mk none (some 55) (.mv (.tmp 7)), .mk none (some 6) (.mv (.tmp 55))] (some [6])) .ret)))))
theorem ok_z7x5b : compC Tryz.prog an_z7x5b (Tryz.f42.body.getD .skip) = some ac_z7x5b := by kernel_rfl
theorem dst_z7x5b : ac_z7x5b.dstOK Tryz.f42.ntmps (fun i => decide (i < Tryz.f42.ntmps)) = true := by kernel_rfl

def an_zyx20 : Ann := ⟨[(0, [1, 2]), (1, [1, 2]), (2, [2])], [], []⟩
def ac_zyx20 : AC := (.seq (.region [.mk none (some 1) (.box 99 (.tmp 0)), .mk none (some 2) (.alloc 99 [.pd (.raw (.int .i64 0)), .pd (.raw (.string ⟨#[]⟩))])] (some [1, 2])) (.seq (.region [.mk none (some 3) (.fieldA 1 (.tmp 1)), .mk none (some 4) (.load none (.tmp 3)), .mk none (some 5) (.call 22 [.tmp 4]), .mk none (some 6) (.fieldA 1 (.tmp 1)), .mk none none (.store 1 (.tmp 6) (.tmp 5))] (some [1, 2])) (.seq (.region [.mk none (some 7) (.load (some 2) (.tmp 1)), .mk none none (.store 2 (.tmp 2) (.tmp 7))] (some [2])) .ret)))
theorem ok_zyx20 : compC Tryz.prog an_zyx20 (Tryz.f93.body.getD .skip) = some ac_zyx20 := by kernel_rfl
theorem ret_zyx20 (st : St) : resD Tryz.prog st Tryz.f93.results.toList = resA st [.cell 2 (some 2)] := resD_of (by kernel_rfl)
theorem dst_zyx20 : ac_zyx20.dstOK Tryz.f93.ntmps (fun i => decide (i < Tryz.f93.ntmps)) = true := by kernel_rfl

def an_ztgmw : Ann := ⟨[(0, [0]), (1, [0, 3]), (2, [0, 3, 4]), (3, [0, 3, 4, 12]), (4, [0, 3, 4]), (5, [0, 3, 4]), (6, [2])], [(5, ([0, 0, 0, 6, 14, 30, 62, 0, 0, 384, 896, 1920, 4094, 8190, 16382, 32767, 65535], .take 0 (.take 1 (.take 2 (.take 3 (.take 4 (.take 5 (.take 7 (.take 8 (.take 9 (.take 10 (.take 11 (.alts (.cons 6 false (.alts (.cons 12 false (.take 13 (.alts (.cons 14 false (.alts (.cons 15 true (.take 16 (.done)) (.nil))) (.nil)))) (.nil))) (.nil)))))))))))))))], []⟩
def ac_ztgmw : AC := (.seq (.region [.mk none (some 2) (.mv (.const (.slice none 0 0)))] (some [0])) (.seq (.region [.mk none (some 3) (.mv (.const (.slice none 0 0)))] (some [0, 3])) (.seq (.seq (.region [.mk none (some 4) (.mv (.const (.int .i64 0)))] (some [0, 3, 4])) (.block 0 (.loop (.seq (.seq (.region [.mk none (some 5) (.mv (.tmp 4)), .mk none (some 6) (.mv (.tmp 0)), .mk none (some 7) (.len (.tmp 6) false), .mk none (some 8) (.bin .lss (.tmp 5) (.tmp 7)), .mk none (some 9) (.mv (.tmp 8)), .mk (some (9, true)) (some 10) (.mv (.tmp 4)), .mk (some (9, true)) (some 11) (.bin .lss (.tmp 10) (.const (.int .i64 31))), .mk none (some 12) (.pick (.tmp 9) (.tmp 11) (.const (.bool false)))] (some [0, 3, 4, 12])) (.cond (.tmp 12) .skip (.exit 0))) (.seq (.block 1 (.draw [.mk none (some 15) (.mv (.tmp 3)), .mk none (some 16) (.mv (.tmp 0)), .mk none (some 17) (.mv (.tmp 4)), .mk none (some 18) (.idxA 2 (.tmp 16) (.tmp 17)), .mk none (some 19) (.fieldA 0 (.tmp 18)), .mk none (some 20) (.load none (.tmp 19)), .mk none (some 21) (.call 22 [.tmp 20]), .mk none (some 22) (.mv (.tmp 0)), .mk none (some 23) (.mv (.tmp 4)), .mk none (some 24) (.idxA 2 (.tmp 22) (.tmp 23)), .mk none (some 25) (.fieldA 1 (.tmp 24)), .mk none (some 26) (.load none (.tmp 25)), .mk none (some 27) (.call 22 [.tmp 26]), .mk none (some 28) (.build [.pd (.raw (.string ⟨#[]⟩)), .pd (.raw (.string ⟨#[]⟩))] [(0, 1, .tmp 21), (1, 1, .tmp 27)]), .mk none (some 29) (.bslice 135 2 [.tmp 28]), .mk none (some 30) (.append 135 2 32 (.tmp 15) (.tmp 29)), .mk none (some 3) (.mv (.tmp 30))] [0, 0, 0, 6, 14, 30, 62, 0, 0, 384, 896, 1920, 4094, 8190, 16382, 32767, 65535] (.take 0 (.take 1 (.take 2 (.take 3 (.take 4 (.take 5 (.take 7 (.take 8 (.take 9 (.take 10 (.take 11 (.alts (.cons 6 false (.alts (.cons 12 false (.take 13 (.alts (.cons 14 false (.alts (.cons 15 true (.take 16 .done) .nil)) .nil))) .nil)) .nil))))))))))))) (some [0, 3, 4]))) (.region [.mk none (some 13) (.mv (.tmp 4)), .mk none (some 14) (.bin .add (.tmp 13) (.const (.int .i64 1))), .mk none (some 4) (.mv (.tmp 14))] (some [0, 3, 4]))))))) (.seq (.region [.mk none (some 31) (.mv (.tmp 3)), .mk none (some 2) (.mv (.tmp 31))] (some [2])) .ret))))
theorem ok_ztgmw : compC Tryz.prog an_ztgmw (Tryz.f55.body.getD .skip) = some ac_ztgmw := by kernel_rfl
theorem dst_ztgmw : ac_ztgmw.dstOK Tryz.f55.ntmps (fun i => decide (i < Tryz.f55.ntmps)) = true := by kernel_rfl

def an_zt3fs : Ann := ⟨[(0, [1, 2]), (1, [2])], [(1, ([0, 1, 3, 0, 8, 31, 0, 64, 255, 0, 512, 2047, 4095, 8191], .take 0 (.take 1 (.take 3 (.take 4 (.take 6 (.take 7 (.take 9 (.take 10 (.alts (.cons 2 false (.alts (.cons 5 false (.alts (.cons 8 false (.alts (.cons 11 true (.take 12 (.alts (.cons 13 true (.done) (.nil)))) (.nil))) (.nil))) (.nil))) (.nil))))))))))))], []⟩
def ac_zt3fs : AC := (.seq (.region [.mk none (some 1) (.box 101 (.tmp 0)), .mk none (some 2) (.alloc 101 [.pd (.raw (.int .i64 0)), .pd (.raw (.string ⟨#[]⟩)), .pd (.raw (.string ⟨#[]⟩)), .nils, .nils])] (some [1, 2])) (.seq (.draw [.mk none (some 3) (.fieldA 0 (.tmp 1)), .mk none (some 4) (.load (some 2) (.tmp 3)), .mk none (some 5) (.call 93 [.tmp 4]), .mk none (some 6) (.fieldA 2 (.tmp 1)), .mk none (some 7) (.load none (.tmp 6)), .mk none (some 8) (.call 22 [.tmp 7]), .mk none (some 9) (.fieldA 3 (.tmp 1)), .mk none (some 10) (.load none (.tmp 9)), .mk none (some 11) (.call 55 [.tmp 10]), .mk none (some 12) (.fieldA 4 (.tmp 1)), .mk none (some 13) (.load none (.tmp 12)), .mk none (some 14) (.call 55 [.tmp 13]), .mk none (some 15) (.build [.pd (.raw (.int .i64 0)), .pd (.raw (.string ⟨#[]⟩)), .pd (.raw (.string ⟨#[]⟩)), .nils, .nils] [(0, 2, .tmp 5), (2, 1, .tmp 8), (3, 1, .tmp 11), (4, 1, .tmp 14)]), .mk none none (.store 5 (.tmp 2) (.tmp 15))] [0, 1, 3, 0, 8, 31, 0, 64, 255, 0, 512, 2047, 4095, 8191] (.take 0 (.take 1 (.take 3 (.take 4 (.take 6 (.take 7 (.take 9 (.take 10 (.alts (.cons 2 false (.alts (.cons 5 false (.alts (.cons 8 false (.alts (.cons 11 true (.take 12 (.alts (.cons 13 true .done .nil))) .nil)) .nil)) .nil)) .nil)))))))))) (some [2])) .ret))
theorem ok_zt3fs : compC Tryz.prog an_zt3fs (Tryz.f59.body.getD .skip) = some ac_zt3fs := by kernel_rfl
theorem ret_zt3fs (st : St) : resD Tryz.prog st Tryz.f59.results.toList = resA st [.cell 2 (some 5)] := resD_of (by kernel_rfl)
theorem dst_zt3fs : ac_zt3fs.dstOK Tryz.f59.ntmps (fun i => decide (i < Tryz.f59.ntmps)) = true := by kernel_rfl

def an_z9moo : Ann := ⟨[(0, [0]), (1, [0, 3]), (2, [0, 3, 4]), (3, [0, 3, 4, 13]), (4, [0, 3, 4]), (5, [0, 3, 4, 5]), (6, [0, 3, 4, 5]), (7, [0, 3, 4]), (8, [2])], [(6, ([0, 1, 3, 0, 8, 31, 0, 64, 255, 0, 512, 2047, 1759, 8191, 16383, 32767, 65535, 131071, 262143, 524287], .take 0 (.take 1 (.take 3 (.take 4 (.take 6 (.take 7 (.take 9 (.take 10 (.alts (.cons 2 false (.take 12 (.alts (.cons 5 false (.alts (.cons 8 false (.alts (.cons 11 false (.alts (.cons 13 true (.take 14 (.alts (.cons 15 true (.take 16 (.alts (.cons 17 true (.take 18 (.alts (.cons 19 true (.done) (.nil)))) (.nil)))) (.nil)))) (.nil))) (.nil))) (.nil))) (.nil)))) (.nil))))))))))))], []⟩
def ac_z9moo : AC := (.seq (.region [.mk none (some 2) (.mv (.const (.slice none 0 0)))] (some [0])) (.seq (.region [.mk none (some 3) (.mv (.const (.slice none 0 0)))] (some [0, 3])) (.seq (.seq (.region [.mk none (some 4) (.mv (.const (.int .i64 0)))] (some [0, 3, 4])) (.block 0 (.loop (.seq (.seq (.region [.mk none (some 6) (.mv (.tmp 4)), .mk none (some 7) (.mv (.tmp 0)), .mk none (some 8) (.len (.tmp 7) false), .mk none (some 9) (.bin .lss (.tmp 6) (.tmp 8)), .mk none (some 10) (.mv (.tmp 9)), .mk (some (10, true)) (some 11) (.mv (.tmp 4)), .mk (some (10, true)) (some 12) (.bin .lss (.tmp 11) (.const (.int .i64 9))), .mk none (some 13) (.pick (.tmp 10) (.tmp 12) (.const (.bool false)))] (some [0, 3, 4, 13])) (.cond (.tmp 13) .skip (.exit 0))) (.seq (.block 1 (.seq (.region [.mk none (some 16) (.mv (.tmp 0)), .mk none (some 17) (.mv (.tmp 4)), .mk none (some 18) (.idxA 8 (.tmp 16) (.tmp 17)), .mk none (some 19) (.load (some 8) (.tmp 18)), .mk none (some 5) (.alloc 139 [.pd (.raw (.int .i64 0)), .pd (.raw (.string ⟨#[]⟩)), .pd (.raw (.string ⟨#[]⟩)), .pd (.raw (.string ⟨#[]⟩)), .pd (.raw (.int .i64 0)), .pd (.raw (.string ⟨#[]⟩)), .pd (.raw (.bool false)), .pd (.raw (.int .i64 0))]), .mk none none (.store 8 (.tmp 5) (.tmp 19))] (some [0, 3, 4, 5])) (.seq (.draw [.mk none (some 20) (.fieldA 1 (.tmp 5)), .mk none (some 21) (.load none (.tmp 20)), .mk none (some 22) (.call 22 [.tmp 21]), .mk none (some 23) (.fieldA 2 (.tmp 5)), .mk none (some 24) (.load none (.tmp 23)), .mk none (some 25) (.call 22 [.tmp 24]), .mk none (some 26) (.fieldA 3 (.tmp 5)), .mk none (some 27) (.load none (.tmp 26)), .mk none (some 28) (.call 22 [.tmp 27]), .mk none (some 29) (.fieldA 5 (.tmp 5)), .mk none (some 30) (.load none (.tmp 29)), .mk none (some 31) (.call 22 [.tmp 30]), .mk none (some 32) (.fieldA 1 (.tmp 5)), .mk none none (.store 1 (.tmp 32) (.tmp 22)), .mk none (some 33) (.fieldA 2 (.tmp 5)), .mk none none (.store 1 (.tmp 33) (.tmp 25)), .mk none (some 34) (.fieldA 3 (.tmp 5)), .mk none none (.store 1 (.tmp 34) (.tmp 28)), .mk none (some 35) (.fieldA 5 (.tmp 5)), .mk none none (.store 1 (.tmp 35) (.tmp 31))] [0, 1, 3, 0, 8, 31, 0, 64, 255, 0, 512, 2047, 1759, 8191, 16383, 32767, 65535, 131071, 262143, 524287] (.take 0 (.take 1 (.take 3 (.take 4 (.take 6 (.take 7 (.take 9 (.take 10 (.alts (.cons 2 false (.take 12 (.alts (.cons 5 false (.alts (.cons 8 false (.alts (.cons 11 false (.alts (.cons 13 true (.take 14 (.alts (.cons 15 true (.take 16 (.alts (.cons 17 true (.take 18 (.alts (.cons 19 true .done .nil))) .nil))) .nil))) .nil)) .nil)) .nil)) .nil))) .nil)))))))))) (some [0, 3, 4, 5])) (.region [.mk none (some 36) (.mv (.tmp 3)), .mk none (some 37) (.load (some 8) (.tmp 5)), .mk none (some 38) (.bslice 139 8 [.tmp 37]), .mk none (some 39) (.append 139 8 96 (.tmp 36) (.tmp 38)), .mk none (some 3) (.mv (.tmp 39))] (some [0, 3, 4]))))) (.region [.mk none (some 14) (.mv (.tmp 4)), .mk none (some 15) (.bin .add (.tmp 14) (.const (.int .i64 1))), .mk none (some 4) (.mv (.tmp 15))] (some [0, 3, 4]))))))) (.seq (.region [.mk none (some 40) (.mv (.tmp 3)), .mk none (some 2) (.mv (.tmp 40))] (some [2])) .ret))))
theorem ok_z9moo : compC Tryz.prog an_z9moo (Tryz.f58.body.getD .skip) = some ac_z9moo := by kernel_rfl
theorem dst_z9moo : ac_z9moo.dstOK Tryz.f58.ntmps (fun i => decide (i < Tryz.f58.ntmps)) = true := by kernel_rfl

def an_zpih5 : Ann := ⟨[(0, [0]), (1, [0, 3]), (2, [0, 3, 4]), (3, [0, 3, 4, 14]), (4, [0, 3, 4]), (5, [0, 3, 4, 5]), (6, [0, 3, 4, 5, 6]), (7, [0, 3, 4, 5, 6, 40]), (8, [0, 3, 4, 5, 6]), (9, [0, 3, 4, 5, 6]), (10, [0, 3, 4]), (11, [2])], [(5, ([0, 0, 3, 7, 15, 0, 0, 96, 224, 480, 992, 2047, 0, 8191], .take 0 (.take 1 (.take 2 (.take 3 (.take 4 (.take 5 (.take 6 (.take 7 (.take 8 (.take 9 (.alts (.cons 10 false (.take 11 (.alts (.cons 12 false (.alts (.cons 13 true (.done) (.nil))) (.nil)))) (.cons 12 false (.alts (.cons 10 false (.take 11 (.alts (.cons 13 true (.done) (.nil)))) (.nil))) (.nil))))))))))))))), (9, ([0, 1, 0, 0, 12, 28, 60, 0, 252, 508, 1020, 2044, 4095, 8191, 16383], .take 0 (.take 1 (.take 2 (.take 3 (.take 4 (.take 5 (.take 6 (.take 7 (.take 8 (.take 9 (.alts (.cons 10 false (.alts (.cons 11 false (.alts (.cons 12 true (.take 13 (.alts (.cons 14 true (.done) (.nil)))) (.nil))) (.nil))) (.nil))))))))))))))], []⟩
def ac_zpih5 : AC := (.seq (.region [.mk none (some 2) (.mv (.const (.slice none 0 0)))] (some [0])) (.seq (.region [.mk none (some 3) (.mv (.const (.slice none 0 0)))] (some [0, 3])) (.seq (.seq (.region [.mk none (some 4) (.mv (.const (.int .i64 0)))] (some [0, 3, 4])) (.block 0 (.loop (.seq (.seq (.region [.mk none (some 7) (.mv (.tmp 4)), .mk none (some 8) (.mv (.tmp 0)), .mk none (some 9) (.len (.tmp 8) false), .mk none (some 10) (.bin .lss (.tmp 7) (.tmp 9)), .mk none (some 11) (.mv (.tmp 10)), .mk (some (11, true)) (some 12) (.mv (.tmp 4)), .mk (some (11, true)) (some 13) (.bin .lss (.tmp 12) (.const (.int .i64 9))), .mk none (some 14) (.pick (.tmp 11) (.tmp 13) (.const (.bool false)))] (some [0, 3, 4, 14])) (.cond (.tmp 14) .skip (.exit 0))) (.seq (.block 1 (.seq (.draw [.mk none (some 17) (.mv (.tmp 0)), .mk none (some 18) (.mv (.tmp 4)), .mk none (some 19) (.idxA 3 (.tmp 17) (.tmp 18)), .mk none (some 20) (.fieldA 0 (.tmp 19)), .mk none (some 21) (.load none (.tmp 20)), .mk none (some 22) (.mv (.tmp 0)), .mk none (some 23) (.mv (.tmp 4)), .mk none (some 24) (.idxA 3 (.tmp 22) (.tmp 23)), .mk none (some 25) (.fieldA 1 (.tmp 24)), .mk none (some 26) (.load none (.tmp 25)), .mk none (some 27) (.call 22 [.tmp 26]), .mk none (some 28) (.build [.pd (.raw (.int .i64 0)), .pd (.raw (.string ⟨#[]⟩)), .nils] [(0, 1, .tmp 21), (1, 1, .tmp 27)]), .mk none (some 5) (.alloc 137 [.pd (.raw (.int .i64 0)), .pd (.raw (.string ⟨#[]⟩)), .nils]), .mk none none (.store 3 (.tmp 5) (.tmp 28))] [0, 0, 3, 7, 15, 0, 0, 96, 224, 480, 992, 2047, 0, 8191] (.take 0 (.take 1 (.take 2 (.take 3 (.take 4 (.take 5 (.take 6 (.take 7 (.take 8 (.take 9 (.alts (.cons 10 false (.take 11 (.alts (.cons 12 false (.alts (.cons 13 true .done .nil)) .nil))) (.cons 12 false (.alts (.cons 10 false (.take 11 (.alts (.cons 13 true .done .nil))) .nil)) .nil))))))))))))) (some [0, 3, 4, 5])) (.seq (.seq (.region [.mk none (some 6) (.mv (.const (.int .i64 0)))] (some [0, 3, 4, 5, 6])) (.block 2 (.loop (.seq (.seq (.region [.mk none (some 29) (.mv (.tmp 6)), .mk none (some 30) (.mv (.tmp 0)), .mk none (some 31) (.mv (.tmp 4)), .mk none (some 32) (.idxA 3 (.tmp 30) (.tmp 31)), .mk none (some 33) (.fieldA 2 (.tmp 32)), .mk none (some 34) (.load none (.tmp 33)), .mk none (some 35) (.len (.tmp 34) false), .mk none (some 36) (.bin .lss (.tmp 29) (.tmp 35)), .mk none (some 37) (.mv (.tmp 36)), .mk (some (37, true)) (some 38) (.mv (.tmp 6)), .mk (some (37, true)) (some 39) (.bin .lss (.tmp 38) (.const (.int .i64 9))), .mk none (some 40) (.pick (.tmp 37) (.tmp 39) (.const (.bool false)))] (some [0, 3, 4, 5, 6, 40])) (.cond (.tmp 40) .skip (.exit 2))) (.seq (.block 3 (.draw [.mk none (some 43) (.fieldA 2 (.tmp 5)), .mk none (some 44) (.load none (.tmp 43)), .mk none (some 45) (.mv (.tmp 0)), .mk none (some 46) (.mv (.tmp 4)), .mk none (some 47) (.idxA 3 (.tmp 45) (.tmp 46)), .mk none (some 48) (.fieldA 2 (.tmp 47)), .mk none (some 49) (.load none (.tmp 48)), .mk none (some 50) (.mv (.tmp 6)), .mk none (some 51) (.idxA 1 (.tmp 49) (.tmp 50)), .mk none (some 52) (.load none (.tmp 51)), .mk none (some 53) (.call 22 [.tmp 52]), .mk none (some 54) (.bslice 9 1 [.tmp 53]), .mk none (some 55) (.append 9 1 16 (.tmp 44) (.tmp 54)), .mk none (some 56) (.fieldA 2 (.tmp 5)), .mk none none (.store 1 (.tmp 56) (.tmp 55))] [0, 1, 0, 0, 12, 28, 60, 0, 252, 508, 1020, 2044, 4095, 8191, 16383] (.take 0 (.take 1 (.take 2 (.take 3 (.take 4 (.take 5 (.take 6 (.take 7 (.take 8 (.take 9 (.alts (.cons 10 false (.alts (.cons 11 false (.alts (.cons 12 true (.take 13 (.alts (.cons 14 true .done .nil))) .nil)) .nil)) .nil)))))))))))) (some [0, 3, 4, 5, 6]))) (.region [.mk none (some 41) (.mv (.tmp 6)), .mk none (some 42) (.bin .add (.tmp 41) (.const (.int .i64 1))), .mk none (some 6) (.mv (.tmp 42))] (some [0, 3, 4, 5, 6]))))))) (.region [.mk none (some 57) (.mv (.tmp 3)), .mk none (some 58) (.load (some 3) (.tmp 5)), .mk none (some 59) (.bslice 137 3 [.tmp 58]), .mk none (some 60) (.append 137 3 48 (.tmp 57) (.tmp 59)), .mk none (some 3) (.mv (.tmp 60))] (some [0, 3, 4]))))) (.region [.mk none (some 15) (.mv (.tmp 4)), .mk none (some 16) (.bin .add (.tmp 15) (.const (.int .i64 1))), .mk none (some 4) (.mv (.tmp 16))] (some [0, 3, 4]))))))) (.seq (.region [.mk none (some 61) (.mv (.tmp 3)), .mk none (some 2) (.mv (.tmp 61))] (some [2])) .ret))))
theorem ok_zpih5 : compC Tryz.prog an_zpih5 (Tryz.f57.body.getD .skip) = some ac_zpih5 := by kernel_rfl
theorem dst_zpih5 : ac_zpih5.dstOK Tryz.f57.ntmps (fun i => decide (i < Tryz.f57.ntmps)) = true := by kernel_rfl

def an_zg0x2 : Ann := ⟨[(0, [0]), (1, [0, 3]), (2, [0, 3, 4]), (3, [0, 3, 4, 12]), (4, [0, 3, 4]), (5, [0, 3, 4]), (6, [2])], [(5, ([0, 0, 0, 6, 14, 30, 0, 0, 192, 448, 960, 1984, 0, 0, 12288, 28672, 61440, 131008, 262142, 524286, 1048575, 2097151], .take 0 (.take 1 (.take 2 (.take 3 (.take 4 (.take 5 (.take 6 (.take 7 (.take 8 (.take 9 (.take 10 (.take 12 (.take 13 (.take 14 (.take 15 (.take 16 (.alts (.cons 11 false (.alts (.cons 17 false (.take 18 (.alts (.cons 19 false (.alts (.cons 20 true (.take 21 (.done)) (.nil))) (.nil)))) (.nil))) (.nil))))))))))))))))))))], []⟩
def ac_zg0x2 : AC := (.seq (.region [.mk none (some 2) (.mv (.const (.slice none 0 0)))] (some [0])) (.seq (.region [.mk none (some 3) (.mv (.const (.slice none 0 0)))] (some [0, 3])) (.seq (.seq (.region [.mk none (some 4) (.mv (.const (.int .i64 0)))] (some [0, 3, 4])) (.block 0 (.loop (.seq (.seq (.region [.mk none (some 5) (.mv (.tmp 4)), .mk none (some 6) (.mv (.tmp 0)), .mk none (some 7) (.len (.tmp 6) false), .mk none (some 8) (.bin .lss (.tmp 5) (.tmp 7)), .mk none (some 9) (.mv (.tmp 8)), .mk (some (9, true)) (some 10) (.mv (.tmp 4)), .mk (some (9, true)) (some 11) (.bin .lss (.tmp 10) (.const (.int .i64 5))), .mk none (some 12) (.pick (.tmp 9) (.tmp 11) (.const (.bool false)))] (some [0, 3, 4, 12])) (.cond (.tmp 12) .skip (.exit 0))) (.seq (.block 1 (.draw [.mk none (some 15) (.mv (.tmp 3)), .mk none (some 16) (.mv (.tmp 0)), .mk none (some 17) (.mv (.tmp 4)), .mk none (some 18) (.idxA 3 (.tmp 16) (.tmp 17)), .mk none (some 19) (.fieldA 0 (.tmp 18)), .mk none (some 20) (.load none (.tmp 19)), .mk none (some 21) (.mv (.tmp 0)), .mk none (some 22) (.mv (.tmp 4)), .mk none (some 23) (.idxA 3 (.tmp 21) (.tmp 22)), .mk none (some 24) (.fieldA 1 (.tmp 23)), .mk none (some 25) (.load none (.tmp 24)), .mk none (some 26) (.call 22 [.tmp 25]), .mk none (some 27) (.mv (.tmp 0)), .mk none (some 28) (.mv (.tmp 4)), .mk none (some 29) (.idxA 3 (.tmp 27) (.tmp 28)), .mk none (some 30) (.fieldA 2 (.tmp 29)), .mk none (some 31) (.load none (.tmp 30)), .mk none (some 32) (.call 22 [.tmp 31]), .mk none (some 33) (.build [.pd (.raw (.int .i64 0)), .pd (.raw (.string ⟨#[]⟩)), .pd (.raw (.string ⟨#[]⟩))] [(0, 1, .tmp 20), (1, 1, .tmp 26), (2, 1, .tmp 32)]), .mk none (some 34) (.bslice 45 3 [.tmp 33]), .mk none (some 35) (.append 45 3 40 (.tmp 15) (.tmp 34)), .mk none (some 3) (.mv (.tmp 35))] [0, 0, 0, 6, 14, 30, 0, 0, 192, 448, 960, 1984, 0, 0, 12288, 28672, 61440, 131008, 262142, 524286, 1048575, 2097151] (.take 0 (.take 1 (.take 2 (.take 3 (.take 4 (.take 5 (.take 6 (.take 7 (.take 8 (.take 9 (.take 10 (.take 12 (.take 13 (.take 14 (.take 15 (.take 16 (.alts (.cons 11 false (.alts (.cons 17 false (.take 18 (.alts (.cons 19 false (.alts (.cons 20 true (.take 21 .done) .nil)) .nil))) .nil)) .nil)))))))))))))))))) (some [0, 3, 4]))) (.region [.mk none (some 13) (.mv (.tmp 4)), .mk none (some 14) (.bin .add (.tmp 13) (.const (.int .i64 1))), .mk none (some 4) (.mv (.tmp 14))] (some [0, 3, 4]))))))) (.seq (.region [.mk none (some 36) (.mv (.tmp 3)), .mk none (some 2) (.mv (.tmp 36))] (some [2])) .ret))))
theorem ok_zg0x2 : compC Tryz.prog an_zg0x2 (Tryz.f56.body.getD .skip) = some ac_zg0x2 := by kernel_rfl
theorem dst_zg0x2 : ac_zg0x2.dstOK Tryz.f56.ntmps (fun i => decide (i < Tryz.f56.ntmps)) = true := by kernel_rfl

def an_z8s55 : Ann := ⟨[(0, [1, 2]), (1, [1, 2, 3]), (2, [1, 2, 3, 4]), (3, [1, 2, 3, 4, 41]), (4, [1, 2, 3, 4]), (5, [1, 2, 3, 4]), (6, [1, 2, 3, 5]), (7, [1, 2, 3, 5, 62]), (8, [1, 2, 3, 5]), (9, [1, 2, 3, 5, 6]), (10, [1, 2, 3, 5]), (11, [1, 2, 3, 7]), (12, [1, 2, 3, 7, 102]), (13, [1, 2, 3, 7]), (14, [1, 2, 3, 7, 8]), (15, [1, 2, 3, 7]), (16, [1, 2, 3, 9]), (17, [1, 2, 3, 9, 135]), (18, [1, 2, 3, 9]), (19, [1, 2, 3, 9]), (20, [1, 2, 3, 10]), (21, [1, 2, 3, 10, 157]), (22, [1, 2, 3, 10]), (23, [1, 2, 3, 10, 11]), (24, [1, 2, 3, 10, 11, 12]), (25, [1, 2, 3, 10, 11, 12, 180]), (26, [1, 2, 3, 10, 11, 12]), (27, [1, 2, 3, 10, 11, 12]), (28, [1, 2, 3, 10, 11, 13]), (29, [1, 2, 3, 10, 11, 13, 210]), (30, [1, 2, 3, 10, 11, 13]), (31, [1, 2, 3, 10, 11, 13, 14]), (32, [1, 2, 3, 10, 11, 13]), (33, [1, 2, 3, 10]), (34, [2])], [(1, ([0, 1, 3, 0, 8, 0, 32, 103, 0, 256, 999, 0, 2048, 8167, 0, 16384, 65511, 131071, 0, 524287], .take 0 (.take 1 (.take 3 (.take 4 (.take 5 (.take 6 (.take 8 (.take 9 (.take 11 (.take 12 (.take 14 (.take 15 (.alts (.cons 2 false (.alts (.cons 7 false (.alts (.cons 10 false (.alts (.cons 13 false (.alts (.cons 16 false (.take 17 (.alts (.cons 18 false (.alts (.cons 19 true (.done) (.nil))) (.nil)))) (.cons 18 false (.alts (.cons 16 false (.take 17 (.alts (.cons 19 true (.done) (.nil)))) (.nil))) (.nil)))) (.cons 18 false (.alts (.cons 13 false (.alts (.cons 16 false (.take 17 (.alts (.cons 19 true (.done) (.nil)))) (.nil))) (.nil))) (.nil)))) (.cons 18 false (.alts (.cons 10 false (.alts (.cons 13 false (.alts (.cons 16 false (.take 17 (.alts (.cons 19 true (.done) (.nil)))) (.nil))) (.nil))) (.nil))) (.nil)))) (.cons 18 false (.alts (.cons 7 false (.alts (.cons 10 false (.alts (.cons 13 false (.alts (.cons 16 false (.take 17 (.alts (.cons 19 true (.done) (.nil)))) (.nil))) (.nil))) (.nil))) (.nil))) (.nil)))) (.cons 18 false (.alts (.cons 2 false (.alts (.cons 7 false (.alts (.cons 10 false (.alts (.cons 13 false (.alts (.cons 16 false (.take 17 (.alts (.cons 19 true (.done) (.nil)))) (.nil))) (.nil))) (.nil))) (.nil))) (.nil))) (.nil))))))))))))))))), (5, ([0, 1, 0, 4, 0, 28, 60, 124, 255, 511, 1023], .take 0 (.take 1 (.take 2 (.take 3 (.take 4 (.take 5 (.take 6 (.alts (.cons 7 false (.alts (.cons 8 true (.take 9 (.alts (.cons 10 true (.done) (.nil)))) (.nil))) (.nil))))))))))), (10, ([0, 1, 0, 4, 12, 0, 32, 0, 128, 0, 512, 1564, 0, 4096, 15900, 0, 32768, 0, 131072, 425500, 1048572, 2097148, 4194303, 8388607, 16777215], .take 0 (.take 1 (.take 2 (.take 3 (.take 5 (.take 6 (.take 7 (.take 8 (.take 9 (.take 10 (.take 12 (.take 13 (.take 15 (.take 16 (.take 17 (.take 18 (.alts (.cons 4 false (.alts (.cons 11 false (.alts (.cons 14 false (.alts (.cons 19 false (.take 20 (.alts (.cons 21 false (.alts (.cons 22 true (.take 23 (.alts (.cons 24 true (.done) (.nil)))) (.nil))) (.nil)))) (.nil))) (.nil))) (.nil))) (.nil)))))))))))))))))))), (15, ([0, 1, 0, 4, 12, 0, 32, 124, 0, 256, 1020, 0, 2048, 8188, 16380, 32767, 65535, 131071], .take 0 (.take 1 (.take 2 (.take 3 (.take 5 (.take 6 (.take 8 (.take 9 (.take 11 (.take 12 (.alts (.cons 4 false (.alts (.cons 7 false (.alts (.cons 10 false (.take 13 (.alts (.cons 14 false (.alts (.cons 15 true (.take 16 (.alts (.cons 17 true (.done) (.nil)))) (.nil))) (.nil)))) (.nil))) (.nil))) (.nil)))))))))))))), (19, ([0, 1, 0, 4, 0, 28, 60, 124, 252, 511, 1023, 2047], .take 0 (.take 1 (.take 2 (.take 3 (.take 4 (.take 5 (.take 6 (.alts (.cons 7 false (.alts (.cons 8 false (.alts (.cons 9 true (.take 10 (.alts (.cons 11 true (.done) (.nil)))) (.nil))) (.nil))) (.nil))))))))))), (27, ([0, 1, 0, 4, 0, 28, 60, 124, 0, 508, 1020, 2044, 4092, 8191, 16383, 32767], .take 0 (.take 1 (.take 2 (.take 3 (.take 4 (.take 5 (.take 6 (.take 7 (.take 8 (.take 9 (.take 10 (.alts (.cons 11 false (.alts (.cons 12 false (.alts (.cons 13 true (.take 14 (.alts (.cons 15 true (.done) (.nil)))) (.nil))) (.nil))) (.nil))))))))))))))), (32, ([0, 1, 0, 4, 12, 0, 32, 0, 128, 508, 1020, 2047, 4095, 8191], .take 0 (.take 1 (.take 2 (.take 3 (.take 5 (.take 6 (.take 7 (.take 8 (.alts (.cons 4 false (.take 9 (.alts (.cons 10 false (.alts (.cons 11 true (.take 12 (.alts (.cons 13 true (.done) (.nil)))) (.nil))) (.nil)))) (.nil))))))))))))], []⟩
def ac_z8s55 : AC := (.seq (.region [.mk none (some 1) (.box 39 (.tmp 0)), .mk none (some 2) (.alloc 39 [.pd (.raw (.int .i64 0)), .pd (.raw (.string ⟨#[]⟩)), .pd (.raw (.string ⟨#[]⟩)), .pd (.raw (.bool false)), .nils, .nils, .pd (.raw (.string ⟨#[]⟩)), .nils, .nils, .nils, .nils, .nils, .nils])] (some [1, 2])) (.seq (.draw [.mk none (some 15) (.fieldA 0 (.tmp 1)), .mk none (some 16) (.load (some 3) (.tmp 15)), .mk none (some 17) (.call 21 [.tmp 16]), .mk none (some 18) (.fieldA 3 (.tmp 1)), .mk none (some 19) (.load none (.tmp 18)), .mk none (some 20) (.fieldA 4 (.tmp 1)), .mk none (some 21) (.load none (.tmp 20)), .mk none (some 22) (.call 55 [.tmp 21]), .mk none (some 23) (.fieldA 6 (.tmp 1)), .mk none (some 24) (.load none (.tmp 23)), .mk none (some 25) (.call 22 [.tmp 24]), .mk none (some 26) (.fieldA 11 (.tmp 1)), .mk none (some 27) (.load none (.tmp 26)), .mk none (some 28) (.call 56 [.tmp 27]), .mk none (some 29) (.fieldA 12 (.tmp 1)), .mk none (some 30) (.load none (.tmp 29)), .mk none (some 31) (.call 56 [.tmp 30]), .mk none (some 32) (.build [.pd (.raw (.int .i64 0)), .pd (.raw (.string ⟨#[]⟩)), .pd (.raw (.string ⟨#[]⟩)), .pd (.raw (.bool false)), .nils, .nils, .pd (.raw (.string ⟨#[]⟩)), .nils, .nils, .nils, .nils, .nils, .nils] [(0, 3, .tmp 17), (3, 1, .tmp 19), (4, 1, .tmp 22), (6, 1, .tmp 25), (11, 1, .tmp 28), (12, 1, .tmp 31)]), .mk none (some 3) (.alloc 39 [.pd (.raw (.int .i64 0)), .pd (.raw (.string ⟨#[]⟩)), .pd (.raw (.string ⟨#[]⟩)), .pd (.raw (.bool false)), .nils, .nils, .pd (.raw (.string ⟨#[]⟩)), .nils, .nils, .nils, .nils, .nils, .nils]), .mk none none (.store 13 (.tmp 3) (.tmp 32))] [0, 1, 3, 0, 8, 0, 32, 103, 0, 256, 999, 0, 2048, 8167, 0, 16384, 65511, 131071, 0, 524287] (.take 0 (.take 1 (.take 3 (.take 4 (.take 5 (.take 6 (.take 8 (.take 9 (.take 11 (.take 12 (.take 14 (.take 15 (.alts (.cons 2 false (.alts (.cons 7 false (.alts (.cons 10 false (.alts (.cons 13 false (.alts (.cons 16 false (.take 17 (.alts (.cons 18 false (.alts (.cons 19 true .done .nil)) .nil))) (.cons 18 false (.alts (.cons 16 false (.take 17 (.alts (.cons 19 true .done .nil))) .nil)) .nil))) (.cons 18 false (.alts (.cons 13 false (.alts (.cons 16 false (.take 17 (.alts (.cons 19 true .done .nil))) .nil)) .nil)) .nil))) (.cons 18 false (.alts (.cons 10 false (.alts (.cons 13 false (.alts (.cons 16 false (.take 17 (.alts (.cons 19 true .done .nil))) .nil)) .nil)) .nil)) .nil))) (.cons 18 false (.alts (.cons 7 false (.alts (.cons 10 false (.alts (.cons 13 false (.alts (.cons 16 false (.take 17 (.alts (.cons 19 true .done .nil))) .nil)) .nil)) .nil)) .nil)) .nil))) (.cons 18 false (.alts (.cons 2 false (.alts (.cons 7 false (.alts (.cons 10 false (.alts (.cons 13 false (.alts (.cons 16 false (.take 17 (.alts (.cons 19 true .done .nil))) .nil)) .nil)) .nil)) .nil)) .nil)) .nil))))))))))))))) (some [1, 2, 3])) (.seq (.seq (.region [.mk none (some 4) (.mv (.const (.int .i64 0)))] (some [1, 2, 3, 4])) (.block 0 (.loop (.seq (.seq (.region [.mk none (some 33) (.mv (.tmp 4)), .mk none (some 34) (.fieldA 5 (.tmp 1)), .mk none (some 35) (.load none (.tmp 34)), .mk none (some 36) (.len (.tmp 35) false), .mk none (some 37) (.bin .lss (.tmp 33) (.tmp 36)), .mk none (some 38) (.mv (.tmp 37)), .mk (some (38, true)) (some 39) (.mv (.tmp 4)), .mk (some (38, true)) (some 40) (.bin .lss (.tmp 39) (.const (.int .i64 9))), .mk none (some 41) (.pick (.tmp 38) (.tmp 40) (.const (.bool false)))] (some [1, 2, 3, 4, 41])) (.cond (.tmp 41) .skip (.exit 0))) (.seq (.block 1 (.draw [.mk none (some 44) (.fieldA 5 (.tmp 3)), .mk none (some 45) (.load none (.tmp 44)), .mk none (some 46) (.fieldA 5 (.tmp 1)), .mk none (some 47) (.load none (.tmp 46)), .mk none (some 48) (.mv (.tmp 4)), .mk none (some 49) (.idxA 1 (.tmp 47) (.tmp 48)), .mk none (some 50) (.load none (.tmp 49)), .mk none (some 51) (.bslice 3 1 [.tmp 50]), .mk none (some 52) (.append 3 1 8 (.tmp 45) (.tmp 51)), .mk none (some 53) (.fieldA 5 (.tmp 3)), .mk none none (.store 1 (.tmp 53) (.tmp 52))] [0, 1, 0, 4, 0, 28, 60, 124, 255, 511, 1023] (.take 0 (.take 1 (.take 2 (.take 3 (.take 4 (.take 5 (.take 6 (.alts (.cons 7 false (.alts (.cons 8 true (.take 9 (.alts (.cons 10 true .done .nil))) .nil)) .nil))))))))) (some [1, 2, 3, 4]))) (.region [.mk none (some 42) (.mv (.tmp 4)), .mk none (some 43) (.bin .add (.tmp 42) (.const (.int .i64 1))), .mk none (some 4) (.mv (.tmp 43))] (some [1, 2, 3, 4]))))))) (.seq (.seq (.region [.mk none (some 5) (.mv (.const (.int .i64 0)))] (some [1, 2, 3, 5])) (.block 2 (.loop (.seq (.seq (.region [.mk none (some 54) (.mv (.tmp 5)), .mk none (some 55) (.fieldA 7 (.tmp 1)), .mk none (some 56) (.load none (.tmp 55)), .mk none (some 57) (.len (.tmp 56) false), .mk none (some 58) (.bin .lss (.tmp 54) (.tmp 57)), .mk none (some 59) (.mv (.tmp 58)), .mk (some (59, true)) (some 60) (.mv (.tmp 5)), .mk (some (59, true)) (some 61) (.bin .lss (.tmp 60) (.const (.int .i64 9))), .mk none (some 62) (.pick (.tmp 59) (.tmp 61) (.const (.bool false)))] (some [1, 2, 3, 5, 62])) (.cond (.tmp 62) .skip (.exit 2))) (.seq (.block 3 (.seq (.region [.mk none (some 65) (.fieldA 7 (.tmp 1)), .mk none (some 66) (.load none (.tmp 65)), .mk none (some 67) (.mv (.tmp 5)), .mk none (some 68) (.idxA 9 (.tmp 66) (.tmp 67)), .mk none (some 69) (.load (some 9) (.tmp 68)), .mk none (some 6) (.alloc 82 [.pd (.raw (.string ⟨#[]⟩)), .pd (.raw (.int .i64 0)), .pd (.raw (.bool false)), .pd (.raw (.string ⟨#[]⟩)), .pd (.raw (.int .i64 0)), .pd (.raw (.string ⟨#[]⟩)), .pd (.raw (.string ⟨#[]⟩)), .pd (.raw (.int .i64 0)), .nils]), .mk none none (.store 9 (.tmp 6) (.tmp 69))] (some [1, 2, 3, 5, 6])) (.draw [.mk none (some 70) (.fieldA 7 (.tmp 3)), .mk none (some 71) (.load none (.tmp 70)), .mk none (some 72) (.fieldA 0 (.tmp 6)), .mk none (some 73) (.load none (.tmp 72)), .mk none (some 74) (.call 22 [.tmp 73]), .mk none (some 75) (.fieldA 1 (.tmp 6)), .mk none (some 76) (.load none (.tmp 75)), .mk none (some 77) (.fieldA 2 (.tmp 6)), .mk none (some 78) (.load none (.tmp 77)), .mk none (some 79) (.fieldA 3 (.tmp 6)), .mk none (some 80) (.load none (.tmp 79)), .mk none (some 81) (.call 22 [.tmp 80]), .mk none (some 82) (.fieldA 4 (.tmp 6)), .mk none (some 83) (.load (some 3) (.tmp 82)), .mk none (some 84) (.call 21 [.tmp 83]), .mk none (some 85) (.fieldA 7 (.tmp 6)), .mk none (some 86) (.load none (.tmp 85)), .mk none (some 87) (.fieldA 8 (.tmp 6)), .mk none (some 88) (.load none (.tmp 87)), .mk none (some 89) (.call 57 [.tmp 88]), .mk none (some 90) (.build [.pd (.raw (.string ⟨#[]⟩)), .pd (.raw (.int .i64 0)), .pd (.raw (.bool false)), .pd (.raw (.string ⟨#[]⟩)), .pd (.raw (.int .i64 0)), .pd (.raw (.string ⟨#[]⟩)), .pd (.raw (.string ⟨#[]⟩)), .pd (.raw (.int .i64 0)), .nils] [(0, 1, .tmp 74), (1, 1, .tmp 76), (2, 1, .tmp 78), (3, 1, .tmp 81), (4, 3, .tmp 84), (7, 1, .tmp 86), (8, 1, .tmp 89)]), .mk none (some 91) (.bslice 82 9 [.tmp 90]), .mk none (some 92) (.append 82 9 120 (.tmp 71) (.tmp 91)), .mk none (some 93) (.fieldA 7 (.tmp 3)), .mk none none (.store 1 (.tmp 93) (.tmp 92))] [0, 1, 0, 4, 12, 0, 32, 0, 128, 0, 512, 1564, 0, 4096, 15900, 0, 32768, 0, 131072, 425500, 1048572, 2097148, 4194303, 8388607, 16777215] (.take 0 (.take 1 (.take 2 (.take 3 (.take 5 (.take 6 (.take 7 (.take 8 (.take 9 (.take 10 (.take 12 (.take 13 (.take 15 (.take 16 (.take 17 (.take 18 (.alts (.cons 4 false (.alts (.cons 11 false (.alts (.cons 14 false (.alts (.cons 19 false (.take 20 (.alts (.cons 21 false (.alts (.cons 22 true (.take 23 (.alts (.cons 24 true .done .nil))) .nil)) .nil))) .nil)) .nil)) .nil)) .nil)))))))))))))))))) (some [1, 2, 3, 5])))) (.region [.mk none (some 63) (.mv (.tmp 5)), .mk none (some 64) (.bin .add (.tmp 63) (.const (.int .i64 1))), .mk none (some 5) (.mv (.tmp 64))] (some [1, 2, 3, 5]))))))) (.seq (.seq (.region [.mk none (some 7) (.mv (.const (.int .i64 0)))] (some [1, 2, 3, 7])) (.block 4 (.loop (.seq (.seq (.region [.mk none (some 94) (.mv (.tmp 7)), .mk none (some 95) (.fieldA 8 (.tmp 1)), .mk none (some 96) (.load none (.tmp 95)), .mk none (some 97) (.len (.tmp 96) false), .mk none (some 98) (.bin .lss (.tmp 94) (.tmp 97)), .mk none (some 99) (.mv (.tmp 98)), .mk (some (99, true)) (some 100) (.mv (.tmp 7)), .mk (some (99, true)) (some 101) (.bin .lss (.tmp 100) (.const (.int .i64 5))), .mk none (some 102) (.pick (.tmp 99) (.tmp 101) (.const (.bool false)))] (some [1, 2, 3, 7, 102])) (.cond (.tmp 102) .skip (.exit 4))) (.seq (.block 5 (.seq (.region [.mk none (some 105) (.fieldA 8 (.tmp 1)), .mk none (some 106) (.load none (.tmp 105)), .mk none (some 107) (.mv (.tmp 7)), .mk none (some 108) (.idxA 4 (.tmp 106) (.tmp 107)), .mk none (some 109) (.load (some 4) (.tmp 108)), .mk none (some 8) (.alloc 96 [.pd (.raw (.string ⟨#[]⟩)), .pd (.raw (.string ⟨#[]⟩)), .pd (.raw (.string ⟨#[]⟩)), .pd (.raw (.int .i64 0))]), .mk none none (.store 4 (.tmp 8) (.tmp 109))] (some [1, 2, 3, 7, 8])) (.draw [.mk none (some 110) (.fieldA 8 (.tmp 3)), .mk none (some 111) (.load none (.tmp 110)), .mk none (some 112) (.fieldA 0 (.tmp 8)), .mk none (some 113) (.load none (.tmp 112)), .mk none (some 114) (.call 22 [.tmp 113]), .mk none (some 115) (.fieldA 1 (.tmp 8)), .mk none (some 116) (.load none (.tmp 115)), .mk none (some 117) (.call 22 [.tmp 116]), .mk none (some 118) (.fieldA 2 (.tmp 8)), .mk none (some 119) (.load none (.tmp 118)), .mk none (some 120) (.call 22 [.tmp 119]), .mk none (some 121) (.fieldA 3 (.tmp 8)), .mk none (some 122) (.load none (.tmp 121)), .mk none (some 123) (.build [.pd (.raw (.string ⟨#[]⟩)), .pd (.raw (.string ⟨#[]⟩)), .pd (.raw (.string ⟨#[]⟩)), .pd (.raw (.int .i64 0))] [(0, 1, .tmp 114), (1, 1, .tmp 117), (2, 1, .tmp 120), (3, 1, .tmp 122)]), .mk none (some 124) (.bslice 96 4 [.tmp 123]), .mk none (some 125) (.append 96 4 56 (.tmp 111) (.tmp 124)), .mk none (some 126) (.fieldA 8 (.tmp 3)), .mk none none (.store 1 (.tmp 126) (.tmp 125))] [0, 1, 0, 4, 12, 0, 32, 124, 0, 256, 1020, 0, 2048, 8188, 16380, 32767, 65535, 131071] (.take 0 (.take 1 (.take 2 (.take 3 (.take 5 (.take 6 (.take 8 (.take 9 (.take 11 (.take 12 (.alts (.cons 4 false (.alts (.cons 7 false (.alts (.cons 10 false (.take 13 (.alts (.cons 14 false (.alts (.cons 15 true (.take 16 (.alts (.cons 17 true .done .nil))) .nil)) .nil))) .nil)) .nil)) .nil)))))))))))) (some [1, 2, 3, 7])))) (.region [.mk none (some 103) (.mv (.tmp 7)), .mk none (some 104) (.bin .add (.tmp 103) (.const (.int .i64 1))), .mk none (some 7) (.mv (.tmp 104))] (some [1, 2, 3, 7]))))))) (.seq (.seq (.region [.mk none (some 9) (.mv (.const (.int .i64 0)))] (some [1, 2, 3, 9])) (.block 6 (.loop (.seq (.seq (.region [.mk none (some 127) (.mv (.tmp 9)), .mk none (some 128) (.fieldA 9 (.tmp 1)), .mk none (some 129) (.load none (.tmp 128)), .mk none (some 130) (.len (.tmp 129) false), .mk none (some 131) (.bin .lss (.tmp 127) (.tmp 130)), .mk none (some 132) (.mv (.tmp 131)), .mk (some (132, true)) (some 133) (.mv (.tmp 9)), .mk (some (132, true)) (some 134) (.bin .lss (.tmp 133) (.const (.int .i64 5))), .mk none (some 135) (.pick (.tmp 132) (.tmp 134) (.const (.bool false)))] (some [1, 2, 3, 9, 135])) (.cond (.tmp 135) .skip (.exit 6))) (.seq (.block 7 (.draw [.mk none (some 138) (.fieldA 9 (.tmp 3)), .mk none (some 139) (.load none (.tmp 138)), .mk none (some 140) (.fieldA 9 (.tmp 1)), .mk none (some 141) (.load none (.tmp 140)), .mk none (some 142) (.mv (.tmp 9)), .mk none (some 143) (.idxA 1 (.tmp 141) (.tmp 142)), .mk none (some 144) (.load none (.tmp 143)), .mk none (some 145) (.call 22 [.tmp 144]), .mk none (some 146) (.bslice 9 1 [.tmp 145]), .mk none (some 147) (.append 9 1 16 (.tmp 139) (.tmp 146)), .mk none (some 148) (.fieldA 9 (.tmp 3)), .mk none none (.store 1 (.tmp 148) (.tmp 147))] [0, 1, 0, 4, 0, 28, 60, 124, 252, 511, 1023, 2047] (.take 0 (.take 1 (.take 2 (.take 3 (.take 4 (.take 5 (.take 6 (.alts (.cons 7 false (.alts (.cons 8 false (.alts (.cons 9 true (.take 10 (.alts (.cons 11 true .done .nil))) .nil)) .nil)) .nil))))))))) (some [1, 2, 3, 9]))) (.region [.mk none (some 136) (.mv (.tmp 9)), .mk none (some 137) (.bin .add (.tmp 136) (.const (.int .i64 1))), .mk none (some 9) (.mv (.tmp 137))] (some [1, 2, 3, 9]))))))) (.seq (.seq (.region [.mk none (some 10) (.mv (.const (.int .i64 0)))] (some [1, 2, 3, 10])) (.block 8 (.loop (.seq (.seq (.region [.mk none (some 149) (.mv (.tmp 10)), .mk none (some 150) (.fieldA 10 (.tmp 1)), .mk none (some 151) (.load none (.tmp 150)), .mk none (some 152) (.len (.tmp 151) false), .mk none (some 153) (.bin .lss (.tmp 149) (.tmp 152)), .mk none (some 154) (.mv (.tmp 153)), .mk (some (154, true)) (some 155) (.mv (.tmp 10)), .mk (some (154, true)) (some 156) (.bin .lss (.tmp 155) (.const (.int .i64 7))), .mk none (some 157) (.pick (.tmp 154) (.tmp 156) (.const (.bool false)))] (some [1, 2, 3, 10, 157])) (.cond (.tmp 157) .skip (.exit 8))) (.seq (.block 9 (.seq (.region [.mk none (some 160) (.fieldA 10 (.tmp 1)), .mk none (some 161) (.load none (.tmp 160)), .mk none (some 162) (.mv (.tmp 10)), .mk none (some 163) (.idxA 3 (.tmp 161) (.tmp 162)), .mk none (some 164) (.fieldA 1 (.tmp 163)), .mk none (some 165) (.load none (.tmp 164)), .mk none (some 166) (.call 58 [.tmp 165]), .mk none (some 167) (.build [.nils, .nils, .nils] [(1, 1, .tmp 166)]), .mk none (some 11) (.alloc 72 [.nils, .nils, .nils]), .mk none none (.store 3 (.tmp 11) (.tmp 167))] (some [1, 2, 3, 10, 11])) (.seq (.seq (.region [.mk none (some 12) (.mv (.const (.int .i64 0)))] (some [1, 2, 3, 10, 11, 12])) (.block 10 (.loop (.seq (.seq (.region [.mk none (some 168) (.mv (.tmp 12)), .mk none (some 169) (.fieldA 10 (.tmp 1)), .mk none (some 170) (.load none (.tmp 169)), .mk none (some 171) (.mv (.tmp 10)), .mk none (some 172) (.idxA 3 (.tmp 170) (.tmp 171)), .mk none (some 173) (.fieldA 0 (.tmp 172)), .mk none (some 174) (.load none (.tmp 173)), .mk none (some 175) (.len (.tmp 174) false), .mk none (some 176) (.bin .lss (.tmp 168) (.tmp 175)), .mk none (some 177) (.mv (.tmp 176)), .mk (some (177, true)) (some 178) (.mv (.tmp 12)), .mk (some (177, true)) (some 179) (.bin .lss (.tmp 178) (.const (.int .i64 5))), .mk none (some 180) (.pick (.tmp 177) (.tmp 179) (.const (.bool false)))] (some [1, 2, 3, 10, 11, 12, 180])) (.cond (.tmp 180) .skip (.exit 10))) (.seq (.block 11 (.draw [.mk none (some 183) (.fieldA 0 (.tmp 11)), .mk none (some 184) (.load none (.tmp 183)), .mk none (some 185) (.fieldA 10 (.tmp 1)), .mk none (some 186) (.load none (.tmp 185)), .mk none (some 187) (.mv (.tmp 10)), .mk none (some 188) (.idxA 3 (.tmp 186) (.tmp 187)), .mk none (some 189) (.fieldA 0 (.tmp 188)), .mk none (some 190) (.load none (.tmp 189)), .mk none (some 191) (.mv (.tmp 12)), .mk none (some 192) (.idxA 5 (.tmp 190) (.tmp 191)), .mk none (some 193) (.load (some 5) (.tmp 192)), .mk none (some 194) (.call 59 [.tmp 193]), .mk none (some 195) (.bslice 101 5 [.tmp 194]), .mk none (some 196) (.append 101 5 88 (.tmp 184) (.tmp 195)), .mk none (some 197) (.fieldA 0 (.tmp 11)), .mk none none (.store 1 (.tmp 197) (.tmp 196))] [0, 1, 0, 4, 0, 28, 60, 124, 0, 508, 1020, 2044, 4092, 8191, 16383, 32767] (.take 0 (.take 1 (.take 2 (.take 3 (.take 4 (.take 5 (.take 6 (.take 7 (.take 8 (.take 9 (.take 10 (.alts (.cons 11 false (.alts (.cons 12 false (.alts (.cons 13 true (.take 14 (.alts (.cons 15 true .done .nil))) .nil)) .nil)) .nil))))))))))))) (some [1, 2, 3, 10, 11, 12]))) (.region [.mk none (some 181) (.mv (.tmp 12)), .mk none (some 182) (.bin .add (.tmp 181) (.const (.int .i64 1))), .mk none (some 12) (.mv (.tmp 182))] (some [1, 2, 3, 10, 11, 12]))))))) (.seq (.seq (.region [.mk none (some 13) (.mv (.const (.int .i64 0)))] (some [1, 2, 3, 10, 11, 13])) (.block 12 (.loop (.seq (.seq (.region [.mk none (some 198) (.mv (.tmp 13)), .mk none (some 199) (.fieldA 10 (.tmp 1)), .mk none (some 200) (.load none (.tmp 199)), .mk none (some 201) (.mv (.tmp 10)), .mk none (some 202) (.idxA 3 (.tmp 200) (.tmp 201)), .mk none (some 203) (.fieldA 2 (.tmp 202)), .mk none (some 204) (.load none (.tmp 203)), .mk none (some 205) (.len (.tmp 204) false), .mk none (some 206) (.bin .lss (.tmp 198) (.tmp 205)), .mk none (some 207) (.mv (.tmp 206)), .mk (some (207, true)) (some 208) (.mv (.tmp 13)), .mk (some (207, true)) (some 209) (.bin .lss (.tmp 208) (.const (.int .i64 5))), .mk none (some 210) (.pick (.tmp 207) (.tmp 209) (.const (.bool false)))] (some [1, 2, 3, 10, 11, 13, 210])) (.cond (.tmp 210) .skip (.exit 12))) (.seq (.block 13 (.seq (.region [.mk none (some 213) (.fieldA 10 (.tmp 1)), .mk none (some 214) (.load none (.tmp 213)), .mk none (some 215) (.mv (.tmp 10)), .mk none (some 216) (.idxA 3 (.tmp 214) (.tmp 215)), .mk none (some 217) (.fieldA 2 (.tmp 216)), .mk none (some 218) (.load none (.tmp 217)), .mk none (some 219) (.mv (.tmp 13)), .mk none (some 220) (.idxA 5 (.tmp 218) (.tmp 219)), .mk none (some 221) (.load (some 5) (.tmp 220)), .mk none (some 14) (.alloc 74 [.pd (.raw (.int .i64 0)), .pd (.raw (.string ⟨#[]⟩)), .pd (.raw (.string ⟨#[]⟩)), .pd (.raw (.int .i64 0)), .pd (.raw (.int .i64 0))]), .mk none none (.store 5 (.tmp 14) (.tmp 221))] (some [1, 2, 3, 10, 11, 13, 14])) (.draw [.mk none (some 222) (.fieldA 2 (.tmp 11)), .mk none (some 223) (.load none (.tmp 222)), .mk none (some 224) (.fieldA 0 (.tmp 14)), .mk none (some 225) (.load (some 3) (.tmp 224)), .mk none (some 226) (.call 21 [.tmp 225]), .mk none (some 227) (.fieldA 3 (.tmp 14)), .mk none (some 228) (.load none (.tmp 227)), .mk none (some 229) (.fieldA 4 (.tmp 14)), .mk none (some 230) (.load none (.tmp 229)), .mk none (some 231) (.build [.pd (.raw (.int .i64 0)), .pd (.raw (.string ⟨#[]⟩)), .pd (.raw (.string ⟨#[]⟩)), .pd (.raw (.int .i64 0)), .pd (.raw (.int .i64 0))] [(0, 3, .tmp 226), (3, 1, .tmp 228), (4, 1, .tmp 230)]), .mk none (some 232) (.bslice 74 5 [.tmp 231]), .mk none (some 233) (.append 74 5 56 (.tmp 223) (.tmp 232)), .mk none (some 234) (.fieldA 2 (.tmp 11)), .mk none none (.store 1 (.tmp 234) (.tmp 233))] [0, 1, 0, 4, 12, 0, 32, 0, 128, 508, 1020, 2047, 4095, 8191] (.take 0 (.take 1 (.take 2 (.take 3 (.take 5 (.take 6 (.take 7 (.take 8 (.alts (.cons 4 false (.take 9 (.alts (.cons 10 false (.alts (.cons 11 true (.take 12 (.alts (.cons 13 true .done .nil))) .nil)) .nil))) .nil)))))))))) (some [1, 2, 3, 10, 11, 13])))) (.region [.mk none (some 211) (.mv (.tmp 13)), .mk none (some 212) (.bin .add (.tmp 211) (.const (.int .i64 1))), .mk none (some 13) (.mv (.tmp 212))] (some [1, 2, 3, 10, 11, 13]))))))) (.region [.mk none (some 235) (.fieldA 10 (.tmp 3)), .mk none (some 236) (.load none (.tmp 235)), .mk none (some 237) (.load (some 3) (.tmp 11)), .mk none (some 238) (.bslice 72 3 [.tmp 237]), .mk none (some 239) (.append 72 3 72 (.tmp 236) (.tmp 238)), .mk none (some 240) (.fieldA 10 (.tmp 3)), .mk none none (.store 1 (.tmp 240) (.tmp 239))] (some [1, 2, 3, 10])))))) (.region [.mk none (some 158) (.mv (.tmp 10)), .mk none (some 159) (.bin .add (.tmp 158) (.const (.int .i64 1))), .mk none (some 10) (.mv (.tmp 159))] (some [1, 2, 3, 10]))))))) (.seq (.region [.mk none (some 241) (.load (some 13) (.tmp 3)), .mk none none (.store 13 (.tmp 2) (.tmp 241))] (some [2])) .ret))))))))
theorem ok_z8s55 : compC Tryz.prog an_z8s55 (Tryz.f20.body.getD .skip) = some ac_z8s55 := by kernel_rfl
theorem ret_z8s55 (st : St) : resD Tryz.prog st Tryz.f20.results.toList = resA st [.cell 2 (some 13)] := resD_of (by kernel_rfl)
theorem dst_z8s55 : ac_z8s55.dstOK Tryz.f20.ntmps (fun i => decide (i < Tryz.f20.ntmps)) = true := by kernel_rfl

def an_zh218 : Ann := ⟨[(0, [0]), (1, [0, 3]), (2, [0, 3, 4]), (3, [0, 3, 4, 12]), (4, [0, 3, 4]), (5, [0, 3, 4]), (6, [2])], [], []⟩
def ac_zh218 : AC := (.seq (.region [.mk none (some 2) (.mv (.const (.slice none 0 0)))] (some [0])) (.seq (.region [.mk none (some 3) (.mv (.const (.slice none 0 0)))] (some [0, 3])) (.seq (.seq (.region [.mk none (some 4) (.mv (.const (.int .i64 0)))] (some [0, 3, 4])) (.block 0 (.loop (.seq (.seq (.region [.mk none (some 5) (.mv (.tmp 4)), .mk none (some 6) (.mv (.tmp 0)), .mk none (some 7) (.len (.tmp 6) false), .mk none (some 8) (.bin .lss (.tmp 5) (.tmp 7)), .mk none (some 9) (.mv (.tmp 8)), .mk (some (9, true)) (some 10) (.mv (.tmp 4)), .mk (some (9, true)) (some 11) (.bin .lss (.tmp 10) (.const (.int .i64 24))), .mk none (some 12) (.pick (.tmp 9) (.tmp 11) (.const (.bool false)))] (some [0, 3, 4, 12])) (.cond (.tmp 12) .skip (.exit 0))) (.seq (.block 1 (.region [.mk none (some 15) (.mv (.tmp 3)), .mk none (some 16) (.mv (.tmp 0)), .mk none (some 17) (.mv (.tmp 4)), .mk none (some 18) (.idxA 13 (.tmp 16) (.tmp 17)), .mk none (some 19) (.load (some 13) (.tmp 18)), .mk none (some 20) (.call 20 [.tmp 19]), .mk none (some 21) (.bslice 39 13 [.tmp 20]), .mk none (some 22) (.append 39 13 256 (.tmp 15) (.tmp 21)), .mk none (some 3) (.mv (.tmp 22))] (some [0, 3, 4]))) (.region [.mk none (some 13) (.mv (.tmp 4)), .mk none (some 14) (.bin .add (.tmp 13) (.const (.int .i64 1))), .mk none (some 4) (.mv (.tmp 14))] (some [0, 3, 4]))))))) (.seq (.region [.mk none (some 23) (.mv (.tmp 3)), .mk none (some 2) (.mv (.tmp 23))] (some [2])) .ret))))
theorem ok_zh218 : compC Tryz.prog an_zh218 (Tryz.f16.body.getD .skip) = some ac_zh218 := by kernel_rfl
theorem dst_zh218 : ac_zh218.dstOK Tryz.f16.ntmps (fun i => decide (i < Tryz.f16.ntmps)) = true := by kernel_rfl

end Go.Proofs.YtjhomppadppfnaaGreatDoor

namespace Go.Proofs.YtjhomppadppfnaaGreatDoor
open Go Go.RowKit
set_option linter.unusedSimpArgs false
set_option linter.unusedVariables false
set_option maxRecDepth 100000

theorem Reps.tell {g : Gh} {w : World} {d : D} : ∀ {ds : List D} {vs : List Value} (_ : Reps g w ds vs) (i : Nat) (_ : ∀ v, vs[i]? = some v → Rep g w d v), Reps g w (ds.set i d) vs
  | [], _, h, _, _ => by simpa using h
  | e :: ds, _, h, i, hd => by
    simp only [Reps] at h
    obtain ⟨v, vs', rfl, hv, hs⟩ := h
    cases i with
    | zero => exact ⟨v, vs', rfl, hd v rfl, hs⟩
    | succ i => exact ⟨v, vs', rfl, hv, Reps.tell hs i (fun u hu => hd u (by simpa using hu))⟩

theorem SR.tellB {C : Ctx} {st : St} {g : Gh} {a : Act} {w : World} (h : SR C st g a w) {n : Nat} {ds ds' : List D} (hn : lk st.bs n = some ds) (hd : ∀ vs, Reps g w ds vs → Reps g w ds' vs) : SR C { st with bs := (n, ds') :: st.bs } g a w := by
  have m := h.mem
  refine ⟨h.defers, h.size, h.rep, { m with bxs := fun k es hk => ?_ }, h.x, h.fix⟩
  simp only [lk] at hk
  split at hk
  · rename_i hkn
    subst hkn
    cases hk
    obtain ⟨b, cs, t, h1, h2, h3⟩ := m.bxs _ ds hn
    exact ⟨b, cs, t, h1, h2, hd _ h3⟩
  · exact m.bxs k es hk

theorem purges_at : ∀ (t : Nat) (ds : List D) (i : Nat), ds[i]? = some .nils → (D.purges t ds)[i]? = some .nils
  | _, [], _, h => by simp at h
  | t, d :: ds, 0, h => by
    simp only [List.getElem?_cons_zero, Option.some.injEq] at h
    subst h
    simp [D.purges, D.purge]
  | t, d :: ds, i + 1, h => by
    simp only [List.getElem?_cons_succ] at h
    simpa [D.purges] using purges_at t ds i h

theorem lk_purge {st : St} {t n : Nat} {ds : List D} (h : lk st.bs n = some ds) : lk (st.purge t).bs n = some (D.purges t ds) := by
  simp only [St.purge]
  rw [lk_map (fun ds => D.purges t ds) st.bs n, h]; rfl

theorem Weak.ownB0 {P : Program} {st : St} (n i t : Nat) (e : TypeId) {ti : TypeInfo} (hi : P.info? e = some ti) (hpos : 0 < ti.size) {ds : List D} (h : lk st.bs n = some ds) (hn : ds[i]? = some .nils) :
    Weak P st { st.purge t with bs := (n, (D.purges t ds).set i (.own e ti.size [] t)) :: (st.purge t).bs } := by
  intro C g a w hP hs
  subst hP
  have h1 := hs.purge t
  obtain ⟨h2, _⟩ := SR.owned h1 t (by simp) (grownBy_same w none) _ h1.x (fun k e => by cases e) (fun _ h => h) (fun k e => by cases e) e ti hi hpos (.slice none 0 0) 0 [] (World.ownsRow_nil _ _ _ _) (fun b hb => by cases hb) (fun b o _ hb => by cases hb)
  refine ⟨_, h2.tellB (lk_purge h) fun vs hv => ?_⟩
  refine hv.tell i fun v hvi => ?_
  obtain ⟨u, hu, hr⟩ := hv.get i _ (purges_at t ds i hn)
  rw [hvi] at hu
  cases hu
  simp only [Rep] at hr
  rw [hr]
  simp only [Rep]
  exact ⟨.empty _ _, by simp, by simp⟩

theorem Weak.ownB {P : Program} {st st' : St} (n i t : Nat) (e : TypeId) (sz : Nat) (hi : (P.info? e).map (·.size) = some sz) (hpos : 0 < sz) {ds : List D} (h : lk st.bs n = some ds) (hn : ds[i]? = some .nils)
    (hf : lessL st'.fr (st.purge t).fr) (hb : lessL st'.bs ((n, (D.purges t ds).set i (.own e sz [] t)) :: (st.purge t).bs)) (hm : lessL st'.ms st.ms) (hh : st'.hs = st.hs) : Weak P st st' := by
  obtain ⟨ti, h1, rfl⟩ := Option.map_eq_some_iff.1 hi
  exact (Weak.ownB0 n i t e h1 hpos h hn).trans (Weak.less hf hb hm hh)

theorem run_cut {P : Program} {x y : AC} {st s1 : St} {S : List Fr} {K : Exit → St → Prop} (h1 : ∀ K' : Exit → St → Prop, K' .normal s1 → run P x st (contS P [] K')) (h2 : run P y s1 (contS P S K)) : run P (.seq x y) st (contS P S K) := by
  rw [run_seq]; exact h1 (contS P (.seq y :: S) K) h2

theorem few_size (s : ByteArray) : (few s).size ≤ 100 := by
  unfold few
  split
  · assumption
  · simp [ByteArray.size_extract]; omega

theorem law3_Few (k : Int) (v : ByteArray) : Pure Tryz.prog 93 [.agg [int k, str v]] (fun d => d = .agg [int k, str (few v)]) := by
  refine pure_of_run follows an_zyx20 Tryz.func93 rfl ok_zyx20 dst_zyx20 (by simp [Tryz.ntmps93]) ?_
  rw [run_start]
  simp only [ac_zyx20, go_sem, contS_seq, simprocAttr]
  refine (law1_Few v).callW (enters_of Tryz.func22 rfl rfl) _ rfl rfl ?_
  rintro d rfl
  simp only [go_sem, contS_seq, simprocAttr]
  simp only [retK, fullK, iterK, resD, resA, AOp.ex, St.ev, Option.map_some, Option.bind_some, St.get, lk, reduceIte, Nat.reduceEqDiff, Option.getD_some, oneD, List.getElem?_cons_zero, List.getElem?_cons_succ, List.drop_zero, List.drop_succ_cons, List.take_succ_cons, List.take_zero, List.length_cons, List.length_nil, Nat.zero_add, Nat.reduceAdd, Nat.le_refl, Nat.reduceLeDiff, D.pub, D.pubs, ret_zyx20]
  exact ⟨_, rfl, rfl, rfl⟩

def fewPair (p : APair) : APair := ⟨few p.name, few p.val⟩
def fewPairs (l : List APair) : List APair := (l.take 31).map fewPair

theorem fewPair_ok (p : APair) : (fewPair p).ok := ⟨by have := few_size p.name; simp [fewPair]; omega, by have := few_size p.val; simp [fewPair]; omega⟩

theorem few_step {α β : Type} {f : β → List PD} {g : α → β} {l : List α} {i : Nat} {x : α} (h : l[i]? = some x) : rows f ((l.take i).map g) ++ [f (g x)] = rows f ((l.take (i + 1)).map g) := by
  rw [take_at h, List.map_append]; exact rows_one _ (g x)

theorem few_len {α β : Type} {f : β → List PD} {g : α → β} {l : List α} {i n : Nat} (h : i ≤ n) : (rows f ((l.take i).map g)).length ≤ n := by simp [rows]; omega

theorem few_end {α β : Type} {g : α → β} {l : List α} {i n : Nat} (h : i ≤ n) (hl : i ≤ l.length) (he : ¬ (i < l.length ∧ i < n)) : (l.take i).map g = (l.take n).map g := by
  rcases Nat.lt_or_ge i n with h6 | h6
  · rw [List.take_of_length_le (by omega), List.take_of_length_le (by omega)]
  · rw [show i = n by omega]

theorem law5_Few (l : List APair) : Pure Tryz.prog 55 [.pd (.slice (rows APair.pd l))] (fun d => d = .pd (.slice (rows APair.pd (fewPairs l)))) := by
  refine pure_of_run follows an_ztgmw Tryz.func55 rfl ok_ztgmw dst_ztgmw (by simp [Tryz.ntmps55]) ?_
  rw [run_start]
  simp only [ac_ztgmw, go_sem, contS_seq, simprocAttr, rows_len]
  refine loopS (fun k st => ∃ i : Nat, k = 31 - i ∧ i ≤ 31 ∧ i ≤ l.length ∧
    st = ⟨[(0, .pd (.slice (rows APair.pd l))), (3, .own 135 2 (rows APair.pd ((l.take i).map fewPair)) 30), (4, int i)], [], [], .no⟩) 31 _
    ?_ ⟨0, rfl, by omega, by omega, rfl⟩ ?_
  · exact Weak.own1 3 30 135 2 (by kernel_rfl) (by decide) rfl (by simp [lessL, lk, St.purge, St.put, D.purge, rows]) (by simp [lessL, lk, St.purge, D.purges, D.purge]) (by simp [lessL]) rfl
  rintro k st ⟨i, rfl, hi6, hi, rfl⟩
  have hw := i64_succ (show i < 1000000000 by omega)
  by_cases hlt : i < l.length ∧ i < 31
  · obtain ⟨x, hx⟩ := at_lt hlt.1
    have h1 : ((i : Int) < (l.length : Int)) = True := eq_true (by omega)
    have h2 : ((i : Int) < 31) = True := eq_true (by omega)
    simp only [go_sem, contS_seq, simprocAttr, go_sem, rows_len, rows_get hx, h1, h2]
    refine (law1_Few x.name).callX (enters_of Tryz.func22 rfl rfl) _ rfl rfl ?_
    rintro d rfl
    simp only [go_sem, contS_seq, simprocAttr, go_sem, rows_len, rows_get hx]
    refine (law1_Few x.val).callX (enters_of Tryz.func22 rfl rfl) _ rfl rfl ?_
    rintro d rfl
    simp only [go_sem, contS_seq, simprocAttr, go_sem, hw]
    have hl := few_len (f := APair.pd) (g := fewPair) (l := l) hi6
    have e1 : rows APair.pd ((l.take i).map fewPair) ++ [[PD.raw (Value.string (few x.name)), PD.raw (Value.string (few x.val))]] = rows APair.pd ((l.take (i + 1)).map fewPair) := few_step hx
    rw [e1]
    refine ⟨by simp, by unfold maxLen; omega, by omega, 31 - (i + 1), _, by omega, ?_, i + 1, rfl, by omega, by omega, rfl⟩
    exact Weak.less (by simp [lessL, lk]) (by simp [lessL, lk]) (by simp [lessL, lk]) rfl
  · have h3 := few_end (g := fewPair) hi6 hi hlt
    rw [h3]
    by_cases h1 : i < l.length
    · have h1' : ((i : Int) < (l.length : Int)) = True := eq_true (by omega)
      have h2 : ((i : Int) < 31) = False := eq_false (by omega)
      simp only [go_sem, contS_seq, simprocAttr, go_sem, rows_len, h1', h2]
      simp only [retK, fullK, iterK, resD, resA, AOp.ex, St.ev, Option.map_some, Option.bind_some, St.get, lk, reduceIte, Nat.reduceEqDiff, Option.getD_some, oneD, List.getElem?_cons_zero, List.getElem?_cons_succ, List.drop_zero, List.drop_succ_cons, List.take_succ_cons, List.take_zero, List.length_cons, List.length_nil, Nat.zero_add, Nat.reduceAdd, Nat.le_refl, Nat.reduceLeDiff, D.pub, D.pubs, Tryz.results55]
      exact ⟨_, rfl, rfl, rfl⟩
    · have h1' : ((i : Int) < (l.length : Int)) = False := eq_false (by omega)
      simp only [go_sem, contS_seq, simprocAttr, go_sem, rows_len, h1']
      simp only [retK, fullK, iterK, resD, resA, AOp.ex, St.ev, Option.map_some, Option.bind_some, St.get, lk, reduceIte, Nat.reduceEqDiff, Option.getD_some, oneD, List.getElem?_cons_zero, List.getElem?_cons_succ, List.drop_zero, List.drop_succ_cons, List.take_succ_cons, List.take_zero, List.length_cons, List.length_nil, Nat.zero_add, Nat.reduceAdd, Nat.le_refl, Nat.reduceLeDiff, D.pub, D.pubs, Tryz.results55]
      exact ⟨_, rfl, rfl, rfl⟩

def fewFilter (f : AFilter) : AFilter := { f with name := few f.name, val := few f.val, host := few f.host, path := few f.path }
def fewFilters (l : List AFilter) : List AFilter := (l.take 9).map fewFilter
def fewSide (s : ASide) : ASide := ⟨s.kind, few s.space, few s.name⟩
def fewSides (l : List ASide) : List ASide := (l.take 5).map fewSide

theorem law7_Few (l : List AFilter) : Pure Tryz.prog 58 [.pd (.slice (rows AFilter.pd l))] (fun d => d = .pd (.slice (rows AFilter.pd (fewFilters l)))) := by
  refine pure_of_run follows an_z9moo Tryz.func58 rfl ok_z9moo dst_z9moo (by simp [Tryz.ntmps58]) ?_
  rw [run_start]
  simp only [ac_z9moo, go_sem, contS_seq, simprocAttr, rows_len]
  refine loopS (fun k st => ∃ i : Nat, k = 9 - i ∧ i ≤ 9 ∧ i ≤ l.length ∧
    st = ⟨[(0, .pd (.slice (rows AFilter.pd l))), (3, .own 139 8 (rows AFilter.pd ((l.take i).map fewFilter)) 39), (4, int i)], [], [], .no⟩) 9 _
    ?_ ⟨0, rfl, by omega, by omega, rfl⟩ ?_
  · exact Weak.own1 3 39 139 8 (by kernel_rfl) (by decide) rfl (by simp [lessL, lk, St.purge, St.put, D.purge, rows]) (by simp [lessL, lk, St.purge, D.purges, D.purge]) (by simp [lessL]) rfl
  rintro k st ⟨i, rfl, hi6, hi, rfl⟩
  have hw := i64_succ (show i < 1000000000 by omega)
  by_cases hlt : i < l.length ∧ i < 9
  · obtain ⟨x, hx⟩ := at_lt hlt.1
    have h1 : ((i : Int) < (l.length : Int)) = True := eq_true (by omega)
    have h2 : ((i : Int) < 9) = True := eq_true (by omega)
    simp only [go_sem, contS_seq, simprocAttr, rows_len, rows_get hx, h1, h2]
    refine (law1_Few x.name).callX (enters_of Tryz.func22 rfl rfl) _ rfl rfl ?_
    rintro d rfl
    simp only [go_sem, contS_seq, simprocAttr, rows_len, rows_get hx]
    refine (law1_Few x.val).callX (enters_of Tryz.func22 rfl rfl) _ rfl rfl ?_
    rintro d rfl
    simp only [go_sem, contS_seq, simprocAttr, rows_len, rows_get hx]
    refine (law1_Few x.host).callX (enters_of Tryz.func22 rfl rfl) _ rfl rfl ?_
    rintro d rfl
    simp only [go_sem, contS_seq, simprocAttr, rows_len, rows_get hx]
    refine (law1_Few x.path).callX (enters_of Tryz.func22 rfl rfl) _ rfl rfl ?_
    rintro d rfl
    simp only [go_sem, contS_seq, simprocAttr, rows_len, rows_get hx, hw]
    have hl := few_len (f := AFilter.pd) (g := fewFilter) (l := l) hi6
    have hl' : ((l.take i).map fewFilter).length ≤ i := by simp; omega
    have e1 : rows AFilter.pd ((l.take i).map fewFilter) ++ [[PD.raw (Value.int IntKind.i64 x.kind), PD.raw (Value.string (few x.name)), PD.raw (Value.string (few x.val)), PD.raw (Value.string (few x.host)), PD.raw (Value.int IntKind.i64 x.port), PD.raw (Value.string (few x.path)), PD.raw (Value.bool x.whole), PD.raw (Value.int IntKind.i64 x.code)]] = rows AFilter.pd ((l.take (i + 1)).map fewFilter) := few_step hx
    rw [e1]
    refine ⟨by simp, by unfold maxLen; omega, by omega, 9 - (i + 1), _, by omega, ?_, i + 1, rfl, by omega, by omega, rfl⟩
    exact Weak.less (by simp [lessL, lk]) (by simp [lessL, lk]) (by simp [lessL, lk]) rfl
  · have h3 := few_end (g := fewFilter) hi6 hi hlt
    rw [h3]
    by_cases h1 : i < l.length
    · have h1' : ((i : Int) < (l.length : Int)) = True := eq_true (by omega)
      have h2 : ((i : Int) < 9) = False := eq_false (by omega)
      simp only [go_sem, contS_seq, simprocAttr, rows_len, h1', h2]
      simp only [retK, fullK, iterK, resD, resA, AOp.ex, St.ev, Option.map_some, Option.bind_some, St.get, lk, reduceIte, Nat.reduceEqDiff, Option.getD_some, oneD, List.getElem?_cons_zero, List.getElem?_cons_succ, List.drop_zero, List.drop_succ_cons, List.take_succ_cons, List.take_zero, List.length_cons, List.length_nil, Nat.zero_add, Nat.reduceAdd, Nat.le_refl, Nat.reduceLeDiff, D.pub, D.pubs, Tryz.results58]
      exact ⟨_, rfl, rfl, rfl⟩
    · have h1' : ((i : Int) < (l.length : Int)) = False := eq_false (by omega)
      simp only [go_sem, contS_seq, simprocAttr, rows_len, h1']
      simp only [retK, fullK, iterK, resD, resA, AOp.ex, St.ev, Option.map_some, Option.bind_some, St.get, lk, reduceIte, Nat.reduceEqDiff, Option.getD_some, oneD, List.getElem?_cons_zero, List.getElem?_cons_succ, List.drop_zero, List.drop_succ_cons, List.take_succ_cons, List.take_zero, List.length_cons, List.length_nil, Nat.zero_add, Nat.reduceAdd, Nat.le_refl, Nat.reduceLeDiff, D.pub, D.pubs, Tryz.results58]
      exact ⟨_, rfl, rfl, rfl⟩

theorem law9_sides (l : List ASide) : Pure Tryz.prog 56 [.pd (.slice (rows ASide.pd l))] (fun d => d = .pd (.slice (rows ASide.pd (fewSides l)))) := by
  refine pure_of_run follows an_zg0x2 Tryz.func56 rfl ok_zg0x2 dst_zg0x2 (by simp [Tryz.ntmps56]) ?_
  rw [run_start]
  simp only [ac_zg0x2, go_sem, contS_seq, simprocAttr, rows_len]
  refine loopS (fun k st => ∃ i : Nat, k = 5 - i ∧ i ≤ 5 ∧ i ≤ l.length ∧
    st = ⟨[(0, .pd (.slice (rows ASide.pd l))), (3, .own 45 3 (rows ASide.pd ((l.take i).map fewSide)) 35), (4, int i)], [], [], .no⟩) 5 _
    ?_ ⟨0, rfl, by omega, by omega, rfl⟩ ?_
  · exact Weak.own1 3 35 45 3 (by kernel_rfl) (by decide) rfl (by simp [lessL, lk, St.purge, St.put, D.purge, rows]) (by simp [lessL, lk, St.purge, D.purges, D.purge]) (by simp [lessL]) rfl
  rintro k st ⟨i, rfl, hi6, hi, rfl⟩
  have hw := i64_succ (show i < 1000000000 by omega)
  by_cases hlt : i < l.length ∧ i < 5
  · obtain ⟨x, hx⟩ := at_lt hlt.1
    have h1 : ((i : Int) < (l.length : Int)) = True := eq_true (by omega)
    have h2 : ((i : Int) < 5) = True := eq_true (by omega)
    simp only [go_sem, contS_seq, simprocAttr, rows_len, rows_get hx, h1, h2]
    refine (law1_Few x.space).callX (enters_of Tryz.func22 rfl rfl) _ rfl rfl ?_
    rintro d rfl
    simp only [go_sem, contS_seq, simprocAttr, rows_len, rows_get hx]
    refine (law1_Few x.name).callX (enters_of Tryz.func22 rfl rfl) _ rfl rfl ?_
    rintro d rfl
    simp only [go_sem, contS_seq, simprocAttr, rows_len, rows_get hx, hw]
    have hl := few_len (f := ASide.pd) (g := fewSide) (l := l) hi6
    have hl' : ((l.take i).map fewSide).length ≤ i := by simp; omega
    have e1 : rows ASide.pd ((l.take i).map fewSide) ++ [[PD.raw (Value.int IntKind.i64 x.kind), PD.raw (Value.string (few x.space)), PD.raw (Value.string (few x.name))]] = rows ASide.pd ((l.take (i + 1)).map fewSide) := few_step hx
    rw [e1]
    refine ⟨by simp, by unfold maxLen; omega, by omega, 5 - (i + 1), _, by omega, ?_, i + 1, rfl, by omega, by omega, rfl⟩
    exact Weak.less (by simp [lessL, lk]) (by simp [lessL, lk]) (by simp [lessL, lk]) rfl
  · have h3 := few_end (g := fewSide) hi6 hi hlt
    rw [h3]
    by_cases h1 : i < l.length
    · have h1' : ((i : Int) < (l.length : Int)) = True := eq_true (by omega)
      have h2 : ((i : Int) < 5) = False := eq_false (by omega)
      simp only [go_sem, contS_seq, simprocAttr, rows_len, h1', h2]
      simp only [retK, fullK, iterK, resD, resA, AOp.ex, St.ev, Option.map_some, Option.bind_some, St.get, lk, reduceIte, Nat.reduceEqDiff, Option.getD_some, oneD, List.getElem?_cons_zero, List.getElem?_cons_succ, List.drop_zero, List.drop_succ_cons, List.take_succ_cons, List.take_zero, List.length_cons, List.length_nil, Nat.zero_add, Nat.reduceAdd, Nat.le_refl, Nat.reduceLeDiff, D.pub, D.pubs, Tryz.results56]
      exact ⟨_, rfl, rfl, rfl⟩
    · have h1' : ((i : Int) < (l.length : Int)) = False := eq_false (by omega)
      simp only [go_sem, contS_seq, simprocAttr, rows_len, h1']
      simp only [retK, fullK, iterK, resD, resA, AOp.ex, St.ev, Option.map_some, Option.bind_some, St.get, lk, reduceIte, Nat.reduceEqDiff, Option.getD_some, oneD, List.getElem?_cons_zero, List.getElem?_cons_succ, List.drop_zero, List.drop_succ_cons, List.take_succ_cons, List.take_zero, List.length_cons, List.length_nil, Nat.zero_add, Nat.reduceAdd, Nat.le_refl, Nat.reduceLeDiff, D.pub, D.pubs, Tryz.results56]
      exact ⟨_, rfl, rfl, rfl⟩

def fewMatch (m : AMatch) : AMatch := ⟨m.pkind, few m.pval, few m.method, fewPairs m.head, fewPairs m.query⟩

theorem law6_Few (m : AMatch) : Pure Tryz.prog 59 [m.d] (fun d => d = (fewMatch m).d) := by
  refine pure_of_run follows an_zt3fs Tryz.func59 rfl ok_zt3fs dst_zt3fs (by simp [Tryz.ntmps59]) ?_
  rw [run_start]
  simp only [ac_zt3fs, go_sem, contS_seq, simprocAttr]
  refine (law3_Few m.pkind m.pval).callX (enters_of Tryz.func93 rfl rfl) _ rfl rfl ?_
  rintro d rfl
  simp only [go_sem, contS_seq, simprocAttr]
  refine (law1_Few m.method).callX (enters_of Tryz.func22 rfl rfl) _ rfl rfl ?_
  rintro d rfl
  simp only [go_sem, contS_seq, simprocAttr]
  refine (law5_Few m.head).callX (enters_of Tryz.func55 rfl rfl) _ rfl rfl ?_
  rintro d rfl
  simp only [go_sem, contS_seq, simprocAttr]
  refine (law5_Few m.query).callX (enters_of Tryz.func55 rfl rfl) _ rfl rfl ?_
  rintro d rfl
  simp only [go_sem, contS_seq, simprocAttr]
  simp only [retK, fullK, iterK, resD, resA, AOp.ex, St.ev, Option.map_some, Option.bind_some, St.get, lk, reduceIte, Nat.reduceEqDiff, Option.getD_some, oneD, List.getElem?_cons_zero, List.getElem?_cons_succ, List.drop_zero, List.drop_succ_cons, List.take_succ_cons, List.take_zero, List.length_cons, List.length_nil, Nat.zero_add, Nat.reduceAdd, Nat.le_refl, Nat.reduceLeDiff, D.pub, D.pubs, ret_zt3fs]
  exact ⟨_, rfl, rfl, rfl⟩

def fewNeed (n : ANeed) : ANeed := ⟨n.kind, few n.name, (n.vals.take 9).map few⟩
def fewNeeds (l : List ANeed) : List ANeed := (l.take 9).map fewNeed

theorem law8_Few (l : List ANeed) : Pure Tryz.prog 57 [.pd (.slice (rows ANeed.pd l))] (fun d => d = .pd (.slice (rows ANeed.pd (fewNeeds l)))) := by
  refine pure_of_run follows an_zpih5 Tryz.func57 rfl ok_zpih5 dst_zpih5 (by simp [Tryz.ntmps57]) ?_
  rw [run_start]
  simp only [ac_zpih5, go_sem, contS_seq, simprocAttr, rows_len]
  refine loopS (fun k st => ∃ i : Nat, k = 9 - i ∧ i ≤ 9 ∧ i ≤ l.length ∧
    st = ⟨[(0, .pd (.slice (rows ANeed.pd l))), (3, .own 137 3 (rows ANeed.pd ((l.take i).map fewNeed)) 60), (4, int i)], [], [], .no⟩) 9 _
    ?_ ⟨0, rfl, by omega, by omega, rfl⟩ ?_
  · exact Weak.own1 3 60 137 3 (by kernel_rfl) (by decide) rfl (by simp [lessL, lk, St.purge, St.put, D.purge, rows]) (by simp [lessL, lk, St.purge, D.purges, D.purge]) (by simp [lessL]) rfl
  rintro k st ⟨i, rfl, hi6, hi, rfl⟩
  have hw := i64_succ (show i < 1000000000 by omega)
  by_cases hlt : i < l.length ∧ i < 9
  · obtain ⟨x, hx⟩ := at_lt hlt.1
    have h1 : ((i : Int) < (l.length : Int)) = True := eq_true (by omega)
    have h2 : ((i : Int) < 9) = True := eq_true (by omega)
    apply run_cut
    · intro K' hK
      simp only [go_sem, contS_seq, simprocAttr, rows_len, h1, h2]
      exact hK
    apply run_cut
    · intro K' hK
      rw [run_block]
      apply run_cut
      · intro K'' hK'
        simp only [go_sem, contS_seq, simprocAttr, rows_len, rows_get hx]
        repeat' (first | exact hK' | (refine (law1_Few x.name).callX (enters_of Tryz.func22 rfl rfl) _ rfl rfl ?_; rintro _ rfl; simp only [go_sem, contS_seq, simprocAttr, rows_len, rows_get hx]) | refine And.intro ?_ ?_)
      simp only [go_sem, contS_seq, simprocAttr]
      refine loopS (fun k st => ∃ j : Nat, k = 9 - j ∧ j ≤ 9 ∧ j ≤ x.vals.length ∧
        st = ⟨[(0, .pd (.slice (rows ANeed.pd l))), (3, .own 137 3 (rows ANeed.pd ((l.take i).map fewNeed)) 60), (4, int i), (5, .ptr 5 0), (6, int j)],
          [(5, [int x.kind, str (few x.name), .own 9 1 (strs ((x.vals.take j).map few)) 55])], [], .no⟩) 9 _
        ?_ ⟨0, rfl, by omega, by omega, rfl⟩ ?_
      · exact Weak.ownB 5 2 55 9 1 (by kernel_rfl) (by decide) rfl rfl (by simp [lessL, lk, St.purge, D.purge, rows]) (by simp [lessL, lk, St.purge, D.purges, D.purge, rows]) (by simp [lessL]) rfl
      rintro k st ⟨j, rfl, hj6, hj, rfl⟩
      have hwj := i64_succ (show j < 1000000000 by omega)
      by_cases hltj : j < x.vals.length ∧ j < 9
      · obtain ⟨v, hv⟩ := at_lt hltj.1
        have h1' : ((j : Int) < (x.vals.length : Int)) = True := eq_true (by omega)
        have h2' : ((j : Int) < 9) = True := eq_true (by omega)
        simp only [go_sem, contS_seq, simprocAttr, rows_len, rows_get hx, rows_get hv, h1', h2']
        refine (law1_Few v).callX (enters_of Tryz.func22 rfl rfl) _ rfl rfl ?_
        rintro d rfl
        simp only [go_sem, contS_seq, simprocAttr, rows_get hx, rows_get hv, hwj]
        have e1 : strs ((x.vals.take j).map few) ++ [[PD.raw (Value.string (few v))]] = strs ((x.vals.take (j + 1)).map few) := few_step hv
        have hl : (strs ((x.vals.take j).map few)).length ≤ 9 := few_len hj6
        rw [e1]
        refine ⟨by simp, by unfold maxLen; omega, by omega, 9 - (j + 1), _, by omega, ?_, j + 1, rfl, by omega, by omega, rfl⟩
        exact Weak.less (by simp [lessL, lk]) (by simp [lessL, lk]) (by simp [lessL, lk]) rfl
      · have h3 := few_end (g := few) hj6 hj hltj
        rw [h3]
        have hl' : ((l.take i).map fewNeed).length ≤ i := by simp; omega
        have e1 : rows ANeed.pd ((l.take i).map fewNeed) ++ [[pInt x.kind, pStr (few x.name), .slice (strs ((x.vals.take 9).map few))]] = rows ANeed.pd ((l.take (i + 1)).map fewNeed) := few_step hx
        by_cases h1 : j < x.vals.length
        · have h1' : ((j : Int) < (x.vals.length : Int)) = True := eq_true (by omega)
          have h2' : ((j : Int) < 9) = False := eq_false (by omega)
          simp only [go_sem, contS_seq, simprocAttr, rows_get hx, rows_len, h1', h2']
          refine ⟨by simp, by unfold maxLen; omega, by omega, ?_⟩
          rw [e1]
          exact hK
        · have h1' : ((j : Int) < (x.vals.length : Int)) = False := eq_false (by omega)
          simp only [go_sem, contS_seq, simprocAttr, rows_get hx, rows_len, h1']
          refine ⟨by simp, by unfold maxLen; omega, by omega, ?_⟩
          rw [e1]
          exact hK
    simp only [go_sem, contS_seq, simprocAttr, hw]
    refine ⟨9 - (i + 1), _, by omega, ?_, i + 1, rfl, by omega, by omega, rfl⟩
    exact Weak.less (by simp [lessL, lk]) (by simp [lessL, lk]) (by simp [lessL, lk]) rfl
  · have h3 := few_end (g := fewNeed) hi6 hi hlt
    rw [h3]
    by_cases h1 : i < l.length
    · have h1' : ((i : Int) < (l.length : Int)) = True := eq_true (by omega)
      have h2 : ((i : Int) < 9) = False := eq_false (by omega)
      simp only [go_sem, contS_seq, simprocAttr, rows_len, h1', h2]
      simp only [retK, fullK, iterK, resD, resA, AOp.ex, St.ev, Option.map_some, Option.bind_some, St.get, lk, reduceIte, Nat.reduceEqDiff, Option.getD_some, oneD, List.getElem?_cons_zero, List.getElem?_cons_succ, List.drop_zero, List.drop_succ_cons, List.take_succ_cons, List.take_zero, List.length_cons, List.length_nil, Nat.zero_add, Nat.reduceAdd, Nat.le_refl, Nat.reduceLeDiff, D.pub, D.pubs, Tryz.results57]
      exact ⟨_, rfl, rfl, rfl⟩
    · have h1' : ((i : Int) < (l.length : Int)) = False := eq_false (by omega)
      simp only [go_sem, contS_seq, simprocAttr, rows_len, h1']
      simp only [retK, fullK, iterK, resD, resA, AOp.ex, St.ev, Option.map_some, Option.bind_some, St.get, lk, reduceIte, Nat.reduceEqDiff, Option.getD_some, oneD, List.getElem?_cons_zero, List.getElem?_cons_succ, List.drop_zero, List.drop_succ_cons, List.take_succ_cons, List.take_zero, List.length_cons, List.length_nil, Nat.zero_add, Nat.reduceAdd, Nat.le_refl, Nat.reduceLeDiff, D.pub, D.pubs, Tryz.results57]
      exact ⟨_, rfl, rfl, rfl⟩

end Go.Proofs.YtjhomppadppfnaaGreatDoor
