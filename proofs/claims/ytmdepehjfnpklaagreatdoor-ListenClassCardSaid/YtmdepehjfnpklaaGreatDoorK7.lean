/- Texts of the prover's, joined: F9 FB FC FA D1 D2 E4 FD I0 DA I1 I2 E7 D6. -/
import Derived.Test.YtmdepehjfnpklaaGreatDoorK6
import Derived.Test.YtmdepehjfnpklaaGreatDoorProg
import Derived.KernelRfl

namespace Go.Proofs.YtmdepehjfnpklaaGreatDoor
open Go Go.RowKit
set_option linter.unusedSimpArgs false
set_option linter.unusedVariables false
set_option maxRecDepth 100000

def bytesLe (a b : ByteArray) : Bool := !Op.bytesLess b.toList a.toList

def labelsFrom (l : List APair) : Nat → Nat → Bool
  | 0, _ => true
  | k + 1, i => (match l[i]? with
    | some p => dname p.name && labValue p.val && (decide (i = 0) || (match l[i - 1]? with | some q => Op.bytesLess q.name.toList p.name.toList | none => false))
    | none => true) && labelsFrom l k (i + 1)

def labelsMay (l : List APair) : Bool := labelsFrom l l.length 0 && decide (l.length ≤ 8)

set_option maxHeartbeats 1000000 in
theorem label_May (l : List APair) (hl : l.length ≤ 1000000) : Pure Tryz.prog 46 [.pd (.slice (rows APair.pd l))] (fun d => d = bln (labelsMay l)) := by
  refine pure_of_run follows an_z2iq3 Tryz.func46 rfl ok_z2iq3 dst_z2iq3 (by simp [Tryz.ntmps46]) ?_
  rw [run_start]
  simp only [ac_z2iq3, go_sem, contS_seq, simprocAttr, rows_len]
  refine loopS (fun k st => ∃ i : Nat, k = l.length - i ∧ i ≤ l.length ∧ labelsFrom l k i = labelsFrom l l.length 0 ∧
    st = ⟨[(0, .pd (.slice (rows APair.pd l))), (5, .pd (.slice (rows APair.pd l))), (6, int l.length), (7, int i)], [], [], .no⟩) l.length _ (Weak.refl _ _) ⟨0, rfl, Nat.zero_le _, rfl, rfl⟩ ?_
  rintro k st ⟨i, rfl, hi, hr, rfl⟩
  by_cases hlt : i < l.length
  · obtain ⟨x, hx⟩ := at_lt hlt
    have hlt' : ((i : Int) < (l.length : Int)) = True := eq_true (by omega)
    have hw := i64_succ (show i < 1000000000 by omega)
    obtain ⟨m, hm⟩ : ∃ m, l.length - i = m + 1 := ⟨l.length - i - 1, by omega⟩
    rw [hm, labelsFrom, hx] at hr
    have bad : labelsFrom l l.length 0 = false → labelsMay l = false := fun h => by simp [labelsMay, h]
    have good : ∀ st, Weak Tryz.prog st ⟨[(0, .pd (.slice (rows APair.pd l))), (5, .pd (.slice (rows APair.pd l))), (6, int l.length), (7, int (i + 1 : Nat))], [], [], .no⟩ → labelsFrom l m (i + 1) = labelsFrom l l.length 0 →
        Round Tryz.prog (fun k st => ∃ i : Nat, k = l.length - i ∧ i ≤ l.length ∧ labelsFrom l k i = labelsFrom l l.length 0 ∧
          st = ⟨[(0, .pd (.slice (rows APair.pd l))), (5, .pd (.slice (rows APair.pd l))), (6, int l.length), (7, int i)], [], [], .no⟩) (l.length - i) st := fun st hst hr =>
      ⟨m, _, by omega, hst, i + 1, by omega, by omega, hr, rfl⟩
    simp (maxSteps := 2000000) only [go_sem, contS_seq, simprocAttr, go_sem, hlt', rows_get hx, rows_len]
    refine (dns_Name x.name).callX (enters_of Tryz.func53 rfl rfl) _ rfl rfl ?_
    rintro d rfl
    simp (maxSteps := 2000000) only [go_sem, contS_seq, simprocAttr, go_sem, rows_len]
    refine Gif.mk (fun h1 => ?_) (fun h1 => ?_)
    · refine (label_value x.val).callX (enters_of Tryz.func83 rfl rfl) _ rfl rfl ?_
      rintro d rfl
      by_cases hi0 : 0 < i
      · obtain ⟨q, hq⟩ := at_lt (show i - 1 < l.length by omega)
        have h0 : ((0 : Int) < (i : Int)) = True := eq_true (by omega)
        have hw1 : IntKind.i64.wrap ((i : Int) - 1) = ((i - 1 : Nat) : Int) := by rw [IntWalk.i64_in _ (by omega)]; omega
        simp (maxSteps := 2000000) only [go_sem, contS_seq, simprocAttr, go_sem, rows_len, h0, hw1, rows_get hq, hw]
        refine Gif.mk (fun h2 => ?_) (fun h2 => ?_)
        · refine Gif.mk (fun h3 => ?_) (fun h3 => ?_)
          · refine good _ (Weak.less (by simp [lessL, lk]) (by simp [lessL, lk]) (by simp [lessL, lk]) rfl) ?_
            simpa [h1, h2, h3, hq] using hr
          · simp only [retK, fullK, iterK, resD, resA, AOp.ex, St.ev, Option.map_some, Option.bind_some, St.get, lk, reduceIte, Nat.reduceEqDiff, Option.getD_some, oneD, List.getElem?_cons_zero, List.getElem?_cons_succ, List.drop_zero, List.drop_succ_cons, List.take_succ_cons, List.take_zero, List.length_cons, List.length_nil, Nat.zero_add, Nat.reduceAdd, Nat.le_refl, Nat.reduceLeDiff, D.pub, D.pubs, Tryz.results46]
            refine ⟨_, rfl, rfl, congrArg bln (bad ?_).symm⟩
            rw [← hr]; simp [h1, h2, h3, hq]; omega
        · simp only [retK, fullK, iterK, resD, resA, AOp.ex, St.ev, Option.map_some, Option.bind_some, St.get, lk, reduceIte, Nat.reduceEqDiff, Option.getD_some, oneD, List.getElem?_cons_zero, List.getElem?_cons_succ, List.drop_zero, List.drop_succ_cons, List.take_succ_cons, List.take_zero, List.length_cons, List.length_nil, Nat.zero_add, Nat.reduceAdd, Nat.le_refl, Nat.reduceLeDiff, D.pub, D.pubs, Tryz.results46]
          refine ⟨_, rfl, rfl, congrArg bln (bad ?_).symm⟩
          rw [← hr]; simp [h1, h2]
      · have h0 : ((0 : Int) < (i : Int)) = False := eq_false (by omega)
        simp (maxSteps := 2000000) only [go_sem, contS_seq, simprocAttr, go_sem, rows_len, h0, hw]
        refine Gif.mk (fun h2 => ?_) (fun h2 => ?_)
        · refine good _ (Weak.less (by simp [lessL, lk]) (by simp [lessL, lk]) (by simp [lessL, lk]) rfl) ?_
          simpa [h1, h2, show i = 0 by omega] using hr
        · simp only [retK, fullK, iterK, resD, resA, AOp.ex, St.ev, Option.map_some, Option.bind_some, St.get, lk, reduceIte, Nat.reduceEqDiff, Option.getD_some, oneD, List.getElem?_cons_zero, List.getElem?_cons_succ, List.drop_zero, List.drop_succ_cons, List.take_succ_cons, List.take_zero, List.length_cons, List.length_nil, Nat.zero_add, Nat.reduceAdd, Nat.le_refl, Nat.reduceLeDiff, D.pub, D.pubs, Tryz.results46]
          refine ⟨_, rfl, rfl, congrArg bln (bad ?_).symm⟩
          rw [← hr]; simp [h1, h2]
    · simp only [retK, fullK, iterK, resD, resA, AOp.ex, St.ev, Option.map_some, Option.bind_some, St.get, lk, reduceIte, Nat.reduceEqDiff, Option.getD_some, oneD, List.getElem?_cons_zero, List.getElem?_cons_succ, List.drop_zero, List.drop_succ_cons, List.take_succ_cons, List.take_zero, List.length_cons, List.length_nil, Nat.zero_add, Nat.reduceAdd, Nat.le_refl, Nat.reduceLeDiff, D.pub, D.pubs, Tryz.results46]
      refine ⟨_, rfl, rfl, congrArg bln (bad ?_).symm⟩
      rw [← hr]; simp [h1]
  · have hlt' : ((i : Int) < (l.length : Int)) = False := eq_false (by omega)
    rw [show l.length - i = 0 by omega, labelsFrom] at hr
    simp only [go_sem, contS_seq, simprocAttr, rows_len, hlt']
    repeat' (first | refine GifP.mk (fun _ => ?_) (fun _ => ?_) | refine Gif.mk (fun _ => ?_) (fun _ => ?_))
    all_goals
      simp only [retK, fullK, iterK, resD, resA, AOp.ex, St.ev, Option.map_some, Option.bind_some, St.get, lk, reduceIte, Nat.reduceEqDiff, Option.getD_some, oneD, List.getElem?_cons_zero, List.getElem?_cons_succ, List.drop_zero, List.drop_succ_cons, List.take_succ_cons, List.take_zero, List.length_cons, List.length_nil, Nat.zero_add, Nat.reduceAdd, Nat.le_refl, Nat.reduceLeDiff, D.pub, D.pubs, Tryz.results46]
      exact ⟨_, rfl, rfl, congrArg bln (by first | rfl | (rw [Bool.eq_iff_iff]; simp only [labelsMay, ← hr]; simp; done) | (rw [Bool.eq_iff_iff]; simp only [labelsMay, ← hr]; simp; omega) | (rw [Bool.eq_iff_iff]; simp only [labelsMay, ← hr]; simp [*]; done) | (rw [Bool.eq_iff_iff]; simp only [labelsMay, ← hr]; simp [*]; omega) | (simp_all [labelsMay, ← hr]; done) | (exfalso; omega))⟩

def sortFrom (l : List Int) : Nat → Bool
  | 0 => true
  | i + 1 => (match l[i + 1]?, l[i]? with
    | some a, some b => !intLess a b
    | _, _ => true) && sortFrom l i

def sortedInts (l : List Int) : Bool := sortFrom l (l.length - 1)

theorem slices_IsSorted_int (l : List Int) (hl : l.length ≤ 1000000) : Pure Tryz.prog 49 [.pd (.slice (ints l))] (fun d => d = bln (sortedInts l)) := by
  refine pure_of_run follows an_zhfyj Tryz.func49 rfl ok_zhfyj dst_zhfyj (by simp [Tryz.ntmps49]) ?_
  rw [run_start]
  have hw0 : IntKind.i64.wrap ((l.length : Int) - 1) = (l.length : Int) - 1 := IntWalk.i64_in _ (by omega)
  simp only [ac_zhfyj, go_sem, contS_seq, simprocAttr, go_sem, rows_len, hw0]
  refine loopS (fun k st => ∃ i : Int, k = i.toNat ∧ -1 ≤ i ∧ i < (l.length : Int) ∧ sortFrom l i.toNat = sortedInts l ∧
    st = ⟨[(0, .pd (.slice (ints l))), (3, int i)], [], [], .no⟩) ((l.length : Int) - 1).toNat _ (Weak.refl _ _) ⟨(l.length : Int) - 1, rfl, by omega, by omega, by
      rw [sortedInts]; congr 1; omega, rfl⟩ ?_
  rintro k st ⟨i, rfl, hi, hi2, hr, rfl⟩
  by_cases hlt : 0 < i
  · obtain ⟨j, rfl⟩ : ∃ j : Nat, i = (j + 1 : Nat) := ⟨(i - 1).toNat, by omega⟩
    obtain ⟨x, hx⟩ := at_lt (show j + 1 < l.length by omega)
    obtain ⟨y, hy⟩ := at_lt (show j < l.length by omega)
    have hlt' : ((0 : Int) < ((j + 1 : Nat) : Int)) = True := eq_true (by omega)
    have hw : IntKind.i64.wrap (((j + 1 : Nat) : Int) - 1) = (j : Int) := by rw [IntWalk.i64_in _ (by omega)]; omega
    rw [Int.toNat_natCast, sortFrom, hx, hy] at hr
    simp only [go_sem, contS_seq, simprocAttr, go_sem, hlt', rows_get hx, rows_get hy, hw]
    refine (cmp_Less x y).callX (enters_of Tryz.func86 rfl rfl) _ rfl rfl ?_
    rintro d rfl
    simp only [go_sem, contS_seq, simprocAttr, go_sem, hw]
    refine Gif.mk (fun h => ?_) (fun h => ?_)
    · simp only [h, Bool.not_true, Bool.false_and] at hr
      simp only [retK, fullK, iterK, resD, resA, AOp.ex, St.ev, Option.map_some, Option.bind_some, St.get, lk, reduceIte, Nat.reduceEqDiff, Option.getD_some, oneD, List.getElem?_cons_zero, List.getElem?_cons_succ, List.drop_zero, List.drop_succ_cons, List.take_succ_cons, List.take_zero, List.length_cons, List.length_nil, Nat.zero_add, Nat.reduceAdd, Nat.le_refl, Nat.reduceLeDiff, D.pub, D.pubs, Tryz.results49]
      exact ⟨_, rfl, rfl, congrArg bln hr⟩
    · simp only [h, Bool.not_false, Bool.true_and] at hr
      refine ⟨j, _, ?_, ?_, (j : Int), by simp, by omega, by omega, by simpa using hr, rfl⟩
      · omega
      · exact Weak.less (by simp [lessL, lk]) (by simp [lessL, lk]) (by simp [lessL, lk]) rfl
  · have hlt' : ((0 : Int) < i) = False := eq_false hlt
    rw [show i.toNat = 0 by omega, sortFrom] at hr
    simp only [go_sem, contS_seq, simprocAttr, go_sem, hlt']
    simp only [retK, fullK, iterK, resD, resA, AOp.ex, St.ev, Option.map_some, Option.bind_some, St.get, lk, reduceIte, Nat.reduceEqDiff, Option.getD_some, oneD, List.getElem?_cons_zero, List.getElem?_cons_succ, List.drop_zero, List.drop_succ_cons, List.take_succ_cons, List.take_zero, List.length_cons, List.length_nil, Nat.zero_add, Nat.reduceAdd, Nat.le_refl, Nat.reduceLeDiff, D.pub, D.pubs, Tryz.results49]
    exact ⟨_, rfl, rfl, congrArg bln hr⟩

structure AObj.ok (o : AObj) : Prop where
  la : o.labels.length ≤ 1000000
  po : o.ports.length ≤ 1000000
  li : o.listeners.length ≤ 1000000
  pa : o.parents.length ≤ 1000000
  ho : o.hosts.length ≤ 1000000
  ru : o.rules.length ≤ 1000000
  fr : o.from_.length ≤ 1000000
  to : o.to_.length ≤ 1000000
  lis : ∀ x ∈ o.listeners, x.ok
  rus : ∀ x ∈ o.rules, x.ok

abbrev AObj.ds (o : AObj) : List D := [int o.ref.kind, str o.ref.space, str o.ref.name, bln o.good, .pd (.slice (rows APair.pd o.labels)), .pd (.slice (ints o.ports)), str o.cls, .pd (.slice (rows AListener.pd o.listeners)),
  .pd (.slice (rows AParent.pd o.parents)), .pd (.slice (strs o.hosts)), .pd (.slice (rows ARule.pd o.rules)), .pd (.slice (rows ASide.pd o.from_)), .pd (.slice (rows ASide.pd o.to_))]


theorem thing_class (o : AObj) : Full Tryz.prog 35 [.ptr 500001 0] [(500001, o.ds)] true (fun d bs => d = bln true ∧ bs = [(500001,
    [int o.ref.kind, str o.ref.space, str o.ref.name, bln false, .pd (.slice (rows APair.pd o.labels)), .pd (.slice (ints o.ports)), str o.cls, .pd (.slice (rows AListener.pd o.listeners)),
      .pd (.slice (rows AParent.pd o.parents)), .pd (.slice (strs o.hosts)), .pd (.slice (rows ARule.pd o.rules)), .pd (.slice (rows ASide.pd o.from_)), .pd (.slice (rows ASide.pd o.to_))])]) := by
  refine full_of_run follows an_zk71m Tryz.func35 rfl ok_zk71m dst_zk71m (by simp [Tryz.ntmps35]) (by simp [Tryz.ntmps35]) (.inl rfl) ?_
  rw [run_start]
  simp only [ac_zk71m, go_sem, contS_seq, simprocAttr]
  simp only [retK, fullK, iterK, resD, resA, AOp.ex, St.ev, Option.map_some, Option.bind_some, St.get, lk, reduceIte, Nat.reduceEqDiff, Option.getD_some, oneD, List.getElem?_cons_zero, List.getElem?_cons_succ, List.drop_zero, List.drop_succ_cons, List.take_succ_cons, List.take_zero, List.length_cons, List.length_nil, Nat.zero_add, Nat.reduceAdd, Nat.le_refl, Nat.reduceLeDiff, D.pub, D.pubs, Tryz.results35]
  exact ⟨_, _, rfl, by simp [lessL, lk], rfl, rfl⟩

theorem thing_space (o : AObj) (h : o.ok) : Full Tryz.prog 36 [.ptr 500001 0] [(500001, o.ds)] true (fun d bs => d = bln (labelsMay o.labels) ∧ bs = [(500001,
    [int o.ref.kind, str o.ref.space, str o.ref.name, bln o.good, .nils, .pd (.slice (ints o.ports)), str o.cls, .pd (.slice (rows AListener.pd o.listeners)),
      .pd (.slice (rows AParent.pd o.parents)), .pd (.slice (strs o.hosts)), .pd (.slice (rows ARule.pd o.rules)), .pd (.slice (rows ASide.pd o.from_)), .pd (.slice (rows ASide.pd o.to_))])]) := by
  refine full_of_run follows an_zag3z Tryz.func36 rfl ok_zag3z dst_zag3z (by simp [Tryz.ntmps36]) (by simp [Tryz.ntmps36]) (.inl rfl) ?_
  rw [run_start]
  simp only [ac_zag3z, go_sem, contS_seq, simprocAttr]
  refine (label_May o.labels h.la).callW (enters_of Tryz.func46 rfl rfl) _ rfl rfl ?_
  rintro d rfl
  simp only [go_sem, contS_seq, simprocAttr]
  simp only [retK, fullK, iterK, resD, resA, AOp.ex, St.ev, Option.map_some, Option.bind_some, St.get, lk, reduceIte, Nat.reduceEqDiff, Option.getD_some, oneD, List.getElem?_cons_zero, List.getElem?_cons_succ, List.drop_zero, List.drop_succ_cons, List.take_succ_cons, List.take_zero, List.length_cons, List.length_nil, Nat.zero_add, Nat.reduceAdd, Nat.le_refl, Nat.reduceLeDiff, D.pub, D.pubs, Tryz.results36]
  exact ⟨_, _, rfl, by simp [lessL, lk], rfl, rfl⟩

def serviceMay (l : List Int) : Bool := decide (0 < l.length) && every oport l 8 && sortedInts l && !twice intSame l

theorem thing_service (o : AObj) (h : o.ok) : Full Tryz.prog 37 [.ptr 500001 0] [(500001, o.ds)] true (fun d bs => d = bln (serviceMay o.ports) ∧ bs = [(500001,
    [int o.ref.kind, str o.ref.space, str o.ref.name, bln o.good, .pd (.slice (rows APair.pd o.labels)), .nils, str o.cls, .pd (.slice (rows AListener.pd o.listeners)),
      .pd (.slice (rows AParent.pd o.parents)), .pd (.slice (strs o.hosts)), .pd (.slice (rows ARule.pd o.rules)), .pd (.slice (rows ASide.pd o.from_)), .pd (.slice (rows ASide.pd o.to_))])]) := by
  refine full_of_run follows an_zxlfl Tryz.func37 rfl ok_zxlfl dst_zxlfl (by simp [Tryz.ntmps37]) (by simp [Tryz.ntmps37]) (.inl rfl) ?_
  rw [run_start]
  simp only [ac_zxlfl, go_sem, contS_seq, simprocAttr, rows_len]
  (repeat' (first | (refine GifP.mk (fun _ => ?_) (fun _ => ?_)) | (refine Gif.mk (fun _ => ?_) (fun _ => ?_)) | ((first | refine (every_int oport _ (enters_of Tryz.func48 rfl rfl) o.ports h.po 8 (fun x _ => object_port x)).callW (enters_of Tryz.func47 rfl rfl) _ rfl rfl ?_ | refine (slices_IsSorted_int o.ports h.po).callW (enters_of Tryz.func49 rfl rfl) _ rfl rfl ?_ | refine (twice_int intSame _ (enters_of Tryz.func51 rfl rfl) o.ports h.po (fun x _ y _ => thing_service_1 x y)).callW (enters_of Tryz.func50 rfl rfl) _ rfl rfl ?_); rintro _ rfl; try simp only [go_sem, contS_seq, simprocAttr]))) <;> (simp only [retK, fullK, iterK, resD, resA, AOp.ex, St.ev, Option.map_some, Option.bind_some, St.get, lk, reduceIte, Nat.reduceEqDiff, Option.getD_some, oneD, List.getElem?_cons_zero, List.getElem?_cons_succ, List.drop_zero, List.drop_succ_cons, List.take_succ_cons, List.take_zero, List.length_cons, List.length_nil, Nat.zero_add, Nat.reduceAdd, Nat.le_refl, Nat.reduceLeDiff, D.pub, D.pubs, Tryz.results37]; exact ⟨_, _, rfl, by simp [lessL, lk], congrArg bln (by first | rfl | (rw [Bool.eq_iff_iff]; simp only [serviceMay]; simp; done) | (rw [Bool.eq_iff_iff]; simp only [serviceMay]; simp; omega) | (rw [Bool.eq_iff_iff]; simp only [serviceMay]; simp [*]; done) | (rw [Bool.eq_iff_iff]; simp only [serviceMay]; simp [*]; omega) | (simp_all [serviceMay]; done) | (exfalso; omega)), rfl⟩)

def gatewayMay (s : ByteArray) (l : List AListener) : Bool := dname s && decide (0 < l.length) && every listenerMay l 8 && !twice lisName l

theorem thing_gateway (o : AObj) (h : o.ok) : Full Tryz.prog 38 [.ptr 500001 0] [(500001, o.ds)] true (fun d bs => d = bln (gatewayMay o.cls o.listeners) ∧ bs = [(500001,
    [int o.ref.kind, str o.ref.space, str o.ref.name, bln o.good, .pd (.slice (rows APair.pd o.labels)), .pd (.slice (ints o.ports)), str ⟨#[]⟩, .nils,
      .pd (.slice (rows AParent.pd o.parents)), .pd (.slice (strs o.hosts)), .pd (.slice (rows ARule.pd o.rules)), .pd (.slice (rows ASide.pd o.from_)), .pd (.slice (rows ASide.pd o.to_))])]) := by
  refine full_of_run follows an_zqquk Tryz.func38 rfl ok_zqquk dst_zqquk (by simp [Tryz.ntmps38]) (by simp [Tryz.ntmps38]) (.inl rfl) ?_
  rw [run_start]
  simp only [ac_zqquk, go_sem, contS_seq, simprocAttr, go_sem, rows_len]
  (repeat' (first | (refine GifP.mk (fun _ => ?_) (fun _ => ?_)) | (refine Gif.mk (fun _ => ?_) (fun _ => ?_)) | ((first | refine (dns_Name _).callW (enters_of Tryz.func53 rfl rfl) _ rfl rfl ?_ | refine (every_Listener listenerMay _ (enters_of Tryz.func55 rfl rfl) o.listeners h.li 8 (fun x hx => object_listener x (h.lis x hx))).callW (enters_of Tryz.func54 rfl rfl) _ rfl rfl ?_ | refine (twice_Listener lisName _ (enters_of Tryz.func52 rfl rfl) o.listeners h.li (fun x _ y _ => thing_gateway_1 x y)).callW (enters_of Tryz.func56 rfl rfl) _ rfl rfl ?_); rintro _ rfl; try simp only [go_sem, contS_seq, simprocAttr, rows_len]))) <;> (simp only [retK, fullK, iterK, resD, resA, AOp.ex, St.ev, Option.map_some, Option.bind_some, St.get, lk, reduceIte, Nat.reduceEqDiff, Option.getD_some, oneD, List.getElem?_cons_zero, List.getElem?_cons_succ, List.drop_zero, List.drop_succ_cons, List.take_succ_cons, List.take_zero, List.length_cons, List.length_nil, Nat.zero_add, Nat.reduceAdd, Nat.le_refl, Nat.reduceLeDiff, D.pub, D.pubs, Tryz.results38]; exact ⟨_, _, rfl, by simp [lessL, lk], congrArg bln (by first | rfl | (rw [Bool.eq_iff_iff]; simp only [gatewayMay]; simp; done) | (rw [Bool.eq_iff_iff]; simp only [gatewayMay]; simp; omega) | (rw [Bool.eq_iff_iff]; simp only [gatewayMay]; simp [*]; done) | (rw [Bool.eq_iff_iff]; simp only [gatewayMay]; simp [*]; omega) | (simp_all [gatewayMay]; done) | (exfalso; omega)), rfl⟩)

def routeMay (ps : List AParent) (hs : List ByteArray) (rs : List ARule) : Bool :=
  !(twice parSame ps || twice strSame hs) && every parentMay ps 4 && every patMay hs 4 && every ruleMay rs 6

theorem thing_route (o : AObj) (h : o.ok) : Full Tryz.prog 39 [.ptr 500001 0] [(500001, o.ds)] true (fun d bs => d = bln (routeMay o.parents o.hosts o.rules) ∧ bs = [(500001,
    [int o.ref.kind, str o.ref.space, str o.ref.name, bln o.good, .pd (.slice (rows APair.pd o.labels)), .pd (.slice (ints o.ports)), str o.cls, .pd (.slice (rows AListener.pd o.listeners)),
      .nils, .nils, .nils, .pd (.slice (rows ASide.pd o.from_)), .pd (.slice (rows ASide.pd o.to_))])]) := by
  refine full_of_run follows an_ztpho Tryz.func39 rfl ok_ztpho dst_ztpho (by simp [Tryz.ntmps39]) (by simp [Tryz.ntmps39]) (.inl rfl) ?_
  rw [run_start]
  simp (maxSteps := 5000000) only [ac_ztpho, go_sem, contS_seq, simprocAttr, go_sem, rows_len]
  (repeat' (first | (refine GifP.mk (fun _ => ?_) (fun _ => ?_)) | (refine Gif.mk (fun _ => ?_) (fun _ => ?_)) | ((first | refine (twice_Parent parSame _ (enters_of Tryz.func58 rfl rfl) o.parents h.pa (fun x _ y _ => thing_route_1 x y)).callW (enters_of Tryz.func57 rfl rfl) _ rfl rfl ?_ | refine (twice_string strSame _ (enters_of Tryz.func60 rfl rfl) o.hosts h.ho (fun x _ y _ => thing_route_2 x y)).callW (enters_of Tryz.func59 rfl rfl) _ rfl rfl ?_ | refine (every_Parent parentMay _ (enters_of Tryz.func64 rfl rfl) o.parents h.pa 4 (fun x _ => object_parent x)).callW (enters_of Tryz.func63 rfl rfl) _ rfl rfl ?_ | refine (every_string patMay _ (enters_of Tryz.func61 rfl rfl) o.hosts h.ho 4 (fun x _ => thing_route_3 x)).callW (enters_of Tryz.func65 rfl rfl) _ rfl rfl ?_ | refine (every_Rule ruleMay _ (enters_of Tryz.func67 rfl rfl) o.rules h.ru 6 (fun x hx => object_ruled x (h.rus x hx))).callW (enters_of Tryz.func66 rfl rfl) _ rfl rfl ?_); rintro _ rfl; try simp only [go_sem, contS_seq, simprocAttr, rows_len]))) <;> (simp only [retK, fullK, iterK, resD, resA, AOp.ex, St.ev, Option.map_some, Option.bind_some, St.get, lk, reduceIte, Nat.reduceEqDiff, Option.getD_some, oneD, List.getElem?_cons_zero, List.getElem?_cons_succ, List.drop_zero, List.drop_succ_cons, List.take_succ_cons, List.take_zero, List.length_cons, List.length_nil, Nat.zero_add, Nat.reduceAdd, Nat.le_refl, Nat.reduceLeDiff, D.pub, D.pubs, Tryz.results39]; exact ⟨_, _, rfl, by simp [lessL, lk], congrArg bln (by first | rfl | (rw [Bool.eq_iff_iff]; simp only [routeMay]; simp; done) | (rw [Bool.eq_iff_iff]; simp only [routeMay]; simp; omega) | (rw [Bool.eq_iff_iff]; simp only [routeMay]; simp [*]; done) | (rw [Bool.eq_iff_iff]; simp only [routeMay]; simp [*]; omega) | (simp_all [routeMay]; done) | (exfalso; omega)), rfl⟩)

def grantMay (f t : List ASide) : Bool := decide (0 < f.length) && decide (0 < t.length) && every sideFrom f 4 && every sideTo t 4

theorem thing_grant (o : AObj) (h : o.ok) : Full Tryz.prog 40 [.ptr 500001 0] [(500001, o.ds)] true (fun d bs => d = bln (grantMay o.from_ o.to_) ∧ bs = [(500001,
    [int o.ref.kind, str o.ref.space, str o.ref.name, bln o.good, .pd (.slice (rows APair.pd o.labels)), .pd (.slice (ints o.ports)), str o.cls, .pd (.slice (rows AListener.pd o.listeners)),
      .pd (.slice (rows AParent.pd o.parents)), .pd (.slice (strs o.hosts)), .pd (.slice (rows ARule.pd o.rules)), .nils, .nils])]) := by
  refine full_of_run follows an_zlbax Tryz.func40 rfl ok_zlbax dst_zlbax (by simp [Tryz.ntmps40]) (by simp [Tryz.ntmps40]) (.inl rfl) ?_
  rw [run_start]
  simp only [ac_zlbax, go_sem, contS_seq, simprocAttr, go_sem, rows_len]
  (repeat' (first | (refine GifP.mk (fun _ => ?_) (fun _ => ?_)) | (refine Gif.mk (fun _ => ?_) (fun _ => ?_)) | ((first | refine (every_Side sideFrom _ (enters_of Tryz.func68 rfl rfl) o.from_ h.fr 4 (fun x _ => thing_grant_1 x)).callW (enters_of Tryz.func72 rfl rfl) _ rfl rfl ?_ | refine (every_Side sideTo _ (enters_of Tryz.func71 rfl rfl) o.to_ h.to 4 (fun x _ => thing_grant_2 x)).callW (enters_of Tryz.func72 rfl rfl) _ rfl rfl ?_); rintro _ rfl; try simp only [go_sem, contS_seq, simprocAttr, rows_len]))) <;> (simp only [retK, fullK, iterK, resD, resA, AOp.ex, St.ev, Option.map_some, Option.bind_some, St.get, lk, reduceIte, Nat.reduceEqDiff, Option.getD_some, oneD, List.getElem?_cons_zero, List.getElem?_cons_succ, List.drop_zero, List.drop_succ_cons, List.take_succ_cons, List.take_zero, List.length_cons, List.length_nil, Nat.zero_add, Nat.reduceAdd, Nat.le_refl, Nat.reduceLeDiff, D.pub, D.pubs, Tryz.results40]; exact ⟨_, _, rfl, by simp [lessL, lk], congrArg bln (by first | rfl | (rw [Bool.eq_iff_iff]; simp only [grantMay]; simp; done) | (rw [Bool.eq_iff_iff]; simp only [grantMay]; simp; omega) | (rw [Bool.eq_iff_iff]; simp only [grantMay]; simp [*]; done) | (rw [Bool.eq_iff_iff]; simp only [grantMay]; simp [*]; omega) | (simp_all [grantMay]; done) | (exfalso; omega)), rfl⟩)


def objSame (a b : AObj) : Bool :=
  decide (a.ref = b.ref) && (a.good == b.good) && decide (a.cls = b.cls) && decide (a.labels = b.labels) && decide (a.ports = b.ports) && decide (a.hosts = b.hosts) && decide (a.parents = b.parents) && decide (a.from_ = b.from_) && decide (a.to_ = b.to_) &&
  eqf listenerSame a.listeners b.listeners && eqf ruleSame a.rules b.rules

set_option maxHeartbeats 1000000 in
theorem object_Same (a b : AObj) (ha : a.ok) (hb : b.ok) : Pure Tryz.prog 42 [a.d, b.d] (fun d => d = bln (objSame a b)) := by
  refine pure_of_run follows an_zhbvt Tryz.func42 rfl ok_zhbvt dst_zhbvt (by simp [Tryz.ntmps42]) ?_
  rw [run_start]
  simp only [ac_zhbvt, go_sem, contS_seq, simprocAttr, eqVs, eqV, eq_Ref]
  (repeat' (first | (refine GifP.mk (fun _ => ?_) (fun _ => ?_)) | (refine Gif.mk (fun _ => ?_) (fun _ => ?_)) | ((first | refine (Equal_Pair a.labels b.labels ha.la hb.la).callW (enters_of Tryz.func73 rfl rfl) _ rfl rfl ?_ | refine (Equal_int a.ports b.ports ha.po hb.po).callW (enters_of Tryz.func74 rfl rfl) _ rfl rfl ?_ | refine (Equal_string a.hosts b.hosts ha.ho hb.ho).callW (enters_of Tryz.func75 rfl rfl) _ rfl rfl ?_ | refine (Equal_Parent a.parents b.parents ha.pa hb.pa).callW (enters_of Tryz.func76 rfl rfl) _ rfl rfl ?_ | refine (Equal_Side a.from_ b.from_ ha.fr hb.fr).callW (enters_of Tryz.func77 rfl rfl) _ rfl rfl ?_ | refine (Equal_Side a.to_ b.to_ ha.to hb.to).callW (enters_of Tryz.func77 rfl rfl) _ rfl rfl ?_ | refine (EqualFunc_Listener listenerSame _ (enters_of Tryz.func79 rfl rfl) a.listeners b.listeners ha.li hb.li (fun x hx y hy => object_sameListener x y (ha.lis x hx) (hb.lis y hy))).callW (enters_of Tryz.func78 rfl rfl) _ rfl rfl ?_ | refine (EqualFunc_Rule ruleSame _ (enters_of Tryz.func81 rfl rfl) a.rules b.rules ha.ru hb.ru (fun x hx y hy => object_sameRule x y (ha.rus x hx) (hb.rus y hy))).callW (enters_of Tryz.func80 rfl rfl) _ rfl rfl ?_); rintro _ rfl; try simp only [go_sem, contS_seq, simprocAttr, eqVs, eqV, eq_Ref]))) <;> (simp only [retK, fullK, iterK, resD, resA, AOp.ex, St.ev, Option.map_some, Option.bind_some, St.get, lk, reduceIte, Nat.reduceEqDiff, Option.getD_some, oneD, List.getElem?_cons_zero, List.getElem?_cons_succ, List.drop_zero, List.drop_succ_cons, List.take_succ_cons, List.take_zero, List.length_cons, List.length_nil, Nat.zero_add, Nat.reduceAdd, Nat.le_refl, Nat.reduceLeDiff, D.pub, D.pubs, Tryz.results42]; exact ⟨_, rfl, rfl, congrArg bln (by first | rfl | (rw [Bool.eq_iff_iff]; simp only [objSame]; simp; done) | (rw [Bool.eq_iff_iff]; simp only [objSame]; simp; omega) | (rw [Bool.eq_iff_iff]; simp only [objSame]; simp [*]; done) | (rw [Bool.eq_iff_iff]; simp only [objSame]; simp [*]; omega) | (simp_all [objSame]; done) | (exfalso; omega))⟩)


def AObj.zero (r : ARef) : AObj := ⟨r, false, [], [], ⟨#[]⟩, [], [], [], [], [], []⟩

theorem AObj.zero_ok (r : ARef) : (AObj.zero r).ok := ⟨by simp [AObj.zero], by simp [AObj.zero], by simp [AObj.zero], by simp [AObj.zero], by simp [AObj.zero], by simp [AObj.zero], by simp [AObj.zero], by simp [AObj.zero], by simp [AObj.zero], by simp [AObj.zero]⟩

def AObj.strip (o : AObj) : AObj :=
  if o.ref.kind = 1 ∨ o.ref.kind = 4 then { o with good := false }
  else if o.ref.kind = 2 then { o with labels := [] }
  else if o.ref.kind = 3 then { o with ports := [] }
  else if o.ref.kind = 5 then { o with listeners := [], cls := ⟨#[]⟩ }
  else if o.ref.kind = 6 then { o with parents := [], hosts := [], rules := [] }
  else { o with from_ := [], to_ := [] }

def kindMay (o : AObj) : Bool :=
  if o.ref.kind = 1 ∨ o.ref.kind = 4 then true
  else if o.ref.kind = 2 then labelsMay o.labels
  else if o.ref.kind = 3 then serviceMay o.ports
  else if o.ref.kind = 5 then gatewayMay o.cls o.listeners
  else if o.ref.kind = 6 then routeMay o.parents o.hosts o.rules
  else grantMay o.from_ o.to_

def objMay (o : AObj) : Bool := mayRef o.ref && kindMay o && objSame o.strip (AObj.zero o.ref)

theorem mayRef_kind {r : ARef} (h : mayRef r = true) : r.kind = 1 ∨ r.kind = 2 ∨ r.kind = 3 ∨ r.kind = 4 ∨ r.kind = 5 ∨ r.kind = 6 ∨ r.kind = 7 := by
  unfold mayRef at h
  split at h
  · omega
  · split at h
    · omega
    · simp [okind] at h; omega

theorem strip_ok {o s : AObj} (h : o.ok) (h1 : s.labels = o.labels ∨ s.labels = []) (h2 : s.ports = o.ports ∨ s.ports = []) (h3 : s.listeners = o.listeners ∨ s.listeners = []) (h4 : s.parents = o.parents ∨ s.parents = []) (h5 : s.hosts = o.hosts ∨ s.hosts = [])
    (h6 : s.rules = o.rules ∨ s.rules = []) (h7 : s.from_ = o.from_ ∨ s.from_ = []) (h8 : s.to_ = o.to_ ∨ s.to_ = []) : s.ok where
  la := by rcases h1 with e | e <;> rw [e] <;> first | exact h.la | simp
  po := by rcases h2 with e | e <;> rw [e] <;> first | exact h.po | simp
  li := by rcases h3 with e | e <;> rw [e] <;> first | exact h.li | simp
  pa := by rcases h4 with e | e <;> rw [e] <;> first | exact h.pa | simp
  ho := by rcases h5 with e | e <;> rw [e] <;> first | exact h.ho | simp
  ru := by rcases h6 with e | e <;> rw [e] <;> first | exact h.ru | simp
  fr := by rcases h7 with e | e <;> rw [e] <;> first | exact h.fr | simp
  to := by rcases h8 with e | e <;> rw [e] <;> first | exact h.to | simp
  lis := by rcases h3 with e | e <;> rw [e] <;> first | exact h.lis | simp
  rus := by rcases h6 with e | e <;> rw [e] <;> first | exact h.rus | simp

set_option maxHeartbeats 4000000 in
theorem object_May (o : AObj) (h : o.ok) : Pure Tryz.prog 30 [o.d] (fun d => d = bln (objMay o)) := by
  refine pure_of_run follows an_zfwje Tryz.func30 rfl ok_zfwje dst_zfwje (by simp [Tryz.ntmps30]) ?_
  rw [run_start]
  simp (maxSteps := 5000000) only [ac_zfwje, go_sem, contS_seq, simprocAttr, go_sem]
  refine (object_MayRef o.ref).callX (enters_of Tryz.func41 rfl rfl) _ rfl rfl ?_
  rintro d rfl
  by_cases hm : mayRef o.ref = true
  · have stop : kindMay o = false → objMay o = false := fun e => by simp [objMay, e]
    have go : ∀ s : AObj, o.strip = s → kindMay o = true → objMay o = objSame s (AObj.zero o.ref) := fun s e1 e2 => by simp [objMay, hm, e1, e2]
    rcases mayRef_kind hm with hk | hk | hk | hk | hk | hk | hk
    · obtain ⟨⟨kd, sp, nm⟩, gd, la, po, cl, li, pa, ho, ru, fr, to⟩ := o
      simp only at hk
      subst hk
      simp (maxSteps := 5000000) only [go_sem, contS_seq, simprocAttr, go_sem, hm]
      refine (thing_class ⟨⟨1, sp, nm⟩, gd, la, po, cl, li, pa, ho, ru, fr, to⟩).callW (enters_of Tryz.func35 rfl rfl) _ false [(9, 500001)] [] [] [] rfl rfl rfl ?_
      rintro d bs ⟨rfl, rfl⟩
      simp (maxSteps := 5000000) only [go_sem, contS_seq, simprocAttr, go_sem]
      have hs : (⟨⟨1, sp, nm⟩, gd, la, po, cl, li, pa, ho, ru, fr, to⟩ : AObj).strip = { (⟨⟨1, sp, nm⟩, gd, la, po, cl, li, pa, ho, ru, fr, to⟩ : AObj) with good := false } := by simp [AObj.strip]
      have hkm : kindMay (⟨⟨1, sp, nm⟩, gd, la, po, cl, li, pa, ho, ru, fr, to⟩ : AObj) = true := by simp [kindMay]
      refine (object_Same ({ (⟨⟨1, sp, nm⟩, gd, la, po, cl, li, pa, ho, ru, fr, to⟩ : AObj) with good := false } : AObj) (AObj.zero ⟨1, sp, nm⟩) (strip_ok h (by simp) (by simp) (by simp) (by simp) (by simp) (by simp) (by simp) (by simp)) (AObj.zero_ok ⟨1, sp, nm⟩)).callX (enters_of Tryz.func42 rfl rfl) _ rfl rfl ?_
      rintro d rfl
      simp (maxSteps := 5000000) only [go_sem, contS_seq, simprocAttr, go_sem]
      simp only [retK, fullK, iterK, resD, resA, AOp.ex, St.ev, Option.map_some, Option.bind_some, St.get, lk, reduceIte, Nat.reduceEqDiff, Option.getD_some, oneD, List.getElem?_cons_zero, List.getElem?_cons_succ, List.drop_zero, List.drop_succ_cons, List.take_succ_cons, List.take_zero, List.length_cons, List.length_nil, Nat.zero_add, Nat.reduceAdd, Nat.le_refl, Nat.reduceLeDiff, D.pub, D.pubs, Tryz.results30]
      exact ⟨_, rfl, rfl, congrArg bln (go _ hs (by rw [hkm])).symm⟩
    · obtain ⟨⟨kd, sp, nm⟩, gd, la, po, cl, li, pa, ho, ru, fr, to⟩ := o
      simp only at hk
      subst hk
      simp (maxSteps := 5000000) only [go_sem, contS_seq, simprocAttr, go_sem, hm]
      refine (thing_space ⟨⟨2, sp, nm⟩, gd, la, po, cl, li, pa, ho, ru, fr, to⟩ h).callW (enters_of Tryz.func36 rfl rfl) _ false [(9, 500001)] [] [] [] rfl rfl rfl ?_
      rintro d bs ⟨rfl, rfl⟩
      simp (maxSteps := 5000000) only [go_sem, contS_seq, simprocAttr, go_sem]
      have hs : (⟨⟨2, sp, nm⟩, gd, la, po, cl, li, pa, ho, ru, fr, to⟩ : AObj).strip = { (⟨⟨2, sp, nm⟩, gd, la, po, cl, li, pa, ho, ru, fr, to⟩ : AObj) with labels := [] } := by simp [AObj.strip]
      have hkm : kindMay (⟨⟨2, sp, nm⟩, gd, la, po, cl, li, pa, ho, ru, fr, to⟩ : AObj) = labelsMay la := by simp [kindMay]
      refine Gif.mk (fun h1 => ?_) (fun h1 => ?_)
      · refine (object_Same ({ (⟨⟨2, sp, nm⟩, gd, la, po, cl, li, pa, ho, ru, fr, to⟩ : AObj) with labels := [] } : AObj) (AObj.zero ⟨2, sp, nm⟩) (strip_ok h (by simp) (by simp) (by simp) (by simp) (by simp) (by simp) (by simp) (by simp)) (AObj.zero_ok ⟨2, sp, nm⟩)).callX (enters_of Tryz.func42 rfl rfl) _ rfl rfl ?_
        rintro d rfl
        simp (maxSteps := 5000000) only [go_sem, contS_seq, simprocAttr, go_sem]
        simp only [retK, fullK, iterK, resD, resA, AOp.ex, St.ev, Option.map_some, Option.bind_some, St.get, lk, reduceIte, Nat.reduceEqDiff, Option.getD_some, oneD, List.getElem?_cons_zero, List.getElem?_cons_succ, List.drop_zero, List.drop_succ_cons, List.take_succ_cons, List.take_zero, List.length_cons, List.length_nil, Nat.zero_add, Nat.reduceAdd, Nat.le_refl, Nat.reduceLeDiff, D.pub, D.pubs, Tryz.results30]
        exact ⟨_, rfl, rfl, congrArg bln (go _ hs (by rw [hkm]; exact h1)).symm⟩
      · simp only [retK, fullK, iterK, resD, resA, AOp.ex, St.ev, Option.map_some, Option.bind_some, St.get, lk, reduceIte, Nat.reduceEqDiff, Option.getD_some, oneD, List.getElem?_cons_zero, List.getElem?_cons_succ, List.drop_zero, List.drop_succ_cons, List.take_succ_cons, List.take_zero, List.length_cons, List.length_nil, Nat.zero_add, Nat.reduceAdd, Nat.le_refl, Nat.reduceLeDiff, D.pub, D.pubs, Tryz.results30]
        exact ⟨_, rfl, rfl, congrArg bln (stop (by rw [hkm]; exact h1)).symm⟩
    · obtain ⟨⟨kd, sp, nm⟩, gd, la, po, cl, li, pa, ho, ru, fr, to⟩ := o
      simp only at hk
      subst hk
      simp (maxSteps := 5000000) only [go_sem, contS_seq, simprocAttr, go_sem, hm]
      refine (thing_service ⟨⟨3, sp, nm⟩, gd, la, po, cl, li, pa, ho, ru, fr, to⟩ h).callW (enters_of Tryz.func37 rfl rfl) _ false [(9, 500001)] [] [] [] rfl rfl rfl ?_
      rintro d bs ⟨rfl, rfl⟩
      simp (maxSteps := 5000000) only [go_sem, contS_seq, simprocAttr, go_sem]
      have hs : (⟨⟨3, sp, nm⟩, gd, la, po, cl, li, pa, ho, ru, fr, to⟩ : AObj).strip = { (⟨⟨3, sp, nm⟩, gd, la, po, cl, li, pa, ho, ru, fr, to⟩ : AObj) with ports := [] } := by simp [AObj.strip]
      have hkm : kindMay (⟨⟨3, sp, nm⟩, gd, la, po, cl, li, pa, ho, ru, fr, to⟩ : AObj) = serviceMay po := by simp [kindMay]
      refine Gif.mk (fun h1 => ?_) (fun h1 => ?_)
      · refine (object_Same ({ (⟨⟨3, sp, nm⟩, gd, la, po, cl, li, pa, ho, ru, fr, to⟩ : AObj) with ports := [] } : AObj) (AObj.zero ⟨3, sp, nm⟩) (strip_ok h (by simp) (by simp) (by simp) (by simp) (by simp) (by simp) (by simp) (by simp)) (AObj.zero_ok ⟨3, sp, nm⟩)).callX (enters_of Tryz.func42 rfl rfl) _ rfl rfl ?_
        rintro d rfl
        simp (maxSteps := 5000000) only [go_sem, contS_seq, simprocAttr, go_sem]
        simp only [retK, fullK, iterK, resD, resA, AOp.ex, St.ev, Option.map_some, Option.bind_some, St.get, lk, reduceIte, Nat.reduceEqDiff, Option.getD_some, oneD, List.getElem?_cons_zero, List.getElem?_cons_succ, List.drop_zero, List.drop_succ_cons, List.take_succ_cons, List.take_zero, List.length_cons, List.length_nil, Nat.zero_add, Nat.reduceAdd, Nat.le_refl, Nat.reduceLeDiff, D.pub, D.pubs, Tryz.results30]
        exact ⟨_, rfl, rfl, congrArg bln (go _ hs (by rw [hkm]; exact h1)).symm⟩
      · simp only [retK, fullK, iterK, resD, resA, AOp.ex, St.ev, Option.map_some, Option.bind_some, St.get, lk, reduceIte, Nat.reduceEqDiff, Option.getD_some, oneD, List.getElem?_cons_zero, List.getElem?_cons_succ, List.drop_zero, List.drop_succ_cons, List.take_succ_cons, List.take_zero, List.length_cons, List.length_nil, Nat.zero_add, Nat.reduceAdd, Nat.le_refl, Nat.reduceLeDiff, D.pub, D.pubs, Tryz.results30]
        exact ⟨_, rfl, rfl, congrArg bln (stop (by rw [hkm]; exact h1)).symm⟩
    · obtain ⟨⟨kd, sp, nm⟩, gd, la, po, cl, li, pa, ho, ru, fr, to⟩ := o
      simp only at hk
      subst hk
      simp (maxSteps := 5000000) only [go_sem, contS_seq, simprocAttr, go_sem, hm]
      refine (thing_class ⟨⟨4, sp, nm⟩, gd, la, po, cl, li, pa, ho, ru, fr, to⟩).callW (enters_of Tryz.func35 rfl rfl) _ false [(9, 500001)] [] [] [] rfl rfl rfl ?_
      rintro d bs ⟨rfl, rfl⟩
      simp (maxSteps := 5000000) only [go_sem, contS_seq, simprocAttr, go_sem]
      have hs : (⟨⟨4, sp, nm⟩, gd, la, po, cl, li, pa, ho, ru, fr, to⟩ : AObj).strip = { (⟨⟨4, sp, nm⟩, gd, la, po, cl, li, pa, ho, ru, fr, to⟩ : AObj) with good := false } := by simp [AObj.strip]
      have hkm : kindMay (⟨⟨4, sp, nm⟩, gd, la, po, cl, li, pa, ho, ru, fr, to⟩ : AObj) = true := by simp [kindMay]
      refine (object_Same ({ (⟨⟨4, sp, nm⟩, gd, la, po, cl, li, pa, ho, ru, fr, to⟩ : AObj) with good := false } : AObj) (AObj.zero ⟨4, sp, nm⟩) (strip_ok h (by simp) (by simp) (by simp) (by simp) (by simp) (by simp) (by simp) (by simp)) (AObj.zero_ok ⟨4, sp, nm⟩)).callX (enters_of Tryz.func42 rfl rfl) _ rfl rfl ?_
      rintro d rfl
      simp (maxSteps := 5000000) only [go_sem, contS_seq, simprocAttr, go_sem]
      simp only [retK, fullK, iterK, resD, resA, AOp.ex, St.ev, Option.map_some, Option.bind_some, St.get, lk, reduceIte, Nat.reduceEqDiff, Option.getD_some, oneD, List.getElem?_cons_zero, List.getElem?_cons_succ, List.drop_zero, List.drop_succ_cons, List.take_succ_cons, List.take_zero, List.length_cons, List.length_nil, Nat.zero_add, Nat.reduceAdd, Nat.le_refl, Nat.reduceLeDiff, D.pub, D.pubs, Tryz.results30]
      exact ⟨_, rfl, rfl, congrArg bln (go _ hs (by rw [hkm])).symm⟩
    · obtain ⟨⟨kd, sp, nm⟩, gd, la, po, cl, li, pa, ho, ru, fr, to⟩ := o
      simp only at hk
      subst hk
      simp (maxSteps := 5000000) only [go_sem, contS_seq, simprocAttr, go_sem, hm]
      refine (thing_gateway ⟨⟨5, sp, nm⟩, gd, la, po, cl, li, pa, ho, ru, fr, to⟩ h).callW (enters_of Tryz.func38 rfl rfl) _ false [(9, 500001)] [] [] [] rfl rfl rfl ?_
      rintro d bs ⟨rfl, rfl⟩
      simp (maxSteps := 5000000) only [go_sem, contS_seq, simprocAttr, go_sem]
      have hs : (⟨⟨5, sp, nm⟩, gd, la, po, cl, li, pa, ho, ru, fr, to⟩ : AObj).strip = { (⟨⟨5, sp, nm⟩, gd, la, po, cl, li, pa, ho, ru, fr, to⟩ : AObj) with listeners := [], cls := ⟨#[]⟩ } := by simp [AObj.strip]
      have hkm : kindMay (⟨⟨5, sp, nm⟩, gd, la, po, cl, li, pa, ho, ru, fr, to⟩ : AObj) = gatewayMay cl li := by simp [kindMay]
      refine Gif.mk (fun h1 => ?_) (fun h1 => ?_)
      · refine (object_Same ({ (⟨⟨5, sp, nm⟩, gd, la, po, cl, li, pa, ho, ru, fr, to⟩ : AObj) with listeners := [], cls := ⟨#[]⟩ } : AObj) (AObj.zero ⟨5, sp, nm⟩) (strip_ok h (by simp) (by simp) (by simp) (by simp) (by simp) (by simp) (by simp) (by simp)) (AObj.zero_ok ⟨5, sp, nm⟩)).callX (enters_of Tryz.func42 rfl rfl) _ rfl rfl ?_
        rintro d rfl
        simp (maxSteps := 5000000) only [go_sem, contS_seq, simprocAttr, go_sem]
        simp only [retK, fullK, iterK, resD, resA, AOp.ex, St.ev, Option.map_some, Option.bind_some, St.get, lk, reduceIte, Nat.reduceEqDiff, Option.getD_some, oneD, List.getElem?_cons_zero, List.getElem?_cons_succ, List.drop_zero, List.drop_succ_cons, List.take_succ_cons, List.take_zero, List.length_cons, List.length_nil, Nat.zero_add, Nat.reduceAdd, Nat.le_refl, Nat.reduceLeDiff, D.pub, D.pubs, Tryz.results30]
        exact ⟨_, rfl, rfl, congrArg bln (go _ hs (by rw [hkm]; exact h1)).symm⟩
      · simp only [retK, fullK, iterK, resD, resA, AOp.ex, St.ev, Option.map_some, Option.bind_some, St.get, lk, reduceIte, Nat.reduceEqDiff, Option.getD_some, oneD, List.getElem?_cons_zero, List.getElem?_cons_succ, List.drop_zero, List.drop_succ_cons, List.take_succ_cons, List.take_zero, List.length_cons, List.length_nil, Nat.zero_add, Nat.reduceAdd, Nat.le_refl, Nat.reduceLeDiff, D.pub, D.pubs, Tryz.results30]
        exact ⟨_, rfl, rfl, congrArg bln (stop (by rw [hkm]; exact h1)).symm⟩
    · obtain ⟨⟨kd, sp, nm⟩, gd, la, po, cl, li, pa, ho, ru, fr, to⟩ := o
      simp only at hk
      subst hk
      simp (maxSteps := 5000000) only [go_sem, contS_seq, simprocAttr, go_sem, hm]
      refine (thing_route ⟨⟨6, sp, nm⟩, gd, la, po, cl, li, pa, ho, ru, fr, to⟩ h).callW (enters_of Tryz.func39 rfl rfl) _ false [(9, 500001)] [] [] [] rfl rfl rfl ?_
      rintro d bs ⟨rfl, rfl⟩
      simp (maxSteps := 5000000) only [go_sem, contS_seq, simprocAttr, go_sem]
      have hs : (⟨⟨6, sp, nm⟩, gd, la, po, cl, li, pa, ho, ru, fr, to⟩ : AObj).strip = { (⟨⟨6, sp, nm⟩, gd, la, po, cl, li, pa, ho, ru, fr, to⟩ : AObj) with parents := [], hosts := [], rules := [] } := by simp [AObj.strip]
      have hkm : kindMay (⟨⟨6, sp, nm⟩, gd, la, po, cl, li, pa, ho, ru, fr, to⟩ : AObj) = routeMay pa ho ru := by simp [kindMay]
      refine Gif.mk (fun h1 => ?_) (fun h1 => ?_)
      · refine (object_Same ({ (⟨⟨6, sp, nm⟩, gd, la, po, cl, li, pa, ho, ru, fr, to⟩ : AObj) with parents := [], hosts := [], rules := [] } : AObj) (AObj.zero ⟨6, sp, nm⟩) (strip_ok h (by simp) (by simp) (by simp) (by simp) (by simp) (by simp) (by simp) (by simp)) (AObj.zero_ok ⟨6, sp, nm⟩)).callX (enters_of Tryz.func42 rfl rfl) _ rfl rfl ?_
        rintro d rfl
        simp (maxSteps := 5000000) only [go_sem, contS_seq, simprocAttr, go_sem]
        simp only [retK, fullK, iterK, resD, resA, AOp.ex, St.ev, Option.map_some, Option.bind_some, St.get, lk, reduceIte, Nat.reduceEqDiff, Option.getD_some, oneD, List.getElem?_cons_zero, List.getElem?_cons_succ, List.drop_zero, List.drop_succ_cons, List.take_succ_cons, List.take_zero, List.length_cons, List.length_nil, Nat.zero_add, Nat.reduceAdd, Nat.le_refl, Nat.reduceLeDiff, D.pub, D.pubs, Tryz.results30]
        exact ⟨_, rfl, rfl, congrArg bln (go _ hs (by rw [hkm]; exact h1)).symm⟩
      · simp only [retK, fullK, iterK, resD, resA, AOp.ex, St.ev, Option.map_some, Option.bind_some, St.get, lk, reduceIte, Nat.reduceEqDiff, Option.getD_some, oneD, List.getElem?_cons_zero, List.getElem?_cons_succ, List.drop_zero, List.drop_succ_cons, List.take_succ_cons, List.take_zero, List.length_cons, List.length_nil, Nat.zero_add, Nat.reduceAdd, Nat.le_refl, Nat.reduceLeDiff, D.pub, D.pubs, Tryz.results30]
        exact ⟨_, rfl, rfl, congrArg bln (stop (by rw [hkm]; exact h1)).symm⟩
    · obtain ⟨⟨kd, sp, nm⟩, gd, la, po, cl, li, pa, ho, ru, fr, to⟩ := o
      simp only at hk
      subst hk
      simp (maxSteps := 5000000) only [go_sem, contS_seq, simprocAttr, go_sem, hm]
      refine (thing_grant ⟨⟨7, sp, nm⟩, gd, la, po, cl, li, pa, ho, ru, fr, to⟩ h).callW (enters_of Tryz.func40 rfl rfl) _ false [(9, 500001)] [] [] [] rfl rfl rfl ?_
      rintro d bs ⟨rfl, rfl⟩
      simp (maxSteps := 5000000) only [go_sem, contS_seq, simprocAttr, go_sem]
      have hs : (⟨⟨7, sp, nm⟩, gd, la, po, cl, li, pa, ho, ru, fr, to⟩ : AObj).strip = { (⟨⟨7, sp, nm⟩, gd, la, po, cl, li, pa, ho, ru, fr, to⟩ : AObj) with from_ := [], to_ := [] } := by simp [AObj.strip]
      have hkm : kindMay (⟨⟨7, sp, nm⟩, gd, la, po, cl, li, pa, ho, ru, fr, to⟩ : AObj) = grantMay fr to := by simp [kindMay]
      refine Gif.mk (fun h1 => ?_) (fun h1 => ?_)
      · refine (object_Same ({ (⟨⟨7, sp, nm⟩, gd, la, po, cl, li, pa, ho, ru, fr, to⟩ : AObj) with from_ := [], to_ := [] } : AObj) (AObj.zero ⟨7, sp, nm⟩) (strip_ok h (by simp) (by simp) (by simp) (by simp) (by simp) (by simp) (by simp) (by simp)) (AObj.zero_ok ⟨7, sp, nm⟩)).callX (enters_of Tryz.func42 rfl rfl) _ rfl rfl ?_
        rintro d rfl
        simp (maxSteps := 5000000) only [go_sem, contS_seq, simprocAttr, go_sem]
        simp only [retK, fullK, iterK, resD, resA, AOp.ex, St.ev, Option.map_some, Option.bind_some, St.get, lk, reduceIte, Nat.reduceEqDiff, Option.getD_some, oneD, List.getElem?_cons_zero, List.getElem?_cons_succ, List.drop_zero, List.drop_succ_cons, List.take_succ_cons, List.take_zero, List.length_cons, List.length_nil, Nat.zero_add, Nat.reduceAdd, Nat.le_refl, Nat.reduceLeDiff, D.pub, D.pubs, Tryz.results30]
        exact ⟨_, rfl, rfl, congrArg bln (go _ hs (by rw [hkm]; exact h1)).symm⟩
      · simp only [retK, fullK, iterK, resD, resA, AOp.ex, St.ev, Option.map_some, Option.bind_some, St.get, lk, reduceIte, Nat.reduceEqDiff, Option.getD_some, oneD, List.getElem?_cons_zero, List.getElem?_cons_succ, List.drop_zero, List.drop_succ_cons, List.take_succ_cons, List.take_zero, List.length_cons, List.length_nil, Nat.zero_add, Nat.reduceAdd, Nat.le_refl, Nat.reduceLeDiff, D.pub, D.pubs, Tryz.results30]
        exact ⟨_, rfl, rfl, congrArg bln (stop (by rw [hkm]; exact h1)).symm⟩
  · have hm' : mayRef o.ref = false := by simpa using hm
    simp (maxSteps := 5000000) only [go_sem, contS_seq, simprocAttr, go_sem, hm']
    simp only [retK, fullK, iterK, resD, resA, AOp.ex, St.ev, Option.map_some, Option.bind_some, St.get, lk, reduceIte, Nat.reduceEqDiff, Option.getD_some, oneD, List.getElem?_cons_zero, List.getElem?_cons_succ, List.drop_zero, List.drop_succ_cons, List.take_succ_cons, List.take_zero, List.length_cons, List.length_nil, Nat.zero_add, Nat.reduceAdd, Nat.le_refl, Nat.reduceLeDiff, D.pub, D.pubs, Tryz.results30]
    exact ⟨_, rfl, rfl, congrArg bln (by simp [objMay, hm'])⟩

end Go.Proofs.YtmdepehjfnpklaaGreatDoor

namespace Go.Proofs.YtmdepehjfnpklaaGreatDoor
open Go

def an_zfsgx : Ann := ⟨[(0, [4, 5, 6, 7]), (1, [8])], [], []⟩
def ac_zfsgx : AC := (.seq (.region [.mk none (some 4) (.box 22 (.tmp 0)), .mk none (some 5) (.box 3 (.tmp 1)), .mk none (some 6) (.box 9 (.tmp 2)), .mk none (some 7) (.box 24 (.tmp 3)), .mk none (some 8) (.mv (.const .nilFunc))] (some [4, 5, 6, 7])) (.seq (.region [.mk none (some 9) (.mkfn 31 [.tmp 4, .tmp 5, .tmp 6, .tmp 7]), .mk none (some 8) (.mv (.tmp 9))] (some [8])) .ret))
theorem ok_zfsgx : compC Tryz.prog an_zfsgx (Tryz.f28.body.getD .skip) = some ac_zfsgx := by kernel_rfl
theorem dst_zfsgx : ac_zfsgx.dstOK Tryz.f28.ntmps (fun i => decide (i < Tryz.f28.ntmps)) = true := by kernel_rfl

def an_zvbe : Ann := ⟨[(0, [0, 2, 3, 4, 8, 9, 10]), (1, [0, 2, 3, 4, 8, 9, 10, 11]), (2, [0, 2, 3, 4, 7, 8, 9, 10]), (3, [0, 2, 3, 4, 8, 9, 10, 25]), (4, [0, 2, 3, 4, 8, 9, 10])], [], []⟩
def ac_zvbe : AC := (.seq (.region [.mk none (some 8) (.load none (.tmp 1)), .mk none (some 9) (.len (.tmp 8) false), .mk none (some 10) (.mv (.const (.int .i64 0)))] (some [0, 2, 3, 4, 8, 9, 10])) (.block 0 (.loop (.seq (.region [.mk none (some 11) (.bin .lss (.tmp 10) (.tmp 9))] (some [0, 2, 3, 4, 8, 9, 10, 11])) (.seq (.cond (.tmp 11) .skip (.exit 0)) (.seq (.block 1 (.seq (.region [.mk none (some 12) (.idxA 13 (.tmp 8) (.tmp 10)), .mk none (some 13) (.load (some 13) (.tmp 12)), .mk none (some 7) (.alloc 33 [.pd (.raw (.int .i64 0)), .pd (.raw (.string ⟨#[]⟩)), .pd (.raw (.string ⟨#[]⟩)), .pd (.raw (.bool false)), .nils, .nils, .pd (.raw (.string ⟨#[]⟩)), .nils, .nils, .nils, .nils, .nils, .nils]), .mk none none (.store 13 (.tmp 7) (.tmp 13))] (some [0, 2, 3, 4, 7, 8, 9, 10])) (.seq (.region [.mk none (some 14) (.load (some 13) (.tmp 7)), .mk none (some 15) (.load none (.tmp 2)), .mk none (some 16) (.load none (.tmp 3)), .mk none (some 17) (.load (some 3) (.tmp 4)), .mk none (some 18) (.call 32 [.tmp 14, .tmp 15, .tmp 16, .tmp 17]), .mk none (some 19) (.mv (.tmp 18)), .mk (some (19, true)) (some 20) (.mv (.tmp 0)), .mk (some (19, true)) (some 21) (.fieldA 0 (.tmp 7)), .mk (some (19, true)) (some 22) (.load (some 3) (.tmp 21)), .mk (some (19, true)) (some 23) (.callv (.tmp 20) [.tmp 22]), .mk (some (19, true)) (some 24) (.un .not (.tmp 23)), .mk none (some 25) (.pick (.tmp 19) (.tmp 24) (.const (.bool false)))] (some [0, 2, 3, 4, 8, 9, 10, 25])) (.cond (.tmp 25) .ret .skip)))) (.region [.mk none (some 26) (.bin .add (.tmp 10) (.const (.int .i64 1))), .mk none (some 10) (.mv (.tmp 26))] (some [0, 2, 3, 4, 8, 9, 10]))))))))
theorem ok_zvbe : compC Tryz.prog an_zvbe (Tryz.f31.body.getD .skip) = some ac_zvbe := by kernel_rfl
theorem dst_zvbe : ac_zvbe.dstOK Tryz.f31.ntmps (fun i => decide (i < Tryz.f31.ntmps)) = true := by kernel_rfl

def an_zj2qb : Ann := ⟨[(0, [0, 1, 2, 7, 8]), (1, [2, 7, 8, 13]), (2, []), (3, [8])], [], [(14, [7, 8])]⟩
def ac_zj2qb : AC := (.seq (.region [.mk none (some 7) (.box 24 (.tmp 3)), .mk none (some 8) (.alloc 4 [.pd (.raw (.bool false))])] (some [0, 1, 2, 7, 8])) (.seq (.seq (.region [.mk none (some 9) (.mv (.tmp 0)), .mk none (some 10) (.mv (.tmp 1)), .mk none (some 11) (.mv (.tmp 2)), .mk none (some 12) (.load (some 3) (.tmp 7)), .mk none (some 13) (.call 28 [.tmp 9, .tmp 10, .tmp 11, .tmp 12])] (some [2, 7, 8, 13])) (.block 0 (.rangeF [7, 8] 14 none (.tmp 13) (.block 1 (.seq (.region [.mk none none (.store 1 (.tmp 8) (.const (.bool true)))] (some [])) .ret))))) (.seq (.region [.mk none (some 15) (.mv (.tmp 2)), .mk none (some 16) (.fieldA 1 (.tmp 7)), .mk none (some 17) (.load none (.tmp 16)), .mk none (some 18) (.bin .eql (.tmp 15) (.tmp 17)), .mk none none (.store 1 (.tmp 8) (.tmp 18))] (some [8])) .ret)))
theorem ok_zj2qb : compC Tryz.prog an_zj2qb (Tryz.f24.body.getD .skip) = some ac_zj2qb := by kernel_rfl
theorem ret_zj2qb (st : St) : resD Tryz.prog st Tryz.f24.results.toList = resA st [.cell 8 none] := resD_of (by kernel_rfl)
theorem dst_zj2qb : ac_zj2qb.dstOK Tryz.f24.ntmps (fun i => decide (i < Tryz.f24.ntmps)) = true := by kernel_rfl


def an_zrkgf : Ann := ⟨[(0, [1, 2, 4]), (1, [1, 2, 4, 17]), (2, [2, 4]), (3, [4])], [], []⟩
def ac_zrkgf : AC := (.seq (.region [.mk none (some 2) (.box 24 (.tmp 0)), .mk none (some 4) (.alloc 24 [.pd (.raw (.int .i64 0)), .pd (.raw (.string ⟨#[]⟩)), .pd (.raw (.string ⟨#[]⟩))])] (some [1, 2, 4])) (.seq (.seq (.region [.mk none (some 5) (.fieldA 1 (.tmp 2)), .mk none (some 6) (.load none (.tmp 5)), .mk none (some 7) (.bin .eql (.tmp 6) (.const (.string ⟨#[]⟩))), .mk none (some 8) (.mv (.tmp 7)), .mk (some (8, true)) (some 9) (.fieldA 0 (.tmp 2)), .mk (some (8, true)) (some 10) (.load none (.tmp 9)), .mk (some (8, true)) (some 11) (.bin .neq (.tmp 10) (.const (.int .i64 1))), .mk none (some 12) (.pick (.tmp 8) (.tmp 11) (.const (.bool false))), .mk none (some 13) (.mv (.tmp 12)), .mk (some (13, true)) (some 14) (.fieldA 0 (.tmp 2)), .mk (some (13, true)) (some 15) (.load none (.tmp 14)), .mk (some (13, true)) (some 16) (.bin .neq (.tmp 15) (.const (.int .i64 2))), .mk none (some 17) (.pick (.tmp 13) (.tmp 16) (.const (.bool false)))] (some [1, 2, 4, 17])) (.cond (.tmp 17) (.region [.mk none (some 18) (.mv (.tmp 1)), .mk none (some 19) (.fieldA 1 (.tmp 2)), .mk none none (.store 1 (.tmp 19) (.tmp 18))] (some [2, 4])) .skip)) (.seq (.region [.mk none (some 20) (.load (some 3) (.tmp 2)), .mk none none (.store 3 (.tmp 4) (.tmp 20))] (some [4])) .ret)))
theorem ok_zrkgf : compC Tryz.prog an_zrkgf (Tryz.f23.body.getD .skip) = some ac_zrkgf := by kernel_rfl
theorem ret_zrkgf (st : St) : resD Tryz.prog st Tryz.f23.results.toList = resA st [.cell 4 (some 3)] := resD_of (by kernel_rfl)
theorem dst_zrkgf : ac_zrkgf.dstOK Tryz.f23.ntmps (fun i => decide (i < Tryz.f23.ntmps)) = true := by kernel_rfl

def an_zn42u : Ann := ⟨[(0, [1, 2]), (1, [2])], [(1, ([0, 1, 0, 4, 12, 0, 32, 124, 255, 511], .take 0 (.take 1 (.take 2 (.take 3 (.take 5 (.take 6 (.alts (.cons 4 false (.alts (.cons 7 false (.take 8 (.alts (.cons 9 true (.done) (.nil)))) (.nil))) (.nil))))))))))], []⟩
def ac_zn42u : AC := (.seq (.region [.mk none (some 1) (.box 24 (.tmp 0)), .mk none (some 2) (.alloc 24 [.pd (.raw (.int .i64 0)), .pd (.raw (.string ⟨#[]⟩)), .pd (.raw (.string ⟨#[]⟩))])] (some [1, 2])) (.seq (.draw [.mk none (some 3) (.fieldA 0 (.tmp 1)), .mk none (some 4) (.load none (.tmp 3)), .mk none (some 5) (.fieldA 1 (.tmp 1)), .mk none (some 6) (.load none (.tmp 5)), .mk none (some 7) (.call 15 [.tmp 6]), .mk none (some 8) (.fieldA 2 (.tmp 1)), .mk none (some 9) (.load none (.tmp 8)), .mk none (some 10) (.call 15 [.tmp 9]), .mk none (some 11) (.build [.pd (.raw (.int .i64 0)), .pd (.raw (.string ⟨#[]⟩)), .pd (.raw (.string ⟨#[]⟩))] [(0, 1, .tmp 4), (1, 1, .tmp 7), (2, 1, .tmp 10)]), .mk none none (.store 3 (.tmp 2) (.tmp 11))] [0, 1, 0, 4, 12, 0, 32, 124, 255, 511] (.take 0 (.take 1 (.take 2 (.take 3 (.take 5 (.take 6 (.alts (.cons 4 false (.alts (.cons 7 false (.take 8 (.alts (.cons 9 true .done .nil))) .nil)) .nil)))))))) (some [2])) .ret))
theorem ok_zn42u : compC Tryz.prog an_zn42u (Tryz.f13.body.getD .skip) = some ac_zn42u := by kernel_rfl
theorem ret_zn42u (st : St) : resD Tryz.prog st Tryz.f13.results.toList = resA st [.cell 2 (some 3)] := resD_of (by kernel_rfl)
theorem dst_zn42u : ac_zn42u.dstOK Tryz.f13.ntmps (fun i => decide (i < Tryz.f13.ntmps)) = true := by kernel_rfl

def an_zba9k : Ann := ⟨[(0, [0]), (1, [0, 5]), (2, [2]), (3, [2])], [], []⟩
def ac_zba9k : AC := (.seq (.region [.mk none (some 2) (.mv (.const (.string ⟨#[]⟩)))] (some [0])) (.seq (.seq (.region [.mk none (some 3) (.mv (.tmp 0)), .mk none (some 4) (.len (.tmp 3) true), .mk none (some 5) (.bin .gtr (.tmp 4) (.const (.int .i64 100)))] (some [0, 5])) (.cond (.tmp 5) (.seq (.region [.mk none (some 6) (.mv (.tmp 0)), .mk none (some 7) (.slcS (.tmp 6) none (some (.const (.int .i64 100)))), .mk none (some 2) (.mv (.tmp 7))] (some [2])) .ret) .skip)) (.seq (.region [.mk none (some 8) (.mv (.tmp 0)), .mk none (some 2) (.mv (.tmp 8))] (some [2])) .ret)))
theorem ok_zba9k : compC Tryz.prog an_zba9k (Tryz.f15.body.getD .skip) = some ac_zba9k := by kernel_rfl
theorem dst_zba9k : ac_zba9k.dstOK Tryz.f15.ntmps (fun i => decide (i < Tryz.f15.ntmps)) = true := by kernel_rfl

end Go.Proofs.YtmdepehjfnpklaaGreatDoor

namespace Go.Proofs.YtmdepehjfnpklaaGreatDoor
open Go Go.RowKit
set_option linter.unusedSimpArgs false
set_option linter.unusedVariables false
set_option maxRecDepth 100000

def near (r : ARef) (s : ByteArray) : ARef := if r.space = ⟨#[]⟩ ∧ r.kind ≠ 1 ∧ r.kind ≠ 2 then { r with space := s } else r

set_option maxRecDepth 100000 in
theorem grant_Near (r : ARef) (s : ByteArray) : Pure Tryz.prog 23 [r.d, str s] (fun d => d = (near r s).d) := by
  refine pure_of_run follows an_zrkgf Tryz.func23 rfl ok_zrkgf dst_zrkgf (by simp [Tryz.ntmps23]) ?_
  rw [run_start]
  simp only [ac_zrkgf, go_sem, contS_seq, simprocAttr]
  simp only [retK, fullK, iterK, resD, resA, AOp.ex, St.ev, Option.map_some, Option.bind_some, St.get, lk, reduceIte, Nat.reduceEqDiff, Option.getD_some, oneD, List.getElem?_cons_zero, List.getElem?_cons_succ, List.drop_zero, List.drop_succ_cons, List.take_succ_cons, List.take_zero, List.length_cons, List.length_nil, Nat.zero_add, Nat.reduceAdd, Nat.le_refl, Nat.reduceLeDiff, D.pub, D.pubs, ret_zrkgf]
  refine ⟨fun h1 => ⟨fun h2 => ?_, fun h2 => ⟨fun h3 => ?_, fun h3 => ?_⟩⟩, fun h1 => ?_⟩
  · exact ⟨_, rfl, rfl, by simp [near, h1, h2, oneD, D.pub, D.pubs]⟩
  · exact ⟨_, rfl, rfl, by simp [near, h1, h3, oneD, D.pub, D.pubs]⟩
  · exact ⟨_, rfl, rfl, by simp [near, h1, h2, h3, oneD, D.pub, D.pubs]⟩
  · exact ⟨_, rfl, rfl, by simp [near, h1, oneD, D.pub, D.pubs]⟩

abbrev refVal (r : ARef) : Value := .agg #[.int .i64 r.kind, .string r.space, .string r.name]

theorem by_iter (p : AObj → Bool) (os : List AObj) (kind : Int) (space : ByteArray) (to_ : ARef) (hos : os.length ≤ 1000000)
    (hp : ∀ o ∈ os, Pure Tryz.prog 32 [o.d, int kind, str space, to_.d] (fun d => d = bln (p o))) :
    IterB Tryz.prog 31 [(500001, 0), (500002, 0), (500003, 0), (500004, 0)]
      [(500001, [.pd (.slice (rows AObj.pd os))]), (500002, [int kind]), (500003, [str space]), (500004, [int to_.kind, str to_.space, str to_.name])] ((os.filter p).map fun o => refVal o.ref) := by
  refine iter_of_run follows an_zvbe Tryz.func31 rfl ok_zvbe dst_zvbe (by simp [Tryz.ntmps31]) rfl ?_
  intro l
  rw [run_start]
  simp only [ac_zvbe, go_sem, contS_seq, simprocAttr, rows_len]
  have hb := hos
  refine loopS (fun k st => ∃ i : Nat, k = os.length - i ∧ i ≤ os.length ∧
    st = ⟨[(0, yieldD l), (2, .ptr 500002 0), (3, .ptr 500003 0), (4, .ptr 500004 0), (8, .pd (.slice (rows AObj.pd os))), (9, int os.length), (10, int i)],
      [(500001, [.pd (.slice (rows AObj.pd os))]), (500002, [int kind]), (500003, [str space]), (500004, [int to_.kind, str to_.space, str to_.name])], [], .it l (((os.filter p).map fun o => refVal o.ref).map ([·])) ((os.take i).filter p).length false⟩) os.length _
    (Weak.refl _ _) ⟨0, rfl, Nat.zero_le _, rfl⟩ ?_
  rintro k st ⟨i, rfl, hi, rfl⟩
  by_cases hlt : i < os.length
  · obtain ⟨o, ho⟩ := at_lt hlt
    have hlt' : (i : Int) < (os.length : Int) := by omega
    simp only [go_sem, contS_seq, simprocAttr, hlt', decide_true, rows_get ho]
    refine (hp o (List.mem_of_getElem? ho)).callW (enters_of Tryz.func32 rfl rfl) _ rfl rfl ?_
    rintro d rfl
    have hw : IntKind.i64.wrap ((i : Int) + 1) = ((i + 1 : Nat) : Int) := by rw [IntWalk.i64_in _ (by omega)]; omega
    cases hpo : p o with
    | true =>
      have hx : (((os.filter p).map fun o => refVal o.ref).map ([·]))[((os.take i).filter p).length]? = some [refVal o.ref] := by
        simp [List.getElem?_map, filter_at ho hpo]
      simp only [go_sem, contS_seq, simprocAttr, hx, hw]
      refine ⟨⟨_, _, ?_, ?_, i + 1, rfl, ?_, rfl⟩, ?_⟩
      · omega
      · rw [filter_yes ho hpo]; exact Weak.less (by simp [lessL, lk]) (by simp [lessL, lk]) (by simp [lessL, lk]) rfl
      · omega
      · exact ⟨[], _, _, rfl, rfl, fun h => by cases h⟩
    | false =>
      simp only [go_sem, contS_seq, simprocAttr, hw]
      refine ⟨_, _, ?_, ?_, i + 1, rfl, ?_, rfl⟩
      · omega
      · rw [filter_no ho hpo]; exact Weak.less (by simp [lessL, lk]) (by simp [lessL, lk]) (by simp [lessL, lk]) rfl
      · omega
  · have hlt' : ¬ (i : Int) < (os.length : Int) := by omega
    simp only [go_sem, contS_seq, simprocAttr, hlt', decide_false]
    exact ⟨[], _, _, rfl, rfl, fun _ => by rw [List.take_of_length_le (by omega)]; simp⟩

theorem grant_by (os : List AObj) (kind : Int) (space : ByteArray) (to_ : ARef) :
    Full Tryz.prog 28 [.pd (.slice (rows AObj.pd os)), int kind, str space, to_.d] [] true
      (fun d bs => d = .fn 31 [(4, 0), (5, 0), (6, 0), (7, 0)] ∧ bs = [(4, [.pd (.slice (rows AObj.pd os))]), (5, [int kind]), (6, [str space]), (7, [int to_.kind, str to_.space, str to_.name])]) := by
  refine full_of_run follows an_zfsgx Tryz.func28 rfl ok_zfsgx dst_zfsgx (by simp [Tryz.ntmps28]) (by simp [Tryz.ntmps28]) (.inl rfl) ?_
  rw [run_start]
  simp only [ac_zfsgx, go_sem, contS_seq, simprocAttr]
  simp only [retK, fullK, iterK, resD, resA, AOp.ex, St.ev, Option.map_some, Option.bind_some, St.get, lk, reduceIte, Nat.reduceEqDiff, Option.getD_some, oneD, List.getElem?_cons_zero, List.getElem?_cons_succ, List.drop_zero, List.drop_succ_cons, List.take_succ_cons, List.take_zero, List.length_cons, List.length_nil, Nat.zero_add, Nat.reduceAdd, Nat.le_refl, Nat.reduceLeDiff, D.pub, D.pubs, Tryz.results28]
  exact ⟨_, _, rfl, by simp [lessL, lk], rfl, rfl⟩

theorem grant_Permits (p : AObj → Bool) (os : List AObj) (kind : Int) (space : ByteArray) (to_ : ARef) (hos : os.length ≤ 1000000)
    (hp : ∀ o ∈ os, Pure Tryz.prog 32 [o.d, int kind, str space, to_.d] (fun d => d = bln (p o))) :
    Pure Tryz.prog 24 [.pd (.slice (rows AObj.pd os)), int kind, str space, to_.d] (fun d => d = bln (os.any p || decide (space = to_.space))) := by
  refine pure_of_run follows an_zj2qb Tryz.func24 rfl ok_zj2qb dst_zj2qb (by simp [Tryz.ntmps24]) ?_
  rw [run_start]
  simp only [ac_zj2qb, go_sem, contS_seq, simprocAttr]
  refine (grant_by os kind space to_).callW (enters_of Tryz.func28 rfl rfl) _ false [] [] [(4, 200001), (5, 200002), (6, 200003), (7, 200004)] [] rfl rfl rfl ?_
  rintro d bs ⟨rfl, rfl⟩
  simp only [go_sem, contS_seq, simprocAttr]
  refine rangeS ((os.filter p).map fun o => refVal o.ref) (fun i bs => i = 0 ∧ bs = [(7, [int to_.kind, str to_.space, str to_.name]), (8, [bln false])]) rfl rfl rfl
    ((by_iter p os kind space to_ hos hp).iterW (enters_of Tryz.func31 rfl rfl) false [(200001, 500001), (200002, 500002), (200003, 500003), (200004, 500004)] rfl rfl rfl) ⟨rfl, rfl⟩ ?_ ?_
  · rintro i v bs hv ⟨rfl, rfl⟩
    simp only [go_sem, contS_seq, simprocAttr]
    simp only [retK, fullK, iterK, resD, resA, AOp.ex, St.ev, Option.map_some, Option.bind_some, St.get, lk, reduceIte, Nat.reduceEqDiff, Option.getD_some, oneD, List.getElem?_cons_zero, List.getElem?_cons_succ, List.drop_zero, List.drop_succ_cons, List.take_succ_cons, List.take_zero, List.length_cons, List.length_nil, Nat.zero_add, Nat.reduceAdd, Nat.le_refl, Nat.reduceLeDiff, D.pub, D.pubs, ret_zj2qb]
    have hany : os.any p = true := by
      rw [List.getElem?_map] at hv
      obtain ⟨o, ho, _⟩ := Option.map_eq_some_iff.1 hv
      have := List.mem_filter.1 (List.mem_of_getElem? ho)
      exact List.any_eq_true.2 ⟨o, this.1, this.2⟩
    exact ⟨_, rfl, rfl, by simp [hany, oneD, D.pub]⟩
  · rintro bs ⟨hl, rfl⟩
    simp only [go_sem, contS_seq, simprocAttr]
    simp only [retK, fullK, iterK, resD, resA, AOp.ex, St.ev, Option.map_some, Option.bind_some, St.get, lk, reduceIte, Nat.reduceEqDiff, Option.getD_some, oneD, List.getElem?_cons_zero, List.getElem?_cons_succ, List.drop_zero, List.drop_succ_cons, List.take_succ_cons, List.take_zero, List.length_cons, List.length_nil, Nat.zero_add, Nat.reduceAdd, Nat.le_refl, Nat.reduceLeDiff, D.pub, D.pubs, ret_zj2qb]
    have hany : os.any p = false := by
      rw [List.length_map, List.length_eq_zero_iff, List.filter_eq_nil_iff] at hl
      exact List.any_eq_false.2 hl
    exact ⟨_, rfl, rfl, by simp [hany, oneD, D.pub]⟩


def sideIs (kind : Int) (space : ByteArray) (s : ASide) : Bool := decide (s.kind = kind) && decide (s.space = space)
def sideAt (t : ARef) (s : ASide) : Bool := decide (s.kind = t.kind) && (decide (s.name = ⟨#[]⟩) || decide (s.name = t.name))

theorem Lets_1 (kind : Int) (space : ByteArray) (s : ASide) : PureB Tryz.prog 43 [s.d, .ptr 1000001 0, .ptr 1000002 0] [(1000001, [int kind]), (1000002, [str space])] (fun d => d = bln (sideIs kind space s)) := by
  refine pureB_of_run follows an_z4wyn Tryz.func43 rfl ok_z4wyn dst_z4wyn (by simp [Tryz.ntmps43]) ?_
  rw [run_start]
  simp only [ac_z4wyn, go_sem, contS_seq, simprocAttr]
  (repeat' (first | (refine GifP.mk (fun _ => ?_) (fun _ => ?_)) | (refine Gif.mk (fun _ => ?_) (fun _ => ?_)))) <;> (simp only [retK, fullK, iterK, resD, resA, AOp.ex, St.ev, Option.map_some, Option.bind_some, St.get, lk, reduceIte, Nat.reduceEqDiff, Option.getD_some, oneD, List.getElem?_cons_zero, List.getElem?_cons_succ, List.drop_zero, List.drop_succ_cons, List.take_succ_cons, List.take_zero, List.length_cons, List.length_nil, Nat.zero_add, Nat.reduceAdd, Nat.le_refl, Nat.reduceLeDiff, D.pub, D.pubs, Tryz.results43]; exact ⟨_, rfl, rfl, congrArg bln (by first | rfl | (rw [Bool.eq_iff_iff]; simp only [sideIs]; simp; done) | (rw [Bool.eq_iff_iff]; simp only [sideIs]; simp; omega) | (rw [Bool.eq_iff_iff]; simp only [sideIs]; simp [*]; done) | (rw [Bool.eq_iff_iff]; simp only [sideIs]; simp [*]; omega) | (simp_all [sideIs]; done) | (exfalso; omega))⟩)

theorem Lets_2 (t : ARef) (s : ASide) : PureB Tryz.prog 44 [s.d, .ptr 1000001 0] [(1000001, [int t.kind, str t.space, str t.name])] (fun d => d = bln (sideAt t s)) := by
  refine pureB_of_run follows an_z3e5h Tryz.func44 rfl ok_z3e5h dst_z3e5h (by simp [Tryz.ntmps44]) ?_
  rw [run_start]
  simp only [ac_z3e5h, go_sem, contS_seq, simprocAttr]
  (repeat' (first | (refine GifP.mk (fun _ => ?_) (fun _ => ?_)) | (refine Gif.mk (fun _ => ?_) (fun _ => ?_)))) <;> (simp only [retK, fullK, iterK, resD, resA, AOp.ex, St.ev, Option.map_some, Option.bind_some, St.get, lk, reduceIte, Nat.reduceEqDiff, Option.getD_some, oneD, List.getElem?_cons_zero, List.getElem?_cons_succ, List.drop_zero, List.drop_succ_cons, List.take_succ_cons, List.take_zero, List.length_cons, List.length_nil, Nat.zero_add, Nat.reduceAdd, Nat.le_refl, Nat.reduceLeDiff, D.pub, D.pubs, Tryz.results44]; exact ⟨_, rfl, rfl, congrArg bln (by first | rfl | (rw [Bool.eq_iff_iff]; simp only [sideAt]; simp; done) | (rw [Bool.eq_iff_iff]; simp only [sideAt]; simp; omega) | (rw [Bool.eq_iff_iff]; simp only [sideAt]; simp [*]; done) | (rw [Bool.eq_iff_iff]; simp only [sideAt]; simp [*]; omega) | (simp_all [sideAt]; done) | (exfalso; omega))⟩)

def lets (kind : Int) (space : ByteArray) (t : ARef) (o : AObj) : Bool :=
  decide (o.ref.kind = 7) && decide (o.ref.space = t.space) && objMay o && o.from_.any (sideIs kind space) && o.to_.any (sideAt t)

theorem grant_Lets (o : AObj) (h : o.ok) (kind : Int) (space : ByteArray) (t : ARef) : Pure Tryz.prog 32 [o.d, int kind, str space, t.d] (fun d => d = bln (lets kind space t o)) := by
  refine pure_of_run follows an_zs3t2 Tryz.func32 rfl ok_zs3t2 dst_zs3t2 (by simp [Tryz.ntmps32]) ?_
  rw [run_start]
  simp only [ac_zs3t2, go_sem, contS_seq, simprocAttr]
  (repeat' (first | (refine GifP.mk (fun _ => ?_) (fun _ => ?_)) | (refine Gif.mk (fun _ => ?_) (fun _ => ?_)) | ((first | refine (object_May o h).callW (enters_of Tryz.func30 rfl rfl) _ rfl rfl ?_ | refine (ContainsFunc_Side (sideIs kind space) 43 (enters_of Tryz.func43 rfl rfl) [(1000001, 0), (1000002, 0)] [(1000001, [int kind]), (1000002, [str space])] (Cl.of rfl rfl rfl rfl rfl) o.from_ h.fr (fun s _ => Lets_1 kind space s)).callW (enters_of Tryz.func45 rfl rfl) _ [(5, 1000001), (6, 1000002)] rfl rfl rfl ?_ | refine (ContainsFunc_Side (sideAt t) 44 (enters_of Tryz.func44 rfl rfl) [(1000001, 0)] [(1000001, [int t.kind, str t.space, str t.name])] (Cl.of rfl rfl rfl rfl rfl) o.to_ h.to (fun s _ => Lets_2 t s)).callW (enters_of Tryz.func45 rfl rfl) _ [(7, 1000001)] rfl rfl rfl ?_); rintro _ rfl; try simp only [go_sem, contS_seq, simprocAttr]))) <;> (simp only [retK, fullK, iterK, resD, resA, AOp.ex, St.ev, Option.map_some, Option.bind_some, St.get, lk, reduceIte, Nat.reduceEqDiff, Option.getD_some, oneD, List.getElem?_cons_zero, List.getElem?_cons_succ, List.drop_zero, List.drop_succ_cons, List.take_succ_cons, List.take_zero, List.length_cons, List.length_nil, Nat.zero_add, Nat.reduceAdd, Nat.le_refl, Nat.reduceLeDiff, D.pub, D.pubs, Tryz.results32]; exact ⟨_, rfl, rfl, congrArg bln (by first | rfl | (rw [Bool.eq_iff_iff]; simp only [lets]; simp; done) | (rw [Bool.eq_iff_iff]; simp only [lets]; simp; omega) | (rw [Bool.eq_iff_iff]; simp only [lets]; simp [*]; done) | (rw [Bool.eq_iff_iff]; simp only [lets]; simp [*]; omega) | (simp_all [lets]; done) | (exfalso; omega))⟩)

def permits (os : List AObj) (kind : Int) (space : ByteArray) (t : ARef) : Bool := os.any (lets kind space t) || decide (space = t.space)

theorem grant_Permits' (os : List AObj) (hos : os.length ≤ 1000000) (h : ∀ o ∈ os, o.ok) (kind : Int) (space : ByteArray) (t : ARef) :
    Pure Tryz.prog 24 [.pd (.slice (rows AObj.pd os)), int kind, str space, t.d] (fun d => d = bln (permits os kind space t)) :=
  grant_Permits (lets kind space t) os kind space t hos (fun o ho => grant_Lets o (h o ho) kind space t)

def isRef (r : ARef) (o : AObj) : Bool := decide (o.ref = r)

theorem Find_1 (r : ARef) (o : AObj) : PureB Tryz.prog 34 [o.d, .ptr 1000001 0] [(1000001, [int r.kind, str r.space, str r.name])] (fun d => d = bln (isRef r o)) := by
  refine pureB_of_run follows an_zl31y Tryz.func34 rfl ok_zl31y dst_zl31y (by simp [Tryz.ntmps34]) ?_
  rw [run_start]
  simp only [ac_zl31y, go_sem, contS_seq, simprocAttr, eqVs, eqV, eq_Ref]
  simp only [retK, fullK, iterK, resD, resA, AOp.ex, St.ev, Option.map_some, Option.bind_some, St.get, lk, reduceIte, Nat.reduceEqDiff, Option.getD_some, oneD, List.getElem?_cons_zero, List.getElem?_cons_succ, List.drop_zero, List.drop_succ_cons, List.take_succ_cons, List.take_zero, List.length_cons, List.length_nil, Nat.zero_add, Nat.reduceAdd, Nat.le_refl, Nat.reduceLeDiff, D.pub, D.pubs, Tryz.results34]
  exact ⟨_, rfl, rfl, rfl⟩

theorem lidx_find {α : Type} (p : α → Bool) : ∀ (l : List α) (k : Nat), (l.find? p = none ∧ lidx p l k = -1) ∨ ∃ x j, l.find? p = some x ∧ lidx p l k = ((k + j : Nat) : Int) ∧ l[j]? = some x
  | [], k => .inl ⟨rfl, rfl⟩
  | x :: l, k => by
    rw [List.find?_cons, lidx]
    by_cases h : p x = true
    · rw [if_pos h, h]; exact .inr ⟨x, 0, rfl, by simp, by simp⟩
    · rw [if_neg h]
      have h' : p x = false := by simpa using h
      rw [h']
      rcases lidx_find p l (k + 1) with h1 | ⟨y, j, h1, h2, h3⟩
      · exact .inl h1
      · exact .inr ⟨y, j + 1, h1, by rw [h2]; omega, by simpa using h3⟩

def ref0 : ARef := ⟨0, ⟨#[]⟩, ⟨#[]⟩⟩

def found (os : List AObj) (r : ARef) : Option AObj := os.find? (isRef r)

def foundD : Option AObj → D
  | some o => .tup [o.d, bln true]
  | none => .tup [(AObj.zero ref0).d, bln false]

theorem grant_Find (os : List AObj) (hos : os.length ≤ 1000000) (r : ARef) : Pure Tryz.prog 29 [.pd (.slice (rows AObj.pd os)), r.d] (fun d => d = foundD (found os r)) := by
  refine pure_of_run follows an_z88d6 Tryz.func29 rfl ok_z88d6 dst_z88d6 (by simp [Tryz.ntmps29]) ?_
  rw [run_start]
  simp only [ac_z88d6, go_sem, contS_seq, simprocAttr]
  refine (IndexFunc_Object (isRef r) 34 (enters_of Tryz.func34 rfl rfl) [(1000001, 0)] [(1000001, [int r.kind, str r.space, str r.name])] (Cl.of rfl rfl rfl rfl rfl) os hos (fun o _ => Find_1 r o)).callW (enters_of Tryz.func33 rfl rfl) _ [(3, 1000001)] rfl rfl rfl ?_
  rintro d rfl
  rcases lidx_find (isRef r) os 0 with ⟨h1, h2⟩ | ⟨x, j, h1, h2, h3⟩
  · rw [h2]
    simp only [go_sem, contS_seq, simprocAttr]
    simp only [retK, fullK, iterK, resD, resA, AOp.ex, St.ev, Option.map_some, Option.bind_some, St.get, lk, reduceIte, Nat.reduceEqDiff, Option.getD_some, oneD, List.getElem?_cons_zero, List.getElem?_cons_succ, List.drop_zero, List.drop_succ_cons, List.take_succ_cons, List.take_zero, List.length_cons, List.length_nil, Nat.zero_add, Nat.reduceAdd, Nat.le_refl, Nat.reduceLeDiff, D.pub, D.pubs, ret_z88d6]
    refine ⟨_, rfl, rfl, ?_⟩
    rw [found, h1]; rfl
  · rw [h2, Nat.zero_add]
    have hn : ((j : Int) < 0) = False := eq_false (by omega)
    simp only [go_sem, contS_seq, simprocAttr, hn, rows_get h3]
    simp only [retK, fullK, iterK, resD, resA, AOp.ex, St.ev, Option.map_some, Option.bind_some, St.get, lk, reduceIte, Nat.reduceEqDiff, Option.getD_some, oneD, List.getElem?_cons_zero, List.getElem?_cons_succ, List.drop_zero, List.drop_succ_cons, List.take_succ_cons, List.take_zero, List.length_cons, List.length_nil, Nat.zero_add, Nat.reduceAdd, Nat.le_refl, Nat.reduceLeDiff, D.pub, D.pubs, ret_z88d6]
    refine ⟨_, rfl, rfl, ?_⟩
    rw [found, h1]; rfl


theorem beq_tt (b : Bool) : (b == b) = true := by cases b <;> rfl

section
variable {α : Type} [DecidableEq α]

def atG (k : α) : List (α × Int) → Nat → Option (Nat × Int)
  | [], _ => none
  | (a, v) :: r, i => if k = a then some (i, v) else atG k r (i + 1)

def lookG (k : α) (l : List (α × Int)) : Int := match atG k l 0 with
  | some p => p.2
  | none => 0

def bumpG (k : α) (l : List (α × Int)) : List (α × Int) := match atG k l 0 with
  | some p => l.set p.1 (k, p.2 + 1)
  | none => l ++ [(k, 1)]

theorem atG_from (k : α) : ∀ (l : List (α × Int)) (i : Nat), atG k l (i + 1) = (atG k l i).map fun p => (p.1 + 1, p.2)
  | [], _ => rfl
  | (a, v) :: r, i => by
    simp only [atG]
    split
    · rfl
    · exact atG_from k r (i + 1)

theorem lookG_cons (k a : α) (v : Int) (r : List (α × Int)) : lookG k ((a, v) :: r) = if k = a then v else lookG k r := by
  unfold lookG
  simp only [atG]
  by_cases h : k = a
  · simp only [if_pos h]
  · simp only [if_neg h, atG_from]
    cases atG k r 0 <;> rfl

theorem bumpG_cons (k a : α) (v : Int) (r : List (α × Int)) : bumpG k ((a, v) :: r) = if k = a then (k, v + 1) :: r else (a, v) :: bumpG k r := by
  unfold bumpG
  simp only [atG]
  by_cases h : k = a
  · simp only [if_pos h, List.set_cons_zero]
  · simp only [if_neg h, atG_from]
    cases atG k r 0 <;> rfl

theorem lookG_bumpG (k j : α) : ∀ l : List (α × Int), lookG j (bumpG k l) = lookG j l + if j = k then 1 else 0
  | [] => by
    show lookG j ([] ++ [(k, 1)]) = _
    rw [List.nil_append, lookG_cons]
    split <;> rfl
  | (a, v) :: r => by
    rw [bumpG_cons, lookG_cons]
    by_cases h : k = a
    · rw [if_pos h, lookG_cons]
      subst h
      by_cases hj : j = k <;> simp [hj]
    · rw [if_neg h, lookG_cons, lookG_bumpG k j r]
      by_cases hj : j = a
      · subst hj
        simp [show ¬ j = k from fun e => h e.symm]
      · simp [hj]

def entG (f : α → List Value) (l : List (α × Int)) : List (Value × Value) := l.map fun p => (.agg (f p.1).toArray, .int .i64 p.2)

theorem findS_ent {ks : List LK} {f : α → List Value} (hf : ∀ a b, eqVs ks (f a) (f b) = some (decide (a = b))) (k : α) : ∀ (l : List (α × Int)) (i : Nat), findS ks (f k) (entG f l) i = some ((atG k l i).map fun p => (p.1, Value.int .i64 p.2))
  | [], _ => rfl
  | (a, v) :: r, i => by
    have ih := findS_ent hf k r (i + 1)
    simp only [entG, List.map_cons] at ih ⊢
    simp only [findS, atG, hf]
    by_cases h : k = a
    · simp only [h, decide_true, if_true, Option.map_some]
    · simp only [h, decide_false, if_false]
      exact ih

theorem cd_look (k : α) (l : List (α × Int)) (r : Option (Nat × Value)) (hr : r = (atG k l 0).map fun p => (p.1, Value.int .i64 p.2)) : cD0 ((Option.map (fun p => p.2) r).getD (.int .i64 0)) = int (lookG k l) := by
  subst hr
  unfold lookG
  cases atG k l 0 <;> rfl

theorem atG_at (k : α) : ∀ (l : List (α × Int)) (i : Nat) (p : Nat × Int), atG k l i = some p → i ≤ p.1 ∧ p.1 - i < l.length
  | [], _, _, h => by simp [atG] at h
  | (a, v) :: r, i, p, h => by
    simp only [atG] at h
    split at h
    · cases h; simp
    · have := atG_at k r (i + 1) p h
      simp only [List.length_cons]
      omega

theorem setAt_nat (es : List (Value × Value)) (p : Nat) (u : Value) : setAt es (p : Int) u = (es[p]?).map fun e => es.set p (e.1, u) := by
  unfold setAt
  rw [if_pos (Int.natCast_nonneg _), Int.toNat_natCast]

def touchG (k : α) (l : List (α × Int)) : List (α × Int) := match atG k l 0 with
  | some _ => l
  | none => l ++ [(k, 0)]

theorem atG_app (k : α) (m : List (α × Int)) : ∀ (l : List (α × Int)) (i : Nat), atG k l i = none → atG k (l ++ m) i = atG k m (i + l.length)
  | [], i, _ => by simp
  | (a, v) :: r, i, h => by
    simp only [atG] at h
    split at h
    · cases h
    · rename_i hk
      simp only [List.cons_append, atG, if_neg hk, List.length_cons]
      rw [atG_app k m r (i + 1) h, show i + 1 + r.length = i + (r.length + 1) by omega]

theorem look_touch (k : α) (l : List (α × Int)) : lookG k (touchG k l) = lookG k l := by
  unfold touchG
  cases h : atG k l 0 with
  | some p => rfl
  | none =>
    simp only
    unfold lookG
    rw [atG_app k _ l 0 h, h]
    simp [atG]

theorem getElem_at (k : α) : ∀ (l : List (α × Int)) (i : Nat) (p : Nat × Int), atG k l i = some p → l[p.1 - i]? = some (k, p.2)
  | [], _, _, h => by simp [atG] at h
  | (a, v) :: r, i, p, h => by
    have hb := atG_at k ((a, v) :: r) i p h
    simp only [atG] at h
    split at h
    · rename_i hk
      cases h
      simp [hk]
    · have h1 := getElem_at k r (i + 1) p h
      have h2 := atG_at k r (i + 1) p h
      rw [show p.1 - i = (p.1 - (i + 1)) + 1 by omega, List.getElem?_cons_succ]
      exact h1

theorem touch_put (f : α → List Value) (k : α) (l : List (α × Int)) (r : Option (Nat × Value)) (hr : r = (atG k l 0).map fun p => (p.1, Value.int .i64 p.2)) :
    putM (.agg (f k).toArray) ((Option.map (fun p => p.2) r).getD (.int .i64 0)) r (entG f l) = entG f (touchG k l) := by
  subst hr
  unfold touchG
  cases h : atG k l 0 with
  | none => simp [putM, entG]
  | some p =>
    simp only [Option.map_some, Option.getD_some, putM]
    have h1 := getElem_at k l 0 p h
    rw [Nat.sub_zero] at h1
    refine List.ext_getElem? fun m => ?_
    rw [List.getElem?_set]
    by_cases hm : p.1 = m
    · subst hm
      have := (List.getElem?_eq_some_iff.1 h1).1
      simp [entG, h1, this, (List.getElem?_eq_some_iff.1 h1).2]
    · simp [hm]

theorem set_bump (f : α → List Value) (k : α) (l : List (α × Int)) (r : Option (Nat × Value)) (hr : r = (atG k l 0).map fun p => (p.1, Value.int .i64 p.2)) :
    setAt (putM (.agg (f k).toArray) ((Option.map (fun p => p.2) r).getD (.int .i64 0)) r (entG f l)) (stampM r (entG f l)) (.int .i64 (lookG k l + 1)) = some (entG f (bumpG k l)) := by
  subst hr
  unfold lookG bumpG
  cases h : atG k l 0 with
  | none =>
    show setAt (entG f l ++ [(Value.agg (f k).toArray, Value.int .i64 0)]) ((entG f l).length : Nat) (.int .i64 (0 + 1)) = _
    rw [setAt_nat]
    simp [entG]
  | some p =>
    have := atG_at k l 0 p h
    have hl : p.1 < l.length := by omega
    show setAt ((entG f l).set p.1 (Value.agg (f k).toArray, Value.int .i64 p.2)) (p.1 : Nat) (.int .i64 (p.2 + 1)) = _
    rw [setAt_nat]
    simp [entG, List.map_set, hl]

theorem count_step {β : Type} {f : β → α} {l : List β} {i : Nat} {x : β} (h : l[i]? = some x) {es : List (α × Int)} (hes : ∀ k, lookG k es = ((l.take i).countP fun y => decide (f y = k) : Nat)) (k : α) :
    lookG k (bumpG (f x) es) = ((l.take (i + 1)).countP fun y => decide (f y = k) : Nat) := by
  rw [lookG_bumpG, hes, take_at h, List.countP_append]
  by_cases hk : k = f x
  · subst hk; simp
  · simp [hk, show ¬ f x = k from fun e => hk e.symm]
end

end Go.Proofs.YtmdepehjfnpklaaGreatDoor

namespace Go.Proofs.YtmdepehjfnpklaaGreatDoor
open Go

def an_zknyw : Ann := ⟨[(0, [0, 2, 4]), (1, [0, 2, 4]), (2, [0, 2, 4, 7]), (3, [0, 2, 4, 7, 20]), (4, [6]), (5, [0, 4, 7, 8]), (6, [0, 4, 7, 8, 9]), (7, [0, 4, 7, 8, 9]), (8, [0, 4, 7, 8, 9, 10]), (9, [0, 4, 7, 8, 9, 10, 48]), (10, [0, 4, 7, 8, 9, 10]), (11, [0, 4, 7, 8, 9, 10, 11]), (12, [0, 4, 7, 8, 9, 10, 86]), (13, [6]), (14, [6])], [(1, ([0, 1, 0, 7, 15, 31], .take 0 (.take 2 (.alts (.cons 1 false (.alts (.cons 3 true (.take 4 (.alts (.cons 5 true (.done) (.nil)))) (.nil))) (.nil)))))), (7, ([0, 0, 2, 0, 14, 31, 0, 64, 0, 448, 1023, 2047, 4095], .take 1 (.take 2 (.take 3 (.take 4 (.take 6 (.take 7 (.take 8 (.take 9 (.alts (.cons 0 false (.alts (.cons 5 false (.alts (.cons 10 true (.take 11 (.alts (.cons 12 true (.done) (.nil)))) (.nil))) (.nil))) (.nil)))))))))))), (12, ([0, 0, 3, 0, 0, 31, 63, 127, 255, 255, 255, 2047, 255, 255, 255, 32767, 65535, 131071, 262143, 524287, 524287, 524287, 4194303, 524287, 524287, 524287, 67108863, 134217727, 268435455], .take 0 (.take 1 (.take 3 (.take 4 (.alts (.cons 2 false (.alts (.cons 5 true (.take 6 (.take 7 (.take 8 (.take 9 (.take 10 (.take 12 (.take 13 (.take 14 (.alts (.cons 11 false (.alts (.cons 15 true (.take 16 (.take 17 (.take 18 (.take 19 (.take 20 (.take 21 (.take 23 (.take 24 (.take 25 (.alts (.cons 22 false (.alts (.cons 26 true (.take 27 (.take 28 (.done))) (.nil))) (.nil)))))))))))) (.nil))) (.nil))))))))))) (.nil))) (.nil)))))))), (14, ([0, 0, 3, 7, 0, 0, 55, 119, 255, 511, 1023, 2047, 4095], .take 0 (.take 1 (.take 4 (.take 5 (.alts (.cons 2 false (.take 3 (.alts (.cons 6 false (.take 7 (.take 8 (.take 9 (.alts (.cons 10 true (.take 11 (.take 12 (.done))) (.nil)))))) (.nil)))) (.nil))))))))], []⟩
def ac_zknyw : AC := (.seq (.region [.mk none (some 4) (.box 33 (.tmp 1)), .mk none (some 6) (.mv (.const (.bool false)))] (some [0, 2, 4])) (.seq (.draw [.mk none (some 12) (.mv (.tmp 0)), .mk none (some 13) (.call 5 [.tmp 12]), .mk none (some 14) (.load (some 13) (.tmp 4)), .mk none (some 15) (.call 6 [.tmp 14]), .mk none (some 0) (.mv (.tmp 13)), .mk none none (.store 13 (.tmp 4) (.tmp 15))] [0, 1, 0, 7, 15, 31] (.take 0 (.take 2 (.alts (.cons 1 false (.alts (.cons 3 true (.take 4 (.alts (.cons 5 true .done .nil))) .nil)) .nil)))) (some [0, 2, 4])) (.seq (.region [.mk none (some 16) (.fieldA 7 (.tmp 4)), .mk none (some 17) (.load none (.tmp 16)), .mk none (some 18) (.len (.tmp 17) false), .mk none (some 7) (.mv (.tmp 18))] (some [0, 2, 4, 7])) (.seq (.seq (.region [.mk none (some 19) (.mv (.tmp 7)), .mk none (some 20) (.bin .eql (.tmp 19) (.const (.int .i64 0)))] (some [0, 2, 4, 7, 20])) (.cond (.tmp 20) (.seq (.region [.mk none (some 21) (.mv (.tmp 0)), .mk none (some 22) (.load (some 13) (.tmp 4)), .mk none (some 23) (.call 7 [.tmp 21, .tmp 22]), .mk none (some 24) (.len (.tmp 23) false), .mk none (some 25) (.bin .eql (.tmp 24) (.const (.int .i64 0))), .mk none (some 26) (.mv (.tmp 25)), .mk (some (26, true)) (some 27) (.call 8 []), .mk none (some 28) (.pick (.tmp 26) (.tmp 27) (.const (.bool false))), .mk none (some 6) (.mv (.tmp 28))] (some [6])) .ret) .skip)) (.seq (.region [.mk none (some 29) (.mv (.tmp 2)), .mk none (some 30) (.conv .i64 (.tmp 29)), .mk none (some 31) (.mv (.tmp 7)), .mk none (some 32) (.bin .rem (.tmp 30) (.tmp 31)), .mk none (some 8) (.mv (.tmp 32))] (some [0, 4, 7, 8])) (.seq (.region [.mk none (some 33) (.load (some 13) (.tmp 4)), .mk none (some 9) (.alloc 33 [.pd (.raw (.int .i64 0)), .pd (.raw (.string ⟨#[]⟩)), .pd (.raw (.string ⟨#[]⟩)), .pd (.raw (.bool false)), .nils, .nils, .pd (.raw (.string ⟨#[]⟩)), .nils, .nils, .nils, .nils, .nils, .nils]), .mk none none (.store 13 (.tmp 9) (.tmp 33))] (some [0, 4, 7, 8, 9])) (.seq (.draw [.mk none (some 34) (.bslice 49 9 []), .mk none (some 35) (.fieldA 7 (.tmp 4)), .mk none (some 36) (.load none (.tmp 35)), .mk none (some 37) (.mv (.tmp 8)), .mk none (some 38) (.slcL 9 (.tmp 36) (some (.tmp 37)) none), .mk none (some 39) (.append 49 9 120 (.tmp 34) (.tmp 38)), .mk none (some 40) (.fieldA 7 (.tmp 4)), .mk none (some 41) (.load none (.tmp 40)), .mk none (some 42) (.mv (.tmp 8)), .mk none (some 43) (.slcL 9 (.tmp 41) none (some (.tmp 42))), .mk none (some 44) (.append 49 9 120 (.tmp 39) (.tmp 43)), .mk none (some 45) (.fieldA 7 (.tmp 9)), .mk none none (.store 1 (.tmp 45) (.tmp 44))] [0, 0, 2, 0, 14, 31, 0, 64, 0, 448, 1023, 2047, 4095] (.take 1 (.take 2 (.take 3 (.take 4 (.take 6 (.take 7 (.take 8 (.take 9 (.alts (.cons 0 false (.alts (.cons 5 false (.alts (.cons 10 true (.take 11 (.alts (.cons 12 true .done .nil))) .nil)) .nil)) .nil)))))))))) (some [0, 4, 7, 8, 9])) (.seq (.seq (.region [.mk none (some 10) (.mv (.const (.int .i64 0)))] (some [0, 4, 7, 8, 9, 10])) (.block 0 (.loop (.seq (.seq (.region [.mk none (some 46) (.mv (.tmp 10)), .mk none (some 47) (.mv (.tmp 7)), .mk none (some 48) (.bin .lss (.tmp 46) (.tmp 47))] (some [0, 4, 7, 8, 9, 10, 48])) (.cond (.tmp 48) .skip (.exit 0))) (.seq (.block 1 (.seq (.region [.mk none (some 51) (.mv (.tmp 10)), .mk none (some 52) (.mv (.tmp 8)), .mk none (some 53) (.bin .sub (.tmp 51) (.tmp 52)), .mk none (some 54) (.mv (.tmp 7)), .mk none (some 55) (.bin .add (.tmp 53) (.tmp 54)), .mk none (some 56) (.mv (.tmp 7)), .mk none (some 57) (.bin .rem (.tmp 55) (.tmp 56)), .mk none (some 11) (.mv (.tmp 57))] (some [0, 4, 7, 8, 9, 10, 11])) (.seq (.draw [.mk none (some 58) (.load (some 13) (.tmp 9)), .mk none (some 59) (.mv (.tmp 11)), .mk none (some 60) (.call 9 [.tmp 58, .tmp 59]), .mk none (some 61) (.load (some 13) (.tmp 4)), .mk none (some 62) (.mv (.tmp 10)), .mk none (some 63) (.call 9 [.tmp 61, .tmp 62]), .mk none (some 64) (.bin .neq (.tmp 60) (.tmp 63)), .mk none (some 65) (.mv (.tmp 64)), .mk (some (65, false)) (some 66) (.mv (.tmp 0)), .mk (some (65, false)) (some 67) (.load (some 13) (.tmp 9)), .mk (some (65, false)) (some 68) (.mv (.tmp 11)), .mk (some (65, false)) (some 69) (.call 10 [.tmp 66, .tmp 67, .tmp 68]), .mk (some (65, false)) (some 70) (.mv (.tmp 0)), .mk (some (65, false)) (some 71) (.load (some 13) (.tmp 4)), .mk (some (65, false)) (some 72) (.mv (.tmp 10)), .mk (some (65, false)) (some 73) (.call 10 [.tmp 70, .tmp 71, .tmp 72]), .mk (some (65, false)) (some 74) (.binB true (.tmp 69) (.tmp 73)), .mk none (some 75) (.pick (.tmp 65) (.const (.bool true)) (.tmp 74)), .mk none (some 76) (.mv (.tmp 75)), .mk (some (76, false)) (some 77) (.mv (.tmp 0)), .mk (some (76, false)) (some 78) (.load (some 13) (.tmp 9)), .mk (some (76, false)) (some 79) (.mv (.tmp 11)), .mk (some (76, false)) (some 80) (.call 11 [.tmp 77, .tmp 78, .tmp 79]), .mk (some (76, false)) (some 81) (.mv (.tmp 0)), .mk (some (76, false)) (some 82) (.load (some 13) (.tmp 4)), .mk (some (76, false)) (some 83) (.mv (.tmp 10)), .mk (some (76, false)) (some 84) (.call 11 [.tmp 81, .tmp 82, .tmp 83]), .mk (some (76, false)) (some 85) (.bin .neq (.tmp 80) (.tmp 84)), .mk none (some 86) (.pick (.tmp 76) (.const (.bool true)) (.tmp 85))] [0, 0, 3, 0, 0, 31, 63, 127, 255, 255, 255, 2047, 255, 255, 255, 32767, 65535, 131071, 262143, 524287, 524287, 524287, 4194303, 524287, 524287, 524287, 67108863, 134217727, 268435455] (.take 0 (.take 1 (.take 3 (.take 4 (.alts (.cons 2 false (.alts (.cons 5 true (.take 6 (.take 7 (.take 8 (.take 9 (.take 10 (.take 12 (.take 13 (.take 14 (.alts (.cons 11 false (.alts (.cons 15 true (.take 16 (.take 17 (.take 18 (.take 19 (.take 20 (.take 21 (.take 23 (.take 24 (.take 25 (.alts (.cons 22 false (.alts (.cons 26 true (.take 27 (.take 28 .done)) .nil)) .nil))))))))))) .nil)) .nil)))))))))) .nil)) .nil)))))) (some [0, 4, 7, 8, 9, 10, 86])) (.cond (.tmp 86) (.seq (.region [.mk none (some 6) (.mv (.const (.bool false)))] (some [6])) .ret) .skip)))) (.region [.mk none (some 49) (.mv (.tmp 10)), .mk none (some 50) (.bin .add (.tmp 49) (.const (.int .i64 1))), .mk none (some 10) (.mv (.tmp 50))] (some [0, 4, 7, 8, 9, 10]))))))) (.seq (.draw [.mk none (some 87) (.mv (.tmp 0)), .mk none (some 88) (.load (some 13) (.tmp 9)), .mk none (some 89) (.call 7 [.tmp 87, .tmp 88]), .mk none (some 90) (.len (.tmp 89) false), .mk none (some 91) (.mv (.tmp 0)), .mk none (some 92) (.load (some 13) (.tmp 4)), .mk none (some 93) (.call 7 [.tmp 91, .tmp 92]), .mk none (some 94) (.len (.tmp 93) false), .mk none (some 95) (.bin .eql (.tmp 90) (.tmp 94)), .mk none (some 96) (.mv (.tmp 95)), .mk (some (96, true)) (some 97) (.call 8 []), .mk none (some 98) (.pick (.tmp 96) (.tmp 97) (.const (.bool false))), .mk none (some 6) (.mv (.tmp 98))] [0, 0, 3, 7, 0, 0, 55, 119, 255, 511, 1023, 2047, 4095] (.take 0 (.take 1 (.take 4 (.take 5 (.alts (.cons 2 false (.take 3 (.alts (.cons 6 false (.take 7 (.take 8 (.take 9 (.alts (.cons 10 true (.take 11 (.take 12 .done)) .nil))))) .nil))) .nil)))))) (some [6])) .ret)))))))))
theorem ok_zknyw : compC Tryz.prog an_zknyw (Tryz.f3.body.getD .skip) = some ac_zknyw := by kernel_rfl
theorem dst_zknyw : ac_zknyw.dstOK Tryz.f3.ntmps (fun i => decide (i < Tryz.f3.ntmps)) = true := by kernel_rfl

def an_zbm5m : Ann := ⟨[(0, [0, 3]), (1, [0, 3]), (2, [0, 3, 5]), (3, [0, 3, 5, 6]), (4, [0, 3, 5, 6, 7]), (5, [0, 3, 5, 6, 7, 20]), (6, [0, 3, 5, 6, 7]), (7, [0, 3, 5, 6, 7, 29]), (8, [0, 3, 5, 6, 7]), (9, [0, 3, 5, 6, 8]), (10, [0, 3, 6, 8, 9]), (11, [4])], [(1, ([0, 1, 0, 7, 15, 31], .take 0 (.take 2 (.alts (.cons 1 false (.alts (.cons 3 true (.take 4 (.alts (.cons 5 true (.done) (.nil)))) (.nil))) (.nil)))))), (7, ([0, 0, 3, 7, 15, 0, 63], .take 0 (.take 1 (.take 2 (.take 3 (.take 4 (.take 5 (.take 6 (.done)))))))))], []⟩
def ac_zbm5m : AC := (.seq (.region [.mk none (some 3) (.box 33 (.tmp 1)), .mk none (some 4) (.mv (.const (.bool false)))] (some [0, 3])) (.seq (.draw [.mk none (some 10) (.mv (.tmp 0)), .mk none (some 11) (.call 5 [.tmp 10]), .mk none (some 12) (.load (some 13) (.tmp 3)), .mk none (some 13) (.call 6 [.tmp 12]), .mk none (some 0) (.mv (.tmp 11)), .mk none none (.store 13 (.tmp 3) (.tmp 13))] [0, 1, 0, 7, 15, 31] (.take 0 (.take 2 (.alts (.cons 1 false (.alts (.cons 3 true (.take 4 (.alts (.cons 5 true .done .nil))) .nil)) .nil)))) (some [0, 3])) (.seq (.region [.mk none (some 14) (.fieldA 6 (.tmp 3)), .mk none (some 15) (.load none (.tmp 14)), .mk none (some 16) (.build [.pd (.raw (.int .i64 0)), .pd (.raw (.string ⟨#[]⟩)), .pd (.raw (.string ⟨#[]⟩))] [(0, 1, .const (.int .i64 1)), (2, 1, .tmp 15)]), .mk none (some 5) (.alloc 24 [.pd (.raw (.int .i64 0)), .pd (.raw (.string ⟨#[]⟩)), .pd (.raw (.string ⟨#[]⟩))]), .mk none none (.store 3 (.tmp 5) (.tmp 16))] (some [0, 3, 5])) (.seq (.region [.mk none (some 6) (.mv (.const (.slice none 0 0)))] (some [0, 3, 5, 6])) (.seq (.seq (.region [.mk none (some 7) (.mv (.const (.int .i64 0)))] (some [0, 3, 5, 6, 7])) (.block 0 (.loop (.seq (.seq (.region [.mk none (some 17) (.mv (.tmp 7)), .mk none (some 18) (.mv (.tmp 0)), .mk none (some 19) (.len (.tmp 18) false), .mk none (some 20) (.bin .lss (.tmp 17) (.tmp 19))] (some [0, 3, 5, 6, 7, 20])) (.cond (.tmp 20) .skip (.exit 0))) (.seq (.block 1 (.seq (.draw [.mk none (some 23) (.mv (.tmp 0)), .mk none (some 24) (.mv (.tmp 7)), .mk none (some 25) (.idxA 13 (.tmp 23) (.tmp 24)), .mk none (some 26) (.fieldA 0 (.tmp 25)), .mk none (some 27) (.load (some 3) (.tmp 26)), .mk none (some 28) (.load (some 3) (.tmp 5)), .mk none (some 29) (.eqs true [.int, .str, .str] (.tmp 27) (.tmp 28))] [0, 0, 3, 7, 15, 0, 63] (.take 0 (.take 1 (.take 2 (.take 3 (.take 4 (.take 5 (.take 6 .done))))))) (some [0, 3, 5, 6, 7, 29])) (.cond (.tmp 29) (.region [.mk none (some 30) (.mv (.tmp 6)), .mk none (some 31) (.mv (.tmp 0)), .mk none (some 32) (.mv (.tmp 7)), .mk none (some 33) (.idxA 13 (.tmp 31) (.tmp 32)), .mk none (some 34) (.load (some 13) (.tmp 33)), .mk none (some 35) (.bslice 33 13 [.tmp 34]), .mk none (some 36) (.append 33 13 256 (.tmp 30) (.tmp 35)), .mk none (some 6) (.mv (.tmp 36))] (some [0, 3, 5, 6, 7])) .skip))) (.region [.mk none (some 21) (.mv (.tmp 7)), .mk none (some 22) (.bin .add (.tmp 21) (.const (.int .i64 1))), .mk none (some 7) (.mv (.tmp 22))] (some [0, 3, 5, 6, 7]))))))) (.seq (.region [.mk none (some 37) (.load (some 3) (.tmp 5)), .mk none (some 38) (.build [.pd (.raw (.int .i64 0)), .pd (.raw (.string ⟨#[]⟩)), .pd (.raw (.string ⟨#[]⟩)), .pd (.raw (.bool false)), .nils, .nils, .pd (.raw (.string ⟨#[]⟩)), .nils, .nils, .nils, .nils, .nils, .nils] [(0, 3, .tmp 37)]), .mk none (some 39) (.bslice 33 13 [.tmp 38]), .mk none (some 40) (.mv (.tmp 0)), .mk none (some 41) (.append 33 13 256 (.tmp 39) (.tmp 40)), .mk none (some 8) (.mv (.tmp 41))] (some [0, 3, 5, 6, 8])) (.seq (.region [.mk none (some 42) (.load (some 3) (.tmp 5)), .mk none (some 43) (.build [.pd (.raw (.int .i64 0)), .pd (.raw (.string ⟨#[]⟩)), .pd (.raw (.string ⟨#[]⟩)), .pd (.raw (.bool false)), .nils, .nils, .pd (.raw (.string ⟨#[]⟩)), .nils, .nils, .nils, .nils, .nils, .nils] [(0, 3, .tmp 42), (3, 1, .const (.bool true))]), .mk none (some 44) (.bslice 33 13 [.tmp 43]), .mk none (some 45) (.mv (.tmp 0)), .mk none (some 46) (.append 33 13 256 (.tmp 44) (.tmp 45)), .mk none (some 9) (.mv (.tmp 46))] (some [0, 3, 6, 8, 9])) (.seq (.region [.mk none (some 47) (.mv (.tmp 6)), .mk none (some 48) (.load (some 13) (.tmp 3)), .mk none (some 49) (.call 12 [.tmp 47, .tmp 48]), .mk none (some 50) (.un .not (.tmp 49)), .mk none (some 51) (.mv (.tmp 50)), .mk (some (51, true)) (some 52) (.mv (.tmp 6)), .mk (some (51, true)) (some 53) (.load (some 13) (.tmp 3)), .mk (some (51, true)) (some 54) (.call 7 [.tmp 52, .tmp 53]), .mk (some (51, true)) (some 55) (.len (.tmp 54) false), .mk (some (51, true)) (some 56) (.bin .eql (.tmp 55) (.const (.int .i64 0))), .mk none (some 57) (.pick (.tmp 51) (.tmp 56) (.const (.bool false))), .mk none (some 58) (.mv (.tmp 57)), .mk (some (58, true)) (some 59) (.mv (.tmp 8)), .mk (some (58, true)) (some 60) (.load (some 13) (.tmp 3)), .mk (some (58, true)) (some 61) (.call 12 [.tmp 59, .tmp 60]), .mk (some (58, true)) (some 62) (.un .not (.tmp 61)), .mk none (some 63) (.pick (.tmp 58) (.tmp 62) (.const (.bool false))), .mk none (some 64) (.mv (.tmp 63)), .mk (some (64, true)) (some 65) (.mv (.tmp 8)), .mk (some (64, true)) (some 66) (.load (some 13) (.tmp 3)), .mk (some (64, true)) (some 67) (.call 7 [.tmp 65, .tmp 66]), .mk (some (64, true)) (some 68) (.len (.tmp 67) false), .mk (some (64, true)) (some 69) (.bin .eql (.tmp 68) (.const (.int .i64 0))), .mk none (some 70) (.pick (.tmp 64) (.tmp 69) (.const (.bool false))), .mk none (some 71) (.mv (.tmp 70)), .mk (some (71, true)) (some 72) (.mv (.tmp 0)), .mk (some (71, true)) (some 73) (.load (some 13) (.tmp 3)), .mk (some (71, true)) (some 74) (.call 12 [.tmp 72, .tmp 73]), .mk (some (71, true)) (some 75) (.un .not (.tmp 74)), .mk (some (71, true)) (some 76) (.mv (.tmp 75)), .mk (some (76, false)) (some 77) (.mv (.tmp 9)), .mk (some (76, false)) (some 78) (.load (some 13) (.tmp 3)), .mk (some (76, false)) (some 79) (.call 12 [.tmp 77, .tmp 78]), .mk (some (71, true)) (some 80) (.pick (.tmp 76) (.const (.bool true)) (.tmp 79)), .mk none (some 81) (.pick (.tmp 71) (.tmp 80) (.const (.bool false))), .mk none (some 82) (.mv (.tmp 81)), .mk (some (82, true)) (some 83) (.call 8 []), .mk none (some 84) (.pick (.tmp 82) (.tmp 83) (.const (.bool false))), .mk none (some 4) (.mv (.tmp 84))] (some [4])) .ret))))))))
theorem ok_zbm5m : compC Tryz.prog an_zbm5m (Tryz.f4.body.getD .skip) = some ac_zbm5m := by kernel_rfl
theorem dst_zbm5m : ac_zbm5m.dstOK Tryz.f4.ntmps (fun i => decide (i < Tryz.f4.ntmps)) = true := by kernel_rfl

def an_zu7tu : Ann := ⟨[(0, [0, 3]), (1, [0, 3, 5]), (2, [0, 3, 5, 9, 10]), (3, [0, 3, 5, 9, 10, 11]), (4, [0, 3, 5, 6, 9, 10]), (5, [0, 3, 5, 6, 9, 10, 16]), (6, [0, 3, 5, 9, 10]), (7, [0, 3, 5, 9, 10]), (8, [4])], [], []⟩
def ac_zu7tu : AC := (.seq (.region [.mk none (some 3) (.box 33 (.tmp 1)), .mk none (some 4) (.mv (.const (.slice none 0 0)))] (some [0, 3])) (.seq (.region [.mk none (some 5) (.mv (.const (.slice none 0 0)))] (some [0, 3, 5])) (.seq (.seq (.region [.mk none (some 7) (.fieldA 7 (.tmp 3)), .mk none (some 8) (.load none (.tmp 7)), .mk none (some 9) (.len (.tmp 8) false), .mk none (some 10) (.mv (.const (.int .i64 0)))] (some [0, 3, 5, 9, 10])) (.block 0 (.loop (.seq (.region [.mk none (some 11) (.bin .lss (.tmp 10) (.tmp 9))] (some [0, 3, 5, 9, 10, 11])) (.seq (.cond (.tmp 11) .skip (.exit 0)) (.seq (.block 1 (.seq (.region [.mk none (some 12) (.mv (.tmp 10)), .mk none (some 6) (.mv (.tmp 12))] (some [0, 3, 5, 6, 9, 10])) (.seq (.region [.mk none (some 13) (.mv (.tmp 0)), .mk none (some 14) (.load (some 13) (.tmp 3)), .mk none (some 15) (.mv (.tmp 6)), .mk none (some 16) (.call 10 [.tmp 13, .tmp 14, .tmp 15])] (some [0, 3, 5, 6, 9, 10, 16])) (.cond (.tmp 16) (.region [.mk none (some 17) (.mv (.tmp 5)), .mk none (some 18) (.mv (.tmp 6)), .mk none (some 19) (.bslice 3 1 [.tmp 18]), .mk none (some 20) (.append 3 1 8 (.tmp 17) (.tmp 19)), .mk none (some 5) (.mv (.tmp 20))] (some [0, 3, 5, 9, 10])) .skip)))) (.region [.mk none (some 21) (.bin .add (.tmp 10) (.const (.int .i64 1))), .mk none (some 10) (.mv (.tmp 21))] (some [0, 3, 5, 9, 10])))))))) (.seq (.region [.mk none (some 22) (.mv (.tmp 5)), .mk none (some 4) (.mv (.tmp 22))] (some [4])) .ret))))
theorem ok_zu7tu : compC Tryz.prog an_zu7tu (Tryz.f7.body.getD .skip) = some ac_zu7tu := by kernel_rfl
theorem dst_zu7tu : ac_zu7tu.dstOK Tryz.f7.ntmps (fun i => decide (i < Tryz.f7.ntmps)) = true := by kernel_rfl

def an_zwa7s : Ann := ⟨[(0, []), (1, [1]), (2, [0])], [], []⟩
def ac_zwa7s : AC := (.seq (.region [.mk none (some 0) (.mv (.const (.bool false)))] (some [])) (.seq (.region [.mk none (some 2) (.build [.pd (.raw (.int .i64 0)), .pd (.raw (.string ⟨#[]⟩)), .pd (.raw (.string ⟨#[]⟩))] [(0, 1, .const (.int .i64 1)), (2, 1, .const (.string ⟨#[99]⟩))]), .mk none (some 3) (.build [.pd (.raw (.int .i64 0)), .pd (.raw (.string ⟨#[]⟩)), .pd (.raw (.string ⟨#[]⟩)), .pd (.raw (.bool false)), .nils, .nils, .pd (.raw (.string ⟨#[]⟩)), .nils, .nils, .nils, .nils, .nils, .nils] [(0, 3, .tmp 2), (3, 1, .const (.bool true))]), .mk none (some 4) (.bslice 33 13 [.tmp 3]), .mk none (some 1) (.mv (.tmp 4))] (some [1])) (.seq (.region [.mk none (some 5) (.call 20 []), .mk none (some 6) (.call 9 [.tmp 5, .const (.int .i64 0)]), .mk none (some 7) (.bin .eql (.tmp 6) (.const (.string ⟨#[72, 111, 115, 116, 110, 97, 109, 101, 67, 111, 110, 102, 108, 105, 99, 116]⟩))), .mk none (some 8) (.mv (.tmp 7)), .mk (some (8, true)) (some 9) (.call 20 []), .mk (some (8, true)) (some 10) (.call 9 [.tmp 9, .const (.int .i64 2)]), .mk (some (8, true)) (some 11) (.bin .eql (.tmp 10) (.const (.string ⟨#[]⟩))), .mk none (some 12) (.pick (.tmp 8) (.tmp 11) (.const (.bool false))), .mk none (some 13) (.mv (.tmp 12)), .mk (some (13, true)) (some 14) (.mv (.tmp 1)), .mk (some (13, true)) (some 15) (.call 20 []), .mk (some (13, true)) (some 16) (.call 11 [.tmp 14, .tmp 15, .const (.int .i64 3)]), .mk (some (13, true)) (some 17) (.bin .eql (.tmp 16) (.const (.string ⟨#[73, 110, 118, 97, 108, 105, 100, 67, 101, 114, 116, 105, 102, 105, 99, 97, 116, 101, 82, 101, 102]⟩))), .mk none (some 18) (.pick (.tmp 13) (.tmp 17) (.const (.bool false))), .mk none (some 19) (.mv (.tmp 18)), .mk (some (19, true)) (some 20) (.mv (.tmp 1)), .mk (some (19, true)) (some 21) (.call 20 []), .mk (some (19, true)) (some 22) (.call 10 [.tmp 20, .tmp 21, .const (.int .i64 2)]), .mk none (some 23) (.pick (.tmp 19) (.tmp 22) (.const (.bool false))), .mk none (some 24) (.mv (.tmp 23)), .mk (some (24, true)) (some 25) (.mv (.tmp 1)), .mk (some (24, true)) (some 26) (.call 20 []), .mk (some (24, true)) (some 27) (.call 12 [.tmp 25, .tmp 26]), .mk none (some 28) (.pick (.tmp 24) (.tmp 27) (.const (.bool false))), .mk none (some 29) (.mv (.tmp 28)), .mk none (some 30) (.pick (.tmp 29) (.const (.bool true)) (.const (.bool false))), .mk none (some 31) (.mv (.tmp 30)), .mk none (some 32) (.pick (.tmp 31) (.const (.bool true)) (.const (.bool false))), .mk none (some 0) (.mv (.tmp 32))] (some [0])) .ret)))
theorem ok_zwa7s : compC Tryz.prog an_zwa7s (Tryz.f8.body.getD .skip) = some ac_zwa7s := by kernel_rfl
theorem dst_zwa7s : ac_zwa7s.dstOK Tryz.f8.ntmps (fun i => decide (i < Tryz.f8.ntmps)) = true := by kernel_rfl

def an_zn9vq : Ann := ⟨[(0, [1, 2]), (1, [2, 5, 6]), (2, [2, 5, 18]), (3, [4]), (4, [2, 5, 7, 8]), (5, [5, 7, 8, 22, 23, 24]), (6, [5, 7, 8, 22, 23, 24, 25]), (7, [5, 7, 8, 10, 22, 23, 24]), (8, [5, 7, 8, 10, 22, 23, 24]), (9, [5, 7, 8, 22, 23, 24]), (10, [5, 7, 8, 22, 23, 24]), (11, [5, 8, 44]), (12, [4]), (13, [54]), (14, [4]), (15, [4])], [(8, ([0, 0, 2, 6, 15, 31, 15, 79, 255], .take 0 (.take 1 (.alts (.cons 2 false (.take 3 (.alts (.cons 4 true (.take 5 (.alts (.cons 6 false (.take 7 (.alts (.cons 8 true (.done) (.nil)))) (.nil)))) (.cons 6 true (.take 4 (.take 5 (.take 7 (.alts (.cons 8 true (.done) (.nil)))))) (.nil))))) (.nil)))))), (9, ([0, 0, 2, 7, 15, 7, 39, 127], .take 0 (.take 1 (.alts (.cons 2 false (.alts (.cons 3 true (.take 4 (.alts (.cons 5 false (.take 6 (.alts (.cons 7 true (.done) (.nil)))) (.nil)))) (.cons 5 true (.take 3 (.take 4 (.take 6 (.alts (.cons 7 true (.done) (.nil)))))) (.nil)))) (.nil))))))], []⟩
def ac_zn9vq : AC := (.seq (.region [.mk none (some 2) (.box 33 (.tmp 0)), .mk none (some 4) (.mv (.const (.string ⟨#[]⟩)))] (some [1, 2])) (.seq (.region [.mk none (some 12) (.load (some 13) (.tmp 2)), .mk none (some 13) (.mv (.tmp 1)), .mk none (some 14) (.call 21 [.tmp 12, .tmp 13]), .mk none (some 11) (.mv (.tmp 14)), .mk none (some 15) (.extract (.tmp 11) 0), .mk none (some 16) (.extract (.tmp 11) 1), .mk none (some 5) (.alloc 49 [.pd (.raw (.string ⟨#[]⟩)), .pd (.raw (.int .i64 0)), .pd (.raw (.bool false)), .pd (.raw (.string ⟨#[]⟩)), .pd (.raw (.int .i64 0)), .pd (.raw (.string ⟨#[]⟩)), .pd (.raw (.string ⟨#[]⟩)), .pd (.raw (.int .i64 0)), .nils]), .mk none none (.store 9 (.tmp 5) (.tmp 15)), .mk none (some 6) (.mv (.tmp 16))] (some [2, 5, 6])) (.seq (.seq (.region [.mk none (some 17) (.mv (.tmp 6)), .mk none (some 18) (.un .not (.tmp 17))] (some [2, 5, 18])) (.cond (.tmp 18) (.seq (.region [.mk none (some 4) (.mv (.const (.string ⟨#[]⟩)))] (some [4])) .ret) .skip)) (.seq (.region [.mk none (some 19) .mkmap, .mk none (some 20) .mkmap, .mk none (some 7) (.mv (.tmp 19)), .mk none (some 8) (.mv (.tmp 20))] (some [2, 5, 7, 8])) (.seq (.seq (.region [.mk none (some 21) (.fieldA 7 (.tmp 2)), .mk none (some 22) (.load none (.tmp 21)), .mk none (some 23) (.len (.tmp 22) false), .mk none (some 24) (.mv (.const (.int .i64 0)))] (some [5, 7, 8, 22, 23, 24])) (.block 0 (.loop (.seq (.region [.mk none (some 25) (.bin .lss (.tmp 24) (.tmp 23))] (some [5, 7, 8, 22, 23, 24, 25])) (.seq (.cond (.tmp 25) .skip (.exit 0)) (.seq (.block 1 (.seq (.region [.mk none (some 26) (.idxA 9 (.tmp 22) (.tmp 24)), .mk none (some 27) (.load (some 9) (.tmp 26)), .mk none (some 10) (.alloc 49 [.pd (.raw (.string ⟨#[]⟩)), .pd (.raw (.int .i64 0)), .pd (.raw (.bool false)), .pd (.raw (.string ⟨#[]⟩)), .pd (.raw (.int .i64 0)), .pd (.raw (.string ⟨#[]⟩)), .pd (.raw (.string ⟨#[]⟩)), .pd (.raw (.int .i64 0)), .nils]), .mk none none (.store 9 (.tmp 10) (.tmp 27))] (some [5, 7, 8, 10, 22, 23, 24])) (.seq (.draw [.mk none (some 28) (.mv (.tmp 7)), .mk none (some 29) (.load (some 9) (.tmp 10)), .mk none (some 30) (.call 22 [.tmp 29]), .mk none (some 31) (.field 0 (some 2) (.tmp 30)), .mk none (some 32) (.mget [.int, .bool] (.int .i64 0) (.tmp 28) (.tmp 31)), .mk none (some 33) (.bin .add (.tmp 32) (.const (.int .i64 1))), .mk none (some 34) (.mentry [.int, .bool] (.int .i64 0) (.tmp 28) (.tmp 31)), .mk none (some 35) (.extract (.tmp 34) 1), .mk none none (.mstore (.tmp 28) (.tmp 35) (.tmp 33))] [0, 0, 2, 6, 15, 31, 15, 79, 255] (.take 0 (.take 1 (.alts (.cons 2 false (.take 3 (.alts (.cons 4 true (.take 5 (.alts (.cons 6 false (.take 7 (.alts (.cons 8 true .done .nil))) .nil))) (.cons 6 true (.take 4 (.take 5 (.take 7 (.alts (.cons 8 true .done .nil))))) .nil)))) .nil)))) (some [5, 7, 8, 10, 22, 23, 24])) (.draw [.mk none (some 36) (.mv (.tmp 8)), .mk none (some 37) (.load (some 9) (.tmp 10)), .mk none (some 38) (.call 22 [.tmp 37]), .mk none (some 39) (.mget [.int, .bool, .str] (.int .i64 0) (.tmp 36) (.tmp 38)), .mk none (some 40) (.bin .add (.tmp 39) (.const (.int .i64 1))), .mk none (some 41) (.mentry [.int, .bool, .str] (.int .i64 0) (.tmp 36) (.tmp 38)), .mk none (some 42) (.extract (.tmp 41) 1), .mk none none (.mstore (.tmp 36) (.tmp 42) (.tmp 40))] [0, 0, 2, 7, 15, 7, 39, 127] (.take 0 (.take 1 (.alts (.cons 2 false (.alts (.cons 3 true (.take 4 (.alts (.cons 5 false (.take 6 (.alts (.cons 7 true .done .nil))) .nil))) (.cons 5 true (.take 3 (.take 4 (.take 6 (.alts (.cons 7 true .done .nil))))) .nil))) .nil)))) (some [5, 7, 8, 22, 23, 24]))))) (.region [.mk none (some 43) (.bin .add (.tmp 24) (.const (.int .i64 1))), .mk none (some 24) (.mv (.tmp 43))] (some [5, 7, 8, 22, 23, 24])))))))) (.seq (.block 2 (.seq (.region [.mk none (some 45) (.mv (.tmp 7)), .mk none (some 46) (.fieldA 1 (.tmp 5)), .mk none (some 47) (.load none (.tmp 46)), .mk none (some 48) (.fieldA 2 (.tmp 5)), .mk none (some 49) (.load none (.tmp 48)), .mk none (some 50) (.un .not (.tmp 49)), .mk none (some 51) (.build [.pd (.raw (.int .i64 0)), .pd (.raw (.bool false))] [(0, 1, .tmp 47), (1, 1, .tmp 50)]), .mk none (some 52) (.mget [.int, .bool] (.int .i64 0) (.tmp 45) (.tmp 51)), .mk none (some 53) (.bin .gtr (.tmp 52) (.const (.int .i64 0))), .mk none (some 44) (.mv (.tmp 53))] (some [5, 8, 44])) (.cond (.tmp 44) (.seq (.region [.mk none (some 4) (.mv (.const (.string ⟨#[80, 114, 111, 116, 111, 99, 111, 108, 67, 111, 110, 102, 108, 105, 99, 116]⟩)))] (some [4])) .ret) (.seq (.region [.mk none (some 55) (.mv (.tmp 8)), .mk none (some 56) (.load (some 9) (.tmp 5)), .mk none (some 57) (.call 22 [.tmp 56]), .mk none (some 58) (.mget [.int, .bool, .str] (.int .i64 0) (.tmp 55) (.tmp 57)), .mk none (some 59) (.bin .gtr (.tmp 58) (.const (.int .i64 1))), .mk none (some 54) (.mv (.tmp 59))] (some [54])) (.cond (.tmp 54) (.seq (.region [.mk none (some 4) (.mv (.const (.string ⟨#[72, 111, 115, 116, 110, 97, 109, 101, 67, 111, 110, 102, 108, 105, 99, 116]⟩)))] (some [4])) .ret) .skip))))) (.seq (.region [.mk none (some 4) (.mv (.const (.string ⟨#[]⟩)))] (some [4])) .ret)))))))
theorem ok_zn9vq : compC Tryz.prog an_zn9vq (Tryz.f9.body.getD .skip) = some ac_zn9vq := by kernel_rfl
theorem dst_zn9vq : ac_zn9vq.dstOK Tryz.f9.ntmps (fun i => decide (i < Tryz.f9.ntmps)) = true := by kernel_rfl

def an_zwyow : Ann := ⟨[(0, [0, 2, 4]), (1, [0, 2, 4, 8]), (2, [6])], [], []⟩
def ac_zwyow : AC := (.seq (.region [.mk none (some 4) (.box 33 (.tmp 1)), .mk none (some 6) (.mv (.const (.bool false)))] (some [0, 2, 4])) (.seq (.region [.mk none (some 10) (.load (some 13) (.tmp 4)), .mk none (some 11) (.mv (.tmp 2)), .mk none (some 12) (.call 21 [.tmp 10, .tmp 11]), .mk none (some 9) (.mv (.tmp 12)), .mk none (some 13) (.extract (.tmp 9) 0), .mk none (some 14) (.extract (.tmp 9) 1), .mk none (some 7) (.alloc 49 [.pd (.raw (.string ⟨#[]⟩)), .pd (.raw (.int .i64 0)), .pd (.raw (.bool false)), .pd (.raw (.string ⟨#[]⟩)), .pd (.raw (.int .i64 0)), .pd (.raw (.string ⟨#[]⟩)), .pd (.raw (.string ⟨#[]⟩)), .pd (.raw (.int .i64 0)), .nils]), .mk none none (.store 9 (.tmp 7) (.tmp 13)), .mk none (some 8) (.mv (.tmp 14))] (some [0, 2, 4, 8])) (.seq (.region [.mk none (some 15) (.mv (.tmp 8)), .mk none (some 16) (.mv (.tmp 15)), .mk (some (16, true)) (some 17) (.mv (.tmp 0)), .mk (some (16, true)) (some 18) (.load (some 13) (.tmp 4)), .mk (some (16, true)) (some 19) (.call 12 [.tmp 17, .tmp 18]), .mk none (some 20) (.pick (.tmp 16) (.tmp 19) (.const (.bool false))), .mk none (some 21) (.mv (.tmp 20)), .mk (some (21, true)) (some 22) (.load (some 13) (.tmp 4)), .mk (some (21, true)) (some 23) (.mv (.tmp 2)), .mk (some (21, true)) (some 24) (.call 9 [.tmp 22, .tmp 23]), .mk (some (21, true)) (some 25) (.bin .eql (.tmp 24) (.const (.string ⟨#[]⟩))), .mk none (some 26) (.pick (.tmp 21) (.tmp 25) (.const (.bool false))), .mk none (some 27) (.mv (.tmp 26)), .mk (some (27, true)) (some 28) (.mv (.tmp 0)), .mk (some (27, true)) (some 29) (.load (some 13) (.tmp 4)), .mk (some (27, true)) (some 30) (.mv (.tmp 2)), .mk (some (27, true)) (some 31) (.call 11 [.tmp 28, .tmp 29, .tmp 30]), .mk (some (27, true)) (some 32) (.bin .eql (.tmp 31) (.const (.string ⟨#[]⟩))), .mk none (some 33) (.pick (.tmp 27) (.tmp 32) (.const (.bool false))), .mk none (some 6) (.mv (.tmp 33))] (some [6])) .ret)))
theorem ok_zwyow : compC Tryz.prog an_zwyow (Tryz.f10.body.getD .skip) = some ac_zwyow := by kernel_rfl
theorem dst_zwyow : ac_zwyow.dstOK Tryz.f10.ntmps (fun i => decide (i < Tryz.f10.ntmps)) = true := by kernel_rfl

def an_zeup4 : Ann := ⟨[(0, [0, 2, 4]), (1, [0, 4, 7, 8]), (2, [0, 4, 7, 8, 9]), (3, [0, 4, 9, 22]), (4, [6]), (5, [0, 9, 30]), (6, [6]), (7, [38]), (8, [6]), (9, [6])], [], []⟩
def ac_zeup4 : AC := (.seq (.region [.mk none (some 4) (.box 33 (.tmp 1)), .mk none (some 6) (.mv (.const (.string ⟨#[]⟩)))] (some [0, 2, 4])) (.seq (.region [.mk none (some 11) (.load (some 13) (.tmp 4)), .mk none (some 12) (.mv (.tmp 2)), .mk none (some 13) (.call 21 [.tmp 11, .tmp 12]), .mk none (some 10) (.mv (.tmp 13)), .mk none (some 14) (.extract (.tmp 10) 0), .mk none (some 15) (.extract (.tmp 10) 1), .mk none (some 7) (.alloc 49 [.pd (.raw (.string ⟨#[]⟩)), .pd (.raw (.int .i64 0)), .pd (.raw (.bool false)), .pd (.raw (.string ⟨#[]⟩)), .pd (.raw (.int .i64 0)), .pd (.raw (.string ⟨#[]⟩)), .pd (.raw (.string ⟨#[]⟩)), .pd (.raw (.int .i64 0)), .nils]), .mk none none (.store 9 (.tmp 7) (.tmp 14)), .mk none (some 8) (.mv (.tmp 15))] (some [0, 4, 7, 8])) (.seq (.region [.mk none (some 16) (.fieldA 4 (.tmp 7)), .mk none (some 17) (.load (some 3) (.tmp 16)), .mk none (some 18) (.fieldA 0 (.tmp 4)), .mk none (some 19) (.fieldA 1 (.tmp 18)), .mk none (some 20) (.load none (.tmp 19)), .mk none (some 21) (.call 23 [.tmp 17, .tmp 20]), .mk none (some 9) (.alloc 24 [.pd (.raw (.int .i64 0)), .pd (.raw (.string ⟨#[]⟩)), .pd (.raw (.string ⟨#[]⟩))]), .mk none none (.store 3 (.tmp 9) (.tmp 21))] (some [0, 4, 7, 8, 9])) (.seq (.block 0 (.seq (.region [.mk none (some 23) (.mv (.tmp 8)), .mk none (some 24) (.un .not (.tmp 23)), .mk none (some 25) (.mv (.tmp 24)), .mk (some (25, false)) (some 26) (.fieldA 2 (.tmp 7)), .mk (some (25, false)) (some 27) (.load none (.tmp 26)), .mk (some (25, false)) (some 28) (.un .not (.tmp 27)), .mk none (some 29) (.pick (.tmp 25) (.const (.bool true)) (.tmp 28)), .mk none (some 22) (.mv (.tmp 29))] (some [0, 4, 9, 22])) (.cond (.tmp 22) (.seq (.region [.mk none (some 6) (.mv (.const (.string ⟨#[]⟩)))] (some [6])) .ret) (.seq (.region [.mk none (some 31) (.mv (.tmp 0)), .mk none (some 32) (.fieldA 0 (.tmp 4)), .mk none (some 33) (.fieldA 1 (.tmp 32)), .mk none (some 34) (.load none (.tmp 33)), .mk none (some 35) (.load (some 3) (.tmp 9)), .mk none (some 36) (.call 24 [.tmp 31, .const (.int .i64 5), .tmp 34, .tmp 35]), .mk none (some 37) (.un .not (.tmp 36)), .mk none (some 30) (.mv (.tmp 37))] (some [0, 9, 30])) (.cond (.tmp 30) (.seq (.region [.mk none (some 6) (.mv (.const (.string ⟨#[82, 101, 102, 78, 111, 116, 80, 101, 114, 109, 105, 116, 116, 101, 100]⟩)))] (some [6])) .ret) (.seq (.region [.mk none (some 39) (.mv (.tmp 0)), .mk none (some 40) (.load (some 3) (.tmp 9)), .mk none (some 41) (.call 25 [.tmp 39, .tmp 40]), .mk none (some 42) (.un .not (.tmp 41)), .mk none (some 38) (.mv (.tmp 42))] (some [38])) (.cond (.tmp 38) (.seq (.region [.mk none (some 6) (.mv (.const (.string ⟨#[73, 110, 118, 97, 108, 105, 100, 67, 101, 114, 116, 105, 102, 105, 99, 97, 116, 101, 82, 101, 102]⟩)))] (some [6])) .ret) .skip))))))) (.seq (.region [.mk none (some 6) (.mv (.const (.string ⟨#[]⟩)))] (some [6])) .ret)))))
theorem ok_zeup4 : compC Tryz.prog an_zeup4 (Tryz.f11.body.getD .skip) = some ac_zeup4 := by kernel_rfl
theorem dst_zeup4 : ac_zeup4.dstOK Tryz.f11.ntmps (fun i => decide (i < Tryz.f11.ntmps)) = true := by kernel_rfl

def an_zws5f : Ann := ⟨[(0, [0, 3]), (1, [4])], [], []⟩
def ac_zws5f : AC := (.seq (.region [.mk none (some 3) (.box 33 (.tmp 1)), .mk none (some 4) (.mv (.const (.bool false)))] (some [0, 3])) (.seq (.region [.mk none (some 5) (.load (some 13) (.tmp 3)), .mk none (some 6) (.call 26 [.tmp 5]), .mk none (some 7) (.mv (.tmp 6)), .mk (some (7, true)) (some 8) (.mv (.tmp 0)), .mk (some (7, true)) (some 9) (.fieldA 6 (.tmp 3)), .mk (some (7, true)) (some 10) (.load none (.tmp 9)), .mk (some (7, true)) (some 11) (.build [.pd (.raw (.int .i64 0)), .pd (.raw (.string ⟨#[]⟩)), .pd (.raw (.string ⟨#[]⟩))] [(0, 1, .const (.int .i64 1)), (2, 1, .tmp 10)]), .mk (some (7, true)) (some 12) (.call 25 [.tmp 8, .tmp 11]), .mk none (some 13) (.pick (.tmp 7) (.tmp 12) (.const (.bool false))), .mk none (some 4) (.mv (.tmp 13))] (some [4])) .ret))
theorem ok_zws5f : compC Tryz.prog an_zws5f (Tryz.f12.body.getD .skip) = some ac_zws5f := by kernel_rfl
theorem dst_zws5f : ac_zws5f.dstOK Tryz.f12.ntmps (fun i => decide (i < Tryz.f12.ntmps)) = true := by kernel_rfl

def an_zbi27 : Ann := ⟨[(0, [0]), (1, [0])], [], []⟩
def ac_zbi27 : AC := (.seq (.region [.mk none (some 0) (.alloc 33 [.pd (.raw (.int .i64 0)), .pd (.raw (.string ⟨#[]⟩)), .pd (.raw (.string ⟨#[]⟩)), .pd (.raw (.bool false)), .nils, .nils, .pd (.raw (.string ⟨#[]⟩)), .nils, .nils, .nils, .nils, .nils, .nils])] (some [0])) (.seq (.region [.mk none (some 1) (.build [.pd (.raw (.int .i64 0)), .pd (.raw (.string ⟨#[]⟩)), .pd (.raw (.string ⟨#[]⟩))] [(0, 1, .const (.int .i64 5)), (1, 1, .const (.string ⟨#[119, 101, 98]⟩)), (2, 1, .const (.string ⟨#[103, 119]⟩))]), .mk none (some 2) (.build [.pd (.raw (.string ⟨#[]⟩)), .pd (.raw (.int .i64 0)), .pd (.raw (.bool false)), .pd (.raw (.string ⟨#[]⟩)), .pd (.raw (.int .i64 0)), .pd (.raw (.string ⟨#[]⟩)), .pd (.raw (.string ⟨#[]⟩)), .pd (.raw (.int .i64 0)), .nils] [(0, 1, .const (.string ⟨#[97]⟩)), (1, 1, .const (.int .i64 80)), (3, 1, .const (.string ⟨#[97, 46, 116, 101, 115, 116]⟩))]), .mk none (some 3) (.build [.pd (.raw (.string ⟨#[]⟩)), .pd (.raw (.int .i64 0)), .pd (.raw (.bool false)), .pd (.raw (.string ⟨#[]⟩)), .pd (.raw (.int .i64 0)), .pd (.raw (.string ⟨#[]⟩)), .pd (.raw (.string ⟨#[]⟩)), .pd (.raw (.int .i64 0)), .nils] [(0, 1, .const (.string ⟨#[98]⟩)), (1, 1, .const (.int .i64 80)), (3, 1, .const (.string ⟨#[97, 46, 116, 101, 115, 116]⟩))]), .mk none (some 4) (.build [.pd (.raw (.string ⟨#[]⟩)), .pd (.raw (.int .i64 0)), .pd (.raw (.bool false)), .pd (.raw (.string ⟨#[]⟩)), .pd (.raw (.int .i64 0)), .pd (.raw (.string ⟨#[]⟩)), .pd (.raw (.string ⟨#[]⟩)), .pd (.raw (.int .i64 0)), .nils] [(0, 1, .const (.string ⟨#[99]⟩)), (1, 1, .const (.int .i64 80)), (3, 1, .const (.string ⟨#[98, 46, 116, 101, 115, 116]⟩))]), .mk none (some 5) (.build [.pd (.raw (.int .i64 0)), .pd (.raw (.string ⟨#[]⟩)), .pd (.raw (.string ⟨#[]⟩))] [(0, 1, .const (.int .i64 4)), (2, 1, .const (.string ⟨#[115]⟩))]), .mk none (some 6) (.build [.pd (.raw (.string ⟨#[]⟩)), .pd (.raw (.int .i64 0)), .pd (.raw (.bool false)), .pd (.raw (.string ⟨#[]⟩)), .pd (.raw (.int .i64 0)), .pd (.raw (.string ⟨#[]⟩)), .pd (.raw (.string ⟨#[]⟩)), .pd (.raw (.int .i64 0)), .nils] [(0, 1, .const (.string ⟨#[100]⟩)), (1, 1, .const (.int .i64 443)), (2, 1, .const (.bool true)), (4, 3, .tmp 5)]), .mk none (some 7) (.bslice 49 9 [.tmp 2, .tmp 3, .tmp 4, .tmp 6]), .mk none (some 8) (.build [.pd (.raw (.int .i64 0)), .pd (.raw (.string ⟨#[]⟩)), .pd (.raw (.string ⟨#[]⟩)), .pd (.raw (.bool false)), .nils, .nils, .pd (.raw (.string ⟨#[]⟩)), .nils, .nils, .nils, .nils, .nils, .nils] [(0, 3, .tmp 1), (6, 1, .const (.string ⟨#[99]⟩)), (7, 1, .tmp 7)]), .mk none none (.store 13 (.tmp 0) (.tmp 8))] (some [0])) .ret))
theorem ok_zbi27 : compC Tryz.prog an_zbi27 (Tryz.f20.body.getD .skip) = some ac_zbi27 := by kernel_rfl
theorem ret_zbi27 (st : St) : resD Tryz.prog st Tryz.f20.results.toList = resA st [.cell 0 (some 13)] := resD_of (by kernel_rfl)
theorem dst_zbi27 : ac_zbi27.dstOK Tryz.f20.ntmps (fun i => decide (i < Tryz.f20.ntmps)) = true := by kernel_rfl

def an_z7tm4 : Ann := ⟨[(0, [1, 2, 4]), (1, [1, 2, 4, 19]), (2, [4, 5]), (3, [4, 5])], [], []⟩
def ac_z7tm4 : AC := (.seq (.region [.mk none (some 2) (.box 33 (.tmp 0)), .mk none (some 4) (.alloc 49 [.pd (.raw (.string ⟨#[]⟩)), .pd (.raw (.int .i64 0)), .pd (.raw (.bool false)), .pd (.raw (.string ⟨#[]⟩)), .pd (.raw (.int .i64 0)), .pd (.raw (.string ⟨#[]⟩)), .pd (.raw (.string ⟨#[]⟩)), .pd (.raw (.int .i64 0)), .nils]), .mk none (some 5) (.mv (.const (.bool false)))] (some [1, 2, 4])) (.seq (.seq (.region [.mk none (some 6) (.load (some 13) (.tmp 2)), .mk none (some 7) (.call 26 [.tmp 6]), .mk none (some 8) (.un .not (.tmp 7)), .mk none (some 9) (.mv (.tmp 8)), .mk (some (9, false)) (some 10) (.mv (.tmp 1)), .mk (some (9, false)) (some 11) (.bin .lss (.tmp 10) (.const (.int .i64 0))), .mk none (some 12) (.pick (.tmp 9) (.const (.bool true)) (.tmp 11)), .mk none (some 13) (.mv (.tmp 12)), .mk (some (13, false)) (some 14) (.mv (.tmp 1)), .mk (some (13, false)) (some 15) (.fieldA 7 (.tmp 2)), .mk (some (13, false)) (some 16) (.load none (.tmp 15)), .mk (some (13, false)) (some 17) (.len (.tmp 16) false), .mk (some (13, false)) (some 18) (.bin .geq (.tmp 14) (.tmp 17)), .mk none (some 19) (.pick (.tmp 13) (.const (.bool true)) (.tmp 18))] (some [1, 2, 4, 19])) (.cond (.tmp 19) (.seq (.region [.mk none (some 20) (.build [.pd (.raw (.string ⟨#[]⟩)), .pd (.raw (.int .i64 0)), .pd (.raw (.bool false)), .pd (.raw (.string ⟨#[]⟩)), .pd (.raw (.int .i64 0)), .pd (.raw (.string ⟨#[]⟩)), .pd (.raw (.string ⟨#[]⟩)), .pd (.raw (.int .i64 0)), .nils] []), .mk none none (.store 9 (.tmp 4) (.tmp 20)), .mk none (some 5) (.mv (.const (.bool false)))] (some [4, 5])) .ret) .skip)) (.seq (.region [.mk none (some 21) (.fieldA 7 (.tmp 2)), .mk none (some 22) (.load none (.tmp 21)), .mk none (some 23) (.mv (.tmp 1)), .mk none (some 24) (.idxA 9 (.tmp 22) (.tmp 23)), .mk none (some 25) (.load (some 9) (.tmp 24)), .mk none none (.store 9 (.tmp 4) (.tmp 25)), .mk none (some 5) (.mv (.const (.bool true)))] (some [4, 5])) .ret)))
theorem ok_z7tm4 : compC Tryz.prog an_z7tm4 (Tryz.f21.body.getD .skip) = some ac_z7tm4 := by kernel_rfl
theorem ret_z7tm4 (st : St) : resD Tryz.prog st Tryz.f21.results.toList = resA st [.cell 4 (some 9), .tmp 5] := resD_of (by kernel_rfl)
theorem dst_z7tm4 : ac_z7tm4.dstOK Tryz.f21.ntmps (fun i => decide (i < Tryz.f21.ntmps)) = true := by kernel_rfl

def an_ztilm : Ann := ⟨[(0, [1, 2]), (1, [2])], [], []⟩
def ac_ztilm : AC := (.seq (.region [.mk none (some 1) (.box 49 (.tmp 0)), .mk none (some 2) (.alloc 74 [.pd (.raw (.int .i64 0)), .pd (.raw (.bool false)), .pd (.raw (.string ⟨#[]⟩))])] (some [1, 2])) (.seq (.region [.mk none (some 3) (.fieldA 1 (.tmp 1)), .mk none (some 4) (.load none (.tmp 3)), .mk none (some 5) (.fieldA 2 (.tmp 1)), .mk none (some 6) (.load none (.tmp 5)), .mk none (some 7) (.build [.pd (.raw (.int .i64 0)), .pd (.raw (.bool false))] [(0, 1, .tmp 4), (1, 1, .tmp 6)]), .mk none (some 8) (.fieldA 3 (.tmp 1)), .mk none (some 9) (.load none (.tmp 8)), .mk none (some 10) (.build [.pd (.raw (.int .i64 0)), .pd (.raw (.bool false)), .pd (.raw (.string ⟨#[]⟩))] [(0, 2, .tmp 7), (2, 1, .tmp 9)]), .mk none none (.store 3 (.tmp 2) (.tmp 10))] (some [2])) .ret))
theorem ok_ztilm : compC Tryz.prog an_ztilm (Tryz.f22.body.getD .skip) = some ac_ztilm := by kernel_rfl
theorem ret_ztilm (st : St) : resD Tryz.prog st Tryz.f22.results.toList = resA st [.cell 2 (some 3)] := resD_of (by kernel_rfl)
theorem dst_ztilm : ac_ztilm.dstOK Tryz.f22.ntmps (fun i => decide (i < Tryz.f22.ntmps)) = true := by kernel_rfl

def an_zb5tb : Ann := ⟨[(0, [0, 3]), (1, [5, 6]), (2, [4])], [], []⟩
def ac_zb5tb : AC := (.seq (.region [.mk none (some 3) (.box 24 (.tmp 1)), .mk none (some 4) (.mv (.const (.bool false)))] (some [0, 3])) (.seq (.region [.mk none (some 8) (.mv (.tmp 0)), .mk none (some 9) (.load (some 3) (.tmp 3)), .mk none (some 10) (.call 29 [.tmp 8, .tmp 9]), .mk none (some 7) (.mv (.tmp 10)), .mk none (some 11) (.extract (.tmp 7) 0), .mk none (some 12) (.extract (.tmp 7) 1), .mk none (some 5) (.alloc 33 [.pd (.raw (.int .i64 0)), .pd (.raw (.string ⟨#[]⟩)), .pd (.raw (.string ⟨#[]⟩)), .pd (.raw (.bool false)), .nils, .nils, .pd (.raw (.string ⟨#[]⟩)), .nils, .nils, .nils, .nils, .nils, .nils]), .mk none none (.store 13 (.tmp 5) (.tmp 11)), .mk none (some 6) (.mv (.tmp 12))] (some [5, 6])) (.seq (.region [.mk none (some 13) (.mv (.tmp 6)), .mk none (some 14) (.mv (.tmp 13)), .mk (some (14, true)) (some 15) (.load (some 13) (.tmp 5)), .mk (some (14, true)) (some 16) (.call 30 [.tmp 15]), .mk none (some 17) (.pick (.tmp 14) (.tmp 16) (.const (.bool false))), .mk none (some 18) (.mv (.tmp 17)), .mk (some (18, true)) (some 19) (.fieldA 3 (.tmp 5)), .mk (some (18, true)) (some 20) (.load none (.tmp 19)), .mk none (some 21) (.pick (.tmp 18) (.tmp 20) (.const (.bool false))), .mk none (some 4) (.mv (.tmp 21))] (some [4])) .ret)))
theorem ok_zb5tb : compC Tryz.prog an_zb5tb (Tryz.f25.body.getD .skip) = some ac_zb5tb := by kernel_rfl
theorem dst_zb5tb : ac_zb5tb.dstOK Tryz.f25.ntmps (fun i => decide (i < Tryz.f25.ntmps)) = true := by kernel_rfl

def an_zjbl5 : Ann := ⟨[(0, [1]), (1, [2])], [], []⟩
def ac_zjbl5 : AC := (.seq (.region [.mk none (some 1) (.box 33 (.tmp 0)), .mk none (some 2) (.mv (.const (.bool false)))] (some [1])) (.seq (.region [.mk none (some 3) (.fieldA 0 (.tmp 1)), .mk none (some 4) (.fieldA 0 (.tmp 3)), .mk none (some 5) (.load none (.tmp 4)), .mk none (some 6) (.bin .eql (.tmp 5) (.const (.int .i64 5))), .mk none (some 7) (.mv (.tmp 6)), .mk (some (7, true)) (some 8) (.load (some 13) (.tmp 1)), .mk (some (7, true)) (some 9) (.call 30 [.tmp 8]), .mk none (some 10) (.pick (.tmp 7) (.tmp 9) (.const (.bool false))), .mk none (some 2) (.mv (.tmp 10))] (some [2])) .ret))
theorem ok_zjbl5 : compC Tryz.prog an_zjbl5 (Tryz.f26.body.getD .skip) = some ac_zjbl5 := by kernel_rfl
theorem dst_zjbl5 : ac_zjbl5.dstOK Tryz.f26.ntmps (fun i => decide (i < Tryz.f26.ntmps)) = true := by kernel_rfl

end Go.Proofs.YtmdepehjfnpklaaGreatDoor

namespace Go.Proofs.YtmdepehjfnpklaaGreatDoor
open Go Go.RowKit
set_option linter.unusedSimpArgs false
set_option linter.unusedVariables false
set_option maxRecDepth 100000

def goodAt (os : List AObj) (r : ARef) : Bool := match found os r with
  | some o => objMay o && o.good
  | none => false

theorem listen_good (os : List AObj) (hos : os.length ≤ 1000000) (h : ∀ o ∈ os, o.ok) (r : ARef) : Pure Tryz.prog 25 [.pd (.slice (rows AObj.pd os)), r.d] (fun d => d = bln (goodAt os r)) := by
  refine pure_of_run follows an_zb5tb Tryz.func25 rfl ok_zb5tb dst_zb5tb (by simp [Tryz.ntmps25]) ?_
  rw [run_start]
  simp only [ac_zb5tb, go_sem, contS_seq, simprocAttr]
  refine (grant_Find os hos r).callW (enters_of Tryz.func29 rfl rfl) _ rfl rfl ?_
  rintro _ rfl
  unfold goodAt
  rcases hf : found os r with _ | o
  · simp only [foundD, go_sem, contS_seq, simprocAttr]
    simp only [retK, fullK, iterK, resD, resA, AOp.ex, St.ev, Option.map_some, Option.bind_some, St.get, lk, reduceIte, Nat.reduceEqDiff, Option.getD_some, oneD, List.getElem?_cons_zero, List.getElem?_cons_succ, List.drop_zero, List.drop_succ_cons, List.take_succ_cons, List.take_zero, List.length_cons, List.length_nil, Nat.zero_add, Nat.reduceAdd, Nat.le_refl, Nat.reduceLeDiff, D.pub, D.pubs, Tryz.results25]
    exact ⟨_, rfl, rfl, rfl⟩
  · simp only [foundD, go_sem, contS_seq, simprocAttr]
    refine (object_May o (h o (List.mem_of_find?_eq_some hf))).callW (enters_of Tryz.func30 rfl rfl) _ rfl rfl ?_
    rintro _ rfl
    simp only [go_sem, contS_seq, simprocAttr]
    cases objMay o
    all_goals
      simp only [go_sem, contS_seq, simprocAttr]
      simp only [retK, fullK, iterK, resD, resA, AOp.ex, St.ev, Option.map_some, Option.bind_some, St.get, lk, reduceIte, Nat.reduceEqDiff, Option.getD_some, oneD, List.getElem?_cons_zero, List.getElem?_cons_succ, List.drop_zero, List.drop_succ_cons, List.take_succ_cons, List.take_zero, List.length_cons, List.length_nil, Nat.zero_add, Nat.reduceAdd, Nat.le_refl, Nat.reduceLeDiff, D.pub, D.pubs, Tryz.results25]
      exact ⟨_, rfl, rfl, rfl⟩

def gwOk (g : AObj) : Bool := decide (g.ref.kind = 5) && objMay g

theorem listen_gateway (g : AObj) (h : g.ok) : Pure Tryz.prog 26 [g.d] (fun d => d = bln (gwOk g)) := by
  refine pure_of_run follows an_zjbl5 Tryz.func26 rfl ok_zjbl5 dst_zjbl5 (by simp [Tryz.ntmps26]) ?_
  rw [run_start]
  simp only [ac_zjbl5, go_sem, contS_seq, simprocAttr]
  (repeat' (first | (refine GifP.mk (fun _ => ?_) (fun _ => ?_)) | (refine Gif.mk (fun _ => ?_) (fun _ => ?_)) | (refine (object_May g h).callW (enters_of Tryz.func30 rfl rfl) _ rfl rfl ?_; rintro _ rfl; try simp only [go_sem, contS_seq, simprocAttr]))) <;> (simp only [retK, fullK, iterK, resD, resA, AOp.ex, St.ev, Option.map_some, Option.bind_some, St.get, lk, reduceIte, Nat.reduceEqDiff, Option.getD_some, oneD, List.getElem?_cons_zero, List.getElem?_cons_succ, List.drop_zero, List.drop_succ_cons, List.take_succ_cons, List.take_zero, List.length_cons, List.length_nil, Nat.zero_add, Nat.reduceAdd, Nat.le_refl, Nat.reduceLeDiff, D.pub, D.pubs, Tryz.results26]; exact ⟨_, rfl, rfl, congrArg bln (by first | rfl | (rw [Bool.eq_iff_iff]; simp only [gwOk]; simp; done) | (rw [Bool.eq_iff_iff]; simp only [gwOk]; simp; omega) | (rw [Bool.eq_iff_iff]; simp only [gwOk]; simp [*]; done) | (rw [Bool.eq_iff_iff]; simp only [gwOk]; simp [*]; omega) | (simp_all [gwOk]; done) | (exfalso; omega))⟩)

def ours (os : List AObj) (g : AObj) : Bool := gwOk g && goodAt os ⟨1, ⟨#[]⟩, g.cls⟩

theorem listen_Ours (os : List AObj) (hos : os.length ≤ 1000000) (h : ∀ o ∈ os, o.ok) (g : AObj) (hg : g.ok) : Pure Tryz.prog 12 [.pd (.slice (rows AObj.pd os)), g.d] (fun d => d = bln (ours os g)) := by
  refine pure_of_run follows an_zws5f Tryz.func12 rfl ok_zws5f dst_zws5f (by simp [Tryz.ntmps12]) ?_
  rw [run_start]
  simp only [ac_zws5f, go_sem, contS_seq, simprocAttr]
  (repeat' (first | (refine GifP.mk (fun _ => ?_) (fun _ => ?_)) | (refine Gif.mk (fun _ => ?_) (fun _ => ?_)) | ((first | refine (listen_gateway g hg).callW (enters_of Tryz.func26 rfl rfl) _ rfl rfl ?_ | refine (listen_good os hos h ⟨1, ⟨#[]⟩, g.cls⟩).callW (enters_of Tryz.func25 rfl rfl) _ rfl rfl ?_); rintro _ rfl; try simp only [go_sem, contS_seq, simprocAttr]))) <;> (simp only [retK, fullK, iterK, resD, resA, AOp.ex, St.ev, Option.map_some, Option.bind_some, St.get, lk, reduceIte, Nat.reduceEqDiff, Option.getD_some, oneD, List.getElem?_cons_zero, List.getElem?_cons_succ, List.drop_zero, List.drop_succ_cons, List.take_succ_cons, List.take_zero, List.length_cons, List.length_nil, Nat.zero_add, Nat.reduceAdd, Nat.le_refl, Nat.reduceLeDiff, D.pub, D.pubs, Tryz.results12]; exact ⟨_, rfl, rfl, congrArg bln (by first | rfl | (rw [Bool.eq_iff_iff]; simp only [ours]; simp; done) | (rw [Bool.eq_iff_iff]; simp only [ours]; simp; omega) | (rw [Bool.eq_iff_iff]; simp only [ours]; simp [*]; done) | (rw [Bool.eq_iff_iff]; simp only [ours]; simp [*]; omega) | (simp_all [ours]; done) | (exfalso; omega))⟩)

abbrev listener0 : AListener := ⟨⟨#[]⟩, 0, false, ⟨#[]⟩, ⟨0, ⟨#[]⟩, ⟨#[]⟩⟩, 0, []⟩

def atL (g : AObj) (i : Int) : Option AListener := if gwOk g = true then (if i < 0 then none else g.listeners[i.toNat]?) else none

def atD : Option AListener → D
  | some x => .tup [x.d, bln true]
  | none => .tup [listener0.d, bln false]

theorem listen_at (g : AObj) (hg : g.ok) (i : Int) : Pure Tryz.prog 21 [g.d, int i] (fun d => d = atD (atL g i)) := by
  refine pure_of_run follows an_z7tm4 Tryz.func21 rfl ok_z7tm4 dst_z7tm4 (by simp [Tryz.ntmps21]) ?_
  rw [run_start]
  simp only [ac_z7tm4, go_sem, contS_seq, simprocAttr]
  refine (listen_gateway g hg).callW (enters_of Tryz.func26 rfl rfl) _ rfl rfl ?_
  rintro _ rfl
  unfold atL
  cases gwOk g
  · simp only [go_sem, contS_seq, simprocAttr]
    simp only [retK, fullK, iterK, resD, resA, AOp.ex, St.ev, Option.map_some, Option.bind_some, St.get, lk, reduceIte, Nat.reduceEqDiff, Option.getD_some, oneD, List.getElem?_cons_zero, List.getElem?_cons_succ, List.drop_zero, List.drop_succ_cons, List.take_succ_cons, List.take_zero, List.length_cons, List.length_nil, Nat.zero_add, Nat.reduceAdd, Nat.le_refl, Nat.reduceLeDiff, D.pub, D.pubs, ret_z7tm4]
    exact ⟨_, rfl, rfl, rfl⟩
  · simp only [go_sem, contS_seq, simprocAttr, rows_len]
    by_cases hi : i < 0
    · simp only [hi, go_sem, contS_seq, simprocAttr]
      simp only [retK, fullK, iterK, resD, resA, AOp.ex, St.ev, Option.map_some, Option.bind_some, St.get, lk, reduceIte, Nat.reduceEqDiff, Option.getD_some, oneD, List.getElem?_cons_zero, List.getElem?_cons_succ, List.drop_zero, List.drop_succ_cons, List.take_succ_cons, List.take_zero, List.length_cons, List.length_nil, Nat.zero_add, Nat.reduceAdd, Nat.le_refl, Nat.reduceLeDiff, D.pub, D.pubs, ret_z7tm4]
      exact ⟨_, rfl, rfl, rfl⟩
    · obtain ⟨n, rfl⟩ : ∃ n : Nat, i = n := ⟨i.toNat, by omega⟩
      by_cases hl : n < g.listeners.length
      · obtain ⟨x, hx⟩ := at_lt hl
        have h1 : ((g.listeners.length : Int) ≤ (n : Int)) = False := eq_false (by omega)
        simp only [hi, h1, rows_get hx, go_sem, contS_seq, simprocAttr]
        simp only [retK, fullK, iterK, resD, resA, AOp.ex, St.ev, Option.map_some, Option.bind_some, St.get, lk, reduceIte, Nat.reduceEqDiff, Option.getD_some, oneD, List.getElem?_cons_zero, List.getElem?_cons_succ, List.drop_zero, List.drop_succ_cons, List.take_succ_cons, List.take_zero, List.length_cons, List.length_nil, Nat.zero_add, Nat.reduceAdd, Nat.le_refl, Nat.reduceLeDiff, D.pub, D.pubs, ret_z7tm4]
        exact ⟨_, rfl, rfl, by rw [hx]; rfl⟩
      · have h1 : ((g.listeners.length : Int) ≤ (n : Int)) = True := eq_true (by omega)
        simp only [hi, h1, go_sem, contS_seq, simprocAttr]
        simp only [retK, fullK, iterK, resD, resA, AOp.ex, St.ev, Option.map_some, Option.bind_some, St.get, lk, reduceIte, Nat.reduceEqDiff, Option.getD_some, oneD, List.getElem?_cons_zero, List.getElem?_cons_succ, List.drop_zero, List.drop_succ_cons, List.take_succ_cons, List.take_zero, List.length_cons, List.length_nil, Nat.zero_add, Nat.reduceAdd, Nat.le_refl, Nat.reduceLeDiff, D.pub, D.pubs, ret_z7tm4]
        exact ⟨_, rfl, rfl, by rw [List.getElem?_eq_none (by omega)]; rfl⟩

abbrev modeOf (x : AListener) : Int × Bool := (x.port, x.tls)
abbrev placeOf (x : AListener) : Int × Bool × ByteArray := (x.port, x.tls, x.host)
abbrev cMode (m : Int × Bool) : List Value := [.int .i64 m.1, .bool m.2]
abbrev cPlace (m : Int × Bool × ByteArray) : List Value := [.int .i64 m.1, .bool m.2.1, .string m.2.2]

theorem eq_cMode (a b : Int × Bool) : eqVs [.int, .bool] (cMode a) (cMode b) = some (decide (a = b)) := by
  obtain ⟨a1, a2⟩ := a
  obtain ⟨b1, b2⟩ := b
  simp only [eqVs, eqV, if_true, Option.some.injEq]
  rw [Bool.eq_iff_iff]
  simp

theorem eq_cPlace (a b : Int × Bool × ByteArray) : eqVs [.int, .bool, .str] (cPlace a) (cPlace b) = some (decide (a = b)) := by
  obtain ⟨a1, a2, a3⟩ := a
  obtain ⟨b1, b2, b3⟩ := b
  simp only [eqVs, eqV, if_true, Option.some.injEq]
  rw [Bool.eq_iff_iff]
  simp

theorem listen_of (x : AListener) : Pure Tryz.prog 22 [x.d] (fun d => d = .agg [int x.port, bln x.tls, str x.host]) := by
  refine pure_of_run follows an_ztilm Tryz.func22 rfl ok_ztilm dst_ztilm (by simp [Tryz.ntmps22]) ?_
  rw [run_start]
  simp only [ac_ztilm, go_sem, contS_seq, simprocAttr]
  simp only [retK, fullK, iterK, resD, resA, AOp.ex, St.ev, Option.map_some, Option.bind_some, St.get, lk, reduceIte, Nat.reduceEqDiff, Option.getD_some, oneD, List.getElem?_cons_zero, List.getElem?_cons_succ, List.drop_zero, List.drop_succ_cons, List.take_succ_cons, List.take_zero, List.length_cons, List.length_nil, Nat.zero_add, Nat.reduceAdd, Nat.le_refl, Nat.reduceLeDiff, D.pub, D.pubs, ret_ztilm]
  exact ⟨_, rfl, rfl, rfl⟩


def protocols : ByteArray := ⟨#[80, 114, 111, 116, 111, 99, 111, 108, 67, 111, 110, 102, 108, 105, 99, 116]⟩
def hostnames : ByteArray := ⟨#[72, 111, 115, 116, 110, 97, 109, 101, 67, 111, 110, 102, 108, 105, 99, 116]⟩

def nMode (l : List AListener) (k : Int × Bool) : Nat := l.countP fun y => decide (modeOf y = k)
def nPlace (l : List AListener) (k : Int × Bool × ByteArray) : Nat := l.countP fun y => decide (placeOf y = k)

def conflict (g : AObj) (i : Int) : ByteArray := match atL g i with
  | none => ⟨#[]⟩
  | some x => if 0 < (nMode g.listeners (x.port, !x.tls) : Int) then protocols else if 1 < (nPlace g.listeners (placeOf x) : Int) then hostnames else ⟨#[]⟩

abbrev lis0 : List D := [str ⟨#[]⟩, int 0, bln false, str ⟨#[]⟩, int 0, str ⟨#[]⟩, str ⟨#[]⟩, int 0, .nils]
set_option maxHeartbeats 4000000 in
theorem listen_Conflict (g : AObj) (hg : g.ok) (i : Int) : Pure Tryz.prog 9 [g.d, int i] (fun d => d = str (conflict g i)) := by
  refine pure_of_run follows an_zn9vq Tryz.func9 rfl ok_zn9vq dst_zn9vq (by simp [Tryz.ntmps9]) ?_
  rw [run_start]
  simp only [ac_zn9vq, go_sem, contS_seq, simprocAttr]
  refine (listen_at g hg i).callW (enters_of Tryz.func21 rfl rfl) _ rfl rfl ?_
  rintro _ rfl
  unfold conflict
  rcases hat : atL g i with _ | x
  · simp only [atD, go_sem, contS_seq, simprocAttr]
    simp only [retK, fullK, iterK, resD, resA, AOp.ex, St.ev, Option.map_some, Option.bind_some, St.get, lk, reduceIte, Nat.reduceEqDiff, Option.getD_some, oneD, List.getElem?_cons_zero, List.getElem?_cons_succ, List.drop_zero, List.drop_succ_cons, List.take_succ_cons, List.take_zero, List.length_cons, List.length_nil, Nat.zero_add, Nat.reduceAdd, Nat.le_refl, Nat.reduceLeDiff, D.pub, D.pubs, Tryz.results9]
    exact ⟨_, rfl, rfl, rfl⟩
  simp only [atD, go_sem, contS_seq, simprocAttr, rows_len]
  have hli := hg.li
  refine loopS (fun k st => ∃ (n : Nat) (e1 : List ((Int × Bool) × Int)) (e2 : List ((Int × Bool × ByteArray) × Int)), k = g.listeners.length - n ∧ n ≤ g.listeners.length ∧
    (∀ k, lookG k e1 = (nMode (g.listeners.take n) k : Int)) ∧ (∀ k, lookG k e2 = (nPlace (g.listeners.take n) k : Int)) ∧
    st = ⟨[(5, .ptr 5 0), (7, .mp 19), (8, .mp 20), (22, .pd (.slice (rows AListener.pd g.listeners))), (23, int g.listeners.length), (24, int n)], [(5, x.ds)], [(19, .map (entG cMode e1)), (20, .map (entG cPlace e2))], .no⟩) g.listeners.length _ ?_
    ⟨0, [], [], rfl, by omega, fun _ => rfl, fun _ => rfl, rfl⟩ ?_
  · exact Weak.less (by simp [lessL, lk]) (by simp [lessL, lk]) (by simp [lessL, lk, entG]) rfl
  rintro k st ⟨n, e1, e2, rfl, hn, h1, h2, rfl⟩
  by_cases hlt : n < g.listeners.length
  · obtain ⟨y, hy⟩ := at_lt hlt
    have h3 : ((n : Int) < (g.listeners.length : Int)) = True := eq_true (by omega)
    have hw := i64_succ (show n < 1000000000 by omega)
    have b1 : nMode (g.listeners.take n) (modeOf y) ≤ n := Nat.le_trans (List.countP_le_length) (by simp; omega)
    have b2 : nPlace (g.listeners.take n) (placeOf y) ≤ n := Nat.le_trans (List.countP_le_length) (by simp; omega)
    have w1 : IntKind.i64.wrap (lookG (modeOf y) e1 + 1) = lookG (modeOf y) e1 + 1 := IntWalk.i64_in _ (by rw [h1]; omega)
    have w2 : IntKind.i64.wrap (lookG (placeOf y) e2 + 1) = lookG (placeOf y) e2 + 1 := IntWalk.i64_in _ (by rw [h2]; omega)
    obtain ⟨r1, hr1⟩ : ∃ r, r = (atG (modeOf y) e1 0).map fun p => (p.1, Value.int .i64 p.2) := ⟨_, rfl⟩
    obtain ⟨r2, hr2⟩ : ∃ r, r = (atG (placeOf y) e2 0).map fun p => (p.1, Value.int .i64 p.2) := ⟨_, rfl⟩
    have f1 : findS [.int, .bool] [.int .i64 y.port, .bool y.tls] (entG cMode e1) 0 = some r1 := (findS_ent eq_cMode (modeOf y) e1 0).trans (by rw [hr1])
    have f2 : findS [.int, .bool, .str] [.int .i64 y.port, .bool y.tls, .string y.host] (entG cPlace e2) 0 = some r2 := (findS_ent eq_cPlace (placeOf y) e2 0).trans (by rw [hr2])
    have l1 := cd_look (modeOf y) e1 r1 hr1
    have l2 := cd_look (placeOf y) e2 r2 hr2
    have s1 := set_bump cMode (modeOf y) e1 r1 hr1
    have s2 := set_bump cPlace (placeOf y) e2 r2 hr2
    have p1 := touch_put cMode (modeOf y) e1 r1 hr1
    have p2 := touch_put cPlace (placeOf y) e2 r2 hr2
    rw [p1] at s1
    rw [p2] at s2
    obtain ⟨q1, hq1⟩ : ∃ r, r = (atG (modeOf y) (touchG (modeOf y) e1) 0).map fun p => (p.1, Value.int .i64 p.2) := ⟨_, rfl⟩
    obtain ⟨q2, hq2⟩ : ∃ r, r = (atG (placeOf y) (touchG (placeOf y) e2) 0).map fun p => (p.1, Value.int .i64 p.2) := ⟨_, rfl⟩
    have g1 : findS [.int, .bool] [.int .i64 y.port, .bool y.tls] (entG cMode (touchG (modeOf y) e1)) 0 = some q1 := (findS_ent eq_cMode (modeOf y) _ 0).trans (by rw [hq1])
    have g2 : findS [.int, .bool, .str] [.int .i64 y.port, .bool y.tls, .string y.host] (entG cPlace (touchG (placeOf y) e2)) 0 = some q2 := (findS_ent eq_cPlace (placeOf y) _ 0).trans (by rw [hq2])
    have l3 := cd_look (modeOf y) _ q1 hq1
    have l4 := cd_look (placeOf y) _ q2 hq2
    rw [look_touch] at l3 l4
    simp only [cD0] at l1 l2 l3 l4
    simp only [putM] at p1 p2
    simp only [go_sem, contS_seq, simprocAttr, rows_len, rows_get hy, h3]
    refine (listen_of y).callX (enters_of Tryz.func22 rfl rfl) _ rfl rfl ?_
    rintro _ rfl
    simp only [go_sem, contS_seq, simprocAttr, f1, ↓l1, w1, ↓p1, s1, g1, ↓l3]
    repeat' (first | (refine (listen_of y).callX (enters_of Tryz.func22 rfl rfl) _ rfl rfl ?_; rintro _ rfl; simp only [go_sem, contS_seq, simprocAttr, f2, ↓l2, w2, ↓p2, s2, g2, ↓l4, hw]) | refine And.intro ?_ ?_)
    all_goals
      refine ⟨g.listeners.length - (n + 1), _, by omega, ?_, n + 1, bumpG (modeOf y) e1, bumpG (placeOf y) e2, rfl, by omega, count_step (f := modeOf) hy h1, count_step (f := placeOf) hy h2, rfl⟩
      exact Weak.less (by simp [lessL, lk]) (by simp [lessL, lk]) (by simp [lessL, lk]) rfl
  · have h3 : ((n : Int) < (g.listeners.length : Int)) = False := eq_false (by omega)
    rw [List.take_of_length_le (by omega)] at h1 h2
    have k1 := h1 (x.port, !x.tls)
    have k2 := h2 (placeOf x)
    obtain ⟨r1, hr1⟩ : ∃ r, r = (atG (x.port, !x.tls) e1 0).map fun p => (p.1, Value.int .i64 p.2) := ⟨_, rfl⟩
    obtain ⟨r2, hr2⟩ : ∃ r, r = (atG (placeOf x) e2 0).map fun p => (p.1, Value.int .i64 p.2) := ⟨_, rfl⟩
    have f1 : findS [.int, .bool] [.int .i64 x.port, .bool (!x.tls)] (entG cMode e1) 0 = some r1 := (findS_ent eq_cMode (x.port, !x.tls) e1 0).trans (by rw [hr1])
    have f2 : findS [.int, .bool, .str] [.int .i64 x.port, .bool x.tls, .string x.host] (entG cPlace e2) 0 = some r2 := (findS_ent eq_cPlace (placeOf x) e2 0).trans (by rw [hr2])
    have l1 := cd_look (x.port, !x.tls) e1 r1 hr1
    have l2 := cd_look (placeOf x) e2 r2 hr2
    rw [k1] at l1
    rw [k2] at l2
    simp only [cD0] at l1 l2
    simp only [go_sem, contS_seq, simprocAttr, rows_len, h3, f1, ↓l1]
    refine GifP.mk (fun q1 => ?_) (fun q1 => ?_)
    · rw [if_pos q1]
      simp only [retK, fullK, iterK, resD, resA, AOp.ex, St.ev, Option.map_some, Option.bind_some, St.get, lk, reduceIte, Nat.reduceEqDiff, Option.getD_some, oneD, List.getElem?_cons_zero, List.getElem?_cons_succ, List.drop_zero, List.drop_succ_cons, List.take_succ_cons, List.take_zero, List.length_cons, List.length_nil, Nat.zero_add, Nat.reduceAdd, Nat.le_refl, Nat.reduceLeDiff, D.pub, D.pubs, Tryz.results9]
      exact ⟨_, rfl, rfl, rfl⟩
    rw [if_neg q1]
    refine (listen_of x).callW (enters_of Tryz.func22 rfl rfl) _ rfl rfl ?_
    rintro _ rfl
    simp only [go_sem, contS_seq, simprocAttr, f2, ↓l2]
    refine GifP.mk (fun q2 => ?_) (fun q2 => ?_)
    · rw [if_pos q2]
      simp only [retK, fullK, iterK, resD, resA, AOp.ex, St.ev, Option.map_some, Option.bind_some, St.get, lk, reduceIte, Nat.reduceEqDiff, Option.getD_some, oneD, List.getElem?_cons_zero, List.getElem?_cons_succ, List.drop_zero, List.drop_succ_cons, List.take_succ_cons, List.take_zero, List.length_cons, List.length_nil, Nat.zero_add, Nat.reduceAdd, Nat.le_refl, Nat.reduceLeDiff, D.pub, D.pubs, Tryz.results9]
      exact ⟨_, rfl, rfl, rfl⟩
    rw [if_neg q2]
    simp only [retK, fullK, iterK, resD, resA, AOp.ex, St.ev, Option.map_some, Option.bind_some, St.get, lk, reduceIte, Nat.reduceEqDiff, Option.getD_some, oneD, List.getElem?_cons_zero, List.getElem?_cons_succ, List.drop_zero, List.drop_succ_cons, List.take_succ_cons, List.take_zero, List.length_cons, List.length_nil, Nat.zero_add, Nat.reduceAdd, Nat.le_refl, Nat.reduceLeDiff, D.pub, D.pubs, Tryz.results9]
    exact ⟨_, rfl, rfl, rfl⟩


def few (s : ByteArray) : ByteArray := if s.size ≤ 100 then s else s.extract 0 100

set_option maxRecDepth 100000 in
theorem law1_Few (s : ByteArray) : Pure Tryz.prog 15 [str s] (fun d => d = str (few s)) := by
  refine pure_of_run follows an_zba9k Tryz.func15 rfl ok_zba9k dst_zba9k (by simp [Tryz.ntmps15]) ?_
  rw [run_start]
  by_cases h : 100 < s.size
  · have h1 : (100 : Int) < (s.size : Int) := by omega
    have h2 : 100 ≤ s.size := by omega
    simp only [ac_zba9k, go_sem, contS_seq, simprocAttr, h1, h2]
    simp only [retK, fullK, iterK, resD, resA, AOp.ex, St.ev, Option.map_some, Option.bind_some, St.get, lk, reduceIte, Nat.reduceEqDiff, Option.getD_some, oneD, List.getElem?_cons_zero, List.getElem?_cons_succ, List.drop_zero, List.drop_succ_cons, List.take_succ_cons, List.take_zero, List.length_cons, List.length_nil, Nat.zero_add, Nat.reduceAdd, Nat.le_refl, Nat.reduceLeDiff, D.pub, D.pubs, Tryz.results15]
    exact ⟨_, rfl, rfl, by simp [few, show ¬ s.size ≤ 100 by omega, D.pub]⟩
  · have h1 : ¬ (100 : Int) < (s.size : Int) := by omega
    simp only [ac_zba9k, go_sem, contS_seq, simprocAttr, h1]
    simp only [retK, fullK, iterK, resD, resA, AOp.ex, St.ev, Option.map_some, Option.bind_some, St.get, lk, reduceIte, Nat.reduceEqDiff, Option.getD_some, oneD, List.getElem?_cons_zero, List.getElem?_cons_succ, List.drop_zero, List.drop_succ_cons, List.take_succ_cons, List.take_zero, List.length_cons, List.length_nil, Nat.zero_add, Nat.reduceAdd, Nat.le_refl, Nat.reduceLeDiff, D.pub, D.pubs, Tryz.results15]
    exact ⟨_, rfl, rfl, by simp [few, show s.size ≤ 100 by omega, D.pub]⟩

def fewRef (r : ARef) : ARef := ⟨r.kind, few r.space, few r.name⟩

set_option maxRecDepth 100000 in
theorem law9_FewRef (r : ARef) : Pure Tryz.prog 13 [r.d] (fun d => d = (fewRef r).d) := by
  refine pure_of_run follows an_zn42u Tryz.func13 rfl ok_zn42u dst_zn42u (by simp [Tryz.ntmps13]) ?_
  rw [run_start]
  simp only [ac_zn42u, go_sem, contS_seq, simprocAttr, go_sem]
  refine (law1_Few r.space).callX (enters_of Tryz.func15 rfl rfl) _ rfl rfl ?_
  rintro d rfl
  simp only [go_sem, contS_seq, simprocAttr, go_sem]
  refine (law1_Few r.name).callX (enters_of Tryz.func15 rfl rfl) _ rfl rfl ?_
  rintro d rfl
  simp only [go_sem, contS_seq, simprocAttr, go_sem]
  simp only [retK, fullK, iterK, resD, resA, AOp.ex, St.ev, Option.map_some, Option.bind_some, St.get, lk, reduceIte, Nat.reduceEqDiff, Option.getD_some, oneD, List.getElem?_cons_zero, List.getElem?_cons_succ, List.drop_zero, List.drop_succ_cons, List.take_succ_cons, List.take_zero, List.length_cons, List.length_nil, Nat.zero_add, Nat.reduceAdd, Nat.le_refl, Nat.reduceLeDiff, D.pub, D.pubs, ret_zn42u]
  exact ⟨_, rfl, rfl, rfl⟩

end Go.Proofs.YtmdepehjfnpklaaGreatDoor

namespace Go.Proofs.YtmdepehjfnpklaaGreatDoor
open Go

def an_zyx20 : Ann := ⟨[(0, [1, 2]), (1, [1, 2]), (2, [2])], [], []⟩
def ac_zyx20 : AC := (.seq (.region [.mk none (some 1) (.box 60 (.tmp 0)), .mk none (some 2) (.alloc 60 [.pd (.raw (.int .i64 0)), .pd (.raw (.string ⟨#[]⟩))])] (some [1, 2])) (.seq (.region [.mk none (some 3) (.fieldA 1 (.tmp 1)), .mk none (some 4) (.load none (.tmp 3)), .mk none (some 5) (.call 15 [.tmp 4]), .mk none (some 6) (.fieldA 1 (.tmp 1)), .mk none none (.store 1 (.tmp 6) (.tmp 5))] (some [1, 2])) (.seq (.region [.mk none (some 7) (.load (some 2) (.tmp 1)), .mk none none (.store 2 (.tmp 2) (.tmp 7))] (some [2])) .ret)))
theorem ok_zyx20 : compC Tryz.prog an_zyx20 (Tryz.f27.body.getD .skip) = some ac_zyx20 := by kernel_rfl
theorem ret_zyx20 (st : St) : resD Tryz.prog st Tryz.f27.results.toList = resA st [.cell 2 (some 2)] := resD_of (by kernel_rfl)
theorem dst_zyx20 : ac_zyx20.dstOK Tryz.f27.ntmps (fun i => decide (i < Tryz.f27.ntmps)) = true := by kernel_rfl

def an_ztgmw : Ann := ⟨[(0, [0]), (1, [0, 3]), (2, [0, 3, 4]), (3, [0, 3, 4, 12]), (4, [0, 3, 4]), (5, [0, 3, 4]), (6, [2])], [(5, ([0, 0, 0, 6, 14, 30, 62, 0, 0, 384, 896, 1920, 4094, 8190, 16382, 32767, 65535], .take 0 (.take 1 (.take 2 (.take 3 (.take 4 (.take 5 (.take 7 (.take 8 (.take 9 (.take 10 (.take 11 (.alts (.cons 6 false (.alts (.cons 12 false (.take 13 (.alts (.cons 14 false (.alts (.cons 15 true (.take 16 (.done)) (.nil))) (.nil)))) (.nil))) (.nil)))))))))))))))], []⟩
def ac_ztgmw : AC := (.seq (.region [.mk none (some 2) (.mv (.const (.slice none 0 0)))] (some [0])) (.seq (.region [.mk none (some 3) (.mv (.const (.slice none 0 0)))] (some [0, 3])) (.seq (.seq (.region [.mk none (some 4) (.mv (.const (.int .i64 0)))] (some [0, 3, 4])) (.block 0 (.loop (.seq (.seq (.region [.mk none (some 5) (.mv (.tmp 4)), .mk none (some 6) (.mv (.tmp 0)), .mk none (some 7) (.len (.tmp 6) false), .mk none (some 8) (.bin .lss (.tmp 5) (.tmp 7)), .mk none (some 9) (.mv (.tmp 8)), .mk (some (9, true)) (some 10) (.mv (.tmp 4)), .mk (some (9, true)) (some 11) (.bin .lss (.tmp 10) (.const (.int .i64 31))), .mk none (some 12) (.pick (.tmp 9) (.tmp 11) (.const (.bool false)))] (some [0, 3, 4, 12])) (.cond (.tmp 12) .skip (.exit 0))) (.seq (.block 1 (.draw [.mk none (some 15) (.mv (.tmp 3)), .mk none (some 16) (.mv (.tmp 0)), .mk none (some 17) (.mv (.tmp 4)), .mk none (some 18) (.idxA 2 (.tmp 16) (.tmp 17)), .mk none (some 19) (.fieldA 0 (.tmp 18)), .mk none (some 20) (.load none (.tmp 19)), .mk none (some 21) (.call 15 [.tmp 20]), .mk none (some 22) (.mv (.tmp 0)), .mk none (some 23) (.mv (.tmp 4)), .mk none (some 24) (.idxA 2 (.tmp 22) (.tmp 23)), .mk none (some 25) (.fieldA 1 (.tmp 24)), .mk none (some 26) (.load none (.tmp 25)), .mk none (some 27) (.call 15 [.tmp 26]), .mk none (some 28) (.build [.pd (.raw (.string ⟨#[]⟩)), .pd (.raw (.string ⟨#[]⟩))] [(0, 1, .tmp 21), (1, 1, .tmp 27)]), .mk none (some 29) (.bslice 81 2 [.tmp 28]), .mk none (some 30) (.append 81 2 32 (.tmp 15) (.tmp 29)), .mk none (some 3) (.mv (.tmp 30))] [0, 0, 0, 6, 14, 30, 62, 0, 0, 384, 896, 1920, 4094, 8190, 16382, 32767, 65535] (.take 0 (.take 1 (.take 2 (.take 3 (.take 4 (.take 5 (.take 7 (.take 8 (.take 9 (.take 10 (.take 11 (.alts (.cons 6 false (.alts (.cons 12 false (.take 13 (.alts (.cons 14 false (.alts (.cons 15 true (.take 16 .done) .nil)) .nil))) .nil)) .nil))))))))))))) (some [0, 3, 4]))) (.region [.mk none (some 13) (.mv (.tmp 4)), .mk none (some 14) (.bin .add (.tmp 13) (.const (.int .i64 1))), .mk none (some 4) (.mv (.tmp 14))] (some [0, 3, 4]))))))) (.seq (.region [.mk none (some 31) (.mv (.tmp 3)), .mk none (some 2) (.mv (.tmp 31))] (some [2])) .ret))))
theorem ok_ztgmw : compC Tryz.prog an_ztgmw (Tryz.f14.body.getD .skip) = some ac_ztgmw := by kernel_rfl
theorem dst_ztgmw : ac_ztgmw.dstOK Tryz.f14.ntmps (fun i => decide (i < Tryz.f14.ntmps)) = true := by kernel_rfl

def an_zt3fs : Ann := ⟨[(0, [1, 2]), (1, [2])], [(1, ([0, 1, 3, 0, 8, 31, 0, 64, 255, 0, 512, 2047, 4095, 8191], .take 0 (.take 1 (.take 3 (.take 4 (.take 6 (.take 7 (.take 9 (.take 10 (.alts (.cons 2 false (.alts (.cons 5 false (.alts (.cons 8 false (.alts (.cons 11 true (.take 12 (.alts (.cons 13 true (.done) (.nil)))) (.nil))) (.nil))) (.nil))) (.nil))))))))))))], []⟩
def ac_zt3fs : AC := (.seq (.region [.mk none (some 1) (.box 62 (.tmp 0)), .mk none (some 2) (.alloc 62 [.pd (.raw (.int .i64 0)), .pd (.raw (.string ⟨#[]⟩)), .pd (.raw (.string ⟨#[]⟩)), .nils, .nils])] (some [1, 2])) (.seq (.draw [.mk none (some 3) (.fieldA 0 (.tmp 1)), .mk none (some 4) (.load (some 2) (.tmp 3)), .mk none (some 5) (.call 27 [.tmp 4]), .mk none (some 6) (.fieldA 2 (.tmp 1)), .mk none (some 7) (.load none (.tmp 6)), .mk none (some 8) (.call 15 [.tmp 7]), .mk none (some 9) (.fieldA 3 (.tmp 1)), .mk none (some 10) (.load none (.tmp 9)), .mk none (some 11) (.call 14 [.tmp 10]), .mk none (some 12) (.fieldA 4 (.tmp 1)), .mk none (some 13) (.load none (.tmp 12)), .mk none (some 14) (.call 14 [.tmp 13]), .mk none (some 15) (.build [.pd (.raw (.int .i64 0)), .pd (.raw (.string ⟨#[]⟩)), .pd (.raw (.string ⟨#[]⟩)), .nils, .nils] [(0, 2, .tmp 5), (2, 1, .tmp 8), (3, 1, .tmp 11), (4, 1, .tmp 14)]), .mk none none (.store 5 (.tmp 2) (.tmp 15))] [0, 1, 3, 0, 8, 31, 0, 64, 255, 0, 512, 2047, 4095, 8191] (.take 0 (.take 1 (.take 3 (.take 4 (.take 6 (.take 7 (.take 9 (.take 10 (.alts (.cons 2 false (.alts (.cons 5 false (.alts (.cons 8 false (.alts (.cons 11 true (.take 12 (.alts (.cons 13 true .done .nil))) .nil)) .nil)) .nil)) .nil)))))))))) (some [2])) .ret))
theorem ok_zt3fs : compC Tryz.prog an_zt3fs (Tryz.f19.body.getD .skip) = some ac_zt3fs := by kernel_rfl
theorem ret_zt3fs (st : St) : resD Tryz.prog st Tryz.f19.results.toList = resA st [.cell 2 (some 5)] := resD_of (by kernel_rfl)
theorem dst_zt3fs : ac_zt3fs.dstOK Tryz.f19.ntmps (fun i => decide (i < Tryz.f19.ntmps)) = true := by kernel_rfl

def an_z9moo : Ann := ⟨[(0, [0]), (1, [0, 3]), (2, [0, 3, 4]), (3, [0, 3, 4, 13]), (4, [0, 3, 4]), (5, [0, 3, 4, 5]), (6, [0, 3, 4, 5]), (7, [0, 3, 4]), (8, [2])], [(6, ([0, 1, 3, 0, 8, 31, 0, 64, 255, 0, 512, 2047, 1759, 8191, 16383, 32767, 65535, 131071, 262143, 524287], .take 0 (.take 1 (.take 3 (.take 4 (.take 6 (.take 7 (.take 9 (.take 10 (.alts (.cons 2 false (.take 12 (.alts (.cons 5 false (.alts (.cons 8 false (.alts (.cons 11 false (.alts (.cons 13 true (.take 14 (.alts (.cons 15 true (.take 16 (.alts (.cons 17 true (.take 18 (.alts (.cons 19 true (.done) (.nil)))) (.nil)))) (.nil)))) (.nil))) (.nil))) (.nil))) (.nil)))) (.nil))))))))))))], []⟩
def ac_z9moo : AC := (.seq (.region [.mk none (some 2) (.mv (.const (.slice none 0 0)))] (some [0])) (.seq (.region [.mk none (some 3) (.mv (.const (.slice none 0 0)))] (some [0, 3])) (.seq (.seq (.region [.mk none (some 4) (.mv (.const (.int .i64 0)))] (some [0, 3, 4])) (.block 0 (.loop (.seq (.seq (.region [.mk none (some 6) (.mv (.tmp 4)), .mk none (some 7) (.mv (.tmp 0)), .mk none (some 8) (.len (.tmp 7) false), .mk none (some 9) (.bin .lss (.tmp 6) (.tmp 8)), .mk none (some 10) (.mv (.tmp 9)), .mk (some (10, true)) (some 11) (.mv (.tmp 4)), .mk (some (10, true)) (some 12) (.bin .lss (.tmp 11) (.const (.int .i64 9))), .mk none (some 13) (.pick (.tmp 10) (.tmp 12) (.const (.bool false)))] (some [0, 3, 4, 13])) (.cond (.tmp 13) .skip (.exit 0))) (.seq (.block 1 (.seq (.region [.mk none (some 16) (.mv (.tmp 0)), .mk none (some 17) (.mv (.tmp 4)), .mk none (some 18) (.idxA 8 (.tmp 16) (.tmp 17)), .mk none (some 19) (.load (some 8) (.tmp 18)), .mk none (some 5) (.alloc 86 [.pd (.raw (.int .i64 0)), .pd (.raw (.string ⟨#[]⟩)), .pd (.raw (.string ⟨#[]⟩)), .pd (.raw (.string ⟨#[]⟩)), .pd (.raw (.int .i64 0)), .pd (.raw (.string ⟨#[]⟩)), .pd (.raw (.bool false)), .pd (.raw (.int .i64 0))]), .mk none none (.store 8 (.tmp 5) (.tmp 19))] (some [0, 3, 4, 5])) (.seq (.draw [.mk none (some 20) (.fieldA 1 (.tmp 5)), .mk none (some 21) (.load none (.tmp 20)), .mk none (some 22) (.call 15 [.tmp 21]), .mk none (some 23) (.fieldA 2 (.tmp 5)), .mk none (some 24) (.load none (.tmp 23)), .mk none (some 25) (.call 15 [.tmp 24]), .mk none (some 26) (.fieldA 3 (.tmp 5)), .mk none (some 27) (.load none (.tmp 26)), .mk none (some 28) (.call 15 [.tmp 27]), .mk none (some 29) (.fieldA 5 (.tmp 5)), .mk none (some 30) (.load none (.tmp 29)), .mk none (some 31) (.call 15 [.tmp 30]), .mk none (some 32) (.fieldA 1 (.tmp 5)), .mk none none (.store 1 (.tmp 32) (.tmp 22)), .mk none (some 33) (.fieldA 2 (.tmp 5)), .mk none none (.store 1 (.tmp 33) (.tmp 25)), .mk none (some 34) (.fieldA 3 (.tmp 5)), .mk none none (.store 1 (.tmp 34) (.tmp 28)), .mk none (some 35) (.fieldA 5 (.tmp 5)), .mk none none (.store 1 (.tmp 35) (.tmp 31))] [0, 1, 3, 0, 8, 31, 0, 64, 255, 0, 512, 2047, 1759, 8191, 16383, 32767, 65535, 131071, 262143, 524287] (.take 0 (.take 1 (.take 3 (.take 4 (.take 6 (.take 7 (.take 9 (.take 10 (.alts (.cons 2 false (.take 12 (.alts (.cons 5 false (.alts (.cons 8 false (.alts (.cons 11 false (.alts (.cons 13 true (.take 14 (.alts (.cons 15 true (.take 16 (.alts (.cons 17 true (.take 18 (.alts (.cons 19 true .done .nil))) .nil))) .nil))) .nil)) .nil)) .nil)) .nil))) .nil)))))))))) (some [0, 3, 4, 5])) (.region [.mk none (some 36) (.mv (.tmp 3)), .mk none (some 37) (.load (some 8) (.tmp 5)), .mk none (some 38) (.bslice 86 8 [.tmp 37]), .mk none (some 39) (.append 86 8 96 (.tmp 36) (.tmp 38)), .mk none (some 3) (.mv (.tmp 39))] (some [0, 3, 4]))))) (.region [.mk none (some 14) (.mv (.tmp 4)), .mk none (some 15) (.bin .add (.tmp 14) (.const (.int .i64 1))), .mk none (some 4) (.mv (.tmp 15))] (some [0, 3, 4]))))))) (.seq (.region [.mk none (some 40) (.mv (.tmp 3)), .mk none (some 2) (.mv (.tmp 40))] (some [2])) .ret))))
theorem ok_z9moo : compC Tryz.prog an_z9moo (Tryz.f18.body.getD .skip) = some ac_z9moo := by kernel_rfl
theorem dst_z9moo : ac_z9moo.dstOK Tryz.f18.ntmps (fun i => decide (i < Tryz.f18.ntmps)) = true := by kernel_rfl

def an_zpih5 : Ann := ⟨[(0, [0]), (1, [0, 3]), (2, [0, 3, 4]), (3, [0, 3, 4, 14]), (4, [0, 3, 4]), (5, [0, 3, 4, 5]), (6, [0, 3, 4, 5, 6]), (7, [0, 3, 4, 5, 6, 40]), (8, [0, 3, 4, 5, 6]), (9, [0, 3, 4, 5, 6]), (10, [0, 3, 4]), (11, [2])], [(5, ([0, 0, 3, 7, 15, 0, 0, 96, 224, 480, 992, 2047, 0, 8191], .take 0 (.take 1 (.take 2 (.take 3 (.take 4 (.take 5 (.take 6 (.take 7 (.take 8 (.take 9 (.alts (.cons 10 false (.take 11 (.alts (.cons 12 false (.alts (.cons 13 true (.done) (.nil))) (.nil)))) (.cons 12 false (.alts (.cons 10 false (.take 11 (.alts (.cons 13 true (.done) (.nil)))) (.nil))) (.nil))))))))))))))), (9, ([0, 1, 0, 0, 12, 28, 60, 0, 252, 508, 1020, 2044, 4095, 8191, 16383], .take 0 (.take 1 (.take 2 (.take 3 (.take 4 (.take 5 (.take 6 (.take 7 (.take 8 (.take 9 (.alts (.cons 10 false (.alts (.cons 11 false (.alts (.cons 12 true (.take 13 (.alts (.cons 14 true (.done) (.nil)))) (.nil))) (.nil))) (.nil))))))))))))))], []⟩
def ac_zpih5 : AC := (.seq (.region [.mk none (some 2) (.mv (.const (.slice none 0 0)))] (some [0])) (.seq (.region [.mk none (some 3) (.mv (.const (.slice none 0 0)))] (some [0, 3])) (.seq (.seq (.region [.mk none (some 4) (.mv (.const (.int .i64 0)))] (some [0, 3, 4])) (.block 0 (.loop (.seq (.seq (.region [.mk none (some 7) (.mv (.tmp 4)), .mk none (some 8) (.mv (.tmp 0)), .mk none (some 9) (.len (.tmp 8) false), .mk none (some 10) (.bin .lss (.tmp 7) (.tmp 9)), .mk none (some 11) (.mv (.tmp 10)), .mk (some (11, true)) (some 12) (.mv (.tmp 4)), .mk (some (11, true)) (some 13) (.bin .lss (.tmp 12) (.const (.int .i64 9))), .mk none (some 14) (.pick (.tmp 11) (.tmp 13) (.const (.bool false)))] (some [0, 3, 4, 14])) (.cond (.tmp 14) .skip (.exit 0))) (.seq (.block 1 (.seq (.draw [.mk none (some 17) (.mv (.tmp 0)), .mk none (some 18) (.mv (.tmp 4)), .mk none (some 19) (.idxA 3 (.tmp 17) (.tmp 18)), .mk none (some 20) (.fieldA 0 (.tmp 19)), .mk none (some 21) (.load none (.tmp 20)), .mk none (some 22) (.mv (.tmp 0)), .mk none (some 23) (.mv (.tmp 4)), .mk none (some 24) (.idxA 3 (.tmp 22) (.tmp 23)), .mk none (some 25) (.fieldA 1 (.tmp 24)), .mk none (some 26) (.load none (.tmp 25)), .mk none (some 27) (.call 15 [.tmp 26]), .mk none (some 28) (.build [.pd (.raw (.int .i64 0)), .pd (.raw (.string ⟨#[]⟩)), .nils] [(0, 1, .tmp 21), (1, 1, .tmp 27)]), .mk none (some 5) (.alloc 84 [.pd (.raw (.int .i64 0)), .pd (.raw (.string ⟨#[]⟩)), .nils]), .mk none none (.store 3 (.tmp 5) (.tmp 28))] [0, 0, 3, 7, 15, 0, 0, 96, 224, 480, 992, 2047, 0, 8191] (.take 0 (.take 1 (.take 2 (.take 3 (.take 4 (.take 5 (.take 6 (.take 7 (.take 8 (.take 9 (.alts (.cons 10 false (.take 11 (.alts (.cons 12 false (.alts (.cons 13 true .done .nil)) .nil))) (.cons 12 false (.alts (.cons 10 false (.take 11 (.alts (.cons 13 true .done .nil))) .nil)) .nil))))))))))))) (some [0, 3, 4, 5])) (.seq (.seq (.region [.mk none (some 6) (.mv (.const (.int .i64 0)))] (some [0, 3, 4, 5, 6])) (.block 2 (.loop (.seq (.seq (.region [.mk none (some 29) (.mv (.tmp 6)), .mk none (some 30) (.mv (.tmp 0)), .mk none (some 31) (.mv (.tmp 4)), .mk none (some 32) (.idxA 3 (.tmp 30) (.tmp 31)), .mk none (some 33) (.fieldA 2 (.tmp 32)), .mk none (some 34) (.load none (.tmp 33)), .mk none (some 35) (.len (.tmp 34) false), .mk none (some 36) (.bin .lss (.tmp 29) (.tmp 35)), .mk none (some 37) (.mv (.tmp 36)), .mk (some (37, true)) (some 38) (.mv (.tmp 6)), .mk (some (37, true)) (some 39) (.bin .lss (.tmp 38) (.const (.int .i64 9))), .mk none (some 40) (.pick (.tmp 37) (.tmp 39) (.const (.bool false)))] (some [0, 3, 4, 5, 6, 40])) (.cond (.tmp 40) .skip (.exit 2))) (.seq (.block 3 (.draw [.mk none (some 43) (.fieldA 2 (.tmp 5)), .mk none (some 44) (.load none (.tmp 43)), .mk none (some 45) (.mv (.tmp 0)), .mk none (some 46) (.mv (.tmp 4)), .mk none (some 47) (.idxA 3 (.tmp 45) (.tmp 46)), .mk none (some 48) (.fieldA 2 (.tmp 47)), .mk none (some 49) (.load none (.tmp 48)), .mk none (some 50) (.mv (.tmp 6)), .mk none (some 51) (.idxA 1 (.tmp 49) (.tmp 50)), .mk none (some 52) (.load none (.tmp 51)), .mk none (some 53) (.call 15 [.tmp 52]), .mk none (some 54) (.bslice 9 1 [.tmp 53]), .mk none (some 55) (.append 9 1 16 (.tmp 44) (.tmp 54)), .mk none (some 56) (.fieldA 2 (.tmp 5)), .mk none none (.store 1 (.tmp 56) (.tmp 55))] [0, 1, 0, 0, 12, 28, 60, 0, 252, 508, 1020, 2044, 4095, 8191, 16383] (.take 0 (.take 1 (.take 2 (.take 3 (.take 4 (.take 5 (.take 6 (.take 7 (.take 8 (.take 9 (.alts (.cons 10 false (.alts (.cons 11 false (.alts (.cons 12 true (.take 13 (.alts (.cons 14 true .done .nil))) .nil)) .nil)) .nil)))))))))))) (some [0, 3, 4, 5, 6]))) (.region [.mk none (some 41) (.mv (.tmp 6)), .mk none (some 42) (.bin .add (.tmp 41) (.const (.int .i64 1))), .mk none (some 6) (.mv (.tmp 42))] (some [0, 3, 4, 5, 6]))))))) (.region [.mk none (some 57) (.mv (.tmp 3)), .mk none (some 58) (.load (some 3) (.tmp 5)), .mk none (some 59) (.bslice 84 3 [.tmp 58]), .mk none (some 60) (.append 84 3 48 (.tmp 57) (.tmp 59)), .mk none (some 3) (.mv (.tmp 60))] (some [0, 3, 4]))))) (.region [.mk none (some 15) (.mv (.tmp 4)), .mk none (some 16) (.bin .add (.tmp 15) (.const (.int .i64 1))), .mk none (some 4) (.mv (.tmp 16))] (some [0, 3, 4]))))))) (.seq (.region [.mk none (some 61) (.mv (.tmp 3)), .mk none (some 2) (.mv (.tmp 61))] (some [2])) .ret))))
theorem ok_zpih5 : compC Tryz.prog an_zpih5 (Tryz.f17.body.getD .skip) = some ac_zpih5 := by kernel_rfl
theorem dst_zpih5 : ac_zpih5.dstOK Tryz.f17.ntmps (fun i => decide (i < Tryz.f17.ntmps)) = true := by kernel_rfl

def an_zg0x2 : Ann := ⟨[(0, [0]), (1, [0, 3]), (2, [0, 3, 4]), (3, [0, 3, 4, 12]), (4, [0, 3, 4]), (5, [0, 3, 4]), (6, [2])], [(5, ([0, 0, 0, 6, 14, 30, 0, 0, 192, 448, 960, 1984, 0, 0, 12288, 28672, 61440, 131008, 262142, 524286, 1048575, 2097151], .take 0 (.take 1 (.take 2 (.take 3 (.take 4 (.take 5 (.take 6 (.take 7 (.take 8 (.take 9 (.take 10 (.take 12 (.take 13 (.take 14 (.take 15 (.take 16 (.alts (.cons 11 false (.alts (.cons 17 false (.take 18 (.alts (.cons 19 false (.alts (.cons 20 true (.take 21 (.done)) (.nil))) (.nil)))) (.nil))) (.nil))))))))))))))))))))], []⟩
def ac_zg0x2 : AC := (.seq (.region [.mk none (some 2) (.mv (.const (.slice none 0 0)))] (some [0])) (.seq (.region [.mk none (some 3) (.mv (.const (.slice none 0 0)))] (some [0, 3])) (.seq (.seq (.region [.mk none (some 4) (.mv (.const (.int .i64 0)))] (some [0, 3, 4])) (.block 0 (.loop (.seq (.seq (.region [.mk none (some 5) (.mv (.tmp 4)), .mk none (some 6) (.mv (.tmp 0)), .mk none (some 7) (.len (.tmp 6) false), .mk none (some 8) (.bin .lss (.tmp 5) (.tmp 7)), .mk none (some 9) (.mv (.tmp 8)), .mk (some (9, true)) (some 10) (.mv (.tmp 4)), .mk (some (9, true)) (some 11) (.bin .lss (.tmp 10) (.const (.int .i64 5))), .mk none (some 12) (.pick (.tmp 9) (.tmp 11) (.const (.bool false)))] (some [0, 3, 4, 12])) (.cond (.tmp 12) .skip (.exit 0))) (.seq (.block 1 (.draw [.mk none (some 15) (.mv (.tmp 3)), .mk none (some 16) (.mv (.tmp 0)), .mk none (some 17) (.mv (.tmp 4)), .mk none (some 18) (.idxA 3 (.tmp 16) (.tmp 17)), .mk none (some 19) (.fieldA 0 (.tmp 18)), .mk none (some 20) (.load none (.tmp 19)), .mk none (some 21) (.mv (.tmp 0)), .mk none (some 22) (.mv (.tmp 4)), .mk none (some 23) (.idxA 3 (.tmp 21) (.tmp 22)), .mk none (some 24) (.fieldA 1 (.tmp 23)), .mk none (some 25) (.load none (.tmp 24)), .mk none (some 26) (.call 15 [.tmp 25]), .mk none (some 27) (.mv (.tmp 0)), .mk none (some 28) (.mv (.tmp 4)), .mk none (some 29) (.idxA 3 (.tmp 27) (.tmp 28)), .mk none (some 30) (.fieldA 2 (.tmp 29)), .mk none (some 31) (.load none (.tmp 30)), .mk none (some 32) (.call 15 [.tmp 31]), .mk none (some 33) (.build [.pd (.raw (.int .i64 0)), .pd (.raw (.string ⟨#[]⟩)), .pd (.raw (.string ⟨#[]⟩))] [(0, 1, .tmp 20), (1, 1, .tmp 26), (2, 1, .tmp 32)]), .mk none (some 34) (.bslice 82 3 [.tmp 33]), .mk none (some 35) (.append 82 3 40 (.tmp 15) (.tmp 34)), .mk none (some 3) (.mv (.tmp 35))] [0, 0, 0, 6, 14, 30, 0, 0, 192, 448, 960, 1984, 0, 0, 12288, 28672, 61440, 131008, 262142, 524286, 1048575, 2097151] (.take 0 (.take 1 (.take 2 (.take 3 (.take 4 (.take 5 (.take 6 (.take 7 (.take 8 (.take 9 (.take 10 (.take 12 (.take 13 (.take 14 (.take 15 (.take 16 (.alts (.cons 11 false (.alts (.cons 17 false (.take 18 (.alts (.cons 19 false (.alts (.cons 20 true (.take 21 .done) .nil)) .nil))) .nil)) .nil)))))))))))))))))) (some [0, 3, 4]))) (.region [.mk none (some 13) (.mv (.tmp 4)), .mk none (some 14) (.bin .add (.tmp 13) (.const (.int .i64 1))), .mk none (some 4) (.mv (.tmp 14))] (some [0, 3, 4]))))))) (.seq (.region [.mk none (some 36) (.mv (.tmp 3)), .mk none (some 2) (.mv (.tmp 36))] (some [2])) .ret))))
theorem ok_zg0x2 : compC Tryz.prog an_zg0x2 (Tryz.f16.body.getD .skip) = some ac_zg0x2 := by kernel_rfl
theorem dst_zg0x2 : ac_zg0x2.dstOK Tryz.f16.ntmps (fun i => decide (i < Tryz.f16.ntmps)) = true := by kernel_rfl

def an_z8s55 : Ann := ⟨[(0, [1, 2]), (1, [1, 2, 3]), (2, [1, 2, 3, 4]), (3, [1, 2, 3, 4, 41]), (4, [1, 2, 3, 4]), (5, [1, 2, 3, 4]), (6, [1, 2, 3, 5]), (7, [1, 2, 3, 5, 62]), (8, [1, 2, 3, 5]), (9, [1, 2, 3, 5, 6]), (10, [1, 2, 3, 5]), (11, [1, 2, 3, 7]), (12, [1, 2, 3, 7, 102]), (13, [1, 2, 3, 7]), (14, [1, 2, 3, 7, 8]), (15, [1, 2, 3, 7]), (16, [1, 2, 3, 9]), (17, [1, 2, 3, 9, 135]), (18, [1, 2, 3, 9]), (19, [1, 2, 3, 9]), (20, [1, 2, 3, 10]), (21, [1, 2, 3, 10, 157]), (22, [1, 2, 3, 10]), (23, [1, 2, 3, 10, 11]), (24, [1, 2, 3, 10, 11, 12]), (25, [1, 2, 3, 10, 11, 12, 180]), (26, [1, 2, 3, 10, 11, 12]), (27, [1, 2, 3, 10, 11, 12]), (28, [1, 2, 3, 10, 11, 13]), (29, [1, 2, 3, 10, 11, 13, 210]), (30, [1, 2, 3, 10, 11, 13]), (31, [1, 2, 3, 10, 11, 13, 14]), (32, [1, 2, 3, 10, 11, 13]), (33, [1, 2, 3, 10]), (34, [2])], [(1, ([0, 1, 3, 0, 8, 0, 32, 103, 0, 256, 999, 0, 2048, 8167, 0, 16384, 65511, 131071, 0, 524287], .take 0 (.take 1 (.take 3 (.take 4 (.take 5 (.take 6 (.take 8 (.take 9 (.take 11 (.take 12 (.take 14 (.take 15 (.alts (.cons 2 false (.alts (.cons 7 false (.alts (.cons 10 false (.alts (.cons 13 false (.alts (.cons 16 false (.take 17 (.alts (.cons 18 false (.alts (.cons 19 true (.done) (.nil))) (.nil)))) (.cons 18 false (.alts (.cons 16 false (.take 17 (.alts (.cons 19 true (.done) (.nil)))) (.nil))) (.nil)))) (.cons 18 false (.alts (.cons 13 false (.alts (.cons 16 false (.take 17 (.alts (.cons 19 true (.done) (.nil)))) (.nil))) (.nil))) (.nil)))) (.cons 18 false (.alts (.cons 10 false (.alts (.cons 13 false (.alts (.cons 16 false (.take 17 (.alts (.cons 19 true (.done) (.nil)))) (.nil))) (.nil))) (.nil))) (.nil)))) (.cons 18 false (.alts (.cons 7 false (.alts (.cons 10 false (.alts (.cons 13 false (.alts (.cons 16 false (.take 17 (.alts (.cons 19 true (.done) (.nil)))) (.nil))) (.nil))) (.nil))) (.nil))) (.nil)))) (.cons 18 false (.alts (.cons 2 false (.alts (.cons 7 false (.alts (.cons 10 false (.alts (.cons 13 false (.alts (.cons 16 false (.take 17 (.alts (.cons 19 true (.done) (.nil)))) (.nil))) (.nil))) (.nil))) (.nil))) (.nil))) (.nil))))))))))))))))), (5, ([0, 1, 0, 4, 0, 28, 60, 124, 255, 511, 1023], .take 0 (.take 1 (.take 2 (.take 3 (.take 4 (.take 5 (.take 6 (.alts (.cons 7 false (.alts (.cons 8 true (.take 9 (.alts (.cons 10 true (.done) (.nil)))) (.nil))) (.nil))))))))))), (10, ([0, 1, 0, 4, 12, 0, 32, 0, 128, 0, 512, 1564, 0, 4096, 15900, 0, 32768, 0, 131072, 425500, 1048572, 2097148, 4194303, 8388607, 16777215], .take 0 (.take 1 (.take 2 (.take 3 (.take 5 (.take 6 (.take 7 (.take 8 (.take 9 (.take 10 (.take 12 (.take 13 (.take 15 (.take 16 (.take 17 (.take 18 (.alts (.cons 4 false (.alts (.cons 11 false (.alts (.cons 14 false (.alts (.cons 19 false (.take 20 (.alts (.cons 21 false (.alts (.cons 22 true (.take 23 (.alts (.cons 24 true (.done) (.nil)))) (.nil))) (.nil)))) (.nil))) (.nil))) (.nil))) (.nil)))))))))))))))))))), (15, ([0, 1, 0, 4, 12, 0, 32, 124, 0, 256, 1020, 0, 2048, 8188, 16380, 32767, 65535, 131071], .take 0 (.take 1 (.take 2 (.take 3 (.take 5 (.take 6 (.take 8 (.take 9 (.take 11 (.take 12 (.alts (.cons 4 false (.alts (.cons 7 false (.alts (.cons 10 false (.take 13 (.alts (.cons 14 false (.alts (.cons 15 true (.take 16 (.alts (.cons 17 true (.done) (.nil)))) (.nil))) (.nil)))) (.nil))) (.nil))) (.nil)))))))))))))), (19, ([0, 1, 0, 4, 0, 28, 60, 124, 252, 511, 1023, 2047], .take 0 (.take 1 (.take 2 (.take 3 (.take 4 (.take 5 (.take 6 (.alts (.cons 7 false (.alts (.cons 8 false (.alts (.cons 9 true (.take 10 (.alts (.cons 11 true (.done) (.nil)))) (.nil))) (.nil))) (.nil))))))))))), (27, ([0, 1, 0, 4, 0, 28, 60, 124, 0, 508, 1020, 2044, 4092, 8191, 16383, 32767], .take 0 (.take 1 (.take 2 (.take 3 (.take 4 (.take 5 (.take 6 (.take 7 (.take 8 (.take 9 (.take 10 (.alts (.cons 11 false (.alts (.cons 12 false (.alts (.cons 13 true (.take 14 (.alts (.cons 15 true (.done) (.nil)))) (.nil))) (.nil))) (.nil))))))))))))))), (32, ([0, 1, 0, 4, 12, 0, 32, 0, 128, 508, 1020, 2047, 4095, 8191], .take 0 (.take 1 (.take 2 (.take 3 (.take 5 (.take 6 (.take 7 (.take 8 (.alts (.cons 4 false (.take 9 (.alts (.cons 10 false (.alts (.cons 11 true (.take 12 (.alts (.cons 13 true (.done) (.nil)))) (.nil))) (.nil)))) (.nil))))))))))))], []⟩
def ac_z8s55 : AC := (.seq (.region [.mk none (some 1) (.box 33 (.tmp 0)), .mk none (some 2) (.alloc 33 [.pd (.raw (.int .i64 0)), .pd (.raw (.string ⟨#[]⟩)), .pd (.raw (.string ⟨#[]⟩)), .pd (.raw (.bool false)), .nils, .nils, .pd (.raw (.string ⟨#[]⟩)), .nils, .nils, .nils, .nils, .nils, .nils])] (some [1, 2])) (.seq (.draw [.mk none (some 15) (.fieldA 0 (.tmp 1)), .mk none (some 16) (.load (some 3) (.tmp 15)), .mk none (some 17) (.call 13 [.tmp 16]), .mk none (some 18) (.fieldA 3 (.tmp 1)), .mk none (some 19) (.load none (.tmp 18)), .mk none (some 20) (.fieldA 4 (.tmp 1)), .mk none (some 21) (.load none (.tmp 20)), .mk none (some 22) (.call 14 [.tmp 21]), .mk none (some 23) (.fieldA 6 (.tmp 1)), .mk none (some 24) (.load none (.tmp 23)), .mk none (some 25) (.call 15 [.tmp 24]), .mk none (some 26) (.fieldA 11 (.tmp 1)), .mk none (some 27) (.load none (.tmp 26)), .mk none (some 28) (.call 16 [.tmp 27]), .mk none (some 29) (.fieldA 12 (.tmp 1)), .mk none (some 30) (.load none (.tmp 29)), .mk none (some 31) (.call 16 [.tmp 30]), .mk none (some 32) (.build [.pd (.raw (.int .i64 0)), .pd (.raw (.string ⟨#[]⟩)), .pd (.raw (.string ⟨#[]⟩)), .pd (.raw (.bool false)), .nils, .nils, .pd (.raw (.string ⟨#[]⟩)), .nils, .nils, .nils, .nils, .nils, .nils] [(0, 3, .tmp 17), (3, 1, .tmp 19), (4, 1, .tmp 22), (6, 1, .tmp 25), (11, 1, .tmp 28), (12, 1, .tmp 31)]), .mk none (some 3) (.alloc 33 [.pd (.raw (.int .i64 0)), .pd (.raw (.string ⟨#[]⟩)), .pd (.raw (.string ⟨#[]⟩)), .pd (.raw (.bool false)), .nils, .nils, .pd (.raw (.string ⟨#[]⟩)), .nils, .nils, .nils, .nils, .nils, .nils]), .mk none none (.store 13 (.tmp 3) (.tmp 32))] [0, 1, 3, 0, 8, 0, 32, 103, 0, 256, 999, 0, 2048, 8167, 0, 16384, 65511, 131071, 0, 524287] (.take 0 (.take 1 (.take 3 (.take 4 (.take 5 (.take 6 (.take 8 (.take 9 (.take 11 (.take 12 (.take 14 (.take 15 (.alts (.cons 2 false (.alts (.cons 7 false (.alts (.cons 10 false (.alts (.cons 13 false (.alts (.cons 16 false (.take 17 (.alts (.cons 18 false (.alts (.cons 19 true .done .nil)) .nil))) (.cons 18 false (.alts (.cons 16 false (.take 17 (.alts (.cons 19 true .done .nil))) .nil)) .nil))) (.cons 18 false (.alts (.cons 13 false (.alts (.cons 16 false (.take 17 (.alts (.cons 19 true .done .nil))) .nil)) .nil)) .nil))) (.cons 18 false (.alts (.cons 10 false (.alts (.cons 13 false (.alts (.cons 16 false (.take 17 (.alts (.cons 19 true .done .nil))) .nil)) .nil)) .nil)) .nil))) (.cons 18 false (.alts (.cons 7 false (.alts (.cons 10 false (.alts (.cons 13 false (.alts (.cons 16 false (.take 17 (.alts (.cons 19 true .done .nil))) .nil)) .nil)) .nil)) .nil)) .nil))) (.cons 18 false (.alts (.cons 2 false (.alts (.cons 7 false (.alts (.cons 10 false (.alts (.cons 13 false (.alts (.cons 16 false (.take 17 (.alts (.cons 19 true .done .nil))) .nil)) .nil)) .nil)) .nil)) .nil)) .nil))))))))))))))) (some [1, 2, 3])) (.seq (.seq (.region [.mk none (some 4) (.mv (.const (.int .i64 0)))] (some [1, 2, 3, 4])) (.block 0 (.loop (.seq (.seq (.region [.mk none (some 33) (.mv (.tmp 4)), .mk none (some 34) (.fieldA 5 (.tmp 1)), .mk none (some 35) (.load none (.tmp 34)), .mk none (some 36) (.len (.tmp 35) false), .mk none (some 37) (.bin .lss (.tmp 33) (.tmp 36)), .mk none (some 38) (.mv (.tmp 37)), .mk (some (38, true)) (some 39) (.mv (.tmp 4)), .mk (some (38, true)) (some 40) (.bin .lss (.tmp 39) (.const (.int .i64 9))), .mk none (some 41) (.pick (.tmp 38) (.tmp 40) (.const (.bool false)))] (some [1, 2, 3, 4, 41])) (.cond (.tmp 41) .skip (.exit 0))) (.seq (.block 1 (.draw [.mk none (some 44) (.fieldA 5 (.tmp 3)), .mk none (some 45) (.load none (.tmp 44)), .mk none (some 46) (.fieldA 5 (.tmp 1)), .mk none (some 47) (.load none (.tmp 46)), .mk none (some 48) (.mv (.tmp 4)), .mk none (some 49) (.idxA 1 (.tmp 47) (.tmp 48)), .mk none (some 50) (.load none (.tmp 49)), .mk none (some 51) (.bslice 3 1 [.tmp 50]), .mk none (some 52) (.append 3 1 8 (.tmp 45) (.tmp 51)), .mk none (some 53) (.fieldA 5 (.tmp 3)), .mk none none (.store 1 (.tmp 53) (.tmp 52))] [0, 1, 0, 4, 0, 28, 60, 124, 255, 511, 1023] (.take 0 (.take 1 (.take 2 (.take 3 (.take 4 (.take 5 (.take 6 (.alts (.cons 7 false (.alts (.cons 8 true (.take 9 (.alts (.cons 10 true .done .nil))) .nil)) .nil))))))))) (some [1, 2, 3, 4]))) (.region [.mk none (some 42) (.mv (.tmp 4)), .mk none (some 43) (.bin .add (.tmp 42) (.const (.int .i64 1))), .mk none (some 4) (.mv (.tmp 43))] (some [1, 2, 3, 4]))))))) (.seq (.seq (.region [.mk none (some 5) (.mv (.const (.int .i64 0)))] (some [1, 2, 3, 5])) (.block 2 (.loop (.seq (.seq (.region [.mk none (some 54) (.mv (.tmp 5)), .mk none (some 55) (.fieldA 7 (.tmp 1)), .mk none (some 56) (.load none (.tmp 55)), .mk none (some 57) (.len (.tmp 56) false), .mk none (some 58) (.bin .lss (.tmp 54) (.tmp 57)), .mk none (some 59) (.mv (.tmp 58)), .mk (some (59, true)) (some 60) (.mv (.tmp 5)), .mk (some (59, true)) (some 61) (.bin .lss (.tmp 60) (.const (.int .i64 9))), .mk none (some 62) (.pick (.tmp 59) (.tmp 61) (.const (.bool false)))] (some [1, 2, 3, 5, 62])) (.cond (.tmp 62) .skip (.exit 2))) (.seq (.block 3 (.seq (.region [.mk none (some 65) (.fieldA 7 (.tmp 1)), .mk none (some 66) (.load none (.tmp 65)), .mk none (some 67) (.mv (.tmp 5)), .mk none (some 68) (.idxA 9 (.tmp 66) (.tmp 67)), .mk none (some 69) (.load (some 9) (.tmp 68)), .mk none (some 6) (.alloc 49 [.pd (.raw (.string ⟨#[]⟩)), .pd (.raw (.int .i64 0)), .pd (.raw (.bool false)), .pd (.raw (.string ⟨#[]⟩)), .pd (.raw (.int .i64 0)), .pd (.raw (.string ⟨#[]⟩)), .pd (.raw (.string ⟨#[]⟩)), .pd (.raw (.int .i64 0)), .nils]), .mk none none (.store 9 (.tmp 6) (.tmp 69))] (some [1, 2, 3, 5, 6])) (.draw [.mk none (some 70) (.fieldA 7 (.tmp 3)), .mk none (some 71) (.load none (.tmp 70)), .mk none (some 72) (.fieldA 0 (.tmp 6)), .mk none (some 73) (.load none (.tmp 72)), .mk none (some 74) (.call 15 [.tmp 73]), .mk none (some 75) (.fieldA 1 (.tmp 6)), .mk none (some 76) (.load none (.tmp 75)), .mk none (some 77) (.fieldA 2 (.tmp 6)), .mk none (some 78) (.load none (.tmp 77)), .mk none (some 79) (.fieldA 3 (.tmp 6)), .mk none (some 80) (.load none (.tmp 79)), .mk none (some 81) (.call 15 [.tmp 80]), .mk none (some 82) (.fieldA 4 (.tmp 6)), .mk none (some 83) (.load (some 3) (.tmp 82)), .mk none (some 84) (.call 13 [.tmp 83]), .mk none (some 85) (.fieldA 7 (.tmp 6)), .mk none (some 86) (.load none (.tmp 85)), .mk none (some 87) (.fieldA 8 (.tmp 6)), .mk none (some 88) (.load none (.tmp 87)), .mk none (some 89) (.call 17 [.tmp 88]), .mk none (some 90) (.build [.pd (.raw (.string ⟨#[]⟩)), .pd (.raw (.int .i64 0)), .pd (.raw (.bool false)), .pd (.raw (.string ⟨#[]⟩)), .pd (.raw (.int .i64 0)), .pd (.raw (.string ⟨#[]⟩)), .pd (.raw (.string ⟨#[]⟩)), .pd (.raw (.int .i64 0)), .nils] [(0, 1, .tmp 74), (1, 1, .tmp 76), (2, 1, .tmp 78), (3, 1, .tmp 81), (4, 3, .tmp 84), (7, 1, .tmp 86), (8, 1, .tmp 89)]), .mk none (some 91) (.bslice 49 9 [.tmp 90]), .mk none (some 92) (.append 49 9 120 (.tmp 71) (.tmp 91)), .mk none (some 93) (.fieldA 7 (.tmp 3)), .mk none none (.store 1 (.tmp 93) (.tmp 92))] [0, 1, 0, 4, 12, 0, 32, 0, 128, 0, 512, 1564, 0, 4096, 15900, 0, 32768, 0, 131072, 425500, 1048572, 2097148, 4194303, 8388607, 16777215] (.take 0 (.take 1 (.take 2 (.take 3 (.take 5 (.take 6 (.take 7 (.take 8 (.take 9 (.take 10 (.take 12 (.take 13 (.take 15 (.take 16 (.take 17 (.take 18 (.alts (.cons 4 false (.alts (.cons 11 false (.alts (.cons 14 false (.alts (.cons 19 false (.take 20 (.alts (.cons 21 false (.alts (.cons 22 true (.take 23 (.alts (.cons 24 true .done .nil))) .nil)) .nil))) .nil)) .nil)) .nil)) .nil)))))))))))))))))) (some [1, 2, 3, 5])))) (.region [.mk none (some 63) (.mv (.tmp 5)), .mk none (some 64) (.bin .add (.tmp 63) (.const (.int .i64 1))), .mk none (some 5) (.mv (.tmp 64))] (some [1, 2, 3, 5]))))))) (.seq (.seq (.region [.mk none (some 7) (.mv (.const (.int .i64 0)))] (some [1, 2, 3, 7])) (.block 4 (.loop (.seq (.seq (.region [.mk none (some 94) (.mv (.tmp 7)), .mk none (some 95) (.fieldA 8 (.tmp 1)), .mk none (some 96) (.load none (.tmp 95)), .mk none (some 97) (.len (.tmp 96) false), .mk none (some 98) (.bin .lss (.tmp 94) (.tmp 97)), .mk none (some 99) (.mv (.tmp 98)), .mk (some (99, true)) (some 100) (.mv (.tmp 7)), .mk (some (99, true)) (some 101) (.bin .lss (.tmp 100) (.const (.int .i64 5))), .mk none (some 102) (.pick (.tmp 99) (.tmp 101) (.const (.bool false)))] (some [1, 2, 3, 7, 102])) (.cond (.tmp 102) .skip (.exit 4))) (.seq (.block 5 (.seq (.region [.mk none (some 105) (.fieldA 8 (.tmp 1)), .mk none (some 106) (.load none (.tmp 105)), .mk none (some 107) (.mv (.tmp 7)), .mk none (some 108) (.idxA 4 (.tmp 106) (.tmp 107)), .mk none (some 109) (.load (some 4) (.tmp 108)), .mk none (some 8) (.alloc 52 [.pd (.raw (.string ⟨#[]⟩)), .pd (.raw (.string ⟨#[]⟩)), .pd (.raw (.string ⟨#[]⟩)), .pd (.raw (.int .i64 0))]), .mk none none (.store 4 (.tmp 8) (.tmp 109))] (some [1, 2, 3, 7, 8])) (.draw [.mk none (some 110) (.fieldA 8 (.tmp 3)), .mk none (some 111) (.load none (.tmp 110)), .mk none (some 112) (.fieldA 0 (.tmp 8)), .mk none (some 113) (.load none (.tmp 112)), .mk none (some 114) (.call 15 [.tmp 113]), .mk none (some 115) (.fieldA 1 (.tmp 8)), .mk none (some 116) (.load none (.tmp 115)), .mk none (some 117) (.call 15 [.tmp 116]), .mk none (some 118) (.fieldA 2 (.tmp 8)), .mk none (some 119) (.load none (.tmp 118)), .mk none (some 120) (.call 15 [.tmp 119]), .mk none (some 121) (.fieldA 3 (.tmp 8)), .mk none (some 122) (.load none (.tmp 121)), .mk none (some 123) (.build [.pd (.raw (.string ⟨#[]⟩)), .pd (.raw (.string ⟨#[]⟩)), .pd (.raw (.string ⟨#[]⟩)), .pd (.raw (.int .i64 0))] [(0, 1, .tmp 114), (1, 1, .tmp 117), (2, 1, .tmp 120), (3, 1, .tmp 122)]), .mk none (some 124) (.bslice 52 4 [.tmp 123]), .mk none (some 125) (.append 52 4 56 (.tmp 111) (.tmp 124)), .mk none (some 126) (.fieldA 8 (.tmp 3)), .mk none none (.store 1 (.tmp 126) (.tmp 125))] [0, 1, 0, 4, 12, 0, 32, 124, 0, 256, 1020, 0, 2048, 8188, 16380, 32767, 65535, 131071] (.take 0 (.take 1 (.take 2 (.take 3 (.take 5 (.take 6 (.take 8 (.take 9 (.take 11 (.take 12 (.alts (.cons 4 false (.alts (.cons 7 false (.alts (.cons 10 false (.take 13 (.alts (.cons 14 false (.alts (.cons 15 true (.take 16 (.alts (.cons 17 true .done .nil))) .nil)) .nil))) .nil)) .nil)) .nil)))))))))))) (some [1, 2, 3, 7])))) (.region [.mk none (some 103) (.mv (.tmp 7)), .mk none (some 104) (.bin .add (.tmp 103) (.const (.int .i64 1))), .mk none (some 7) (.mv (.tmp 104))] (some [1, 2, 3, 7]))))))) (.seq (.seq (.region [.mk none (some 9) (.mv (.const (.int .i64 0)))] (some [1, 2, 3, 9])) (.block 6 (.loop (.seq (.seq (.region [.mk none (some 127) (.mv (.tmp 9)), .mk none (some 128) (.fieldA 9 (.tmp 1)), .mk none (some 129) (.load none (.tmp 128)), .mk none (some 130) (.len (.tmp 129) false), .mk none (some 131) (.bin .lss (.tmp 127) (.tmp 130)), .mk none (some 132) (.mv (.tmp 131)), .mk (some (132, true)) (some 133) (.mv (.tmp 9)), .mk (some (132, true)) (some 134) (.bin .lss (.tmp 133) (.const (.int .i64 5))), .mk none (some 135) (.pick (.tmp 132) (.tmp 134) (.const (.bool false)))] (some [1, 2, 3, 9, 135])) (.cond (.tmp 135) .skip (.exit 6))) (.seq (.block 7 (.draw [.mk none (some 138) (.fieldA 9 (.tmp 3)), .mk none (some 139) (.load none (.tmp 138)), .mk none (some 140) (.fieldA 9 (.tmp 1)), .mk none (some 141) (.load none (.tmp 140)), .mk none (some 142) (.mv (.tmp 9)), .mk none (some 143) (.idxA 1 (.tmp 141) (.tmp 142)), .mk none (some 144) (.load none (.tmp 143)), .mk none (some 145) (.call 15 [.tmp 144]), .mk none (some 146) (.bslice 9 1 [.tmp 145]), .mk none (some 147) (.append 9 1 16 (.tmp 139) (.tmp 146)), .mk none (some 148) (.fieldA 9 (.tmp 3)), .mk none none (.store 1 (.tmp 148) (.tmp 147))] [0, 1, 0, 4, 0, 28, 60, 124, 252, 511, 1023, 2047] (.take 0 (.take 1 (.take 2 (.take 3 (.take 4 (.take 5 (.take 6 (.alts (.cons 7 false (.alts (.cons 8 false (.alts (.cons 9 true (.take 10 (.alts (.cons 11 true .done .nil))) .nil)) .nil)) .nil))))))))) (some [1, 2, 3, 9]))) (.region [.mk none (some 136) (.mv (.tmp 9)), .mk none (some 137) (.bin .add (.tmp 136) (.const (.int .i64 1))), .mk none (some 9) (.mv (.tmp 137))] (some [1, 2, 3, 9]))))))) (.seq (.seq (.region [.mk none (some 10) (.mv (.const (.int .i64 0)))] (some [1, 2, 3, 10])) (.block 8 (.loop (.seq (.seq (.region [.mk none (some 149) (.mv (.tmp 10)), .mk none (some 150) (.fieldA 10 (.tmp 1)), .mk none (some 151) (.load none (.tmp 150)), .mk none (some 152) (.len (.tmp 151) false), .mk none (some 153) (.bin .lss (.tmp 149) (.tmp 152)), .mk none (some 154) (.mv (.tmp 153)), .mk (some (154, true)) (some 155) (.mv (.tmp 10)), .mk (some (154, true)) (some 156) (.bin .lss (.tmp 155) (.const (.int .i64 7))), .mk none (some 157) (.pick (.tmp 154) (.tmp 156) (.const (.bool false)))] (some [1, 2, 3, 10, 157])) (.cond (.tmp 157) .skip (.exit 8))) (.seq (.block 9 (.seq (.region [.mk none (some 160) (.fieldA 10 (.tmp 1)), .mk none (some 161) (.load none (.tmp 160)), .mk none (some 162) (.mv (.tmp 10)), .mk none (some 163) (.idxA 3 (.tmp 161) (.tmp 162)), .mk none (some 164) (.fieldA 1 (.tmp 163)), .mk none (some 165) (.load none (.tmp 164)), .mk none (some 166) (.call 18 [.tmp 165]), .mk none (some 167) (.build [.nils, .nils, .nils] [(1, 1, .tmp 166)]), .mk none (some 11) (.alloc 58 [.nils, .nils, .nils]), .mk none none (.store 3 (.tmp 11) (.tmp 167))] (some [1, 2, 3, 10, 11])) (.seq (.seq (.region [.mk none (some 12) (.mv (.const (.int .i64 0)))] (some [1, 2, 3, 10, 11, 12])) (.block 10 (.loop (.seq (.seq (.region [.mk none (some 168) (.mv (.tmp 12)), .mk none (some 169) (.fieldA 10 (.tmp 1)), .mk none (some 170) (.load none (.tmp 169)), .mk none (some 171) (.mv (.tmp 10)), .mk none (some 172) (.idxA 3 (.tmp 170) (.tmp 171)), .mk none (some 173) (.fieldA 0 (.tmp 172)), .mk none (some 174) (.load none (.tmp 173)), .mk none (some 175) (.len (.tmp 174) false), .mk none (some 176) (.bin .lss (.tmp 168) (.tmp 175)), .mk none (some 177) (.mv (.tmp 176)), .mk (some (177, true)) (some 178) (.mv (.tmp 12)), .mk (some (177, true)) (some 179) (.bin .lss (.tmp 178) (.const (.int .i64 5))), .mk none (some 180) (.pick (.tmp 177) (.tmp 179) (.const (.bool false)))] (some [1, 2, 3, 10, 11, 12, 180])) (.cond (.tmp 180) .skip (.exit 10))) (.seq (.block 11 (.draw [.mk none (some 183) (.fieldA 0 (.tmp 11)), .mk none (some 184) (.load none (.tmp 183)), .mk none (some 185) (.fieldA 10 (.tmp 1)), .mk none (some 186) (.load none (.tmp 185)), .mk none (some 187) (.mv (.tmp 10)), .mk none (some 188) (.idxA 3 (.tmp 186) (.tmp 187)), .mk none (some 189) (.fieldA 0 (.tmp 188)), .mk none (some 190) (.load none (.tmp 189)), .mk none (some 191) (.mv (.tmp 12)), .mk none (some 192) (.idxA 5 (.tmp 190) (.tmp 191)), .mk none (some 193) (.load (some 5) (.tmp 192)), .mk none (some 194) (.call 19 [.tmp 193]), .mk none (some 195) (.bslice 62 5 [.tmp 194]), .mk none (some 196) (.append 62 5 88 (.tmp 184) (.tmp 195)), .mk none (some 197) (.fieldA 0 (.tmp 11)), .mk none none (.store 1 (.tmp 197) (.tmp 196))] [0, 1, 0, 4, 0, 28, 60, 124, 0, 508, 1020, 2044, 4092, 8191, 16383, 32767] (.take 0 (.take 1 (.take 2 (.take 3 (.take 4 (.take 5 (.take 6 (.take 7 (.take 8 (.take 9 (.take 10 (.alts (.cons 11 false (.alts (.cons 12 false (.alts (.cons 13 true (.take 14 (.alts (.cons 15 true .done .nil))) .nil)) .nil)) .nil))))))))))))) (some [1, 2, 3, 10, 11, 12]))) (.region [.mk none (some 181) (.mv (.tmp 12)), .mk none (some 182) (.bin .add (.tmp 181) (.const (.int .i64 1))), .mk none (some 12) (.mv (.tmp 182))] (some [1, 2, 3, 10, 11, 12]))))))) (.seq (.seq (.region [.mk none (some 13) (.mv (.const (.int .i64 0)))] (some [1, 2, 3, 10, 11, 13])) (.block 12 (.loop (.seq (.seq (.region [.mk none (some 198) (.mv (.tmp 13)), .mk none (some 199) (.fieldA 10 (.tmp 1)), .mk none (some 200) (.load none (.tmp 199)), .mk none (some 201) (.mv (.tmp 10)), .mk none (some 202) (.idxA 3 (.tmp 200) (.tmp 201)), .mk none (some 203) (.fieldA 2 (.tmp 202)), .mk none (some 204) (.load none (.tmp 203)), .mk none (some 205) (.len (.tmp 204) false), .mk none (some 206) (.bin .lss (.tmp 198) (.tmp 205)), .mk none (some 207) (.mv (.tmp 206)), .mk (some (207, true)) (some 208) (.mv (.tmp 13)), .mk (some (207, true)) (some 209) (.bin .lss (.tmp 208) (.const (.int .i64 5))), .mk none (some 210) (.pick (.tmp 207) (.tmp 209) (.const (.bool false)))] (some [1, 2, 3, 10, 11, 13, 210])) (.cond (.tmp 210) .skip (.exit 12))) (.seq (.block 13 (.seq (.region [.mk none (some 213) (.fieldA 10 (.tmp 1)), .mk none (some 214) (.load none (.tmp 213)), .mk none (some 215) (.mv (.tmp 10)), .mk none (some 216) (.idxA 3 (.tmp 214) (.tmp 215)), .mk none (some 217) (.fieldA 2 (.tmp 216)), .mk none (some 218) (.load none (.tmp 217)), .mk none (some 219) (.mv (.tmp 13)), .mk none (some 220) (.idxA 5 (.tmp 218) (.tmp 219)), .mk none (some 221) (.load (some 5) (.tmp 220)), .mk none (some 14) (.alloc 65 [.pd (.raw (.int .i64 0)), .pd (.raw (.string ⟨#[]⟩)), .pd (.raw (.string ⟨#[]⟩)), .pd (.raw (.int .i64 0)), .pd (.raw (.int .i64 0))]), .mk none none (.store 5 (.tmp 14) (.tmp 221))] (some [1, 2, 3, 10, 11, 13, 14])) (.draw [.mk none (some 222) (.fieldA 2 (.tmp 11)), .mk none (some 223) (.load none (.tmp 222)), .mk none (some 224) (.fieldA 0 (.tmp 14)), .mk none (some 225) (.load (some 3) (.tmp 224)), .mk none (some 226) (.call 13 [.tmp 225]), .mk none (some 227) (.fieldA 3 (.tmp 14)), .mk none (some 228) (.load none (.tmp 227)), .mk none (some 229) (.fieldA 4 (.tmp 14)), .mk none (some 230) (.load none (.tmp 229)), .mk none (some 231) (.build [.pd (.raw (.int .i64 0)), .pd (.raw (.string ⟨#[]⟩)), .pd (.raw (.string ⟨#[]⟩)), .pd (.raw (.int .i64 0)), .pd (.raw (.int .i64 0))] [(0, 3, .tmp 226), (3, 1, .tmp 228), (4, 1, .tmp 230)]), .mk none (some 232) (.bslice 65 5 [.tmp 231]), .mk none (some 233) (.append 65 5 56 (.tmp 223) (.tmp 232)), .mk none (some 234) (.fieldA 2 (.tmp 11)), .mk none none (.store 1 (.tmp 234) (.tmp 233))] [0, 1, 0, 4, 12, 0, 32, 0, 128, 508, 1020, 2047, 4095, 8191] (.take 0 (.take 1 (.take 2 (.take 3 (.take 5 (.take 6 (.take 7 (.take 8 (.alts (.cons 4 false (.take 9 (.alts (.cons 10 false (.alts (.cons 11 true (.take 12 (.alts (.cons 13 true .done .nil))) .nil)) .nil))) .nil)))))))))) (some [1, 2, 3, 10, 11, 13])))) (.region [.mk none (some 211) (.mv (.tmp 13)), .mk none (some 212) (.bin .add (.tmp 211) (.const (.int .i64 1))), .mk none (some 13) (.mv (.tmp 212))] (some [1, 2, 3, 10, 11, 13]))))))) (.region [.mk none (some 235) (.fieldA 10 (.tmp 3)), .mk none (some 236) (.load none (.tmp 235)), .mk none (some 237) (.load (some 3) (.tmp 11)), .mk none (some 238) (.bslice 58 3 [.tmp 237]), .mk none (some 239) (.append 58 3 72 (.tmp 236) (.tmp 238)), .mk none (some 240) (.fieldA 10 (.tmp 3)), .mk none none (.store 1 (.tmp 240) (.tmp 239))] (some [1, 2, 3, 10])))))) (.region [.mk none (some 158) (.mv (.tmp 10)), .mk none (some 159) (.bin .add (.tmp 158) (.const (.int .i64 1))), .mk none (some 10) (.mv (.tmp 159))] (some [1, 2, 3, 10]))))))) (.seq (.region [.mk none (some 241) (.load (some 13) (.tmp 3)), .mk none none (.store 13 (.tmp 2) (.tmp 241))] (some [2])) .ret))))))))
theorem ok_z8s55 : compC Tryz.prog an_z8s55 (Tryz.f6.body.getD .skip) = some ac_z8s55 := by kernel_rfl
theorem ret_z8s55 (st : St) : resD Tryz.prog st Tryz.f6.results.toList = resA st [.cell 2 (some 13)] := resD_of (by kernel_rfl)
theorem dst_z8s55 : ac_z8s55.dstOK Tryz.f6.ntmps (fun i => decide (i < Tryz.f6.ntmps)) = true := by kernel_rfl

def an_zh218 : Ann := ⟨[(0, [0]), (1, [0, 3]), (2, [0, 3, 4]), (3, [0, 3, 4, 12]), (4, [0, 3, 4]), (5, [0, 3, 4]), (6, [2])], [], []⟩
def ac_zh218 : AC := (.seq (.region [.mk none (some 2) (.mv (.const (.slice none 0 0)))] (some [0])) (.seq (.region [.mk none (some 3) (.mv (.const (.slice none 0 0)))] (some [0, 3])) (.seq (.seq (.region [.mk none (some 4) (.mv (.const (.int .i64 0)))] (some [0, 3, 4])) (.block 0 (.loop (.seq (.seq (.region [.mk none (some 5) (.mv (.tmp 4)), .mk none (some 6) (.mv (.tmp 0)), .mk none (some 7) (.len (.tmp 6) false), .mk none (some 8) (.bin .lss (.tmp 5) (.tmp 7)), .mk none (some 9) (.mv (.tmp 8)), .mk (some (9, true)) (some 10) (.mv (.tmp 4)), .mk (some (9, true)) (some 11) (.bin .lss (.tmp 10) (.const (.int .i64 24))), .mk none (some 12) (.pick (.tmp 9) (.tmp 11) (.const (.bool false)))] (some [0, 3, 4, 12])) (.cond (.tmp 12) .skip (.exit 0))) (.seq (.block 1 (.region [.mk none (some 15) (.mv (.tmp 3)), .mk none (some 16) (.mv (.tmp 0)), .mk none (some 17) (.mv (.tmp 4)), .mk none (some 18) (.idxA 13 (.tmp 16) (.tmp 17)), .mk none (some 19) (.load (some 13) (.tmp 18)), .mk none (some 20) (.call 6 [.tmp 19]), .mk none (some 21) (.bslice 33 13 [.tmp 20]), .mk none (some 22) (.append 33 13 256 (.tmp 15) (.tmp 21)), .mk none (some 3) (.mv (.tmp 22))] (some [0, 3, 4]))) (.region [.mk none (some 13) (.mv (.tmp 4)), .mk none (some 14) (.bin .add (.tmp 13) (.const (.int .i64 1))), .mk none (some 4) (.mv (.tmp 14))] (some [0, 3, 4]))))))) (.seq (.region [.mk none (some 23) (.mv (.tmp 3)), .mk none (some 2) (.mv (.tmp 23))] (some [2])) .ret))))
theorem ok_zh218 : compC Tryz.prog an_zh218 (Tryz.f5.body.getD .skip) = some ac_zh218 := by kernel_rfl
theorem dst_zh218 : ac_zh218.dstOK Tryz.f5.ntmps (fun i => decide (i < Tryz.f5.ntmps)) = true := by kernel_rfl

end Go.Proofs.YtmdepehjfnpklaaGreatDoor
