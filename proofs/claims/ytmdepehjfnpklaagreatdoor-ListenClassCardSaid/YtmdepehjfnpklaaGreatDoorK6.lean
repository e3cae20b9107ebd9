/- Texts of the prover's, joined: G5 D5 F6 F7 F8. -/
import Derived.Test.YtmdepehjfnpklaaGreatDoorK5
import Derived.Test.YtmdepehjfnpklaaGreatDoorProg
import Derived.KernelRfl

namespace Go.Proofs.YtmdepehjfnpklaaGreatDoor
open Go Go.RowKit
set_option linter.unusedSimpArgs false
set_option linter.unusedVariables false
set_option maxRecDepth 100000

theorem Equal_Pair (l m : List APair) (hl : l.length ≤ 1000000) (hm : m.length ≤ 1000000) :
    Pure Tryz.prog 73 [.pd (.slice (rows APair.pd l)), .pd (.slice (rows APair.pd m))] (fun d => d = bln (decide (l = m))) := by
  refine pure_of_run follows an_zfsc3 Tryz.func73 rfl ok_zfsc3 dst_zfsc3 (by simp [Tryz.ntmps73]) ?_
  rw [run_start]
  simp only [ac_zfsc3, go_sem, contS_seq, simprocAttr, go_sem, rows_len]
  refine GifP.mk (fun hn => ?_) (fun hn => ?_)
  rotate_left
  · simp only [retK, fullK, iterK, resD, resA, AOp.ex, St.ev, Option.map_some, Option.bind_some, St.get, lk, reduceIte, Nat.reduceEqDiff, Option.getD_some, oneD, List.getElem?_cons_zero, List.getElem?_cons_succ, List.drop_zero, List.drop_succ_cons, List.take_succ_cons, List.take_zero, List.length_cons, List.length_nil, Nat.zero_add, Nat.reduceAdd, Nat.le_refl, Nat.reduceLeDiff, D.pub, D.pubs, Tryz.results73]
    exact ⟨_, rfl, rfl, congrArg bln (decide_eq_false (fun h => hn (by rw [h]))).symm⟩
  have hlm : l.length = m.length := by omega
  refine loopS (fun k st => ∃ i : Nat, k = l.length - i ∧ i ≤ l.length ∧ decide (l.drop i = m.drop i) = decide (l = m) ∧
    st = ⟨[(0, .pd (.slice (rows APair.pd l))), (1, .pd (.slice (rows APair.pd m))), (12, int l.length), (13, int i)], [], [], .no⟩) l.length _ (Weak.refl _ _) ⟨0, rfl, Nat.zero_le _, rfl, rfl⟩ ?_
  rintro k st ⟨i, rfl, hi, hr, rfl⟩
  by_cases hlt : i < l.length
  · obtain ⟨x, hx⟩ := at_lt hlt
    obtain ⟨y, hy⟩ := at_lt (show i < m.length by omega)
    have hlt' : ((i : Int) < (l.length : Int)) = True := eq_true (by omega)
    have hw := i64_succ (show i < 1000000000 by omega)
    rw [drop_at hx, drop_at hy] at hr
    simp only [go_sem, contS_seq, simprocAttr, go_sem, hlt', rows_get hx, rows_get hy, eqVs, eqV, eq_Pair, hw]
    refine GifP.mk (fun h => ?_) (fun h => ?_)
    · subst h
      simp only [List.cons.injEq, true_and] at hr
      refine ⟨l.length - (i + 1), _, ?_, ?_, i + 1, rfl, ?_, hr, rfl⟩
      · omega
      · exact Weak.less (by simp [lessL, lk]) (by simp [lessL, lk]) (by simp [lessL, lk]) rfl
      · omega
    · simp only [retK, fullK, iterK, resD, resA, AOp.ex, St.ev, Option.map_some, Option.bind_some, St.get, lk, reduceIte, Nat.reduceEqDiff, Option.getD_some, oneD, List.getElem?_cons_zero, List.getElem?_cons_succ, List.drop_zero, List.drop_succ_cons, List.take_succ_cons, List.take_zero, List.length_cons, List.length_nil, Nat.zero_add, Nat.reduceAdd, Nat.le_refl, Nat.reduceLeDiff, D.pub, D.pubs, Tryz.results73]
      rw [decide_eq_false (fun e => h (List.cons.inj e).1)] at hr
      exact ⟨_, rfl, rfl, congrArg bln hr⟩
  · have hlt' : ((i : Int) < (l.length : Int)) = False := eq_false (by omega)
    rw [List.drop_eq_nil_of_le (by omega), List.drop_eq_nil_of_le (by omega)] at hr
    simp only [go_sem, contS_seq, simprocAttr, go_sem, rows_len, hlt']
    simp only [retK, fullK, iterK, resD, resA, AOp.ex, St.ev, Option.map_some, Option.bind_some, St.get, lk, reduceIte, Nat.reduceEqDiff, Option.getD_some, oneD, List.getElem?_cons_zero, List.getElem?_cons_succ, List.drop_zero, List.drop_succ_cons, List.take_succ_cons, List.take_zero, List.length_cons, List.length_nil, Nat.zero_add, Nat.reduceAdd, Nat.le_refl, Nat.reduceLeDiff, D.pub, D.pubs, Tryz.results73]
    exact ⟨_, rfl, rfl, congrArg bln (by simpa using hr)⟩

theorem Equal_int (l m : List Int) (hl : l.length ≤ 1000000) (hm : m.length ≤ 1000000) :
    Pure Tryz.prog 74 [.pd (.slice (rows cInt l)), .pd (.slice (rows cInt m))] (fun d => d = bln (decide (l = m))) := by
  refine pure_of_run follows an_zu266 Tryz.func74 rfl ok_zu266 dst_zu266 (by simp [Tryz.ntmps74]) ?_
  rw [run_start]
  simp only [ac_zu266, go_sem, contS_seq, simprocAttr, go_sem, rows_len]
  refine GifP.mk (fun hn => ?_) (fun hn => ?_)
  rotate_left
  · simp only [retK, fullK, iterK, resD, resA, AOp.ex, St.ev, Option.map_some, Option.bind_some, St.get, lk, reduceIte, Nat.reduceEqDiff, Option.getD_some, oneD, List.getElem?_cons_zero, List.getElem?_cons_succ, List.drop_zero, List.drop_succ_cons, List.take_succ_cons, List.take_zero, List.length_cons, List.length_nil, Nat.zero_add, Nat.reduceAdd, Nat.le_refl, Nat.reduceLeDiff, D.pub, D.pubs, Tryz.results74]
    exact ⟨_, rfl, rfl, congrArg bln (decide_eq_false (fun h => hn (by rw [h]))).symm⟩
  have hlm : l.length = m.length := by omega
  refine loopS (fun k st => ∃ i : Nat, k = l.length - i ∧ i ≤ l.length ∧ decide (l.drop i = m.drop i) = decide (l = m) ∧
    st = ⟨[(0, .pd (.slice (rows cInt l))), (1, .pd (.slice (rows cInt m))), (12, int l.length), (13, int i)], [], [], .no⟩) l.length _ (Weak.refl _ _) ⟨0, rfl, Nat.zero_le _, rfl, rfl⟩ ?_
  rintro k st ⟨i, rfl, hi, hr, rfl⟩
  by_cases hlt : i < l.length
  · obtain ⟨x, hx⟩ := at_lt hlt
    obtain ⟨y, hy⟩ := at_lt (show i < m.length by omega)
    have hlt' : ((i : Int) < (l.length : Int)) = True := eq_true (by omega)
    have hw := i64_succ (show i < 1000000000 by omega)
    rw [drop_at hx, drop_at hy] at hr
    simp only [go_sem, contS_seq, simprocAttr, go_sem, hlt', rows_get hx, rows_get hy, eqVs, eqV, eq_int, hw]
    refine GifP.mk (fun h => ?_) (fun h => ?_)
    · subst h
      simp only [List.cons.injEq, true_and] at hr
      refine ⟨l.length - (i + 1), _, ?_, ?_, i + 1, rfl, ?_, hr, rfl⟩
      · omega
      · exact Weak.less (by simp [lessL, lk]) (by simp [lessL, lk]) (by simp [lessL, lk]) rfl
      · omega
    · simp only [retK, fullK, iterK, resD, resA, AOp.ex, St.ev, Option.map_some, Option.bind_some, St.get, lk, reduceIte, Nat.reduceEqDiff, Option.getD_some, oneD, List.getElem?_cons_zero, List.getElem?_cons_succ, List.drop_zero, List.drop_succ_cons, List.take_succ_cons, List.take_zero, List.length_cons, List.length_nil, Nat.zero_add, Nat.reduceAdd, Nat.le_refl, Nat.reduceLeDiff, D.pub, D.pubs, Tryz.results74]
      rw [decide_eq_false (fun e => h (List.cons.inj e).1)] at hr
      exact ⟨_, rfl, rfl, congrArg bln hr⟩
  · have hlt' : ((i : Int) < (l.length : Int)) = False := eq_false (by omega)
    rw [List.drop_eq_nil_of_le (by omega), List.drop_eq_nil_of_le (by omega)] at hr
    simp only [go_sem, contS_seq, simprocAttr, go_sem, rows_len, hlt']
    simp only [retK, fullK, iterK, resD, resA, AOp.ex, St.ev, Option.map_some, Option.bind_some, St.get, lk, reduceIte, Nat.reduceEqDiff, Option.getD_some, oneD, List.getElem?_cons_zero, List.getElem?_cons_succ, List.drop_zero, List.drop_succ_cons, List.take_succ_cons, List.take_zero, List.length_cons, List.length_nil, Nat.zero_add, Nat.reduceAdd, Nat.le_refl, Nat.reduceLeDiff, D.pub, D.pubs, Tryz.results74]
    exact ⟨_, rfl, rfl, congrArg bln (by simpa using hr)⟩

theorem Equal_string (l m : List ByteArray) (hl : l.length ≤ 1000000) (hm : m.length ≤ 1000000) :
    Pure Tryz.prog 75 [.pd (.slice (rows cStr l)), .pd (.slice (rows cStr m))] (fun d => d = bln (decide (l = m))) := by
  refine pure_of_run follows an_zdvt9 Tryz.func75 rfl ok_zdvt9 dst_zdvt9 (by simp [Tryz.ntmps75]) ?_
  rw [run_start]
  simp only [ac_zdvt9, go_sem, contS_seq, simprocAttr, go_sem, rows_len]
  refine GifP.mk (fun hn => ?_) (fun hn => ?_)
  rotate_left
  · simp only [retK, fullK, iterK, resD, resA, AOp.ex, St.ev, Option.map_some, Option.bind_some, St.get, lk, reduceIte, Nat.reduceEqDiff, Option.getD_some, oneD, List.getElem?_cons_zero, List.getElem?_cons_succ, List.drop_zero, List.drop_succ_cons, List.take_succ_cons, List.take_zero, List.length_cons, List.length_nil, Nat.zero_add, Nat.reduceAdd, Nat.le_refl, Nat.reduceLeDiff, D.pub, D.pubs, Tryz.results75]
    exact ⟨_, rfl, rfl, congrArg bln (decide_eq_false (fun h => hn (by rw [h]))).symm⟩
  have hlm : l.length = m.length := by omega
  refine loopS (fun k st => ∃ i : Nat, k = l.length - i ∧ i ≤ l.length ∧ decide (l.drop i = m.drop i) = decide (l = m) ∧
    st = ⟨[(0, .pd (.slice (rows cStr l))), (1, .pd (.slice (rows cStr m))), (12, int l.length), (13, int i)], [], [], .no⟩) l.length _ (Weak.refl _ _) ⟨0, rfl, Nat.zero_le _, rfl, rfl⟩ ?_
  rintro k st ⟨i, rfl, hi, hr, rfl⟩
  by_cases hlt : i < l.length
  · obtain ⟨x, hx⟩ := at_lt hlt
    obtain ⟨y, hy⟩ := at_lt (show i < m.length by omega)
    have hlt' : ((i : Int) < (l.length : Int)) = True := eq_true (by omega)
    have hw := i64_succ (show i < 1000000000 by omega)
    rw [drop_at hx, drop_at hy] at hr
    simp only [go_sem, contS_seq, simprocAttr, go_sem, hlt', rows_get hx, rows_get hy, eqVs, eqV, eq_string, hw]
    refine GifP.mk (fun h => ?_) (fun h => ?_)
    · subst h
      simp only [List.cons.injEq, true_and] at hr
      refine ⟨l.length - (i + 1), _, ?_, ?_, i + 1, rfl, ?_, hr, rfl⟩
      · omega
      · exact Weak.less (by simp [lessL, lk]) (by simp [lessL, lk]) (by simp [lessL, lk]) rfl
      · omega
    · simp only [retK, fullK, iterK, resD, resA, AOp.ex, St.ev, Option.map_some, Option.bind_some, St.get, lk, reduceIte, Nat.reduceEqDiff, Option.getD_some, oneD, List.getElem?_cons_zero, List.getElem?_cons_succ, List.drop_zero, List.drop_succ_cons, List.take_succ_cons, List.take_zero, List.length_cons, List.length_nil, Nat.zero_add, Nat.reduceAdd, Nat.le_refl, Nat.reduceLeDiff, D.pub, D.pubs, Tryz.results75]
      rw [decide_eq_false (fun e => h (List.cons.inj e).1)] at hr
      exact ⟨_, rfl, rfl, congrArg bln hr⟩
  · have hlt' : ((i : Int) < (l.length : Int)) = False := eq_false (by omega)
    rw [List.drop_eq_nil_of_le (by omega), List.drop_eq_nil_of_le (by omega)] at hr
    simp only [go_sem, contS_seq, simprocAttr, go_sem, rows_len, hlt']
    simp only [retK, fullK, iterK, resD, resA, AOp.ex, St.ev, Option.map_some, Option.bind_some, St.get, lk, reduceIte, Nat.reduceEqDiff, Option.getD_some, oneD, List.getElem?_cons_zero, List.getElem?_cons_succ, List.drop_zero, List.drop_succ_cons, List.take_succ_cons, List.take_zero, List.length_cons, List.length_nil, Nat.zero_add, Nat.reduceAdd, Nat.le_refl, Nat.reduceLeDiff, D.pub, D.pubs, Tryz.results75]
    exact ⟨_, rfl, rfl, congrArg bln (by simpa using hr)⟩

theorem Equal_Parent (l m : List AParent) (hl : l.length ≤ 1000000) (hm : m.length ≤ 1000000) :
    Pure Tryz.prog 76 [.pd (.slice (rows AParent.pd l)), .pd (.slice (rows AParent.pd m))] (fun d => d = bln (decide (l = m))) := by
  refine pure_of_run follows an_zj0mp Tryz.func76 rfl ok_zj0mp dst_zj0mp (by simp [Tryz.ntmps76]) ?_
  rw [run_start]
  simp only [ac_zj0mp, go_sem, contS_seq, simprocAttr, go_sem, rows_len]
  refine GifP.mk (fun hn => ?_) (fun hn => ?_)
  rotate_left
  · simp only [retK, fullK, iterK, resD, resA, AOp.ex, St.ev, Option.map_some, Option.bind_some, St.get, lk, reduceIte, Nat.reduceEqDiff, Option.getD_some, oneD, List.getElem?_cons_zero, List.getElem?_cons_succ, List.drop_zero, List.drop_succ_cons, List.take_succ_cons, List.take_zero, List.length_cons, List.length_nil, Nat.zero_add, Nat.reduceAdd, Nat.le_refl, Nat.reduceLeDiff, D.pub, D.pubs, Tryz.results76]
    exact ⟨_, rfl, rfl, congrArg bln (decide_eq_false (fun h => hn (by rw [h]))).symm⟩
  have hlm : l.length = m.length := by omega
  refine loopS (fun k st => ∃ i : Nat, k = l.length - i ∧ i ≤ l.length ∧ decide (l.drop i = m.drop i) = decide (l = m) ∧
    st = ⟨[(0, .pd (.slice (rows AParent.pd l))), (1, .pd (.slice (rows AParent.pd m))), (12, int l.length), (13, int i)], [], [], .no⟩) l.length _ (Weak.refl _ _) ⟨0, rfl, Nat.zero_le _, rfl, rfl⟩ ?_
  rintro k st ⟨i, rfl, hi, hr, rfl⟩
  by_cases hlt : i < l.length
  · obtain ⟨x, hx⟩ := at_lt hlt
    obtain ⟨y, hy⟩ := at_lt (show i < m.length by omega)
    have hlt' : ((i : Int) < (l.length : Int)) = True := eq_true (by omega)
    have hw := i64_succ (show i < 1000000000 by omega)
    rw [drop_at hx, drop_at hy] at hr
    simp only [go_sem, contS_seq, simprocAttr, go_sem, hlt', rows_get hx, rows_get hy, eqVs, eqV, eq_Parent, hw]
    refine GifP.mk (fun h => ?_) (fun h => ?_)
    · subst h
      simp only [List.cons.injEq, true_and] at hr
      refine ⟨l.length - (i + 1), _, ?_, ?_, i + 1, rfl, ?_, hr, rfl⟩
      · omega
      · exact Weak.less (by simp [lessL, lk]) (by simp [lessL, lk]) (by simp [lessL, lk]) rfl
      · omega
    · simp only [retK, fullK, iterK, resD, resA, AOp.ex, St.ev, Option.map_some, Option.bind_some, St.get, lk, reduceIte, Nat.reduceEqDiff, Option.getD_some, oneD, List.getElem?_cons_zero, List.getElem?_cons_succ, List.drop_zero, List.drop_succ_cons, List.take_succ_cons, List.take_zero, List.length_cons, List.length_nil, Nat.zero_add, Nat.reduceAdd, Nat.le_refl, Nat.reduceLeDiff, D.pub, D.pubs, Tryz.results76]
      rw [decide_eq_false (fun e => h (List.cons.inj e).1)] at hr
      exact ⟨_, rfl, rfl, congrArg bln hr⟩
  · have hlt' : ((i : Int) < (l.length : Int)) = False := eq_false (by omega)
    rw [List.drop_eq_nil_of_le (by omega), List.drop_eq_nil_of_le (by omega)] at hr
    simp only [go_sem, contS_seq, simprocAttr, go_sem, rows_len, hlt']
    simp only [retK, fullK, iterK, resD, resA, AOp.ex, St.ev, Option.map_some, Option.bind_some, St.get, lk, reduceIte, Nat.reduceEqDiff, Option.getD_some, oneD, List.getElem?_cons_zero, List.getElem?_cons_succ, List.drop_zero, List.drop_succ_cons, List.take_succ_cons, List.take_zero, List.length_cons, List.length_nil, Nat.zero_add, Nat.reduceAdd, Nat.le_refl, Nat.reduceLeDiff, D.pub, D.pubs, Tryz.results76]
    exact ⟨_, rfl, rfl, congrArg bln (by simpa using hr)⟩

theorem Equal_Side (l m : List ASide) (hl : l.length ≤ 1000000) (hm : m.length ≤ 1000000) :
    Pure Tryz.prog 77 [.pd (.slice (rows ASide.pd l)), .pd (.slice (rows ASide.pd m))] (fun d => d = bln (decide (l = m))) := by
  refine pure_of_run follows an_zlr2h Tryz.func77 rfl ok_zlr2h dst_zlr2h (by simp [Tryz.ntmps77]) ?_
  rw [run_start]
  simp only [ac_zlr2h, go_sem, contS_seq, simprocAttr, go_sem, rows_len]
  refine GifP.mk (fun hn => ?_) (fun hn => ?_)
  rotate_left
  · simp only [retK, fullK, iterK, resD, resA, AOp.ex, St.ev, Option.map_some, Option.bind_some, St.get, lk, reduceIte, Nat.reduceEqDiff, Option.getD_some, oneD, List.getElem?_cons_zero, List.getElem?_cons_succ, List.drop_zero, List.drop_succ_cons, List.take_succ_cons, List.take_zero, List.length_cons, List.length_nil, Nat.zero_add, Nat.reduceAdd, Nat.le_refl, Nat.reduceLeDiff, D.pub, D.pubs, Tryz.results77]
    exact ⟨_, rfl, rfl, congrArg bln (decide_eq_false (fun h => hn (by rw [h]))).symm⟩
  have hlm : l.length = m.length := by omega
  refine loopS (fun k st => ∃ i : Nat, k = l.length - i ∧ i ≤ l.length ∧ decide (l.drop i = m.drop i) = decide (l = m) ∧
    st = ⟨[(0, .pd (.slice (rows ASide.pd l))), (1, .pd (.slice (rows ASide.pd m))), (12, int l.length), (13, int i)], [], [], .no⟩) l.length _ (Weak.refl _ _) ⟨0, rfl, Nat.zero_le _, rfl, rfl⟩ ?_
  rintro k st ⟨i, rfl, hi, hr, rfl⟩
  by_cases hlt : i < l.length
  · obtain ⟨x, hx⟩ := at_lt hlt
    obtain ⟨y, hy⟩ := at_lt (show i < m.length by omega)
    have hlt' : ((i : Int) < (l.length : Int)) = True := eq_true (by omega)
    have hw := i64_succ (show i < 1000000000 by omega)
    rw [drop_at hx, drop_at hy] at hr
    simp only [go_sem, contS_seq, simprocAttr, go_sem, hlt', rows_get hx, rows_get hy, eqVs, eqV, eq_Side, hw]
    refine GifP.mk (fun h => ?_) (fun h => ?_)
    · subst h
      simp only [List.cons.injEq, true_and] at hr
      refine ⟨l.length - (i + 1), _, ?_, ?_, i + 1, rfl, ?_, hr, rfl⟩
      · omega
      · exact Weak.less (by simp [lessL, lk]) (by simp [lessL, lk]) (by simp [lessL, lk]) rfl
      · omega
    · simp only [retK, fullK, iterK, resD, resA, AOp.ex, St.ev, Option.map_some, Option.bind_some, St.get, lk, reduceIte, Nat.reduceEqDiff, Option.getD_some, oneD, List.getElem?_cons_zero, List.getElem?_cons_succ, List.drop_zero, List.drop_succ_cons, List.take_succ_cons, List.take_zero, List.length_cons, List.length_nil, Nat.zero_add, Nat.reduceAdd, Nat.le_refl, Nat.reduceLeDiff, D.pub, D.pubs, Tryz.results77]
      rw [decide_eq_false (fun e => h (List.cons.inj e).1)] at hr
      exact ⟨_, rfl, rfl, congrArg bln hr⟩
  · have hlt' : ((i : Int) < (l.length : Int)) = False := eq_false (by omega)
    rw [List.drop_eq_nil_of_le (by omega), List.drop_eq_nil_of_le (by omega)] at hr
    simp only [go_sem, contS_seq, simprocAttr, go_sem, rows_len, hlt']
    simp only [retK, fullK, iterK, resD, resA, AOp.ex, St.ev, Option.map_some, Option.bind_some, St.get, lk, reduceIte, Nat.reduceEqDiff, Option.getD_some, oneD, List.getElem?_cons_zero, List.getElem?_cons_succ, List.drop_zero, List.drop_succ_cons, List.take_succ_cons, List.take_zero, List.length_cons, List.length_nil, Nat.zero_add, Nat.reduceAdd, Nat.le_refl, Nat.reduceLeDiff, D.pub, D.pubs, Tryz.results77]
    exact ⟨_, rfl, rfl, congrArg bln (by simpa using hr)⟩

theorem Equal_Filter (l m : List AFilter) (hl : l.length ≤ 1000000) (hm : m.length ≤ 1000000) :
    Pure Tryz.prog 115 [.pd (.slice (rows AFilter.pd l)), .pd (.slice (rows AFilter.pd m))] (fun d => d = bln (decide (l = m))) := by
  refine pure_of_run follows an_z7uuy Tryz.func115 rfl ok_z7uuy dst_z7uuy (by simp [Tryz.ntmps115]) ?_
  rw [run_start]
  simp only [ac_z7uuy, go_sem, contS_seq, simprocAttr, go_sem, rows_len]
  refine GifP.mk (fun hn => ?_) (fun hn => ?_)
  rotate_left
  · simp only [retK, fullK, iterK, resD, resA, AOp.ex, St.ev, Option.map_some, Option.bind_some, St.get, lk, reduceIte, Nat.reduceEqDiff, Option.getD_some, oneD, List.getElem?_cons_zero, List.getElem?_cons_succ, List.drop_zero, List.drop_succ_cons, List.take_succ_cons, List.take_zero, List.length_cons, List.length_nil, Nat.zero_add, Nat.reduceAdd, Nat.le_refl, Nat.reduceLeDiff, D.pub, D.pubs, Tryz.results115]
    exact ⟨_, rfl, rfl, congrArg bln (decide_eq_false (fun h => hn (by rw [h]))).symm⟩
  have hlm : l.length = m.length := by omega
  refine loopS (fun k st => ∃ i : Nat, k = l.length - i ∧ i ≤ l.length ∧ decide (l.drop i = m.drop i) = decide (l = m) ∧
    st = ⟨[(0, .pd (.slice (rows AFilter.pd l))), (1, .pd (.slice (rows AFilter.pd m))), (12, int l.length), (13, int i)], [], [], .no⟩) l.length _ (Weak.refl _ _) ⟨0, rfl, Nat.zero_le _, rfl, rfl⟩ ?_
  rintro k st ⟨i, rfl, hi, hr, rfl⟩
  by_cases hlt : i < l.length
  · obtain ⟨x, hx⟩ := at_lt hlt
    obtain ⟨y, hy⟩ := at_lt (show i < m.length by omega)
    have hlt' : ((i : Int) < (l.length : Int)) = True := eq_true (by omega)
    have hw := i64_succ (show i < 1000000000 by omega)
    rw [drop_at hx, drop_at hy] at hr
    simp only [go_sem, contS_seq, simprocAttr, go_sem, hlt', rows_get hx, rows_get hy, eqVs, eqV, eq_Filter, hw]
    refine GifP.mk (fun h => ?_) (fun h => ?_)
    · subst h
      simp only [List.cons.injEq, true_and] at hr
      refine ⟨l.length - (i + 1), _, ?_, ?_, i + 1, rfl, ?_, hr, rfl⟩
      · omega
      · exact Weak.less (by simp [lessL, lk]) (by simp [lessL, lk]) (by simp [lessL, lk]) rfl
      · omega
    · simp only [retK, fullK, iterK, resD, resA, AOp.ex, St.ev, Option.map_some, Option.bind_some, St.get, lk, reduceIte, Nat.reduceEqDiff, Option.getD_some, oneD, List.getElem?_cons_zero, List.getElem?_cons_succ, List.drop_zero, List.drop_succ_cons, List.take_succ_cons, List.take_zero, List.length_cons, List.length_nil, Nat.zero_add, Nat.reduceAdd, Nat.le_refl, Nat.reduceLeDiff, D.pub, D.pubs, Tryz.results115]
      rw [decide_eq_false (fun e => h (List.cons.inj e).1)] at hr
      exact ⟨_, rfl, rfl, congrArg bln hr⟩
  · have hlt' : ((i : Int) < (l.length : Int)) = False := eq_false (by omega)
    rw [List.drop_eq_nil_of_le (by omega), List.drop_eq_nil_of_le (by omega)] at hr
    simp only [go_sem, contS_seq, simprocAttr, go_sem, rows_len, hlt']
    simp only [retK, fullK, iterK, resD, resA, AOp.ex, St.ev, Option.map_some, Option.bind_some, St.get, lk, reduceIte, Nat.reduceEqDiff, Option.getD_some, oneD, List.getElem?_cons_zero, List.getElem?_cons_succ, List.drop_zero, List.drop_succ_cons, List.take_succ_cons, List.take_zero, List.length_cons, List.length_nil, Nat.zero_add, Nat.reduceAdd, Nat.le_refl, Nat.reduceLeDiff, D.pub, D.pubs, Tryz.results115]
    exact ⟨_, rfl, rfl, congrArg bln (by simpa using hr)⟩

theorem Equal_Backend (l m : List ABackend) (hl : l.length ≤ 1000000) (hm : m.length ≤ 1000000) :
    Pure Tryz.prog 116 [.pd (.slice (rows ABackend.pd l)), .pd (.slice (rows ABackend.pd m))] (fun d => d = bln (decide (l = m))) := by
  refine pure_of_run follows an_ztr0f Tryz.func116 rfl ok_ztr0f dst_ztr0f (by simp [Tryz.ntmps116]) ?_
  rw [run_start]
  simp only [ac_ztr0f, go_sem, contS_seq, simprocAttr, go_sem, rows_len]
  refine GifP.mk (fun hn => ?_) (fun hn => ?_)
  rotate_left
  · simp only [retK, fullK, iterK, resD, resA, AOp.ex, St.ev, Option.map_some, Option.bind_some, St.get, lk, reduceIte, Nat.reduceEqDiff, Option.getD_some, oneD, List.getElem?_cons_zero, List.getElem?_cons_succ, List.drop_zero, List.drop_succ_cons, List.take_succ_cons, List.take_zero, List.length_cons, List.length_nil, Nat.zero_add, Nat.reduceAdd, Nat.le_refl, Nat.reduceLeDiff, D.pub, D.pubs, Tryz.results116]
    exact ⟨_, rfl, rfl, congrArg bln (decide_eq_false (fun h => hn (by rw [h]))).symm⟩
  have hlm : l.length = m.length := by omega
  refine loopS (fun k st => ∃ i : Nat, k = l.length - i ∧ i ≤ l.length ∧ decide (l.drop i = m.drop i) = decide (l = m) ∧
    st = ⟨[(0, .pd (.slice (rows ABackend.pd l))), (1, .pd (.slice (rows ABackend.pd m))), (12, int l.length), (13, int i)], [], [], .no⟩) l.length _ (Weak.refl _ _) ⟨0, rfl, Nat.zero_le _, rfl, rfl⟩ ?_
  rintro k st ⟨i, rfl, hi, hr, rfl⟩
  by_cases hlt : i < l.length
  · obtain ⟨x, hx⟩ := at_lt hlt
    obtain ⟨y, hy⟩ := at_lt (show i < m.length by omega)
    have hlt' : ((i : Int) < (l.length : Int)) = True := eq_true (by omega)
    have hw := i64_succ (show i < 1000000000 by omega)
    rw [drop_at hx, drop_at hy] at hr
    simp only [go_sem, contS_seq, simprocAttr, go_sem, hlt', rows_get hx, rows_get hy, eqVs, eqV, eq_Backend, hw]
    refine GifP.mk (fun h => ?_) (fun h => ?_)
    · subst h
      simp only [List.cons.injEq, true_and] at hr
      refine ⟨l.length - (i + 1), _, ?_, ?_, i + 1, rfl, ?_, hr, rfl⟩
      · omega
      · exact Weak.less (by simp [lessL, lk]) (by simp [lessL, lk]) (by simp [lessL, lk]) rfl
      · omega
    · simp only [retK, fullK, iterK, resD, resA, AOp.ex, St.ev, Option.map_some, Option.bind_some, St.get, lk, reduceIte, Nat.reduceEqDiff, Option.getD_some, oneD, List.getElem?_cons_zero, List.getElem?_cons_succ, List.drop_zero, List.drop_succ_cons, List.take_succ_cons, List.take_zero, List.length_cons, List.length_nil, Nat.zero_add, Nat.reduceAdd, Nat.le_refl, Nat.reduceLeDiff, D.pub, D.pubs, Tryz.results116]
      rw [decide_eq_false (fun e => h (List.cons.inj e).1)] at hr
      exact ⟨_, rfl, rfl, congrArg bln hr⟩
  · have hlt' : ((i : Int) < (l.length : Int)) = False := eq_false (by omega)
    rw [List.drop_eq_nil_of_le (by omega), List.drop_eq_nil_of_le (by omega)] at hr
    simp only [go_sem, contS_seq, simprocAttr, go_sem, rows_len, hlt']
    simp only [retK, fullK, iterK, resD, resA, AOp.ex, St.ev, Option.map_some, Option.bind_some, St.get, lk, reduceIte, Nat.reduceEqDiff, Option.getD_some, oneD, List.getElem?_cons_zero, List.getElem?_cons_succ, List.drop_zero, List.drop_succ_cons, List.take_succ_cons, List.take_zero, List.length_cons, List.length_nil, Nat.zero_add, Nat.reduceAdd, Nat.le_refl, Nat.reduceLeDiff, D.pub, D.pubs, Tryz.results116]
    exact ⟨_, rfl, rfl, congrArg bln (by simpa using hr)⟩

theorem EqualFunc_Listener (q : AListener → AListener → Bool) (f : FuncId) (he : Enters Tryz.prog f) (l m : List AListener) (hl : l.length ≤ 1000000) (hm : m.length ≤ 1000000) (hp : ∀ x ∈ l, ∀ y ∈ m, Pure Tryz.prog f [AListener.d x, AListener.d y] (fun d => d = bln (q x y))) :
    Pure Tryz.prog 78 [.pd (.slice (rows AListener.pd l)), .pd (.slice (rows AListener.pd m)), .fn f []] (fun d => d = bln (eqf q l m)) := by
  refine pure_of_run follows an_zuyoe Tryz.func78 rfl ok_zuyoe dst_zuyoe (by simp [Tryz.ntmps78]) ?_
  rw [run_start]
  simp only [ac_zuyoe, go_sem, contS_seq, simprocAttr, rows_len]
  refine GifP.mk (fun hn => ?_) (fun hn => ?_)
  rotate_left
  · simp only [retK, fullK, iterK, resD, resA, AOp.ex, St.ev, Option.map_some, Option.bind_some, St.get, lk, reduceIte, Nat.reduceEqDiff, Option.getD_some, oneD, List.getElem?_cons_zero, List.getElem?_cons_succ, List.drop_zero, List.drop_succ_cons, List.take_succ_cons, List.take_zero, List.length_cons, List.length_nil, Nat.zero_add, Nat.reduceAdd, Nat.le_refl, Nat.reduceLeDiff, D.pub, D.pubs, Tryz.results78]
    exact ⟨_, rfl, rfl, congrArg bln (eqf_len q (by omega)).symm⟩
  have hlm : l.length = m.length := by omega
  refine loopS (fun k st => ∃ i : Nat, k = l.length - i ∧ i ≤ l.length ∧ eqf q (l.drop i) (m.drop i) = eqf q l m ∧
    st = ⟨[(1, .pd (.slice (rows AListener.pd m))), (2, .fn f []), (15, .pd (.slice (rows AListener.pd l))), (16, int l.length), (17, int i)], [], [], .no⟩) l.length _ (Weak.refl _ _) ⟨0, rfl, Nat.zero_le _, rfl, rfl⟩ ?_
  rintro k st ⟨i, rfl, hi, hr, rfl⟩
  by_cases hlt : i < l.length
  · obtain ⟨x, hx⟩ := at_lt hlt
    obtain ⟨y, hy⟩ := at_lt (show i < m.length by omega)
    have hlt' : ((i : Int) < (l.length : Int)) = True := eq_true (by omega)
    have hw := i64_succ (show i < 1000000000 by omega)
    rw [drop_at hx, drop_at hy, eqf] at hr
    simp only [go_sem, contS_seq, simprocAttr, hlt', rows_get hx, rows_get hy, hw]
    refine (hp x (List.mem_of_getElem? hx) y (List.mem_of_getElem? hy)).callW he _ rfl rfl ?_
    rintro d rfl
    simp only [go_sem, contS_seq, simprocAttr, hw]
    refine Gif.mk (fun h => ?_) (fun h => ?_)
    · rw [h, Bool.true_and] at hr
      refine ⟨l.length - (i + 1), _, ?_, ?_, i + 1, rfl, ?_, hr, rfl⟩
      · omega
      · exact Weak.less (by simp [lessL, lk]) (by simp [lessL, lk]) (by simp [lessL, lk]) rfl
      · omega
    · rw [h, Bool.false_and] at hr
      simp only [retK, fullK, iterK, resD, resA, AOp.ex, St.ev, Option.map_some, Option.bind_some, St.get, lk, reduceIte, Nat.reduceEqDiff, Option.getD_some, oneD, List.getElem?_cons_zero, List.getElem?_cons_succ, List.drop_zero, List.drop_succ_cons, List.take_succ_cons, List.take_zero, List.length_cons, List.length_nil, Nat.zero_add, Nat.reduceAdd, Nat.le_refl, Nat.reduceLeDiff, D.pub, D.pubs, Tryz.results78]
      exact ⟨_, rfl, rfl, congrArg bln hr⟩
  · have hlt' : ((i : Int) < (l.length : Int)) = False := eq_false (by omega)
    rw [List.drop_eq_nil_of_le (by omega), List.drop_eq_nil_of_le (by omega), eqf] at hr
    simp only [go_sem, contS_seq, simprocAttr, rows_len, hlt']
    simp only [retK, fullK, iterK, resD, resA, AOp.ex, St.ev, Option.map_some, Option.bind_some, St.get, lk, reduceIte, Nat.reduceEqDiff, Option.getD_some, oneD, List.getElem?_cons_zero, List.getElem?_cons_succ, List.drop_zero, List.drop_succ_cons, List.take_succ_cons, List.take_zero, List.length_cons, List.length_nil, Nat.zero_add, Nat.reduceAdd, Nat.le_refl, Nat.reduceLeDiff, D.pub, D.pubs, Tryz.results78]
    exact ⟨_, rfl, rfl, congrArg bln hr⟩

theorem EqualFunc_Rule (q : ARule → ARule → Bool) (f : FuncId) (he : Enters Tryz.prog f) (l m : List ARule) (hl : l.length ≤ 1000000) (hm : m.length ≤ 1000000) (hp : ∀ x ∈ l, ∀ y ∈ m, Pure Tryz.prog f [ARule.d x, ARule.d y] (fun d => d = bln (q x y))) :
    Pure Tryz.prog 80 [.pd (.slice (rows ARule.pd l)), .pd (.slice (rows ARule.pd m)), .fn f []] (fun d => d = bln (eqf q l m)) := by
  refine pure_of_run follows an_zi41r Tryz.func80 rfl ok_zi41r dst_zi41r (by simp [Tryz.ntmps80]) ?_
  rw [run_start]
  simp only [ac_zi41r, go_sem, contS_seq, simprocAttr, rows_len]
  refine GifP.mk (fun hn => ?_) (fun hn => ?_)
  rotate_left
  · simp only [retK, fullK, iterK, resD, resA, AOp.ex, St.ev, Option.map_some, Option.bind_some, St.get, lk, reduceIte, Nat.reduceEqDiff, Option.getD_some, oneD, List.getElem?_cons_zero, List.getElem?_cons_succ, List.drop_zero, List.drop_succ_cons, List.take_succ_cons, List.take_zero, List.length_cons, List.length_nil, Nat.zero_add, Nat.reduceAdd, Nat.le_refl, Nat.reduceLeDiff, D.pub, D.pubs, Tryz.results80]
    exact ⟨_, rfl, rfl, congrArg bln (eqf_len q (by omega)).symm⟩
  have hlm : l.length = m.length := by omega
  refine loopS (fun k st => ∃ i : Nat, k = l.length - i ∧ i ≤ l.length ∧ eqf q (l.drop i) (m.drop i) = eqf q l m ∧
    st = ⟨[(1, .pd (.slice (rows ARule.pd m))), (2, .fn f []), (15, .pd (.slice (rows ARule.pd l))), (16, int l.length), (17, int i)], [], [], .no⟩) l.length _ (Weak.refl _ _) ⟨0, rfl, Nat.zero_le _, rfl, rfl⟩ ?_
  rintro k st ⟨i, rfl, hi, hr, rfl⟩
  by_cases hlt : i < l.length
  · obtain ⟨x, hx⟩ := at_lt hlt
    obtain ⟨y, hy⟩ := at_lt (show i < m.length by omega)
    have hlt' : ((i : Int) < (l.length : Int)) = True := eq_true (by omega)
    have hw := i64_succ (show i < 1000000000 by omega)
    rw [drop_at hx, drop_at hy, eqf] at hr
    simp only [go_sem, contS_seq, simprocAttr, hlt', rows_get hx, rows_get hy, hw]
    refine (hp x (List.mem_of_getElem? hx) y (List.mem_of_getElem? hy)).callW he _ rfl rfl ?_
    rintro d rfl
    simp only [go_sem, contS_seq, simprocAttr, hw]
    refine Gif.mk (fun h => ?_) (fun h => ?_)
    · rw [h, Bool.true_and] at hr
      refine ⟨l.length - (i + 1), _, ?_, ?_, i + 1, rfl, ?_, hr, rfl⟩
      · omega
      · exact Weak.less (by simp [lessL, lk]) (by simp [lessL, lk]) (by simp [lessL, lk]) rfl
      · omega
    · rw [h, Bool.false_and] at hr
      simp only [retK, fullK, iterK, resD, resA, AOp.ex, St.ev, Option.map_some, Option.bind_some, St.get, lk, reduceIte, Nat.reduceEqDiff, Option.getD_some, oneD, List.getElem?_cons_zero, List.getElem?_cons_succ, List.drop_zero, List.drop_succ_cons, List.take_succ_cons, List.take_zero, List.length_cons, List.length_nil, Nat.zero_add, Nat.reduceAdd, Nat.le_refl, Nat.reduceLeDiff, D.pub, D.pubs, Tryz.results80]
      exact ⟨_, rfl, rfl, congrArg bln hr⟩
  · have hlt' : ((i : Int) < (l.length : Int)) = False := eq_false (by omega)
    rw [List.drop_eq_nil_of_le (by omega), List.drop_eq_nil_of_le (by omega), eqf] at hr
    simp only [go_sem, contS_seq, simprocAttr, rows_len, hlt']
    simp only [retK, fullK, iterK, resD, resA, AOp.ex, St.ev, Option.map_some, Option.bind_some, St.get, lk, reduceIte, Nat.reduceEqDiff, Option.getD_some, oneD, List.getElem?_cons_zero, List.getElem?_cons_succ, List.drop_zero, List.drop_succ_cons, List.take_succ_cons, List.take_zero, List.length_cons, List.length_nil, Nat.zero_add, Nat.reduceAdd, Nat.le_refl, Nat.reduceLeDiff, D.pub, D.pubs, Tryz.results80]
    exact ⟨_, rfl, rfl, congrArg bln hr⟩

theorem EqualFunc_Match (q : AMatch → AMatch → Bool) (f : FuncId) (he : Enters Tryz.prog f) (l m : List AMatch) (hl : l.length ≤ 1000000) (hm : m.length ≤ 1000000) (hp : ∀ x ∈ l, ∀ y ∈ m, Pure Tryz.prog f [AMatch.d x, AMatch.d y] (fun d => d = bln (q x y))) :
    Pure Tryz.prog 113 [.pd (.slice (rows AMatch.pd l)), .pd (.slice (rows AMatch.pd m)), .fn f []] (fun d => d = bln (eqf q l m)) := by
  refine pure_of_run follows an_zjaw1 Tryz.func113 rfl ok_zjaw1 dst_zjaw1 (by simp [Tryz.ntmps113]) ?_
  rw [run_start]
  simp only [ac_zjaw1, go_sem, contS_seq, simprocAttr, rows_len]
  refine GifP.mk (fun hn => ?_) (fun hn => ?_)
  rotate_left
  · simp only [retK, fullK, iterK, resD, resA, AOp.ex, St.ev, Option.map_some, Option.bind_some, St.get, lk, reduceIte, Nat.reduceEqDiff, Option.getD_some, oneD, List.getElem?_cons_zero, List.getElem?_cons_succ, List.drop_zero, List.drop_succ_cons, List.take_succ_cons, List.take_zero, List.length_cons, List.length_nil, Nat.zero_add, Nat.reduceAdd, Nat.le_refl, Nat.reduceLeDiff, D.pub, D.pubs, Tryz.results113]
    exact ⟨_, rfl, rfl, congrArg bln (eqf_len q (by omega)).symm⟩
  have hlm : l.length = m.length := by omega
  refine loopS (fun k st => ∃ i : Nat, k = l.length - i ∧ i ≤ l.length ∧ eqf q (l.drop i) (m.drop i) = eqf q l m ∧
    st = ⟨[(1, .pd (.slice (rows AMatch.pd m))), (2, .fn f []), (15, .pd (.slice (rows AMatch.pd l))), (16, int l.length), (17, int i)], [], [], .no⟩) l.length _ (Weak.refl _ _) ⟨0, rfl, Nat.zero_le _, rfl, rfl⟩ ?_
  rintro k st ⟨i, rfl, hi, hr, rfl⟩
  by_cases hlt : i < l.length
  · obtain ⟨x, hx⟩ := at_lt hlt
    obtain ⟨y, hy⟩ := at_lt (show i < m.length by omega)
    have hlt' : ((i : Int) < (l.length : Int)) = True := eq_true (by omega)
    have hw := i64_succ (show i < 1000000000 by omega)
    rw [drop_at hx, drop_at hy, eqf] at hr
    simp only [go_sem, contS_seq, simprocAttr, hlt', rows_get hx, rows_get hy, hw]
    refine (hp x (List.mem_of_getElem? hx) y (List.mem_of_getElem? hy)).callW he _ rfl rfl ?_
    rintro d rfl
    simp only [go_sem, contS_seq, simprocAttr, hw]
    refine Gif.mk (fun h => ?_) (fun h => ?_)
    · rw [h, Bool.true_and] at hr
      refine ⟨l.length - (i + 1), _, ?_, ?_, i + 1, rfl, ?_, hr, rfl⟩
      · omega
      · exact Weak.less (by simp [lessL, lk]) (by simp [lessL, lk]) (by simp [lessL, lk]) rfl
      · omega
    · rw [h, Bool.false_and] at hr
      simp only [retK, fullK, iterK, resD, resA, AOp.ex, St.ev, Option.map_some, Option.bind_some, St.get, lk, reduceIte, Nat.reduceEqDiff, Option.getD_some, oneD, List.getElem?_cons_zero, List.getElem?_cons_succ, List.drop_zero, List.drop_succ_cons, List.take_succ_cons, List.take_zero, List.length_cons, List.length_nil, Nat.zero_add, Nat.reduceAdd, Nat.le_refl, Nat.reduceLeDiff, D.pub, D.pubs, Tryz.results113]
      exact ⟨_, rfl, rfl, congrArg bln hr⟩
  · have hlt' : ((i : Int) < (l.length : Int)) = False := eq_false (by omega)
    rw [List.drop_eq_nil_of_le (by omega), List.drop_eq_nil_of_le (by omega), eqf] at hr
    simp only [go_sem, contS_seq, simprocAttr, rows_len, hlt']
    simp only [retK, fullK, iterK, resD, resA, AOp.ex, St.ev, Option.map_some, Option.bind_some, St.get, lk, reduceIte, Nat.reduceEqDiff, Option.getD_some, oneD, List.getElem?_cons_zero, List.getElem?_cons_succ, List.drop_zero, List.drop_succ_cons, List.take_succ_cons, List.take_zero, List.length_cons, List.length_nil, Nat.zero_add, Nat.reduceAdd, Nat.le_refl, Nat.reduceLeDiff, D.pub, D.pubs, Tryz.results113]
    exact ⟨_, rfl, rfl, congrArg bln hr⟩

theorem EqualFunc_Need (q : ANeed → ANeed → Bool) (f : FuncId) (he : Enters Tryz.prog f) (l m : List ANeed) (hl : l.length ≤ 1000000) (hm : m.length ≤ 1000000) (hp : ∀ x ∈ l, ∀ y ∈ m, Pure Tryz.prog f [ANeed.d x, ANeed.d y] (fun d => d = bln (q x y))) :
    Pure Tryz.prog 147 [.pd (.slice (rows ANeed.pd l)), .pd (.slice (rows ANeed.pd m)), .fn f []] (fun d => d = bln (eqf q l m)) := by
  refine pure_of_run follows an_zdsnp Tryz.func147 rfl ok_zdsnp dst_zdsnp (by simp [Tryz.ntmps147]) ?_
  rw [run_start]
  simp only [ac_zdsnp, go_sem, contS_seq, simprocAttr, rows_len]
  refine GifP.mk (fun hn => ?_) (fun hn => ?_)
  rotate_left
  · simp only [retK, fullK, iterK, resD, resA, AOp.ex, St.ev, Option.map_some, Option.bind_some, St.get, lk, reduceIte, Nat.reduceEqDiff, Option.getD_some, oneD, List.getElem?_cons_zero, List.getElem?_cons_succ, List.drop_zero, List.drop_succ_cons, List.take_succ_cons, List.take_zero, List.length_cons, List.length_nil, Nat.zero_add, Nat.reduceAdd, Nat.le_refl, Nat.reduceLeDiff, D.pub, D.pubs, Tryz.results147]
    exact ⟨_, rfl, rfl, congrArg bln (eqf_len q (by omega)).symm⟩
  have hlm : l.length = m.length := by omega
  refine loopS (fun k st => ∃ i : Nat, k = l.length - i ∧ i ≤ l.length ∧ eqf q (l.drop i) (m.drop i) = eqf q l m ∧
    st = ⟨[(1, .pd (.slice (rows ANeed.pd m))), (2, .fn f []), (15, .pd (.slice (rows ANeed.pd l))), (16, int l.length), (17, int i)], [], [], .no⟩) l.length _ (Weak.refl _ _) ⟨0, rfl, Nat.zero_le _, rfl, rfl⟩ ?_
  rintro k st ⟨i, rfl, hi, hr, rfl⟩
  by_cases hlt : i < l.length
  · obtain ⟨x, hx⟩ := at_lt hlt
    obtain ⟨y, hy⟩ := at_lt (show i < m.length by omega)
    have hlt' : ((i : Int) < (l.length : Int)) = True := eq_true (by omega)
    have hw := i64_succ (show i < 1000000000 by omega)
    rw [drop_at hx, drop_at hy, eqf] at hr
    simp only [go_sem, contS_seq, simprocAttr, hlt', rows_get hx, rows_get hy, hw]
    refine (hp x (List.mem_of_getElem? hx) y (List.mem_of_getElem? hy)).callW he _ rfl rfl ?_
    rintro d rfl
    simp only [go_sem, contS_seq, simprocAttr, hw]
    refine Gif.mk (fun h => ?_) (fun h => ?_)
    · rw [h, Bool.true_and] at hr
      refine ⟨l.length - (i + 1), _, ?_, ?_, i + 1, rfl, ?_, hr, rfl⟩
      · omega
      · exact Weak.less (by simp [lessL, lk]) (by simp [lessL, lk]) (by simp [lessL, lk]) rfl
      · omega
    · rw [h, Bool.false_and] at hr
      simp only [retK, fullK, iterK, resD, resA, AOp.ex, St.ev, Option.map_some, Option.bind_some, St.get, lk, reduceIte, Nat.reduceEqDiff, Option.getD_some, oneD, List.getElem?_cons_zero, List.getElem?_cons_succ, List.drop_zero, List.drop_succ_cons, List.take_succ_cons, List.take_zero, List.length_cons, List.length_nil, Nat.zero_add, Nat.reduceAdd, Nat.le_refl, Nat.reduceLeDiff, D.pub, D.pubs, Tryz.results147]
      exact ⟨_, rfl, rfl, congrArg bln hr⟩
  · have hlt' : ((i : Int) < (l.length : Int)) = False := eq_false (by omega)
    rw [List.drop_eq_nil_of_le (by omega), List.drop_eq_nil_of_le (by omega), eqf] at hr
    simp only [go_sem, contS_seq, simprocAttr, rows_len, hlt']
    simp only [retK, fullK, iterK, resD, resA, AOp.ex, St.ev, Option.map_some, Option.bind_some, St.get, lk, reduceIte, Nat.reduceEqDiff, Option.getD_some, oneD, List.getElem?_cons_zero, List.getElem?_cons_succ, List.drop_zero, List.drop_succ_cons, List.take_succ_cons, List.take_zero, List.length_cons, List.length_nil, Nat.zero_add, Nat.reduceAdd, Nat.le_refl, Nat.reduceLeDiff, D.pub, D.pubs, Tryz.results147]
    exact ⟨_, rfl, rfl, congrArg bln hr⟩

end Go.Proofs.YtmdepehjfnpklaaGreatDoor

namespace Go.Proofs.YtmdepehjfnpklaaGreatDoor
open Go

def an_z88d6 : Ann := ⟨[(0, [0, 3, 4]), (1, [0, 4, 6]), (2, [0, 4, 6, 11]), (3, [4, 5]), (4, [4, 5])], [], []⟩
def ac_z88d6 : AC := (.seq (.region [.mk none (some 3) (.box 24 (.tmp 1)), .mk none (some 4) (.alloc 33 [.pd (.raw (.int .i64 0)), .pd (.raw (.string ⟨#[]⟩)), .pd (.raw (.string ⟨#[]⟩)), .pd (.raw (.bool false)), .nils, .nils, .pd (.raw (.string ⟨#[]⟩)), .nils, .nils, .nils, .nils, .nils, .nils]), .mk none (some 5) (.mv (.const (.bool false)))] (some [0, 3, 4])) (.seq (.region [.mk none (some 7) (.mv (.tmp 0)), .mk none (some 8) (.mkfn 34 [.tmp 3]), .mk none (some 9) (.call 33 [.tmp 7, .tmp 8]), .mk none (some 6) (.mv (.tmp 9))] (some [0, 4, 6])) (.seq (.seq (.region [.mk none (some 10) (.mv (.tmp 6)), .mk none (some 11) (.bin .lss (.tmp 10) (.const (.int .i64 0)))] (some [0, 4, 6, 11])) (.cond (.tmp 11) (.seq (.region [.mk none (some 12) (.build [.pd (.raw (.int .i64 0)), .pd (.raw (.string ⟨#[]⟩)), .pd (.raw (.string ⟨#[]⟩)), .pd (.raw (.bool false)), .nils, .nils, .pd (.raw (.string ⟨#[]⟩)), .nils, .nils, .nils, .nils, .nils, .nils] []), .mk none none (.store 13 (.tmp 4) (.tmp 12)), .mk none (some 5) (.mv (.const (.bool false)))] (some [4, 5])) .ret) .skip)) (.seq (.region [.mk none (some 13) (.mv (.tmp 0)), .mk none (some 14) (.mv (.tmp 6)), .mk none (some 15) (.idxA 13 (.tmp 13) (.tmp 14)), .mk none (some 16) (.load (some 13) (.tmp 15)), .mk none none (.store 13 (.tmp 4) (.tmp 16)), .mk none (some 5) (.mv (.const (.bool true)))] (some [4, 5])) .ret))))
theorem ok_z88d6 : compC Tryz.prog an_z88d6 (Tryz.f29.body.getD .skip) = some ac_z88d6 := by kernel_rfl
theorem ret_z88d6 (st : St) : resD Tryz.prog st Tryz.f29.results.toList = resA st [.cell 4 (some 13), .tmp 5] := resD_of (by kernel_rfl)
theorem dst_z88d6 : ac_z88d6.dstOK Tryz.f29.ntmps (fun i => decide (i < Tryz.f29.ntmps)) = true := by kernel_rfl

def an_zfwje : Ann := ⟨[(0, [1]), (1, [1, 3]), (2, [1, 3, 4]), (3, [2])], [(3, ([0, 1, 3, 7, 15, 15, 47, 111, 255, 15, 1023, 2047, 4095, 8191, 16383, 32767, 65535, 8191, 139263, 401407, 1048575, 2097151, 4194303], .take 0 (.take 1 (.alts (.cons 2 true (.take 3 (.take 4 (.take 5 (.take 6 (.take 7 (.take 8 (.take 9 (.alts (.cons 10 true (.take 11 (.take 12 (.take 13 (.take 14 (.take 15 (.take 16 (.take 17 (.take 18 (.take 19 (.alts (.cons 20 true (.take 21 (.take 22 (.done))) (.nil)))))))))))) (.nil)))))))))) (.nil))))))], []⟩
def ac_zfwje : AC := (.seq (.region [.mk none (some 1) (.box 33 (.tmp 0)), .mk none (some 2) (.mv (.const (.bool false)))] (some [1])) (.seq (.region [.mk none (some 5) .mkmap, .mk none none (.mset [] (.tmp 5) (.const (.int .i64 1)) (.func 35)), .mk none none (.mset [] (.tmp 5) (.const (.int .i64 2)) (.func 36)), .mk none none (.mset [] (.tmp 5) (.const (.int .i64 3)) (.func 37)), .mk none none (.mset [] (.tmp 5) (.const (.int .i64 4)) (.func 35)), .mk none none (.mset [] (.tmp 5) (.const (.int .i64 5)) (.func 38)), .mk none none (.mset [] (.tmp 5) (.const (.int .i64 6)) (.func 39)), .mk none none (.mset [] (.tmp 5) (.const (.int .i64 7)) (.func 40)), .mk none (some 6) (.mv (.tmp 5)), .mk none (some 3) (.mv (.tmp 6))] (some [1, 3])) (.seq (.region [.mk none (some 7) (.load (some 13) (.tmp 1)), .mk none (some 8) (.build [.pd (.raw (.int .i64 0)), .pd (.raw (.string ⟨#[]⟩)), .pd (.raw (.string ⟨#[]⟩)), .pd (.raw (.bool false)), .nils, .nils, .pd (.raw (.string ⟨#[]⟩)), .nils, .nils, .nils, .nils, .nils, .nils] [(0, 13, .tmp 7)]), .mk none (some 9) (.box 100 (.tmp 8)), .mk none (some 4) (.mv (.tmp 9))] (some [1, 3, 4])) (.seq (.draw [.mk none (some 10) (.fieldA 0 (.tmp 1)), .mk none (some 11) (.load (some 3) (.tmp 10)), .mk none (some 12) (.call 41 [.tmp 11]), .mk none (some 13) (.mv (.tmp 12)), .mk (some (13, true)) (some 14) (.mv (.tmp 3)), .mk (some (13, true)) (some 15) (.fieldA 0 (.tmp 1)), .mk (some (13, true)) (some 16) (.fieldA 0 (.tmp 15)), .mk (some (13, true)) (some 17) (.load none (.tmp 16)), .mk (some (13, true)) (some 18) (.mget [] .nilFunc (.tmp 14) (.tmp 17)), .mk (some (13, true)) (some 19) (.mv (.tmp 4)), .mk (some (13, true)) (some 20) (.callv (.tmp 18) [.tmp 19]), .mk none (some 21) (.pick (.tmp 13) (.tmp 20) (.const (.bool false))), .mk none (some 22) (.mv (.tmp 21)), .mk (some (22, true)) (some 23) (.mv (.tmp 4)), .mk (some (22, true)) (some 24) (.ncheck (.tmp 23)), .mk (some (22, true)) (some 25) (.fieldA 0 (.tmp 24)), .mk (some (22, true)) (some 26) (.load (some 13) (.tmp 25)), .mk (some (22, true)) (some 27) (.fieldA 0 (.tmp 1)), .mk (some (22, true)) (some 28) (.load (some 3) (.tmp 27)), .mk (some (22, true)) (some 29) (.build [.pd (.raw (.int .i64 0)), .pd (.raw (.string ⟨#[]⟩)), .pd (.raw (.string ⟨#[]⟩)), .pd (.raw (.bool false)), .nils, .nils, .pd (.raw (.string ⟨#[]⟩)), .nils, .nils, .nils, .nils, .nils, .nils] [(0, 3, .tmp 28)]), .mk (some (22, true)) (some 30) (.call 42 [.tmp 26, .tmp 29]), .mk none (some 31) (.pick (.tmp 22) (.tmp 30) (.const (.bool false))), .mk none (some 2) (.mv (.tmp 31))] [0, 1, 3, 7, 15, 15, 47, 111, 255, 15, 1023, 2047, 4095, 8191, 16383, 32767, 65535, 8191, 139263, 401407, 1048575, 2097151, 4194303] (.take 0 (.take 1 (.alts (.cons 2 true (.take 3 (.take 4 (.take 5 (.take 6 (.take 7 (.take 8 (.take 9 (.alts (.cons 10 true (.take 11 (.take 12 (.take 13 (.take 14 (.take 15 (.take 16 (.take 17 (.take 18 (.take 19 (.alts (.cons 20 true (.take 21 (.take 22 .done)) .nil))))))))))) .nil))))))))) .nil)))) (some [2])) .ret))))
theorem ok_zfwje : compC Tryz.prog an_zfwje (Tryz.f30.body.getD .skip) = some ac_zfwje := by kernel_rfl
theorem dst_zfwje : ac_zfwje.dstOK Tryz.f30.ntmps (fun i => decide (i < Tryz.f30.ntmps)) = true := by kernel_rfl

def an_zs3t2 : Ann := ⟨[(0, [4, 5, 6, 7]), (1, [4, 7, 9]), (2, [4, 7, 9, 10]), (3, [8])], [], []⟩
def ac_zs3t2 : AC := (.seq (.region [.mk none (some 4) (.box 33 (.tmp 0)), .mk none (some 5) (.box 3 (.tmp 1)), .mk none (some 6) (.box 9 (.tmp 2)), .mk none (some 7) (.box 24 (.tmp 3)), .mk none (some 8) (.mv (.const (.bool false)))] (some [4, 5, 6, 7])) (.seq (.region [.mk none (some 11) (.mkfn 43 [.tmp 5, .tmp 6]), .mk none (some 9) (.mv (.tmp 11))] (some [4, 7, 9])) (.seq (.region [.mk none (some 12) (.mkfn 44 [.tmp 7]), .mk none (some 10) (.mv (.tmp 12))] (some [4, 7, 9, 10])) (.seq (.region [.mk none (some 13) (.fieldA 0 (.tmp 4)), .mk none (some 14) (.fieldA 0 (.tmp 13)), .mk none (some 15) (.load none (.tmp 14)), .mk none (some 16) (.bin .eql (.tmp 15) (.const (.int .i64 7))), .mk none (some 17) (.mv (.tmp 16)), .mk (some (17, true)) (some 18) (.fieldA 0 (.tmp 4)), .mk (some (17, true)) (some 19) (.fieldA 1 (.tmp 18)), .mk (some (17, true)) (some 20) (.load none (.tmp 19)), .mk (some (17, true)) (some 21) (.fieldA 1 (.tmp 7)), .mk (some (17, true)) (some 22) (.load none (.tmp 21)), .mk (some (17, true)) (some 23) (.bin .eql (.tmp 20) (.tmp 22)), .mk none (some 24) (.pick (.tmp 17) (.tmp 23) (.const (.bool false))), .mk none (some 25) (.mv (.tmp 24)), .mk (some (25, true)) (some 26) (.load (some 13) (.tmp 4)), .mk (some (25, true)) (some 27) (.call 30 [.tmp 26]), .mk none (some 28) (.pick (.tmp 25) (.tmp 27) (.const (.bool false))), .mk none (some 29) (.mv (.tmp 28)), .mk (some (29, true)) (some 30) (.fieldA 11 (.tmp 4)), .mk (some (29, true)) (some 31) (.load none (.tmp 30)), .mk (some (29, true)) (some 32) (.mv (.tmp 9)), .mk (some (29, true)) (some 33) (.call 45 [.tmp 31, .tmp 32]), .mk none (some 34) (.pick (.tmp 29) (.tmp 33) (.const (.bool false))), .mk none (some 35) (.mv (.tmp 34)), .mk (some (35, true)) (some 36) (.fieldA 12 (.tmp 4)), .mk (some (35, true)) (some 37) (.load none (.tmp 36)), .mk (some (35, true)) (some 38) (.mv (.tmp 10)), .mk (some (35, true)) (some 39) (.call 45 [.tmp 37, .tmp 38]), .mk none (some 40) (.pick (.tmp 35) (.tmp 39) (.const (.bool false))), .mk none (some 8) (.mv (.tmp 40))] (some [8])) .ret))))
theorem ok_zs3t2 : compC Tryz.prog an_zs3t2 (Tryz.f32.body.getD .skip) = some ac_zs3t2 := by kernel_rfl
theorem dst_zs3t2 : ac_zs3t2.dstOK Tryz.f32.ntmps (fun i => decide (i < Tryz.f32.ntmps)) = true := by kernel_rfl

def an_zl31y : Ann := ⟨[(0, [1, 2]), (1, [3])], [], []⟩
def ac_zl31y : AC := (.seq (.region [.mk none (some 2) (.box 33 (.tmp 0)), .mk none (some 3) (.mv (.const (.bool false)))] (some [1, 2])) (.seq (.region [.mk none (some 4) (.fieldA 0 (.tmp 2)), .mk none (some 5) (.load (some 3) (.tmp 4)), .mk none (some 6) (.load (some 3) (.tmp 1)), .mk none (some 7) (.eqs false [.int, .str, .str] (.tmp 5) (.tmp 6)), .mk none (some 3) (.mv (.tmp 7))] (some [3])) .ret))
theorem ok_zl31y : compC Tryz.prog an_zl31y (Tryz.f34.body.getD .skip) = some ac_zl31y := by kernel_rfl
theorem dst_zl31y : ac_zl31y.dstOK Tryz.f34.ntmps (fun i => decide (i < Tryz.f34.ntmps)) = true := by kernel_rfl

def an_zk71m : Ann := ⟨[(0, [0]), (1, []), (2, [2])], [], []⟩
def ac_zk71m : AC := (.seq (.region [.mk none (some 2) (.mv (.const (.bool false)))] (some [0])) (.seq (.region [.mk none (some 3) (.mv (.tmp 0)), .mk none (some 4) (.ncheck (.tmp 3)), .mk none (some 5) (.fieldA 0 (.tmp 4)), .mk none (some 6) (.fieldA 3 (.tmp 5)), .mk none none (.store 1 (.tmp 6) (.const (.bool false)))] (some [])) (.seq (.region [.mk none (some 2) (.mv (.const (.bool true)))] (some [2])) .ret)))
theorem ok_zk71m : compC Tryz.prog an_zk71m (Tryz.f35.body.getD .skip) = some ac_zk71m := by kernel_rfl
theorem dst_zk71m : ac_zk71m.dstOK Tryz.f35.ntmps (fun i => decide (i < Tryz.f35.ntmps)) = true := by kernel_rfl

def an_zag3z : Ann := ⟨[(0, [0]), (1, [0, 3]), (2, [3]), (3, [2])], [], []⟩
def ac_zag3z : AC := (.seq (.region [.mk none (some 2) (.mv (.const (.bool false)))] (some [0])) (.seq (.region [.mk none (some 4) (.mv (.tmp 0)), .mk none (some 5) (.ncheck (.tmp 4)), .mk none (some 6) (.fieldA 0 (.tmp 5)), .mk none (some 7) (.fieldA 4 (.tmp 6)), .mk none (some 8) (.load none (.tmp 7)), .mk none (some 3) (.mv (.tmp 8))] (some [0, 3])) (.seq (.region [.mk none (some 9) (.mv (.tmp 0)), .mk none (some 10) (.ncheck (.tmp 9)), .mk none (some 11) (.fieldA 0 (.tmp 10)), .mk none (some 12) (.fieldA 4 (.tmp 11)), .mk none none (.store 1 (.tmp 12) (.const (.slice none 0 0)))] (some [3])) (.seq (.region [.mk none (some 13) (.mv (.tmp 3)), .mk none (some 14) (.call 46 [.tmp 13]), .mk none (some 2) (.mv (.tmp 14))] (some [2])) .ret))))
theorem ok_zag3z : compC Tryz.prog an_zag3z (Tryz.f36.body.getD .skip) = some ac_zag3z := by kernel_rfl
theorem dst_zag3z : ac_zag3z.dstOK Tryz.f36.ntmps (fun i => decide (i < Tryz.f36.ntmps)) = true := by kernel_rfl

def an_zxlfl : Ann := ⟨[(0, [0]), (1, [0, 3]), (2, [3]), (3, [2])], [], []⟩
def ac_zxlfl : AC := (.seq (.region [.mk none (some 2) (.mv (.const (.bool false)))] (some [0])) (.seq (.region [.mk none (some 4) (.mv (.tmp 0)), .mk none (some 5) (.ncheck (.tmp 4)), .mk none (some 6) (.fieldA 0 (.tmp 5)), .mk none (some 7) (.fieldA 5 (.tmp 6)), .mk none (some 8) (.load none (.tmp 7)), .mk none (some 3) (.mv (.tmp 8))] (some [0, 3])) (.seq (.region [.mk none (some 9) (.mv (.tmp 0)), .mk none (some 10) (.ncheck (.tmp 9)), .mk none (some 11) (.fieldA 0 (.tmp 10)), .mk none (some 12) (.fieldA 5 (.tmp 11)), .mk none none (.store 1 (.tmp 12) (.const (.slice none 0 0)))] (some [3])) (.seq (.region [.mk none (some 13) (.mv (.tmp 3)), .mk none (some 14) (.len (.tmp 13) false), .mk none (some 15) (.bin .gtr (.tmp 14) (.const (.int .i64 0))), .mk none (some 16) (.mv (.tmp 15)), .mk (some (16, true)) (some 17) (.mv (.tmp 3)), .mk (some (16, true)) (some 18) (.call 47 [.tmp 17, .const (.int .i64 8), .func 48]), .mk none (some 19) (.pick (.tmp 16) (.tmp 18) (.const (.bool false))), .mk none (some 20) (.mv (.tmp 19)), .mk (some (20, true)) (some 21) (.mv (.tmp 3)), .mk (some (20, true)) (some 22) (.call 49 [.tmp 21]), .mk none (some 23) (.pick (.tmp 20) (.tmp 22) (.const (.bool false))), .mk none (some 24) (.mv (.tmp 23)), .mk (some (24, true)) (some 25) (.mv (.tmp 3)), .mk (some (24, true)) (some 26) (.call 50 [.tmp 25, .func 51]), .mk (some (24, true)) (some 27) (.un .not (.tmp 26)), .mk none (some 28) (.pick (.tmp 24) (.tmp 27) (.const (.bool false))), .mk none (some 2) (.mv (.tmp 28))] (some [2])) .ret))))
theorem ok_zxlfl : compC Tryz.prog an_zxlfl (Tryz.f37.body.getD .skip) = some ac_zxlfl := by kernel_rfl
theorem dst_zxlfl : ac_zxlfl.dstOK Tryz.f37.ntmps (fun i => decide (i < Tryz.f37.ntmps)) = true := by kernel_rfl

def an_zqquk : Ann := ⟨[(0, [0]), (1, [0, 3, 4]), (2, [3, 4]), (3, [3, 4, 5]), (4, [2])], [(1, ([0, 1, 3, 7, 15, 0, 32, 96, 224, 480, 31, 2047], .take 0 (.take 1 (.take 2 (.take 3 (.take 4 (.take 5 (.take 6 (.take 7 (.take 8 (.take 9 (.take 10 (.take 11 (.done))))))))))))))], []⟩
def ac_zqquk : AC := (.seq (.region [.mk none (some 2) (.mv (.const (.bool false)))] (some [0])) (.seq (.draw [.mk none (some 6) (.mv (.tmp 0)), .mk none (some 7) (.ncheck (.tmp 6)), .mk none (some 8) (.fieldA 0 (.tmp 7)), .mk none (some 9) (.fieldA 7 (.tmp 8)), .mk none (some 10) (.load none (.tmp 9)), .mk none (some 11) (.mv (.tmp 0)), .mk none (some 12) (.ncheck (.tmp 11)), .mk none (some 13) (.fieldA 0 (.tmp 12)), .mk none (some 14) (.fieldA 6 (.tmp 13)), .mk none (some 15) (.load none (.tmp 14)), .mk none (some 3) (.mv (.tmp 10)), .mk none (some 4) (.mv (.tmp 15))] [0, 1, 3, 7, 15, 0, 32, 96, 224, 480, 31, 2047] (.take 0 (.take 1 (.take 2 (.take 3 (.take 4 (.take 5 (.take 6 (.take 7 (.take 8 (.take 9 (.take 10 (.take 11 .done)))))))))))) (some [0, 3, 4])) (.seq (.region [.mk none (some 16) (.mv (.tmp 0)), .mk none (some 17) (.mv (.tmp 0)), .mk none (some 18) (.ncheck (.tmp 16)), .mk none (some 19) (.fieldA 0 (.tmp 18)), .mk none (some 20) (.fieldA 7 (.tmp 19)), .mk none none (.store 1 (.tmp 20) (.const (.slice none 0 0))), .mk none (some 21) (.ncheck (.tmp 17)), .mk none (some 22) (.fieldA 0 (.tmp 21)), .mk none (some 23) (.fieldA 6 (.tmp 22)), .mk none none (.store 1 (.tmp 23) (.const (.string ⟨#[]⟩)))] (some [3, 4])) (.seq (.region [.mk none (some 5) (.mv (.func 52))] (some [3, 4, 5])) (.seq (.region [.mk none (some 24) (.mv (.tmp 4)), .mk none (some 25) (.call 53 [.tmp 24]), .mk none (some 26) (.mv (.tmp 25)), .mk (some (26, true)) (some 27) (.mv (.tmp 3)), .mk (some (26, true)) (some 28) (.len (.tmp 27) false), .mk (some (26, true)) (some 29) (.bin .gtr (.tmp 28) (.const (.int .i64 0))), .mk none (some 30) (.pick (.tmp 26) (.tmp 29) (.const (.bool false))), .mk none (some 31) (.mv (.tmp 30)), .mk (some (31, true)) (some 32) (.mv (.tmp 3)), .mk (some (31, true)) (some 33) (.call 54 [.tmp 32, .const (.int .i64 8), .func 55]), .mk none (some 34) (.pick (.tmp 31) (.tmp 33) (.const (.bool false))), .mk none (some 35) (.mv (.tmp 34)), .mk (some (35, true)) (some 36) (.mv (.tmp 3)), .mk (some (35, true)) (some 37) (.mv (.tmp 5)), .mk (some (35, true)) (some 38) (.call 56 [.tmp 36, .tmp 37]), .mk (some (35, true)) (some 39) (.un .not (.tmp 38)), .mk none (some 40) (.pick (.tmp 35) (.tmp 39) (.const (.bool false))), .mk none (some 2) (.mv (.tmp 40))] (some [2])) .ret)))))
theorem ok_zqquk : compC Tryz.prog an_zqquk (Tryz.f38.body.getD .skip) = some ac_zqquk := by kernel_rfl
theorem dst_zqquk : ac_zqquk.dstOK Tryz.f38.ntmps (fun i => decide (i < Tryz.f38.ntmps)) = true := by kernel_rfl

def an_ztpho : Ann := ⟨[(0, [0]), (1, [0, 3, 4, 5]), (2, [3, 4, 5]), (3, [3, 4, 5, 39]), (4, [2]), (5, [3, 4, 5, 6]), (6, [2])], [(1, ([0, 1, 3, 7, 15, 0, 32, 96, 224, 480, 0, 1024, 3072, 7168, 15360, 31, 33791, 131071], .take 0 (.take 1 (.take 2 (.take 3 (.take 4 (.take 5 (.take 6 (.take 7 (.take 8 (.take 9 (.take 10 (.take 11 (.take 12 (.take 13 (.take 14 (.take 15 (.take 16 (.take 17 (.done))))))))))))))))))))], []⟩
def ac_ztpho : AC := (.seq (.region [.mk none (some 2) (.mv (.const (.bool false)))] (some [0])) (.seq (.draw [.mk none (some 7) (.mv (.tmp 0)), .mk none (some 8) (.ncheck (.tmp 7)), .mk none (some 9) (.fieldA 0 (.tmp 8)), .mk none (some 10) (.fieldA 8 (.tmp 9)), .mk none (some 11) (.load none (.tmp 10)), .mk none (some 12) (.mv (.tmp 0)), .mk none (some 13) (.ncheck (.tmp 12)), .mk none (some 14) (.fieldA 0 (.tmp 13)), .mk none (some 15) (.fieldA 9 (.tmp 14)), .mk none (some 16) (.load none (.tmp 15)), .mk none (some 17) (.mv (.tmp 0)), .mk none (some 18) (.ncheck (.tmp 17)), .mk none (some 19) (.fieldA 0 (.tmp 18)), .mk none (some 20) (.fieldA 10 (.tmp 19)), .mk none (some 21) (.load none (.tmp 20)), .mk none (some 3) (.mv (.tmp 11)), .mk none (some 4) (.mv (.tmp 16)), .mk none (some 5) (.mv (.tmp 21))] [0, 1, 3, 7, 15, 0, 32, 96, 224, 480, 0, 1024, 3072, 7168, 15360, 31, 33791, 131071] (.take 0 (.take 1 (.take 2 (.take 3 (.take 4 (.take 5 (.take 6 (.take 7 (.take 8 (.take 9 (.take 10 (.take 11 (.take 12 (.take 13 (.take 14 (.take 15 (.take 16 (.take 17 .done)))))))))))))))))) (some [0, 3, 4, 5])) (.seq (.region [.mk none (some 22) (.mv (.tmp 0)), .mk none (some 23) (.mv (.tmp 0)), .mk none (some 24) (.mv (.tmp 0)), .mk none (some 25) (.ncheck (.tmp 22)), .mk none (some 26) (.fieldA 0 (.tmp 25)), .mk none (some 27) (.fieldA 8 (.tmp 26)), .mk none none (.store 1 (.tmp 27) (.const (.slice none 0 0))), .mk none (some 28) (.ncheck (.tmp 23)), .mk none (some 29) (.fieldA 0 (.tmp 28)), .mk none (some 30) (.fieldA 9 (.tmp 29)), .mk none none (.store 1 (.tmp 30) (.const (.slice none 0 0))), .mk none (some 31) (.ncheck (.tmp 24)), .mk none (some 32) (.fieldA 0 (.tmp 31)), .mk none (some 33) (.fieldA 10 (.tmp 32)), .mk none none (.store 1 (.tmp 33) (.const (.slice none 0 0)))] (some [3, 4, 5])) (.seq (.seq (.region [.mk none (some 34) (.mv (.tmp 3)), .mk none (some 35) (.call 57 [.tmp 34, .func 58]), .mk none (some 36) (.mv (.tmp 35)), .mk (some (36, false)) (some 37) (.mv (.tmp 4)), .mk (some (36, false)) (some 38) (.call 59 [.tmp 37, .func 60]), .mk none (some 39) (.pick (.tmp 36) (.const (.bool true)) (.tmp 38))] (some [3, 4, 5, 39])) (.cond (.tmp 39) (.seq (.region [.mk none (some 2) (.mv (.const (.bool false)))] (some [2])) .ret) .skip)) (.seq (.region [.mk none (some 6) (.mv (.func 61))] (some [3, 4, 5, 6])) (.seq (.region [.mk none (some 40) (.mv (.tmp 3)), .mk none (some 41) (.call 63 [.tmp 40, .const (.int .i64 4), .func 64]), .mk none (some 42) (.mv (.tmp 41)), .mk (some (42, true)) (some 43) (.mv (.tmp 4)), .mk (some (42, true)) (some 44) (.mv (.tmp 6)), .mk (some (42, true)) (some 45) (.call 65 [.tmp 43, .const (.int .i64 4), .tmp 44]), .mk none (some 46) (.pick (.tmp 42) (.tmp 45) (.const (.bool false))), .mk none (some 47) (.mv (.tmp 46)), .mk (some (47, true)) (some 48) (.mv (.tmp 5)), .mk (some (47, true)) (some 49) (.call 66 [.tmp 48, .const (.int .i64 6), .func 67]), .mk none (some 50) (.pick (.tmp 47) (.tmp 49) (.const (.bool false))), .mk none (some 2) (.mv (.tmp 50))] (some [2])) .ret))))))
theorem ok_ztpho : compC Tryz.prog an_ztpho (Tryz.f39.body.getD .skip) = some ac_ztpho := by kernel_rfl
theorem dst_ztpho : ac_ztpho.dstOK Tryz.f39.ntmps (fun i => decide (i < Tryz.f39.ntmps)) = true := by kernel_rfl

def an_zlbax : Ann := ⟨[(0, [0]), (1, [0, 3, 4]), (2, [3, 4]), (3, [3, 4, 5]), (4, [3, 4, 5, 6]), (5, [2])], [(1, ([0, 1, 3, 7, 15, 0, 32, 96, 224, 480, 31, 2047], .take 0 (.take 1 (.take 2 (.take 3 (.take 4 (.take 5 (.take 6 (.take 7 (.take 8 (.take 9 (.take 10 (.take 11 (.done))))))))))))))], []⟩
def ac_zlbax : AC := (.seq (.region [.mk none (some 2) (.mv (.const (.bool false)))] (some [0])) (.seq (.draw [.mk none (some 7) (.mv (.tmp 0)), .mk none (some 8) (.ncheck (.tmp 7)), .mk none (some 9) (.fieldA 0 (.tmp 8)), .mk none (some 10) (.fieldA 11 (.tmp 9)), .mk none (some 11) (.load none (.tmp 10)), .mk none (some 12) (.mv (.tmp 0)), .mk none (some 13) (.ncheck (.tmp 12)), .mk none (some 14) (.fieldA 0 (.tmp 13)), .mk none (some 15) (.fieldA 12 (.tmp 14)), .mk none (some 16) (.load none (.tmp 15)), .mk none (some 3) (.mv (.tmp 11)), .mk none (some 4) (.mv (.tmp 16))] [0, 1, 3, 7, 15, 0, 32, 96, 224, 480, 31, 2047] (.take 0 (.take 1 (.take 2 (.take 3 (.take 4 (.take 5 (.take 6 (.take 7 (.take 8 (.take 9 (.take 10 (.take 11 .done)))))))))))) (some [0, 3, 4])) (.seq (.region [.mk none (some 17) (.mv (.tmp 0)), .mk none (some 18) (.mv (.tmp 0)), .mk none (some 19) (.ncheck (.tmp 17)), .mk none (some 20) (.fieldA 0 (.tmp 19)), .mk none (some 21) (.fieldA 11 (.tmp 20)), .mk none none (.store 1 (.tmp 21) (.const (.slice none 0 0))), .mk none (some 22) (.ncheck (.tmp 18)), .mk none (some 23) (.fieldA 0 (.tmp 22)), .mk none (some 24) (.fieldA 12 (.tmp 23)), .mk none none (.store 1 (.tmp 24) (.const (.slice none 0 0)))] (some [3, 4])) (.seq (.region [.mk none (some 5) (.mv (.func 68))] (some [3, 4, 5])) (.seq (.region [.mk none (some 6) (.mv (.func 71))] (some [3, 4, 5, 6])) (.seq (.region [.mk none (some 25) (.mv (.tmp 3)), .mk none (some 26) (.len (.tmp 25) false), .mk none (some 27) (.bin .gtr (.tmp 26) (.const (.int .i64 0))), .mk none (some 28) (.mv (.tmp 27)), .mk (some (28, true)) (some 29) (.mv (.tmp 4)), .mk (some (28, true)) (some 30) (.len (.tmp 29) false), .mk (some (28, true)) (some 31) (.bin .gtr (.tmp 30) (.const (.int .i64 0))), .mk none (some 32) (.pick (.tmp 28) (.tmp 31) (.const (.bool false))), .mk none (some 33) (.mv (.tmp 32)), .mk (some (33, true)) (some 34) (.mv (.tmp 3)), .mk (some (33, true)) (some 35) (.mv (.tmp 5)), .mk (some (33, true)) (some 36) (.call 72 [.tmp 34, .const (.int .i64 4), .tmp 35]), .mk none (some 37) (.pick (.tmp 33) (.tmp 36) (.const (.bool false))), .mk none (some 38) (.mv (.tmp 37)), .mk (some (38, true)) (some 39) (.mv (.tmp 4)), .mk (some (38, true)) (some 40) (.mv (.tmp 6)), .mk (some (38, true)) (some 41) (.call 72 [.tmp 39, .const (.int .i64 4), .tmp 40]), .mk none (some 42) (.pick (.tmp 38) (.tmp 41) (.const (.bool false))), .mk none (some 2) (.mv (.tmp 42))] (some [2])) .ret))))))
theorem ok_zlbax : compC Tryz.prog an_zlbax (Tryz.f40.body.getD .skip) = some ac_zlbax := by kernel_rfl
theorem dst_zlbax : ac_zlbax.dstOK Tryz.f40.ntmps (fun i => decide (i < Tryz.f40.ntmps)) = true := by kernel_rfl

def an_zkdrf : Ann := ⟨[(0, [1]), (1, [1, 4]), (2, [1, 4, 5]), (3, [2]), (4, [1, 15]), (5, [2]), (6, [2])], [], []⟩
def ac_zkdrf : AC := (.seq (.region [.mk none (some 1) (.box 24 (.tmp 0)), .mk none (some 2) (.mv (.const (.bool false)))] (some [1])) (.seq (.seq (.region [.mk none (some 3) (.fieldA 0 (.tmp 1)), .mk none (some 4) (.load none (.tmp 3))] (some [1, 4])) (.block 0 (.seq (.region [.mk none (some 6) (.bin .eql (.tmp 4) (.const (.int .i64 1))), .mk none (some 5) (.mv (.tmp 6))] (some [1, 4, 5])) (.cond (.tmp 5) (.seq (.region [.mk none (some 7) (.fieldA 1 (.tmp 1)), .mk none (some 8) (.load none (.tmp 7)), .mk none (some 9) (.bin .eql (.tmp 8) (.const (.string ⟨#[]⟩))), .mk none (some 10) (.mv (.tmp 9)), .mk (some (10, true)) (some 11) (.fieldA 2 (.tmp 1)), .mk (some (10, true)) (some 12) (.load none (.tmp 11)), .mk (some (10, true)) (some 13) (.call 53 [.tmp 12]), .mk none (some 14) (.pick (.tmp 10) (.tmp 13) (.const (.bool false))), .mk none (some 2) (.mv (.tmp 14))] (some [2])) .ret) (.seq (.region [.mk none (some 16) (.bin .eql (.tmp 4) (.const (.int .i64 2))), .mk none (some 15) (.mv (.tmp 16))] (some [1, 15])) (.cond (.tmp 15) (.seq (.region [.mk none (some 17) (.fieldA 1 (.tmp 1)), .mk none (some 18) (.load none (.tmp 17)), .mk none (some 19) (.bin .eql (.tmp 18) (.const (.string ⟨#[]⟩))), .mk none (some 20) (.mv (.tmp 19)), .mk (some (20, true)) (some 21) (.fieldA 2 (.tmp 1)), .mk (some (20, true)) (some 22) (.load none (.tmp 21)), .mk (some (20, true)) (some 23) (.call 70 [.tmp 22]), .mk none (some 24) (.pick (.tmp 20) (.tmp 23) (.const (.bool false))), .mk none (some 2) (.mv (.tmp 24))] (some [2])) .ret) .skip)))))) (.seq (.region [.mk none (some 25) (.fieldA 0 (.tmp 1)), .mk none (some 26) (.load none (.tmp 25)), .mk none (some 27) (.call 69 [.tmp 26]), .mk none (some 28) (.mv (.tmp 27)), .mk (some (28, true)) (some 29) (.fieldA 1 (.tmp 1)), .mk (some (28, true)) (some 30) (.load none (.tmp 29)), .mk (some (28, true)) (some 31) (.call 70 [.tmp 30]), .mk none (some 32) (.pick (.tmp 28) (.tmp 31) (.const (.bool false))), .mk none (some 33) (.mv (.tmp 32)), .mk (some (33, true)) (some 34) (.fieldA 2 (.tmp 1)), .mk (some (33, true)) (some 35) (.load none (.tmp 34)), .mk (some (33, true)) (some 36) (.call 53 [.tmp 35]), .mk none (some 37) (.pick (.tmp 33) (.tmp 36) (.const (.bool false))), .mk none (some 2) (.mv (.tmp 37))] (some [2])) .ret)))
theorem ok_zkdrf : compC Tryz.prog an_zkdrf (Tryz.f41.body.getD .skip) = some ac_zkdrf := by kernel_rfl
theorem dst_zkdrf : ac_zkdrf.dstOK Tryz.f41.ntmps (fun i => decide (i < Tryz.f41.ntmps)) = true := by kernel_rfl

def an_zhbvt : Ann := ⟨[(0, [2, 3]), (1, [2, 3, 5]), (2, [4]), (3, [2, 3, 25]), (4, [4]), (5, [2, 3, 48]), (6, [4]), (7, [4])], [], []⟩
def ac_zhbvt : AC := (.seq (.region [.mk none (some 2) (.box 33 (.tmp 0)), .mk none (some 3) (.box 33 (.tmp 1)), .mk none (some 4) (.mv (.const (.bool false)))] (some [2, 3])) (.seq (.block 0 (.seq (.region [.mk none (some 6) (.fieldA 0 (.tmp 2)), .mk none (some 7) (.load (some 3) (.tmp 6)), .mk none (some 8) (.fieldA 0 (.tmp 3)), .mk none (some 9) (.load (some 3) (.tmp 8)), .mk none (some 10) (.eqs true [.int, .str, .str] (.tmp 7) (.tmp 9)), .mk none (some 11) (.mv (.tmp 10)), .mk (some (11, false)) (some 12) (.fieldA 3 (.tmp 2)), .mk (some (11, false)) (some 13) (.load none (.tmp 12)), .mk (some (11, false)) (some 14) (.fieldA 3 (.tmp 3)), .mk (some (11, false)) (some 15) (.load none (.tmp 14)), .mk (some (11, false)) (some 16) (.binB true (.tmp 13) (.tmp 15)), .mk none (some 17) (.pick (.tmp 11) (.const (.bool true)) (.tmp 16)), .mk none (some 18) (.mv (.tmp 17)), .mk (some (18, false)) (some 19) (.fieldA 6 (.tmp 2)), .mk (some (18, false)) (some 20) (.load none (.tmp 19)), .mk (some (18, false)) (some 21) (.fieldA 6 (.tmp 3)), .mk (some (18, false)) (some 22) (.load none (.tmp 21)), .mk (some (18, false)) (some 23) (.bin .neq (.tmp 20) (.tmp 22)), .mk none (some 24) (.pick (.tmp 18) (.const (.bool true)) (.tmp 23)), .mk none (some 5) (.mv (.tmp 24))] (some [2, 3, 5])) (.cond (.tmp 5) (.seq (.region [.mk none (some 4) (.mv (.const (.bool false)))] (some [4])) .ret) (.seq (.region [.mk none (some 26) (.fieldA 4 (.tmp 2)), .mk none (some 27) (.load none (.tmp 26)), .mk none (some 28) (.fieldA 4 (.tmp 3)), .mk none (some 29) (.load none (.tmp 28)), .mk none (some 30) (.call 73 [.tmp 27, .tmp 29]), .mk none (some 31) (.un .not (.tmp 30)), .mk none (some 32) (.mv (.tmp 31)), .mk (some (32, false)) (some 33) (.fieldA 5 (.tmp 2)), .mk (some (32, false)) (some 34) (.load none (.tmp 33)), .mk (some (32, false)) (some 35) (.fieldA 5 (.tmp 3)), .mk (some (32, false)) (some 36) (.load none (.tmp 35)), .mk (some (32, false)) (some 37) (.call 74 [.tmp 34, .tmp 36]), .mk (some (32, false)) (some 38) (.un .not (.tmp 37)), .mk none (some 39) (.pick (.tmp 32) (.const (.bool true)) (.tmp 38)), .mk none (some 40) (.mv (.tmp 39)), .mk (some (40, false)) (some 41) (.fieldA 9 (.tmp 2)), .mk (some (40, false)) (some 42) (.load none (.tmp 41)), .mk (some (40, false)) (some 43) (.fieldA 9 (.tmp 3)), .mk (some (40, false)) (some 44) (.load none (.tmp 43)), .mk (some (40, false)) (some 45) (.call 75 [.tmp 42, .tmp 44]), .mk (some (40, false)) (some 46) (.un .not (.tmp 45)), .mk none (some 47) (.pick (.tmp 40) (.const (.bool true)) (.tmp 46)), .mk none (some 25) (.mv (.tmp 47))] (some [2, 3, 25])) (.cond (.tmp 25) (.seq (.region [.mk none (some 4) (.mv (.const (.bool false)))] (some [4])) .ret) (.seq (.region [.mk none (some 49) (.fieldA 8 (.tmp 2)), .mk none (some 50) (.load none (.tmp 49)), .mk none (some 51) (.fieldA 8 (.tmp 3)), .mk none (some 52) (.load none (.tmp 51)), .mk none (some 53) (.call 76 [.tmp 50, .tmp 52]), .mk none (some 54) (.un .not (.tmp 53)), .mk none (some 55) (.mv (.tmp 54)), .mk (some (55, false)) (some 56) (.fieldA 11 (.tmp 2)), .mk (some (55, false)) (some 57) (.load none (.tmp 56)), .mk (some (55, false)) (some 58) (.fieldA 11 (.tmp 3)), .mk (some (55, false)) (some 59) (.load none (.tmp 58)), .mk (some (55, false)) (some 60) (.call 77 [.tmp 57, .tmp 59]), .mk (some (55, false)) (some 61) (.un .not (.tmp 60)), .mk none (some 62) (.pick (.tmp 55) (.const (.bool true)) (.tmp 61)), .mk none (some 63) (.mv (.tmp 62)), .mk (some (63, false)) (some 64) (.fieldA 12 (.tmp 2)), .mk (some (63, false)) (some 65) (.load none (.tmp 64)), .mk (some (63, false)) (some 66) (.fieldA 12 (.tmp 3)), .mk (some (63, false)) (some 67) (.load none (.tmp 66)), .mk (some (63, false)) (some 68) (.call 77 [.tmp 65, .tmp 67]), .mk (some (63, false)) (some 69) (.un .not (.tmp 68)), .mk none (some 70) (.pick (.tmp 63) (.const (.bool true)) (.tmp 69)), .mk none (some 48) (.mv (.tmp 70))] (some [2, 3, 48])) (.cond (.tmp 48) (.seq (.region [.mk none (some 4) (.mv (.const (.bool false)))] (some [4])) .ret) .skip))))))) (.seq (.region [.mk none (some 71) (.fieldA 7 (.tmp 2)), .mk none (some 72) (.load none (.tmp 71)), .mk none (some 73) (.fieldA 7 (.tmp 3)), .mk none (some 74) (.load none (.tmp 73)), .mk none (some 75) (.call 78 [.tmp 72, .tmp 74, .func 79]), .mk none (some 76) (.mv (.tmp 75)), .mk (some (76, true)) (some 77) (.fieldA 10 (.tmp 2)), .mk (some (76, true)) (some 78) (.load none (.tmp 77)), .mk (some (76, true)) (some 79) (.fieldA 10 (.tmp 3)), .mk (some (76, true)) (some 80) (.load none (.tmp 79)), .mk (some (76, true)) (some 81) (.call 80 [.tmp 78, .tmp 80, .func 81]), .mk none (some 82) (.pick (.tmp 76) (.tmp 81) (.const (.bool false))), .mk none (some 4) (.mv (.tmp 82))] (some [4])) .ret)))
theorem ok_zhbvt : compC Tryz.prog an_zhbvt (Tryz.f42.body.getD .skip) = some ac_zhbvt := by kernel_rfl
theorem dst_zhbvt : ac_zhbvt.dstOK Tryz.f42.ntmps (fun i => decide (i < Tryz.f42.ntmps)) = true := by kernel_rfl

def an_z4wyn : Ann := ⟨[(0, [1, 2, 3]), (1, [4])], [], []⟩
def ac_z4wyn : AC := (.seq (.region [.mk none (some 3) (.box 82 (.tmp 0)), .mk none (some 4) (.mv (.const (.bool false)))] (some [1, 2, 3])) (.seq (.region [.mk none (some 5) (.fieldA 0 (.tmp 3)), .mk none (some 6) (.load none (.tmp 5)), .mk none (some 7) (.load none (.tmp 1)), .mk none (some 8) (.bin .eql (.tmp 6) (.tmp 7)), .mk none (some 9) (.mv (.tmp 8)), .mk (some (9, true)) (some 10) (.fieldA 1 (.tmp 3)), .mk (some (9, true)) (some 11) (.load none (.tmp 10)), .mk (some (9, true)) (some 12) (.load none (.tmp 2)), .mk (some (9, true)) (some 13) (.bin .eql (.tmp 11) (.tmp 12)), .mk none (some 14) (.pick (.tmp 9) (.tmp 13) (.const (.bool false))), .mk none (some 4) (.mv (.tmp 14))] (some [4])) .ret))
theorem ok_z4wyn : compC Tryz.prog an_z4wyn (Tryz.f43.body.getD .skip) = some ac_z4wyn := by kernel_rfl
theorem dst_z4wyn : ac_z4wyn.dstOK Tryz.f43.ntmps (fun i => decide (i < Tryz.f43.ntmps)) = true := by kernel_rfl

def an_z3e5h : Ann := ⟨[(0, [1, 2]), (1, [3])], [], []⟩
def ac_z3e5h : AC := (.seq (.region [.mk none (some 2) (.box 82 (.tmp 0)), .mk none (some 3) (.mv (.const (.bool false)))] (some [1, 2])) (.seq (.region [.mk none (some 4) (.fieldA 0 (.tmp 2)), .mk none (some 5) (.load none (.tmp 4)), .mk none (some 6) (.fieldA 0 (.tmp 1)), .mk none (some 7) (.load none (.tmp 6)), .mk none (some 8) (.bin .eql (.tmp 5) (.tmp 7)), .mk none (some 9) (.mv (.tmp 8)), .mk (some (9, true)) (some 10) (.fieldA 2 (.tmp 2)), .mk (some (9, true)) (some 11) (.load none (.tmp 10)), .mk (some (9, true)) (some 12) (.bin .eql (.tmp 11) (.const (.string ⟨#[]⟩))), .mk (some (9, true)) (some 13) (.mv (.tmp 12)), .mk (some (13, false)) (some 14) (.fieldA 2 (.tmp 2)), .mk (some (13, false)) (some 15) (.load none (.tmp 14)), .mk (some (13, false)) (some 16) (.fieldA 2 (.tmp 1)), .mk (some (13, false)) (some 17) (.load none (.tmp 16)), .mk (some (13, false)) (some 18) (.bin .eql (.tmp 15) (.tmp 17)), .mk (some (9, true)) (some 19) (.pick (.tmp 13) (.const (.bool true)) (.tmp 18)), .mk none (some 20) (.pick (.tmp 9) (.tmp 19) (.const (.bool false))), .mk none (some 3) (.mv (.tmp 20))] (some [3])) .ret))
theorem ok_z3e5h : compC Tryz.prog an_z3e5h (Tryz.f44.body.getD .skip) = some ac_z3e5h := by kernel_rfl
theorem dst_z3e5h : ac_z3e5h.dstOK Tryz.f44.ntmps (fun i => decide (i < Tryz.f44.ntmps)) = true := by kernel_rfl

def an_znt9b : Ann := ⟨[(0, [0]), (1, [2])], [], []⟩
def ac_znt9b : AC := (.seq (.region [.mk none (some 2) (.mv (.const (.bool false)))] (some [0])) (.seq (.region [.mk none (some 3) (.mv (.tmp 0)), .mk none (some 4) (.bin .geq (.tmp 3) (.const (.int .i64 1))), .mk none (some 5) (.mv (.tmp 4)), .mk (some (5, true)) (some 6) (.mv (.tmp 0)), .mk (some (5, true)) (some 7) (.bin .leq (.tmp 6) (.const (.int .i64 65535))), .mk none (some 8) (.pick (.tmp 5) (.tmp 7) (.const (.bool false))), .mk none (some 2) (.mv (.tmp 8))] (some [2])) .ret))
theorem ok_znt9b : compC Tryz.prog an_znt9b (Tryz.f48.body.getD .skip) = some ac_znt9b := by kernel_rfl
theorem dst_znt9b : ac_znt9b.dstOK Tryz.f48.ntmps (fun i => decide (i < Tryz.f48.ntmps)) = true := by kernel_rfl

def an_zwdgh : Ann := ⟨[(0, [0, 1]), (1, [4])], [], []⟩
def ac_zwdgh : AC := (.seq (.region [.mk none (some 4) (.mv (.const (.bool false)))] (some [0, 1])) (.seq (.region [.mk none (some 5) (.mv (.tmp 0)), .mk none (some 6) (.mv (.tmp 1)), .mk none (some 7) (.bin .eql (.tmp 5) (.tmp 6)), .mk none (some 4) (.mv (.tmp 7))] (some [4])) .ret))
theorem ok_zwdgh : compC Tryz.prog an_zwdgh (Tryz.f51.body.getD .skip) = some ac_zwdgh := by kernel_rfl
theorem dst_zwdgh : ac_zwdgh.dstOK Tryz.f51.ntmps (fun i => decide (i < Tryz.f51.ntmps)) = true := by kernel_rfl

def an_zpej9 : Ann := ⟨[(0, [2, 3]), (1, [4])], [], []⟩
def ac_zpej9 : AC := (.seq (.region [.mk none (some 2) (.box 49 (.tmp 0)), .mk none (some 3) (.box 49 (.tmp 1)), .mk none (some 4) (.mv (.const (.bool false)))] (some [2, 3])) (.seq (.region [.mk none (some 5) (.fieldA 0 (.tmp 2)), .mk none (some 6) (.load none (.tmp 5)), .mk none (some 7) (.fieldA 0 (.tmp 3)), .mk none (some 8) (.load none (.tmp 7)), .mk none (some 9) (.bin .eql (.tmp 6) (.tmp 8)), .mk none (some 4) (.mv (.tmp 9))] (some [4])) .ret))
theorem ok_zpej9 : compC Tryz.prog an_zpej9 (Tryz.f52.body.getD .skip) = some ac_zpej9 := by kernel_rfl
theorem dst_zpej9 : ac_zpej9.dstOK Tryz.f52.ntmps (fun i => decide (i < Tryz.f52.ntmps)) = true := by kernel_rfl

def an_z5xl6 : Ann := ⟨[(0, [1]), (1, [1, 3]), (2, [1, 3, 9]), (3, [1, 3]), (4, [2])], [], []⟩
def ac_z5xl6 : AC := (.seq (.region [.mk none (some 1) (.box 49 (.tmp 0)), .mk none (some 2) (.mv (.const (.bool false)))] (some [1])) (.seq (.region [.mk none (some 4) (.fieldA 4 (.tmp 1)), .mk none (some 5) (.load (some 3) (.tmp 4)), .mk none (some 6) (.build [.pd (.raw (.int .i64 0)), .pd (.raw (.string ⟨#[]⟩)), .pd (.raw (.string ⟨#[]⟩))] []), .mk none (some 7) (.eqs false [.int, .str, .str] (.tmp 5) (.tmp 6)), .mk none (some 3) (.mv (.tmp 7))] (some [1, 3])) (.seq (.seq (.region [.mk none (some 8) (.fieldA 2 (.tmp 1)), .mk none (some 9) (.load none (.tmp 8))] (some [1, 3, 9])) (.cond (.tmp 9) (.region [.mk none (some 10) (.fieldA 4 (.tmp 1)), .mk none (some 11) (.fieldA 0 (.tmp 10)), .mk none (some 12) (.load none (.tmp 11)), .mk none (some 13) (.bin .eql (.tmp 12) (.const (.int .i64 4))), .mk none (some 14) (.mv (.tmp 13)), .mk (some (14, true)) (some 15) (.fieldA 4 (.tmp 1)), .mk (some (14, true)) (some 16) (.fieldA 1 (.tmp 15)), .mk (some (14, true)) (some 17) (.load none (.tmp 16)), .mk (some (14, true)) (some 18) (.call 91 [.tmp 17]), .mk none (some 19) (.pick (.tmp 14) (.tmp 18) (.const (.bool false))), .mk none (some 20) (.mv (.tmp 19)), .mk (some (20, true)) (some 21) (.fieldA 4 (.tmp 1)), .mk (some (20, true)) (some 22) (.fieldA 2 (.tmp 21)), .mk (some (20, true)) (some 23) (.load none (.tmp 22)), .mk (some (20, true)) (some 24) (.call 53 [.tmp 23]), .mk none (some 25) (.pick (.tmp 20) (.tmp 24) (.const (.bool false))), .mk none (some 3) (.mv (.tmp 25))] (some [1, 3])) .skip)) (.seq (.region [.mk none (some 26) (.mv (.tmp 3)), .mk none (some 27) (.mv (.tmp 26)), .mk (some (27, true)) (some 28) (.fieldA 0 (.tmp 1)), .mk (some (27, true)) (some 29) (.load none (.tmp 28)), .mk (some (27, true)) (some 30) (.call 70 [.tmp 29]), .mk none (some 31) (.pick (.tmp 27) (.tmp 30) (.const (.bool false))), .mk none (some 32) (.mv (.tmp 31)), .mk (some (32, true)) (some 33) (.fieldA 1 (.tmp 1)), .mk (some (32, true)) (some 34) (.load none (.tmp 33)), .mk (some (32, true)) (some 35) (.call 48 [.tmp 34]), .mk none (some 36) (.pick (.tmp 32) (.tmp 35) (.const (.bool false))), .mk none (some 37) (.mv (.tmp 36)), .mk (some (37, true)) (some 38) (.fieldA 3 (.tmp 1)), .mk (some (37, true)) (some 39) (.load none (.tmp 38)), .mk (some (37, true)) (some 40) (.call 62 [.tmp 39]), .mk none (some 41) (.pick (.tmp 37) (.tmp 40) (.const (.bool false))), .mk none (some 42) (.mv (.tmp 41)), .mk (some (42, true)) (some 43) (.fieldA 7 (.tmp 1)), .mk (some (42, true)) (some 44) (.load none (.tmp 43)), .mk (some (42, true)) (some 45) (.bin .geq (.tmp 44) (.const (.int .i64 0))), .mk none (some 46) (.pick (.tmp 42) (.tmp 45) (.const (.bool false))), .mk none (some 47) (.mv (.tmp 46)), .mk (some (47, true)) (some 48) (.fieldA 7 (.tmp 1)), .mk (some (47, true)) (some 49) (.load none (.tmp 48)), .mk (some (47, true)) (some 50) (.bin .leq (.tmp 49) (.const (.int .i64 2))), .mk none (some 51) (.pick (.tmp 47) (.tmp 50) (.const (.bool false))), .mk none (some 52) (.mv (.tmp 51)), .mk (some (52, true)) (some 53) (.fieldA 8 (.tmp 1)), .mk (some (52, true)) (some 54) (.load none (.tmp 53)), .mk (some (52, true)) (some 55) (.call 92 [.tmp 54]), .mk none (some 56) (.pick (.tmp 52) (.tmp 55) (.const (.bool false))), .mk none (some 57) (.mv (.tmp 56)), .mk (some (57, true)) (some 58) (.fieldA 7 (.tmp 1)), .mk (some (57, true)) (some 59) (.load none (.tmp 58)), .mk (some (57, true)) (some 60) (.bin .eql (.tmp 59) (.const (.int .i64 2))), .mk (some (57, true)) (some 61) (.mv (.tmp 60)), .mk (some (61, false)) (some 62) (.fieldA 8 (.tmp 1)), .mk (some (61, false)) (some 63) (.load none (.tmp 62)), .mk (some (61, false)) (some 64) (.len (.tmp 63) false), .mk (some (61, false)) (some 65) (.bin .eql (.tmp 64) (.const (.int .i64 0))), .mk (some (57, true)) (some 66) (.pick (.tmp 61) (.const (.bool true)) (.tmp 65)), .mk none (some 67) (.pick (.tmp 57) (.tmp 66) (.const (.bool false))), .mk none (some 2) (.mv (.tmp 67))] (some [2])) .ret))))
theorem ok_z5xl6 : compC Tryz.prog an_z5xl6 (Tryz.f55.body.getD .skip) = some ac_z5xl6 := by kernel_rfl
theorem dst_z5xl6 : ac_z5xl6.dstOK Tryz.f55.ntmps (fun i => decide (i < Tryz.f55.ntmps)) = true := by kernel_rfl

def an_zh5vi : Ann := ⟨[(0, [2, 3]), (1, [4])], [], []⟩
def ac_zh5vi : AC := (.seq (.region [.mk none (some 2) (.box 52 (.tmp 0)), .mk none (some 3) (.box 52 (.tmp 1)), .mk none (some 4) (.mv (.const (.bool false)))] (some [2, 3])) (.seq (.region [.mk none (some 5) (.load (some 4) (.tmp 2)), .mk none (some 6) (.load (some 4) (.tmp 3)), .mk none (some 7) (.eqs false [.str, .str, .str, .int] (.tmp 5) (.tmp 6)), .mk none (some 4) (.mv (.tmp 7))] (some [4])) .ret))
theorem ok_zh5vi : compC Tryz.prog an_zh5vi (Tryz.f58.body.getD .skip) = some ac_zh5vi := by kernel_rfl
theorem dst_zh5vi : ac_zh5vi.dstOK Tryz.f58.ntmps (fun i => decide (i < Tryz.f58.ntmps)) = true := by kernel_rfl

def an_zkpqc : Ann := ⟨[(0, [0, 1]), (1, [4])], [], []⟩
def ac_zkpqc : AC := (.seq (.region [.mk none (some 4) (.mv (.const (.bool false)))] (some [0, 1])) (.seq (.region [.mk none (some 5) (.mv (.tmp 0)), .mk none (some 6) (.mv (.tmp 1)), .mk none (some 7) (.bin .eql (.tmp 5) (.tmp 6)), .mk none (some 4) (.mv (.tmp 7))] (some [4])) .ret))
theorem ok_zkpqc : compC Tryz.prog an_zkpqc (Tryz.f60.body.getD .skip) = some ac_zkpqc := by kernel_rfl
theorem dst_zkpqc : ac_zkpqc.dstOK Tryz.f60.ntmps (fun i => decide (i < Tryz.f60.ntmps)) = true := by kernel_rfl

def an_z4pg2 : Ann := ⟨[(0, [0]), (1, [2])], [], []⟩
def ac_z4pg2 : AC := (.seq (.region [.mk none (some 2) (.mv (.const (.bool false)))] (some [0])) (.seq (.region [.mk none (some 3) (.mv (.tmp 0)), .mk none (some 4) (.bin .neq (.tmp 3) (.const (.string ⟨#[]⟩))), .mk none (some 5) (.mv (.tmp 4)), .mk (some (5, true)) (some 6) (.mv (.tmp 0)), .mk (some (5, true)) (some 7) (.call 62 [.tmp 6]), .mk none (some 8) (.pick (.tmp 5) (.tmp 7) (.const (.bool false))), .mk none (some 2) (.mv (.tmp 8))] (some [2])) .ret))
theorem ok_z4pg2 : compC Tryz.prog an_z4pg2 (Tryz.f61.body.getD .skip) = some ac_z4pg2 := by kernel_rfl
theorem dst_z4pg2 : ac_z4pg2.dstOK Tryz.f61.ntmps (fun i => decide (i < Tryz.f61.ntmps)) = true := by kernel_rfl

def an_za0y7 : Ann := ⟨[(0, [1]), (1, [2])], [], []⟩
def ac_za0y7 : AC := (.seq (.region [.mk none (some 1) (.box 52 (.tmp 0)), .mk none (some 2) (.mv (.const (.bool false)))] (some [1])) (.seq (.region [.mk none (some 3) (.fieldA 0 (.tmp 1)), .mk none (some 4) (.load none (.tmp 3)), .mk none (some 5) (.call 91 [.tmp 4]), .mk none (some 6) (.mv (.tmp 5)), .mk (some (6, true)) (some 7) (.fieldA 1 (.tmp 1)), .mk (some (6, true)) (some 8) (.load none (.tmp 7)), .mk (some (6, true)) (some 9) (.call 53 [.tmp 8]), .mk none (some 10) (.pick (.tmp 6) (.tmp 9) (.const (.bool false))), .mk none (some 11) (.mv (.tmp 10)), .mk (some (11, true)) (some 12) (.fieldA 2 (.tmp 1)), .mk (some (11, true)) (some 13) (.load none (.tmp 12)), .mk (some (11, true)) (some 14) (.call 91 [.tmp 13]), .mk none (some 15) (.pick (.tmp 11) (.tmp 14) (.const (.bool false))), .mk none (some 16) (.mv (.tmp 15)), .mk (some (16, true)) (some 17) (.fieldA 3 (.tmp 1)), .mk (some (16, true)) (some 18) (.load none (.tmp 17)), .mk (some (16, true)) (some 19) (.bin .eql (.tmp 18) (.const (.int .i64 0))), .mk (some (16, true)) (some 20) (.mv (.tmp 19)), .mk (some (20, false)) (some 21) (.fieldA 3 (.tmp 1)), .mk (some (20, false)) (some 22) (.load none (.tmp 21)), .mk (some (20, false)) (some 23) (.call 48 [.tmp 22]), .mk (some (16, true)) (some 24) (.pick (.tmp 20) (.const (.bool true)) (.tmp 23)), .mk none (some 25) (.pick (.tmp 16) (.tmp 24) (.const (.bool false))), .mk none (some 2) (.mv (.tmp 25))] (some [2])) .ret))
theorem ok_za0y7 : compC Tryz.prog an_za0y7 (Tryz.f64.body.getD .skip) = some ac_za0y7 := by kernel_rfl
theorem dst_za0y7 : ac_za0y7.dstOK Tryz.f64.ntmps (fun i => decide (i < Tryz.f64.ntmps)) = true := by kernel_rfl

def an_zjms9 : Ann := ⟨[(0, [1]), (1, [2])], [], []⟩
def ac_zjms9 : AC := (.seq (.region [.mk none (some 1) (.box 58 (.tmp 0)), .mk none (some 2) (.mv (.const (.bool false)))] (some [1])) (.seq (.region [.mk none (some 3) (.fieldA 0 (.tmp 1)), .mk none (some 4) (.load none (.tmp 3)), .mk none (some 5) (.call 103 [.tmp 4, .const (.int .i64 4), .func 104]), .mk none (some 6) (.mv (.tmp 5)), .mk (some (6, true)) (some 7) (.fieldA 1 (.tmp 1)), .mk (some (6, true)) (some 8) (.load none (.tmp 7)), .mk (some (6, true)) (some 9) (.call 105 [.tmp 8]), .mk none (some 10) (.pick (.tmp 6) (.tmp 9) (.const (.bool false))), .mk none (some 11) (.mv (.tmp 10)), .mk (some (11, true)) (some 12) (.fieldA 2 (.tmp 1)), .mk (some (11, true)) (some 13) (.load none (.tmp 12)), .mk (some (11, true)) (some 14) (.call 106 [.tmp 13, .const (.int .i64 4), .func 107]), .mk none (some 15) (.pick (.tmp 11) (.tmp 14) (.const (.bool false))), .mk none (some 2) (.mv (.tmp 15))] (some [2])) .ret))
theorem ok_zjms9 : compC Tryz.prog an_zjms9 (Tryz.f67.body.getD .skip) = some ac_zjms9 := by kernel_rfl
theorem dst_zjms9 : ac_zjms9.dstOK Tryz.f67.ntmps (fun i => decide (i < Tryz.f67.ntmps)) = true := by kernel_rfl

def an_z9wz0 : Ann := ⟨[(0, [1]), (1, [2])], [], []⟩
def ac_z9wz0 : AC := (.seq (.region [.mk none (some 1) (.box 82 (.tmp 0)), .mk none (some 2) (.mv (.const (.bool false)))] (some [1])) (.seq (.region [.mk none (some 3) (.fieldA 0 (.tmp 1)), .mk none (some 4) (.load none (.tmp 3)), .mk none (some 5) (.call 69 [.tmp 4]), .mk none (some 6) (.mv (.tmp 5)), .mk (some (6, true)) (some 7) (.fieldA 1 (.tmp 1)), .mk (some (6, true)) (some 8) (.load none (.tmp 7)), .mk (some (6, true)) (some 9) (.call 70 [.tmp 8]), .mk none (some 10) (.pick (.tmp 6) (.tmp 9) (.const (.bool false))), .mk none (some 11) (.mv (.tmp 10)), .mk (some (11, true)) (some 12) (.fieldA 2 (.tmp 1)), .mk (some (11, true)) (some 13) (.load none (.tmp 12)), .mk (some (11, true)) (some 14) (.bin .eql (.tmp 13) (.const (.string ⟨#[]⟩))), .mk none (some 15) (.pick (.tmp 11) (.tmp 14) (.const (.bool false))), .mk none (some 2) (.mv (.tmp 15))] (some [2])) .ret))
theorem ok_z9wz0 : compC Tryz.prog an_z9wz0 (Tryz.f68.body.getD .skip) = some ac_z9wz0 := by kernel_rfl
theorem dst_z9wz0 : ac_z9wz0.dstOK Tryz.f68.ntmps (fun i => decide (i < Tryz.f68.ntmps)) = true := by kernel_rfl

def an_zavnu : Ann := ⟨[(0, [0]), (1, [2])], [], []⟩
def ac_zavnu : AC := (.seq (.region [.mk none (some 2) (.mv (.const (.bool false)))] (some [0])) (.seq (.region [.mk none (some 3) (.mv (.tmp 0)), .mk none (some 4) (.bin .geq (.tmp 3) (.const (.int .i64 1))), .mk none (some 5) (.mv (.tmp 4)), .mk (some (5, true)) (some 6) (.mv (.tmp 0)), .mk (some (5, true)) (some 7) (.bin .leq (.tmp 6) (.const (.int .i64 7))), .mk none (some 8) (.pick (.tmp 5) (.tmp 7) (.const (.bool false))), .mk none (some 2) (.mv (.tmp 8))] (some [2])) .ret))
theorem ok_zavnu : compC Tryz.prog an_zavnu (Tryz.f69.body.getD .skip) = some ac_zavnu := by kernel_rfl
theorem dst_zavnu : ac_zavnu.dstOK Tryz.f69.ntmps (fun i => decide (i < Tryz.f69.ntmps)) = true := by kernel_rfl

def an_z4xw6 : Ann := ⟨[(0, [1]), (1, [2])], [], []⟩
def ac_z4xw6 : AC := (.seq (.region [.mk none (some 1) (.box 82 (.tmp 0)), .mk none (some 2) (.mv (.const (.bool false)))] (some [1])) (.seq (.region [.mk none (some 3) (.fieldA 0 (.tmp 1)), .mk none (some 4) (.load none (.tmp 3)), .mk none (some 5) (.call 69 [.tmp 4]), .mk none (some 6) (.mv (.tmp 5)), .mk (some (6, true)) (some 7) (.fieldA 1 (.tmp 1)), .mk (some (6, true)) (some 8) (.load none (.tmp 7)), .mk (some (6, true)) (some 9) (.bin .eql (.tmp 8) (.const (.string ⟨#[]⟩))), .mk none (some 10) (.pick (.tmp 6) (.tmp 9) (.const (.bool false))), .mk none (some 11) (.mv (.tmp 10)), .mk (some (11, true)) (some 12) (.fieldA 2 (.tmp 1)), .mk (some (11, true)) (some 13) (.load none (.tmp 12)), .mk (some (11, true)) (some 14) (.bin .eql (.tmp 13) (.const (.string ⟨#[]⟩))), .mk (some (11, true)) (some 15) (.mv (.tmp 14)), .mk (some (15, false)) (some 16) (.fieldA 2 (.tmp 1)), .mk (some (15, false)) (some 17) (.load none (.tmp 16)), .mk (some (15, false)) (some 18) (.call 53 [.tmp 17]), .mk (some (11, true)) (some 19) (.pick (.tmp 15) (.const (.bool true)) (.tmp 18)), .mk none (some 20) (.pick (.tmp 11) (.tmp 19) (.const (.bool false))), .mk none (some 2) (.mv (.tmp 20))] (some [2])) .ret))
theorem ok_z4xw6 : compC Tryz.prog an_z4xw6 (Tryz.f71.body.getD .skip) = some ac_z4xw6 := by kernel_rfl
theorem dst_z4xw6 : ac_z4xw6.dstOK Tryz.f71.ntmps (fun i => decide (i < Tryz.f71.ntmps)) = true := by kernel_rfl

def an_z1fwi : Ann := ⟨[(0, [2, 3]), (1, [4])], [], []⟩
def ac_z1fwi : AC := (.seq (.region [.mk none (some 2) (.box 49 (.tmp 0)), .mk none (some 3) (.box 49 (.tmp 1)), .mk none (some 4) (.mv (.const (.bool false)))] (some [2, 3])) (.seq (.region [.mk none (some 5) (.fieldA 0 (.tmp 2)), .mk none (some 6) (.load none (.tmp 5)), .mk none (some 7) (.fieldA 0 (.tmp 3)), .mk none (some 8) (.load none (.tmp 7)), .mk none (some 9) (.bin .eql (.tmp 6) (.tmp 8)), .mk none (some 10) (.mv (.tmp 9)), .mk (some (10, true)) (some 11) (.fieldA 1 (.tmp 2)), .mk (some (10, true)) (some 12) (.load none (.tmp 11)), .mk (some (10, true)) (some 13) (.fieldA 1 (.tmp 3)), .mk (some (10, true)) (some 14) (.load none (.tmp 13)), .mk (some (10, true)) (some 15) (.bin .eql (.tmp 12) (.tmp 14)), .mk none (some 16) (.pick (.tmp 10) (.tmp 15) (.const (.bool false))), .mk none (some 17) (.mv (.tmp 16)), .mk (some (17, true)) (some 18) (.fieldA 2 (.tmp 2)), .mk (some (17, true)) (some 19) (.load none (.tmp 18)), .mk (some (17, true)) (some 20) (.fieldA 2 (.tmp 3)), .mk (some (17, true)) (some 21) (.load none (.tmp 20)), .mk (some (17, true)) (some 22) (.binB false (.tmp 19) (.tmp 21)), .mk none (some 23) (.pick (.tmp 17) (.tmp 22) (.const (.bool false))), .mk none (some 24) (.mv (.tmp 23)), .mk (some (24, true)) (some 25) (.fieldA 3 (.tmp 2)), .mk (some (24, true)) (some 26) (.load none (.tmp 25)), .mk (some (24, true)) (some 27) (.fieldA 3 (.tmp 3)), .mk (some (24, true)) (some 28) (.load none (.tmp 27)), .mk (some (24, true)) (some 29) (.bin .eql (.tmp 26) (.tmp 28)), .mk none (some 30) (.pick (.tmp 24) (.tmp 29) (.const (.bool false))), .mk none (some 31) (.mv (.tmp 30)), .mk (some (31, true)) (some 32) (.fieldA 4 (.tmp 2)), .mk (some (31, true)) (some 33) (.load (some 3) (.tmp 32)), .mk (some (31, true)) (some 34) (.fieldA 4 (.tmp 3)), .mk (some (31, true)) (some 35) (.load (some 3) (.tmp 34)), .mk (some (31, true)) (some 36) (.eqs false [.int, .str, .str] (.tmp 33) (.tmp 35)), .mk none (some 37) (.pick (.tmp 31) (.tmp 36) (.const (.bool false))), .mk none (some 38) (.mv (.tmp 37)), .mk (some (38, true)) (some 39) (.fieldA 7 (.tmp 2)), .mk (some (38, true)) (some 40) (.load none (.tmp 39)), .mk (some (38, true)) (some 41) (.fieldA 7 (.tmp 3)), .mk (some (38, true)) (some 42) (.load none (.tmp 41)), .mk (some (38, true)) (some 43) (.bin .eql (.tmp 40) (.tmp 42)), .mk none (some 44) (.pick (.tmp 38) (.tmp 43) (.const (.bool false))), .mk none (some 45) (.mv (.tmp 44)), .mk (some (45, true)) (some 46) (.fieldA 8 (.tmp 2)), .mk (some (45, true)) (some 47) (.load none (.tmp 46)), .mk (some (45, true)) (some 48) (.fieldA 8 (.tmp 3)), .mk (some (45, true)) (some 49) (.load none (.tmp 48)), .mk (some (45, true)) (some 50) (.call 112 [.tmp 47, .tmp 49]), .mk none (some 51) (.pick (.tmp 45) (.tmp 50) (.const (.bool false))), .mk none (some 4) (.mv (.tmp 51))] (some [4])) .ret))
theorem ok_z1fwi : compC Tryz.prog an_z1fwi (Tryz.f79.body.getD .skip) = some ac_z1fwi := by kernel_rfl
theorem dst_z1fwi : ac_z1fwi.dstOK Tryz.f79.ntmps (fun i => decide (i < Tryz.f79.ntmps)) = true := by kernel_rfl

def an_z30xg : Ann := ⟨[(0, [2, 3]), (1, [4])], [], []⟩
def ac_z30xg : AC := (.seq (.region [.mk none (some 2) (.box 58 (.tmp 0)), .mk none (some 3) (.box 58 (.tmp 1)), .mk none (some 4) (.mv (.const (.bool false)))] (some [2, 3])) (.seq (.region [.mk none (some 5) (.fieldA 0 (.tmp 2)), .mk none (some 6) (.load none (.tmp 5)), .mk none (some 7) (.fieldA 0 (.tmp 3)), .mk none (some 8) (.load none (.tmp 7)), .mk none (some 9) (.call 113 [.tmp 6, .tmp 8, .func 114]), .mk none (some 10) (.mv (.tmp 9)), .mk (some (10, true)) (some 11) (.fieldA 1 (.tmp 2)), .mk (some (10, true)) (some 12) (.load none (.tmp 11)), .mk (some (10, true)) (some 13) (.fieldA 1 (.tmp 3)), .mk (some (10, true)) (some 14) (.load none (.tmp 13)), .mk (some (10, true)) (some 15) (.call 115 [.tmp 12, .tmp 14]), .mk none (some 16) (.pick (.tmp 10) (.tmp 15) (.const (.bool false))), .mk none (some 17) (.mv (.tmp 16)), .mk (some (17, true)) (some 18) (.fieldA 2 (.tmp 2)), .mk (some (17, true)) (some 19) (.load none (.tmp 18)), .mk (some (17, true)) (some 20) (.fieldA 2 (.tmp 3)), .mk (some (17, true)) (some 21) (.load none (.tmp 20)), .mk (some (17, true)) (some 22) (.call 116 [.tmp 19, .tmp 21]), .mk none (some 23) (.pick (.tmp 17) (.tmp 22) (.const (.bool false))), .mk none (some 4) (.mv (.tmp 23))] (some [4])) .ret))
theorem ok_z30xg : compC Tryz.prog an_z30xg (Tryz.f81.body.getD .skip) = some ac_z30xg := by kernel_rfl
theorem dst_z30xg : ac_z30xg.dstOK Tryz.f81.ntmps (fun i => decide (i < Tryz.f81.ntmps)) = true := by kernel_rfl

def an_zte1c : Ann := ⟨[(0, [0, 1]), (1, [4])], [], []⟩
def ac_zte1c : AC := (.seq (.region [.mk none (some 4) (.mv (.const (.bool false)))] (some [0, 1])) (.seq (.region [.mk none (some 5) (.mv (.tmp 0)), .mk none (some 6) (.call 118 [.tmp 5]), .mk none (some 7) (.mv (.tmp 6)), .mk (some (7, true)) (some 8) (.mv (.tmp 1)), .mk (some (7, true)) (some 9) (.call 118 [.tmp 8]), .mk (some (7, true)) (some 10) (.un .not (.tmp 9)), .mk none (some 11) (.pick (.tmp 7) (.tmp 10) (.const (.bool false))), .mk none (some 12) (.mv (.tmp 11)), .mk (some (12, false)) (some 13) (.mv (.tmp 0)), .mk (some (12, false)) (some 14) (.mv (.tmp 1)), .mk (some (12, false)) (some 15) (.bin .lss (.tmp 13) (.tmp 14)), .mk none (some 16) (.pick (.tmp 12) (.const (.bool true)) (.tmp 15)), .mk none (some 4) (.mv (.tmp 16))] (some [4])) .ret))
theorem ok_zte1c : compC Tryz.prog an_zte1c (Tryz.f86.body.getD .skip) = some ac_zte1c := by kernel_rfl
theorem dst_zte1c : ac_zte1c.dstOK Tryz.f86.ntmps (fun i => decide (i < Tryz.f86.ntmps)) = true := by kernel_rfl

def an_ztrsy : Ann := ⟨[(0, [0]), (1, [2])], [], []⟩
def ac_ztrsy : AC := (.seq (.region [.mk none (some 2) (.mv (.const (.bool false)))] (some [0])) (.seq (.region [.mk none (some 3) (.mv (.tmp 0)), .mk none (some 4) (.bin .eql (.tmp 3) (.const (.string ⟨#[]⟩))), .mk none (some 5) (.mv (.tmp 4)), .mk (some (5, false)) (some 6) (.mv (.tmp 0)), .mk (some (5, false)) (some 7) (.call 70 [.tmp 6]), .mk none (some 8) (.pick (.tmp 5) (.const (.bool true)) (.tmp 7)), .mk none (some 2) (.mv (.tmp 8))] (some [2])) .ret))
theorem ok_ztrsy : compC Tryz.prog an_ztrsy (Tryz.f91.body.getD .skip) = some ac_ztrsy := by kernel_rfl
theorem dst_ztrsy : ac_ztrsy.dstOK Tryz.f91.ntmps (fun i => decide (i < Tryz.f91.ntmps)) = true := by kernel_rfl

def an_zlask : Ann := ⟨[(0, [0]), (1, [2])], [], []⟩
def ac_zlask : AC := (.seq (.region [.mk none (some 2) (.mv (.const (.bool false)))] (some [0])) (.seq (.region [.mk none (some 3) (.mv (.tmp 0)), .mk none (some 4) (.len (.tmp 3) false), .mk none (some 5) (.bin .leq (.tmp 4) (.const (.int .i64 8))), .mk none (some 6) (.mv (.tmp 5)), .mk (some (6, true)) (some 7) (.mv (.tmp 0)), .mk (some (6, true)) (some 8) (.call 121 [.tmp 7, .func 122]), .mk (some (6, true)) (some 9) (.un .not (.tmp 8)), .mk none (some 10) (.pick (.tmp 6) (.tmp 9) (.const (.bool false))), .mk none (some 2) (.mv (.tmp 10))] (some [2])) .ret))
theorem ok_zlask : compC Tryz.prog an_zlask (Tryz.f92.body.getD .skip) = some ac_zlask := by kernel_rfl
theorem dst_zlask : ac_zlask.dstOK Tryz.f92.ntmps (fun i => decide (i < Tryz.f92.ntmps)) = true := by kernel_rfl

def an_zi87h : Ann := ⟨[(0, [1]), (1, [1, 3]), (2, [1, 3, 4]), (3, [2]), (4, [1, 20]), (5, [2]), (6, [2])], [], []⟩
def ac_zi87h : AC := (.seq (.region [.mk none (some 1) (.box 62 (.tmp 0)), .mk none (some 2) (.mv (.const (.bool false)))] (some [1])) (.seq (.region [.mk none (some 3) (.mv (.func 130))] (some [1, 3])) (.seq (.block 0 (.seq (.region [.mk none (some 5) (.fieldA 0 (.tmp 1)), .mk none (some 6) (.load (some 2) (.tmp 5)), .mk none (some 7) (.call 133 [.tmp 6]), .mk none (some 8) (.un .not (.tmp 7)), .mk none (some 9) (.mv (.tmp 8)), .mk (some (9, false)) (some 10) (.fieldA 2 (.tmp 1)), .mk (some (9, false)) (some 11) (.load none (.tmp 10)), .mk (some (9, false)) (some 12) (.bin .neq (.tmp 11) (.const (.string ⟨#[]⟩))), .mk (some (9, false)) (some 13) (.mv (.tmp 12)), .mk (some (13, true)) (some 14) (.fieldA 2 (.tmp 1)), .mk (some (13, true)) (some 15) (.load none (.tmp 14)), .mk (some (13, true)) (some 16) (.call 134 [.tmp 15]), .mk (some (13, true)) (some 17) (.un .not (.tmp 16)), .mk (some (9, false)) (some 18) (.pick (.tmp 13) (.tmp 17) (.const (.bool false))), .mk none (some 19) (.pick (.tmp 9) (.const (.bool true)) (.tmp 18)), .mk none (some 4) (.mv (.tmp 19))] (some [1, 3, 4])) (.cond (.tmp 4) (.seq (.region [.mk none (some 2) (.mv (.const (.bool false)))] (some [2])) .ret) (.seq (.region [.mk none (some 21) (.fieldA 3 (.tmp 1)), .mk none (some 22) (.load none (.tmp 21)), .mk none (some 23) (.len (.tmp 22) false), .mk none (some 24) (.bin .gtr (.tmp 23) (.const (.int .i64 8))), .mk none (some 25) (.mv (.tmp 24)), .mk (some (25, false)) (some 26) (.fieldA 3 (.tmp 1)), .mk (some (25, false)) (some 27) (.load none (.tmp 26)), .mk (some (25, false)) (some 28) (.mv (.tmp 3)), .mk (some (25, false)) (some 29) (.call 135 [.tmp 27, .tmp 28]), .mk none (some 30) (.pick (.tmp 25) (.const (.bool true)) (.tmp 29)), .mk none (some 31) (.mv (.tmp 30)), .mk (some (31, false)) (some 32) (.fieldA 3 (.tmp 1)), .mk (some (31, false)) (some 33) (.load none (.tmp 32)), .mk (some (31, false)) (some 34) (.call 136 [.tmp 33, .func 137]), .mk none (some 35) (.pick (.tmp 31) (.const (.bool true)) (.tmp 34)), .mk none (some 20) (.mv (.tmp 35))] (some [1, 20])) (.cond (.tmp 20) (.seq (.region [.mk none (some 2) (.mv (.const (.bool false)))] (some [2])) .ret) .skip))))) (.seq (.region [.mk none (some 36) (.fieldA 4 (.tmp 1)), .mk none (some 37) (.load none (.tmp 36)), .mk none (some 38) (.len (.tmp 37) false), .mk none (some 39) (.bin .leq (.tmp 38) (.const (.int .i64 8))), .mk none (some 40) (.mv (.tmp 39)), .mk (some (40, true)) (some 41) (.fieldA 4 (.tmp 1)), .mk (some (40, true)) (some 42) (.load none (.tmp 41)), .mk (some (40, true)) (some 43) (.call 138 [.tmp 42]), .mk none (some 44) (.pick (.tmp 40) (.tmp 43) (.const (.bool false))), .mk none (some 45) (.mv (.tmp 44)), .mk (some (45, true)) (some 46) (.fieldA 4 (.tmp 1)), .mk (some (45, true)) (some 47) (.load none (.tmp 46)), .mk (some (45, true)) (some 48) (.call 136 [.tmp 47, .func 139]), .mk (some (45, true)) (some 49) (.un .not (.tmp 48)), .mk none (some 50) (.pick (.tmp 45) (.tmp 49) (.const (.bool false))), .mk none (some 2) (.mv (.tmp 50))] (some [2])) .ret))))
theorem ok_zi87h : compC Tryz.prog an_zi87h (Tryz.f104.body.getD .skip) = some ac_zi87h := by kernel_rfl
theorem dst_zi87h : ac_zi87h.dstOK Tryz.f104.ntmps (fun i => decide (i < Tryz.f104.ntmps)) = true := by kernel_rfl

def an_zhmnj : Ann := ⟨[(0, [0]), (1, [0, 6, 7, 8]), (2, [0, 6, 7, 8, 9]), (3, [0, 3, 4, 6, 7, 8]), (4, [0, 3, 4, 5, 6, 7, 8]), (5, [0, 6, 7, 8, 23]), (6, [2]), (7, [0, 6, 7, 8]), (8, [2])], [], []⟩
def ac_zhmnj : AC := (.seq (.region [.mk none (some 2) (.mv (.const (.bool false)))] (some [0])) (.seq (.seq (.region [.mk none (some 6) (.mv (.tmp 0)), .mk none (some 7) (.len (.tmp 6) false), .mk none (some 8) (.mv (.const (.int .i64 0)))] (some [0, 6, 7, 8])) (.block 0 (.loop (.seq (.region [.mk none (some 9) (.bin .lss (.tmp 8) (.tmp 7))] (some [0, 6, 7, 8, 9])) (.seq (.cond (.tmp 9) .skip (.exit 0)) (.seq (.block 1 (.seq (.region [.mk none (some 10) (.mv (.tmp 8)), .mk none (some 11) (.idxA 8 (.tmp 6) (.tmp 8)), .mk none (some 12) (.load (some 8) (.tmp 11)), .mk none (some 4) (.alloc 86 [.pd (.raw (.int .i64 0)), .pd (.raw (.string ⟨#[]⟩)), .pd (.raw (.string ⟨#[]⟩)), .pd (.raw (.string ⟨#[]⟩)), .pd (.raw (.int .i64 0)), .pd (.raw (.string ⟨#[]⟩)), .pd (.raw (.bool false)), .pd (.raw (.int .i64 0))]), .mk none (some 3) (.mv (.tmp 10)), .mk none none (.store 8 (.tmp 4) (.tmp 12))] (some [0, 3, 4, 6, 7, 8])) (.seq (.region [.mk none (some 13) (.mkfn 140 [.tmp 4]), .mk none (some 5) (.mv (.tmp 13))] (some [0, 3, 4, 5, 6, 7, 8])) (.seq (.region [.mk none (some 14) (.load (some 8) (.tmp 4)), .mk none (some 15) (.call 142 [.tmp 14]), .mk none (some 16) (.un .not (.tmp 15)), .mk none (some 17) (.mv (.tmp 16)), .mk (some (17, false)) (some 18) (.mv (.tmp 0)), .mk (some (17, false)) (some 19) (.mv (.tmp 3)), .mk (some (17, false)) (some 20) (.slcL 8 (.tmp 18) none (some (.tmp 19))), .mk (some (17, false)) (some 21) (.mv (.tmp 5)), .mk (some (17, false)) (some 22) (.call 143 [.tmp 20, .tmp 21]), .mk none (some 23) (.pick (.tmp 17) (.const (.bool true)) (.tmp 22))] (some [0, 6, 7, 8, 23])) (.cond (.tmp 23) (.seq (.region [.mk none (some 2) (.mv (.const (.bool false)))] (some [2])) .ret) .skip))))) (.region [.mk none (some 24) (.bin .add (.tmp 8) (.const (.int .i64 1))), .mk none (some 8) (.mv (.tmp 24))] (some [0, 6, 7, 8])))))))) (.seq (.region [.mk none (some 25) (.mv (.tmp 0)), .mk none (some 26) (.len (.tmp 25) false), .mk none (some 27) (.bin .leq (.tmp 26) (.const (.int .i64 8))), .mk none (some 2) (.mv (.tmp 27))] (some [2])) .ret)))
theorem ok_zhmnj : compC Tryz.prog an_zhmnj (Tryz.f105.body.getD .skip) = some ac_zhmnj := by kernel_rfl
theorem dst_zhmnj : ac_zhmnj.dstOK Tryz.f105.ntmps (fun i => decide (i < Tryz.f105.ntmps)) = true := by kernel_rfl

def an_z2jf5 : Ann := ⟨[(0, [1]), (1, [2])], [], []⟩
def ac_z2jf5 : AC := (.seq (.region [.mk none (some 1) (.box 65 (.tmp 0)), .mk none (some 2) (.mv (.const (.bool false)))] (some [1])) (.seq (.region [.mk none (some 3) (.fieldA 0 (.tmp 1)), .mk none (some 4) (.fieldA 0 (.tmp 3)), .mk none (some 5) (.load none (.tmp 4)), .mk none (some 6) (.call 69 [.tmp 5]), .mk none (some 7) (.mv (.tmp 6)), .mk (some (7, true)) (some 8) (.fieldA 0 (.tmp 1)), .mk (some (7, true)) (some 9) (.fieldA 1 (.tmp 8)), .mk (some (7, true)) (some 10) (.load none (.tmp 9)), .mk (some (7, true)) (some 11) (.call 91 [.tmp 10]), .mk none (some 12) (.pick (.tmp 7) (.tmp 11) (.const (.bool false))), .mk none (some 13) (.mv (.tmp 12)), .mk (some (13, true)) (some 14) (.fieldA 0 (.tmp 1)), .mk (some (13, true)) (some 15) (.fieldA 2 (.tmp 14)), .mk (some (13, true)) (some 16) (.load none (.tmp 15)), .mk (some (13, true)) (some 17) (.call 53 [.tmp 16]), .mk none (some 18) (.pick (.tmp 13) (.tmp 17) (.const (.bool false))), .mk none (some 19) (.mv (.tmp 18)), .mk (some (19, true)) (some 20) (.fieldA 3 (.tmp 1)), .mk (some (19, true)) (some 21) (.load none (.tmp 20)), .mk (some (19, true)) (some 22) (.bin .eql (.tmp 21) (.const (.int .i64 0))), .mk (some (19, true)) (some 23) (.mv (.tmp 22)), .mk (some (23, false)) (some 24) (.fieldA 3 (.tmp 1)), .mk (some (23, false)) (some 25) (.load none (.tmp 24)), .mk (some (23, false)) (some 26) (.call 48 [.tmp 25]), .mk (some (19, true)) (some 27) (.pick (.tmp 23) (.const (.bool true)) (.tmp 26)), .mk none (some 28) (.pick (.tmp 19) (.tmp 27) (.const (.bool false))), .mk none (some 29) (.mv (.tmp 28)), .mk (some (29, true)) (some 30) (.fieldA 4 (.tmp 1)), .mk (some (29, true)) (some 31) (.load none (.tmp 30)), .mk (some (29, true)) (some 32) (.bin .geq (.tmp 31) (.const (.int .i64 0))), .mk none (some 33) (.pick (.tmp 29) (.tmp 32) (.const (.bool false))), .mk none (some 34) (.mv (.tmp 33)), .mk (some (34, true)) (some 35) (.fieldA 4 (.tmp 1)), .mk (some (34, true)) (some 36) (.load none (.tmp 35)), .mk (some (34, true)) (some 37) (.bin .leq (.tmp 36) (.const (.int .i64 1000))), .mk none (some 38) (.pick (.tmp 34) (.tmp 37) (.const (.bool false))), .mk none (some 2) (.mv (.tmp 38))] (some [2])) .ret))
theorem ok_z2jf5 : compC Tryz.prog an_z2jf5 (Tryz.f107.body.getD .skip) = some ac_z2jf5 := by kernel_rfl
theorem dst_z2jf5 : ac_z2jf5.dstOK Tryz.f107.ntmps (fun i => decide (i < Tryz.f107.ntmps)) = true := by kernel_rfl

def an_zx2gm : Ann := ⟨[(0, [0, 1]), (1, [4])], [], []⟩
def ac_zx2gm : AC := (.seq (.region [.mk none (some 4) (.mv (.const (.bool false)))] (some [0, 1])) (.seq (.region [.mk none (some 5) (.mv (.tmp 0)), .mk none (some 6) (.mv (.tmp 1)), .mk none (some 7) (.call 147 [.tmp 5, .tmp 6, .func 148]), .mk none (some 4) (.mv (.tmp 7))] (some [4])) .ret))
theorem ok_zx2gm : compC Tryz.prog an_zx2gm (Tryz.f112.body.getD .skip) = some ac_zx2gm := by kernel_rfl
theorem dst_zx2gm : ac_zx2gm.dstOK Tryz.f112.ntmps (fun i => decide (i < Tryz.f112.ntmps)) = true := by kernel_rfl

def an_zb37x : Ann := ⟨[(0, [2, 3]), (1, [4])], [], []⟩
def ac_zb37x : AC := (.seq (.region [.mk none (some 2) (.box 62 (.tmp 0)), .mk none (some 3) (.box 62 (.tmp 1)), .mk none (some 4) (.mv (.const (.bool false)))] (some [2, 3])) (.seq (.region [.mk none (some 5) (.fieldA 0 (.tmp 2)), .mk none (some 6) (.load (some 2) (.tmp 5)), .mk none (some 7) (.fieldA 0 (.tmp 3)), .mk none (some 8) (.load (some 2) (.tmp 7)), .mk none (some 9) (.eqs false [.int, .str] (.tmp 6) (.tmp 8)), .mk none (some 10) (.mv (.tmp 9)), .mk (some (10, true)) (some 11) (.fieldA 2 (.tmp 2)), .mk (some (10, true)) (some 12) (.load none (.tmp 11)), .mk (some (10, true)) (some 13) (.fieldA 2 (.tmp 3)), .mk (some (10, true)) (some 14) (.load none (.tmp 13)), .mk (some (10, true)) (some 15) (.bin .eql (.tmp 12) (.tmp 14)), .mk none (some 16) (.pick (.tmp 10) (.tmp 15) (.const (.bool false))), .mk none (some 17) (.mv (.tmp 16)), .mk (some (17, true)) (some 18) (.fieldA 3 (.tmp 2)), .mk (some (17, true)) (some 19) (.load none (.tmp 18)), .mk (some (17, true)) (some 20) (.fieldA 3 (.tmp 3)), .mk (some (17, true)) (some 21) (.load none (.tmp 20)), .mk (some (17, true)) (some 22) (.call 73 [.tmp 19, .tmp 21]), .mk none (some 23) (.pick (.tmp 17) (.tmp 22) (.const (.bool false))), .mk none (some 24) (.mv (.tmp 23)), .mk (some (24, true)) (some 25) (.fieldA 4 (.tmp 2)), .mk (some (24, true)) (some 26) (.load none (.tmp 25)), .mk (some (24, true)) (some 27) (.fieldA 4 (.tmp 3)), .mk (some (24, true)) (some 28) (.load none (.tmp 27)), .mk (some (24, true)) (some 29) (.call 73 [.tmp 26, .tmp 28]), .mk none (some 30) (.pick (.tmp 24) (.tmp 29) (.const (.bool false))), .mk none (some 4) (.mv (.tmp 30))] (some [4])) .ret))
theorem ok_zb37x : compC Tryz.prog an_zb37x (Tryz.f114.body.getD .skip) = some ac_zb37x := by kernel_rfl
theorem dst_zb37x : ac_zb37x.dstOK Tryz.f114.ntmps (fun i => decide (i < Tryz.f114.ntmps)) = true := by kernel_rfl

def an_zkuzu : Ann := ⟨[(0, [0]), (1, [2])], [], []⟩
def ac_zkuzu : AC := (.seq (.region [.mk none (some 2) (.mv (.const (.bool false)))] (some [0])) (.seq (.region [.mk none (some 3) (.mv (.tmp 0)), .mk none (some 4) (.mv (.tmp 0)), .mk none (some 5) (.bin .neq (.tmp 3) (.tmp 4)), .mk none (some 2) (.mv (.tmp 5))] (some [2])) .ret))
theorem ok_zkuzu : compC Tryz.prog an_zkuzu (Tryz.f118.body.getD .skip) = some ac_zkuzu := by kernel_rfl
theorem dst_zkuzu : ac_zkuzu.dstOK Tryz.f118.ntmps (fun i => decide (i < Tryz.f118.ntmps)) = true := by kernel_rfl

def an_zdaaj : Ann := ⟨[(0, [1]), (1, [2])], [], []⟩
def ac_zdaaj : AC := (.seq (.region [.mk none (some 1) (.box 84 (.tmp 0)), .mk none (some 2) (.mv (.const (.bool false)))] (some [1])) (.seq (.region [.mk none (some 3) (.load (some 3) (.tmp 1)), .mk none (some 4) (.call 123 [.tmp 3]), .mk none (some 5) (.isnil false (.tmp 4)), .mk none (some 2) (.mv (.tmp 5))] (some [2])) .ret))
theorem ok_zdaaj : compC Tryz.prog an_zdaaj (Tryz.f122.body.getD .skip) = some ac_zdaaj := by kernel_rfl
theorem dst_zdaaj : ac_zdaaj.dstOK Tryz.f122.ntmps (fun i => decide (i < Tryz.f122.ntmps)) = true := by kernel_rfl

def an_zyjit : Ann := ⟨[(0, [1]), (1, [1, 3]), (2, [1, 3, 20]), (3, [2]), (4, [1, 3, 25]), (5, [2]), (6, [1, 38]), (7, [2]), (8, [1, 52]), (9, [2]), (10, [1, 65]), (11, [2]), (12, [2])], [], []⟩
def ac_zyjit : AC := (.seq (.region [.mk none (some 1) (.box 84 (.tmp 0)), .mk none (some 2) (.mv (.const .nilIface))] (some [1])) (.seq (.region [.mk none (some 4) (.fieldA 2 (.tmp 1)), .mk none (some 5) (.load none (.tmp 4)), .mk none (some 6) (.len (.tmp 5) false), .mk none (some 7) (.bin .geq (.tmp 6) (.const (.int .i64 1))), .mk none (some 8) (.mv (.tmp 7)), .mk (some (8, true)) (some 9) (.fieldA 2 (.tmp 1)), .mk (some (8, true)) (some 10) (.load none (.tmp 9)), .mk (some (8, true)) (some 11) (.len (.tmp 10) false), .mk (some (8, true)) (some 12) (.bin .leq (.tmp 11) (.const (.int .i64 8))), .mk none (some 13) (.pick (.tmp 8) (.tmp 12) (.const (.bool false))), .mk none (some 14) (.mv (.tmp 13)), .mk (some (14, true)) (some 15) (.fieldA 2 (.tmp 1)), .mk (some (14, true)) (some 16) (.load none (.tmp 15)), .mk (some (14, true)) (some 17) (.call 96 [.tmp 16, .func 153]), .mk (some (14, true)) (some 18) (.un .not (.tmp 17)), .mk none (some 19) (.pick (.tmp 14) (.tmp 18) (.const (.bool false))), .mk none (some 3) (.mv (.tmp 19))] (some [1, 3])) (.seq (.block 0 (.seq (.region [.mk none (some 21) (.fieldA 1 (.tmp 1)), .mk none (some 22) (.load none (.tmp 21)), .mk none (some 23) (.call 53 [.tmp 22]), .mk none (some 24) (.un .not (.tmp 23)), .mk none (some 20) (.mv (.tmp 24))] (some [1, 3, 20])) (.cond (.tmp 20) (.seq (.region [.mk none (some 2) (.mv (.const .nilIface))] (some [2])) .ret) (.seq (.region [.mk none (some 26) (.fieldA 0 (.tmp 1)), .mk none (some 27) (.load none (.tmp 26)), .mk none (some 28) (.bin .eql (.tmp 27) (.const (.int .i64 1))), .mk none (some 29) (.mv (.tmp 28)), .mk (some (29, true)) (some 30) (.mv (.tmp 3)), .mk none (some 31) (.pick (.tmp 29) (.tmp 30) (.const (.bool false))), .mk none (some 25) (.mv (.tmp 31))] (some [1, 3, 25])) (.cond (.tmp 25) (.seq (.region [.mk none (some 32) (.fieldA 1 (.tmp 1)), .mk none (some 33) (.load none (.tmp 32)), .mk none (some 34) (.fieldA 2 (.tmp 1)), .mk none (some 35) (.load none (.tmp 34)), .mk none (some 36) (.build [.pd (.raw (.string ⟨#[]⟩)), .nils] [(0, 1, .tmp 33), (1, 1, .tmp 35)]), .mk none (some 37) (.mkif 184 (.tmp 36)), .mk none (some 2) (.mv (.tmp 37))] (some [2])) .ret) (.seq (.region [.mk none (some 39) (.fieldA 0 (.tmp 1)), .mk none (some 40) (.load none (.tmp 39)), .mk none (some 41) (.bin .eql (.tmp 40) (.const (.int .i64 2))), .mk none (some 42) (.mv (.tmp 41)), .mk (some (42, true)) (some 43) (.mv (.tmp 3)), .mk none (some 44) (.pick (.tmp 42) (.tmp 43) (.const (.bool false))), .mk none (some 38) (.mv (.tmp 44))] (some [1, 38])) (.cond (.tmp 38) (.seq (.region [.mk none (some 45) (.fieldA 1 (.tmp 1)), .mk none (some 46) (.load none (.tmp 45)), .mk none (some 47) (.fieldA 2 (.tmp 1)), .mk none (some 48) (.load none (.tmp 47)), .mk none (some 49) (.build [.pd (.raw (.string ⟨#[]⟩)), .nils] [(0, 1, .tmp 46), (1, 1, .tmp 48)]), .mk none (some 50) (.build [.pd (.raw (.string ⟨#[]⟩)), .nils] [(0, 2, .tmp 49)]), .mk none (some 51) (.mkif 186 (.tmp 50)), .mk none (some 2) (.mv (.tmp 51))] (some [2])) .ret) (.seq (.region [.mk none (some 53) (.fieldA 0 (.tmp 1)), .mk none (some 54) (.load none (.tmp 53)), .mk none (some 55) (.bin .eql (.tmp 54) (.const (.int .i64 3))), .mk none (some 56) (.mv (.tmp 55)), .mk (some (56, true)) (some 57) (.fieldA 2 (.tmp 1)), .mk (some (56, true)) (some 58) (.load none (.tmp 57)), .mk (some (56, true)) (some 59) (.len (.tmp 58) false), .mk (some (56, true)) (some 60) (.bin .eql (.tmp 59) (.const (.int .i64 0))), .mk none (some 61) (.pick (.tmp 56) (.tmp 60) (.const (.bool false))), .mk none (some 52) (.mv (.tmp 61))] (some [1, 52])) (.cond (.tmp 52) (.seq (.region [.mk none (some 62) (.fieldA 1 (.tmp 1)), .mk none (some 63) (.load none (.tmp 62)), .mk none (some 64) (.mkif 187 (.tmp 63)), .mk none (some 2) (.mv (.tmp 64))] (some [2])) .ret) (.seq (.region [.mk none (some 66) (.fieldA 0 (.tmp 1)), .mk none (some 67) (.load none (.tmp 66)), .mk none (some 68) (.bin .eql (.tmp 67) (.const (.int .i64 4))), .mk none (some 69) (.mv (.tmp 68)), .mk (some (69, true)) (some 70) (.fieldA 2 (.tmp 1)), .mk (some (69, true)) (some 71) (.load none (.tmp 70)), .mk (some (69, true)) (some 72) (.len (.tmp 71) false), .mk (some (69, true)) (some 73) (.bin .eql (.tmp 72) (.const (.int .i64 0))), .mk none (some 74) (.pick (.tmp 69) (.tmp 73) (.const (.bool false))), .mk none (some 65) (.mv (.tmp 74))] (some [1, 65])) (.cond (.tmp 65) (.seq (.region [.mk none (some 75) (.fieldA 1 (.tmp 1)), .mk none (some 76) (.load none (.tmp 75)), .mk none (some 77) (.build [.pd (.raw (.string ⟨#[]⟩))] [(0, 1, .tmp 76)]), .mk none (some 78) (.mkif 189 (.tmp 77)), .mk none (some 2) (.mv (.tmp 78))] (some [2])) .ret) .skip))))))))))) (.seq (.region [.mk none (some 2) (.mv (.const .nilIface))] (some [2])) .ret))))
theorem ok_zyjit : compC Tryz.prog an_zyjit (Tryz.f123.body.getD .skip) = some ac_zyjit := by kernel_rfl
theorem dst_zyjit : ac_zyjit.dstOK Tryz.f123.ntmps (fun i => decide (i < Tryz.f123.ntmps)) = true := by kernel_rfl

def an_zqrzx : Ann := ⟨[(0, [1]), (1, [2])], [], []⟩
def ac_zqrzx : AC := (.seq (.region [.mk none (some 1) (.box 81 (.tmp 0)), .mk none (some 2) (.mv (.const (.bool false)))] (some [1])) (.seq (.region [.mk none (some 3) (.fieldA 0 (.tmp 1)), .mk none (some 4) (.load none (.tmp 3)), .mk none (some 5) (.call 131 [.tmp 4]), .mk none (some 6) (.un .not (.tmp 5)), .mk none (some 7) (.mv (.tmp 6)), .mk (some (7, false)) (some 8) (.fieldA 1 (.tmp 1)), .mk (some (7, false)) (some 9) (.load none (.tmp 8)), .mk (some (7, false)) (some 10) (.call 132 [.tmp 9]), .mk (some (7, false)) (some 11) (.un .not (.tmp 10)), .mk none (some 12) (.pick (.tmp 7) (.const (.bool true)) (.tmp 11)), .mk none (some 2) (.mv (.tmp 12))] (some [2])) .ret))
theorem ok_zqrzx : compC Tryz.prog an_zqrzx (Tryz.f130.body.getD .skip) = some ac_zqrzx := by kernel_rfl
theorem dst_zqrzx : ac_zqrzx.dstOK Tryz.f130.ntmps (fun i => decide (i < Tryz.f130.ntmps)) = true := by kernel_rfl

def an_z6for : Ann := ⟨[(0, [0, 3]), (1, [0, 3, 7, 8, 9]), (2, [0, 3, 7, 8, 9, 10]), (3, [0, 3, 5, 6, 7, 8, 9]), (4, [0, 3, 7, 8, 9, 18]), (5, [4]), (6, [0, 3, 7, 8, 9]), (7, [4])], [], []⟩
def ac_z6for : AC := (.seq (.region [.mk none (some 3) (.box 118 (.tmp 1)), .mk none (some 4) (.mv (.const (.bool false)))] (some [0, 3])) (.seq (.seq (.region [.mk none (some 7) (.mv (.tmp 0)), .mk none (some 8) (.len (.tmp 7) false), .mk none (some 9) (.mv (.const (.int .i64 0)))] (some [0, 3, 7, 8, 9])) (.block 0 (.loop (.seq (.region [.mk none (some 10) (.bin .lss (.tmp 9) (.tmp 8))] (some [0, 3, 7, 8, 9, 10])) (.seq (.cond (.tmp 10) .skip (.exit 0)) (.seq (.block 1 (.seq (.region [.mk none (some 11) (.mv (.tmp 9)), .mk none (some 12) (.idxA 2 (.tmp 7) (.tmp 9)), .mk none (some 13) (.load (some 2) (.tmp 12)), .mk none (some 6) (.alloc 81 [.pd (.raw (.string ⟨#[]⟩)), .pd (.raw (.string ⟨#[]⟩))]), .mk none (some 5) (.mv (.tmp 11)), .mk none none (.store 2 (.tmp 6) (.tmp 13))] (some [0, 3, 5, 6, 7, 8, 9])) (.seq (.region [.mk none (some 14) (.mv (.tmp 0)), .mk none (some 15) (.mv (.tmp 5)), .mk none (some 16) (.slcL 2 (.tmp 14) none (some (.tmp 15))), .mk none (some 17) (.mkfn 162 [.tmp 3, .tmp 6]), .mk none (some 18) (.call 135 [.tmp 16, .tmp 17])] (some [0, 3, 7, 8, 9, 18])) (.cond (.tmp 18) (.seq (.region [.mk none (some 4) (.mv (.const (.bool true)))] (some [4])) .ret) .skip)))) (.region [.mk none (some 19) (.bin .add (.tmp 9) (.const (.int .i64 1))), .mk none (some 9) (.mv (.tmp 19))] (some [0, 3, 7, 8, 9])))))))) (.seq (.region [.mk none (some 4) (.mv (.const (.bool false)))] (some [4])) .ret)))
theorem ok_z6for : compC Tryz.prog an_z6for (Tryz.f136.body.getD .skip) = some ac_z6for := by kernel_rfl
theorem dst_z6for : ac_z6for.dstOK Tryz.f136.ntmps (fun i => decide (i < Tryz.f136.ntmps)) = true := by kernel_rfl

def an_zwio7 : Ann := ⟨[(0, [0, 1]), (1, [4])], [], []⟩
def ac_zwio7 : AC := (.seq (.region [.mk none (some 4) (.mv (.const (.bool false)))] (some [0, 1])) (.seq (.region [.mk none (some 5) (.mv (.tmp 0)), .mk none (some 6) (.mv (.tmp 1)), .mk none (some 7) (.bin .eql (.tmp 5) (.tmp 6)), .mk none (some 4) (.mv (.tmp 7))] (some [4])) .ret))
theorem ok_zwio7 : compC Tryz.prog an_zwio7 (Tryz.f139.body.getD .skip) = some ac_zwio7 := by kernel_rfl
theorem dst_zwio7 : ac_zwio7.dstOK Tryz.f139.ntmps (fun i => decide (i < Tryz.f139.ntmps)) = true := by kernel_rfl

def an_z38ed : Ann := ⟨[(0, [1, 2]), (1, [3])], [], []⟩
def ac_z38ed : AC := (.seq (.region [.mk none (some 2) (.box 86 (.tmp 0)), .mk none (some 3) (.mv (.const (.bool false)))] (some [1, 2])) (.seq (.region [.mk none (some 4) (.load (some 8) (.tmp 2)), .mk none (some 5) (.call 141 [.tmp 4]), .mk none (some 6) (.mv (.tmp 5)), .mk (some (6, true)) (some 7) (.load (some 8) (.tmp 1)), .mk (some (6, true)) (some 8) (.call 141 [.tmp 7]), .mk none (some 9) (.pick (.tmp 6) (.tmp 8) (.const (.bool false))), .mk none (some 10) (.mv (.tmp 9)), .mk (some (10, false)) (some 11) (.fieldA 0 (.tmp 2)), .mk (some (10, false)) (some 12) (.load none (.tmp 11)), .mk (some (10, false)) (some 13) (.fieldA 0 (.tmp 1)), .mk (some (10, false)) (some 14) (.load none (.tmp 13)), .mk (some (10, false)) (some 15) (.bin .eql (.tmp 12) (.tmp 14)), .mk (some (10, false)) (some 16) (.mv (.tmp 15)), .mk (some (16, true)) (some 17) (.fieldA 1 (.tmp 2)), .mk (some (16, true)) (some 18) (.load none (.tmp 17)), .mk (some (16, true)) (some 19) (.fieldA 1 (.tmp 1)), .mk (some (16, true)) (some 20) (.load none (.tmp 19)), .mk (some (16, true)) (some 21) (.call 137 [.tmp 18, .tmp 20]), .mk (some (10, false)) (some 22) (.pick (.tmp 16) (.tmp 21) (.const (.bool false))), .mk none (some 23) (.pick (.tmp 10) (.const (.bool true)) (.tmp 22)), .mk none (some 3) (.mv (.tmp 23))] (some [3])) .ret))
theorem ok_z38ed : compC Tryz.prog an_z38ed (Tryz.f140.body.getD .skip) = some ac_z38ed := by kernel_rfl
theorem dst_z38ed : ac_z38ed.dstOK Tryz.f140.ntmps (fun i => decide (i < Tryz.f140.ntmps)) = true := by kernel_rfl

def an_zm6be : Ann := ⟨[(0, [1]), (1, [2])], [], []⟩
def ac_zm6be : AC := (.seq (.region [.mk none (some 1) (.box 86 (.tmp 0)), .mk none (some 2) (.mv (.const (.bool false)))] (some [1])) (.seq (.region [.mk none (some 3) (.fieldA 0 (.tmp 1)), .mk none (some 4) (.load none (.tmp 3)), .mk none (some 5) (.bin .eql (.tmp 4) (.const (.int .i64 4))), .mk none (some 6) (.mv (.tmp 5)), .mk (some (6, false)) (some 7) (.fieldA 0 (.tmp 1)), .mk (some (6, false)) (some 8) (.load none (.tmp 7)), .mk (some (6, false)) (some 9) (.bin .eql (.tmp 8) (.const (.int .i64 5))), .mk none (some 10) (.pick (.tmp 6) (.const (.bool true)) (.tmp 9)), .mk none (some 2) (.mv (.tmp 10))] (some [2])) .ret))
theorem ok_zm6be : compC Tryz.prog an_zm6be (Tryz.f141.body.getD .skip) = some ac_zm6be := by kernel_rfl
theorem dst_zm6be : ac_zm6be.dstOK Tryz.f141.ntmps (fun i => decide (i < Tryz.f141.ntmps)) = true := by kernel_rfl

def an_zhj59 : Ann := ⟨[(0, [1]), (1, [1, 4]), (2, [1, 4, 5]), (3, [1, 4, 5]), (4, [2]), (5, [1, 4, 27]), (6, [2]), (7, [1, 4, 41]), (8, [2]), (9, [1, 75]), (10, [2]), (11, [2])], [], []⟩
def ac_zhj59 : AC := (.seq (.region [.mk none (some 1) (.box 86 (.tmp 0)), .mk none (some 2) (.mv (.const (.bool false)))] (some [1])) (.seq (.seq (.region [.mk none (some 3) (.fieldA 0 (.tmp 1)), .mk none (some 4) (.load none (.tmp 3))] (some [1, 4])) (.block 0 (.seq (.seq (.region [.mk none (some 6) (.bin .eql (.tmp 4) (.const (.int .i64 1))), .mk none (some 5) (.mv (.tmp 6))] (some [1, 4, 5])) (.cond (.tmp 5) .skip (.region [.mk none (some 7) (.bin .eql (.tmp 4) (.const (.int .i64 2))), .mk none (some 5) (.mv (.tmp 7))] (some [1, 4, 5])))) (.cond (.tmp 5) (.seq (.region [.mk none (some 8) (.load (some 8) (.tmp 1)), .mk none (some 9) (.fieldA 0 (.tmp 1)), .mk none (some 10) (.load none (.tmp 9)), .mk none (some 11) (.fieldA 1 (.tmp 1)), .mk none (some 12) (.load none (.tmp 11)), .mk none (some 13) (.fieldA 2 (.tmp 1)), .mk none (some 14) (.load none (.tmp 13)), .mk none (some 15) (.build [.pd (.raw (.int .i64 0)), .pd (.raw (.string ⟨#[]⟩)), .pd (.raw (.string ⟨#[]⟩)), .pd (.raw (.string ⟨#[]⟩)), .pd (.raw (.int .i64 0)), .pd (.raw (.string ⟨#[]⟩)), .pd (.raw (.bool false)), .pd (.raw (.int .i64 0))] [(0, 1, .tmp 10), (1, 1, .tmp 12), (2, 1, .tmp 14)]), .mk none (some 16) (.eqs false [.int, .str, .str, .str, .int, .str, .bool, .int] (.tmp 8) (.tmp 15)), .mk none (some 17) (.mv (.tmp 16)), .mk (some (17, true)) (some 18) (.fieldA 1 (.tmp 1)), .mk (some (17, true)) (some 19) (.load none (.tmp 18)), .mk (some (17, true)) (some 20) (.call 131 [.tmp 19]), .mk none (some 21) (.pick (.tmp 17) (.tmp 20) (.const (.bool false))), .mk none (some 22) (.mv (.tmp 21)), .mk (some (22, true)) (some 23) (.fieldA 2 (.tmp 1)), .mk (some (22, true)) (some 24) (.load none (.tmp 23)), .mk (some (22, true)) (some 25) (.call 132 [.tmp 24]), .mk none (some 26) (.pick (.tmp 22) (.tmp 25) (.const (.bool false))), .mk none (some 2) (.mv (.tmp 26))] (some [2])) .ret) (.seq (.region [.mk none (some 28) (.bin .eql (.tmp 4) (.const (.int .i64 3))), .mk none (some 27) (.mv (.tmp 28))] (some [1, 4, 27])) (.cond (.tmp 27) (.seq (.region [.mk none (some 29) (.load (some 8) (.tmp 1)), .mk none (some 30) (.fieldA 0 (.tmp 1)), .mk none (some 31) (.load none (.tmp 30)), .mk none (some 32) (.fieldA 1 (.tmp 1)), .mk none (some 33) (.load none (.tmp 32)), .mk none (some 34) (.build [.pd (.raw (.int .i64 0)), .pd (.raw (.string ⟨#[]⟩)), .pd (.raw (.string ⟨#[]⟩)), .pd (.raw (.string ⟨#[]⟩)), .pd (.raw (.int .i64 0)), .pd (.raw (.string ⟨#[]⟩)), .pd (.raw (.bool false)), .pd (.raw (.int .i64 0))] [(0, 1, .tmp 31), (1, 1, .tmp 33)]), .mk none (some 35) (.eqs false [.int, .str, .str, .str, .int, .str, .bool, .int] (.tmp 29) (.tmp 34)), .mk none (some 36) (.mv (.tmp 35)), .mk (some (36, true)) (some 37) (.fieldA 1 (.tmp 1)), .mk (some (36, true)) (some 38) (.load none (.tmp 37)), .mk (some (36, true)) (some 39) (.call 131 [.tmp 38]), .mk none (some 40) (.pick (.tmp 36) (.tmp 39) (.const (.bool false))), .mk none (some 2) (.mv (.tmp 40))] (some [2])) .ret) (.seq (.region [.mk none (some 42) (.bin .eql (.tmp 4) (.const (.int .i64 4))), .mk none (some 41) (.mv (.tmp 42))] (some [1, 4, 41])) (.cond (.tmp 41) (.seq (.region [.mk none (some 43) (.fieldA 1 (.tmp 1)), .mk none (some 44) (.load none (.tmp 43)), .mk none (some 45) (.bin .eql (.tmp 44) (.const (.string ⟨#[]⟩))), .mk none (some 46) (.mv (.tmp 45)), .mk (some (46, true)) (some 47) (.fieldA 2 (.tmp 1)), .mk (some (46, true)) (some 48) (.load none (.tmp 47)), .mk (some (46, true)) (some 49) (.bin .eql (.tmp 48) (.const (.string ⟨#[]⟩))), .mk none (some 50) (.pick (.tmp 46) (.tmp 49) (.const (.bool false))), .mk none (some 51) (.mv (.tmp 50)), .mk (some (51, true)) (some 52) (.load (some 8) (.tmp 1)), .mk (some (51, true)) (some 53) (.call 164 [.tmp 52]), .mk none (some 54) (.pick (.tmp 51) (.tmp 53) (.const (.bool false))), .mk none (some 55) (.mv (.tmp 54)), .mk (some (55, true)) (some 56) (.fieldA 4 (.tmp 1)), .mk (some (55, true)) (some 57) (.load none (.tmp 56)), .mk (some (55, true)) (some 58) (.bin .geq (.tmp 57) (.const (.int .i64 0))), .mk none (some 59) (.pick (.tmp 55) (.tmp 58) (.const (.bool false))), .mk none (some 60) (.mv (.tmp 59)), .mk (some (60, true)) (some 61) (.fieldA 4 (.tmp 1)), .mk (some (60, true)) (some 62) (.load none (.tmp 61)), .mk (some (60, true)) (some 63) (.bin .leq (.tmp 62) (.const (.int .i64 65535))), .mk none (some 64) (.pick (.tmp 60) (.tmp 63) (.const (.bool false))), .mk none (some 65) (.mv (.tmp 64)), .mk (some (65, true)) (some 66) (.fieldA 7 (.tmp 1)), .mk (some (65, true)) (some 67) (.load none (.tmp 66)), .mk (some (65, true)) (some 68) (.bin .eql (.tmp 67) (.const (.int .i64 301))), .mk (some (65, true)) (some 69) (.mv (.tmp 68)), .mk (some (69, false)) (some 70) (.fieldA 7 (.tmp 1)), .mk (some (69, false)) (some 71) (.load none (.tmp 70)), .mk (some (69, false)) (some 72) (.bin .eql (.tmp 71) (.const (.int .i64 302))), .mk (some (65, true)) (some 73) (.pick (.tmp 69) (.const (.bool true)) (.tmp 72)), .mk none (some 74) (.pick (.tmp 65) (.tmp 73) (.const (.bool false))), .mk none (some 2) (.mv (.tmp 74))] (some [2])) .ret) (.seq (.region [.mk none (some 76) (.bin .eql (.tmp 4) (.const (.int .i64 5))), .mk none (some 75) (.mv (.tmp 76))] (some [1, 75])) (.cond (.tmp 75) (.seq (.region [.mk none (some 77) (.load (some 8) (.tmp 1)), .mk none (some 78) (.fieldA 0 (.tmp 1)), .mk none (some 79) (.load none (.tmp 78)), .mk none (some 80) (.fieldA 3 (.tmp 1)), .mk none (some 81) (.load none (.tmp 80)), .mk none (some 82) (.fieldA 5 (.tmp 1)), .mk none (some 83) (.load none (.tmp 82)), .mk none (some 84) (.fieldA 6 (.tmp 1)), .mk none (some 85) (.load none (.tmp 84)), .mk none (some 86) (.build [.pd (.raw (.int .i64 0)), .pd (.raw (.string ⟨#[]⟩)), .pd (.raw (.string ⟨#[]⟩)), .pd (.raw (.string ⟨#[]⟩)), .pd (.raw (.int .i64 0)), .pd (.raw (.string ⟨#[]⟩)), .pd (.raw (.bool false)), .pd (.raw (.int .i64 0))] [(0, 1, .tmp 79), (3, 1, .tmp 81), (5, 1, .tmp 83), (6, 1, .tmp 85)]), .mk none (some 87) (.eqs false [.int, .str, .str, .str, .int, .str, .bool, .int] (.tmp 77) (.tmp 86)), .mk none (some 88) (.mv (.tmp 87)), .mk (some (88, true)) (some 89) (.load (some 8) (.tmp 1)), .mk (some (88, true)) (some 90) (.call 164 [.tmp 89]), .mk none (some 91) (.pick (.tmp 88) (.tmp 90) (.const (.bool false))), .mk none (some 92) (.mv (.tmp 91)), .mk (some (92, true)) (some 93) (.fieldA 3 (.tmp 1)), .mk (some (92, true)) (some 94) (.load none (.tmp 93)), .mk (some (92, true)) (some 95) (.bin .neq (.tmp 94) (.const (.string ⟨#[]⟩))), .mk (some (92, true)) (some 96) (.mv (.tmp 95)), .mk (some (96, false)) (some 97) (.fieldA 5 (.tmp 1)), .mk (some (96, false)) (some 98) (.load none (.tmp 97)), .mk (some (96, false)) (some 99) (.bin .neq (.tmp 98) (.const (.string ⟨#[]⟩))), .mk (some (92, true)) (some 100) (.pick (.tmp 96) (.const (.bool true)) (.tmp 99)), .mk none (some 101) (.pick (.tmp 92) (.tmp 100) (.const (.bool false))), .mk none (some 2) (.mv (.tmp 101))] (some [2])) .ret) .skip)))))))))) (.seq (.region [.mk none (some 2) (.mv (.const (.bool false)))] (some [2])) .ret)))
theorem ok_zhj59 : compC Tryz.prog an_zhj59 (Tryz.f142.body.getD .skip) = some ac_zhj59 := by kernel_rfl
theorem dst_zhj59 : ac_zhj59.dstOK Tryz.f142.ntmps (fun i => decide (i < Tryz.f142.ntmps)) = true := by kernel_rfl

def an_zvpxe : Ann := ⟨[(0, [2, 3]), (1, [4])], [], []⟩
def ac_zvpxe : AC := (.seq (.region [.mk none (some 2) (.box 84 (.tmp 0)), .mk none (some 3) (.box 84 (.tmp 1)), .mk none (some 4) (.mv (.const (.bool false)))] (some [2, 3])) (.seq (.region [.mk none (some 5) (.fieldA 0 (.tmp 2)), .mk none (some 6) (.load none (.tmp 5)), .mk none (some 7) (.fieldA 0 (.tmp 3)), .mk none (some 8) (.load none (.tmp 7)), .mk none (some 9) (.bin .eql (.tmp 6) (.tmp 8)), .mk none (some 10) (.mv (.tmp 9)), .mk (some (10, true)) (some 11) (.fieldA 1 (.tmp 2)), .mk (some (10, true)) (some 12) (.load none (.tmp 11)), .mk (some (10, true)) (some 13) (.fieldA 1 (.tmp 3)), .mk (some (10, true)) (some 14) (.load none (.tmp 13)), .mk (some (10, true)) (some 15) (.bin .eql (.tmp 12) (.tmp 14)), .mk none (some 16) (.pick (.tmp 10) (.tmp 15) (.const (.bool false))), .mk none (some 17) (.mv (.tmp 16)), .mk (some (17, true)) (some 18) (.fieldA 2 (.tmp 2)), .mk (some (17, true)) (some 19) (.load none (.tmp 18)), .mk (some (17, true)) (some 20) (.fieldA 2 (.tmp 3)), .mk (some (17, true)) (some 21) (.load none (.tmp 20)), .mk (some (17, true)) (some 22) (.call 75 [.tmp 19, .tmp 21]), .mk none (some 23) (.pick (.tmp 17) (.tmp 22) (.const (.bool false))), .mk none (some 4) (.mv (.tmp 23))] (some [4])) .ret))
theorem ok_zvpxe : compC Tryz.prog an_zvpxe (Tryz.f148.body.getD .skip) = some ac_zvpxe := by kernel_rfl
theorem dst_zvpxe : ac_zvpxe.dstOK Tryz.f148.ntmps (fun i => decide (i < Tryz.f148.ntmps)) = true := by kernel_rfl

def an_zuzx4 : Ann := ⟨[(0, [0]), (1, [2])], [], []⟩
def ac_zuzx4 : AC := (.seq (.region [.mk none (some 2) (.mv (.const (.bool false)))] (some [0])) (.seq (.region [.mk none (some 3) (.mv (.tmp 0)), .mk none (some 4) (.call 83 [.tmp 3]), .mk none (some 5) (.un .not (.tmp 4)), .mk none (some 2) (.mv (.tmp 5))] (some [2])) .ret))
theorem ok_zuzx4 : compC Tryz.prog an_zuzx4 (Tryz.f153.body.getD .skip) = some ac_zuzx4 := by kernel_rfl
theorem dst_zuzx4 : ac_zuzx4.dstOK Tryz.f153.ntmps (fun i => decide (i < Tryz.f153.ntmps)) = true := by kernel_rfl

def an_zpw6o : Ann := ⟨[(0, [1, 2, 3]), (1, [4])], [], []⟩
def ac_zpw6o : AC := (.seq (.region [.mk none (some 3) (.box 81 (.tmp 0)), .mk none (some 4) (.mv (.const (.bool false)))] (some [1, 2, 3])) (.seq (.region [.mk none (some 5) (.load none (.tmp 1)), .mk none (some 6) (.fieldA 0 (.tmp 3)), .mk none (some 7) (.load none (.tmp 6)), .mk none (some 8) (.fieldA 0 (.tmp 2)), .mk none (some 9) (.load none (.tmp 8)), .mk none (some 10) (.callv (.tmp 5) [.tmp 7, .tmp 9]), .mk none (some 4) (.mv (.tmp 10))] (some [4])) .ret))
theorem ok_zpw6o : compC Tryz.prog an_zpw6o (Tryz.f162.body.getD .skip) = some ac_zpw6o := by kernel_rfl
theorem dst_zpw6o : ac_zpw6o.dstOK Tryz.f162.ntmps (fun i => decide (i < Tryz.f162.ntmps)) = true := by kernel_rfl

def an_z3d8y : Ann := ⟨[(0, [1]), (1, [1, 11]), (2, [2]), (3, [1, 12]), (4, [2]), (5, [1, 19]), (6, [2]), (7, [2])], [], []⟩
def ac_z3d8y : AC := (.seq (.region [.mk none (some 1) (.box 86 (.tmp 0)), .mk none (some 2) (.mv (.const (.bool false)))] (some [1])) (.seq (.seq (.region [.mk none (some 3) (.fieldA 3 (.tmp 1)), .mk none (some 4) (.load none (.tmp 3)), .mk none (some 5) (.bin .neq (.tmp 4) (.const (.string ⟨#[]⟩))), .mk none (some 6) (.mv (.tmp 5)), .mk (some (6, true)) (some 7) (.fieldA 3 (.tmp 1)), .mk (some (6, true)) (some 8) (.load none (.tmp 7)), .mk (some (6, true)) (some 9) (.call 53 [.tmp 8]), .mk (some (6, true)) (some 10) (.un .not (.tmp 9)), .mk none (some 11) (.pick (.tmp 6) (.tmp 10) (.const (.bool false)))] (some [1, 11])) (.cond (.tmp 11) (.seq (.region [.mk none (some 2) (.mv (.const (.bool false)))] (some [2])) .ret) .skip)) (.seq (.block 0 (.seq (.region [.mk none (some 13) (.fieldA 5 (.tmp 1)), .mk none (some 14) (.load none (.tmp 13)), .mk none (some 15) (.bin .eql (.tmp 14) (.const (.string ⟨#[]⟩))), .mk none (some 12) (.mv (.tmp 15))] (some [1, 12])) (.cond (.tmp 12) (.seq (.region [.mk none (some 16) (.fieldA 6 (.tmp 1)), .mk none (some 17) (.load none (.tmp 16)), .mk none (some 18) (.un .not (.tmp 17)), .mk none (some 2) (.mv (.tmp 18))] (some [2])) .ret) (.seq (.region [.mk none (some 20) (.fieldA 6 (.tmp 1)), .mk none (some 21) (.load none (.tmp 20)), .mk none (some 19) (.mv (.tmp 21))] (some [1, 19])) (.cond (.tmp 19) (.seq (.region [.mk none (some 22) (.fieldA 5 (.tmp 1)), .mk none (some 23) (.load none (.tmp 22)), .mk none (some 24) (.call 158 [.tmp 23]), .mk none (some 2) (.mv (.tmp 24))] (some [2])) .ret) .skip))))) (.seq (.region [.mk none (some 25) (.fieldA 5 (.tmp 1)), .mk none (some 26) (.load none (.tmp 25)), .mk none (some 27) (.build [.pd (.raw (.int .i64 0)), .pd (.raw (.string ⟨#[]⟩))] [(0, 1, .const (.int .i64 2)), (1, 1, .tmp 26)]), .mk none (some 28) (.call 133 [.tmp 27]), .mk none (some 2) (.mv (.tmp 28))] (some [2])) .ret))))
theorem ok_z3d8y : compC Tryz.prog an_z3d8y (Tryz.f164.body.getD .skip) = some ac_z3d8y := by kernel_rfl
theorem dst_z3d8y : ac_z3d8y.dstOK Tryz.f164.ntmps (fun i => decide (i < Tryz.f164.ntmps)) = true := by kernel_rfl

end Go.Proofs.YtmdepehjfnpklaaGreatDoor

namespace Go.Proofs.YtmdepehjfnpklaaGreatDoor
open Go Go.RowKit
set_option linter.unusedSimpArgs false
set_option linter.unusedVariables false
set_option maxRecDepth 100000

def okind (n : Int) : Bool := decide (1 ≤ n) && decide (n ≤ 7)
def oport (n : Int) : Bool := decide (1 ≤ n) && decide (n ≤ 65535)

theorem object_kind (n : Int) : Pure Tryz.prog 69 [int n] (fun d => d = bln (okind n)) := by
  refine pure_of_run follows an_zavnu Tryz.func69 rfl ok_zavnu dst_zavnu (by simp [Tryz.ntmps69]) ?_
  rw [run_start]
  simp only [ac_zavnu, go_sem, contS_seq, simprocAttr]
  (repeat' (first | (refine GifP.mk (fun _ => ?_) (fun _ => ?_)) | (refine Gif.mk (fun _ => ?_) (fun _ => ?_)))) <;> (simp only [retK, fullK, iterK, resD, resA, AOp.ex, St.ev, Option.map_some, Option.bind_some, St.get, lk, reduceIte, Nat.reduceEqDiff, Option.getD_some, oneD, List.getElem?_cons_zero, List.getElem?_cons_succ, List.drop_zero, List.drop_succ_cons, List.take_succ_cons, List.take_zero, List.length_cons, List.length_nil, Nat.zero_add, Nat.reduceAdd, Nat.le_refl, Nat.reduceLeDiff, D.pub, D.pubs, Tryz.results69]; exact ⟨_, rfl, rfl, congrArg bln (by first | rfl | (rw [Bool.eq_iff_iff]; simp only [okind]; simp; done) | (rw [Bool.eq_iff_iff]; simp only [okind]; simp; omega) | (rw [Bool.eq_iff_iff]; simp only [okind]; simp [*]; done) | (rw [Bool.eq_iff_iff]; simp only [okind]; simp [*]; omega) | (simp_all [okind]; done) | (exfalso; omega))⟩)

theorem object_port (n : Int) : Pure Tryz.prog 48 [int n] (fun d => d = bln (oport n)) := by
  refine pure_of_run follows an_znt9b Tryz.func48 rfl ok_znt9b dst_znt9b (by simp [Tryz.ntmps48]) ?_
  rw [run_start]
  simp only [ac_znt9b, go_sem, contS_seq, simprocAttr]
  (repeat' (first | (refine GifP.mk (fun _ => ?_) (fun _ => ?_)) | (refine Gif.mk (fun _ => ?_) (fun _ => ?_)))) <;> (simp only [retK, fullK, iterK, resD, resA, AOp.ex, St.ev, Option.map_some, Option.bind_some, St.get, lk, reduceIte, Nat.reduceEqDiff, Option.getD_some, oneD, List.getElem?_cons_zero, List.getElem?_cons_succ, List.drop_zero, List.drop_succ_cons, List.take_succ_cons, List.take_zero, List.length_cons, List.length_nil, Nat.zero_add, Nat.reduceAdd, Nat.le_refl, Nat.reduceLeDiff, D.pub, D.pubs, Tryz.results48]; exact ⟨_, rfl, rfl, congrArg bln (by first | rfl | (rw [Bool.eq_iff_iff]; simp only [oport]; simp; done) | (rw [Bool.eq_iff_iff]; simp only [oport]; simp; omega) | (rw [Bool.eq_iff_iff]; simp only [oport]; simp [*]; done) | (rw [Bool.eq_iff_iff]; simp only [oport]; simp [*]; omega) | (simp_all [oport]; done) | (exfalso; omega))⟩)

theorem object_near (s : ByteArray) : Pure Tryz.prog 91 [str s] (fun d => d = bln (labValue s)) := by
  refine pure_of_run follows an_ztrsy Tryz.func91 rfl ok_ztrsy dst_ztrsy (by simp [Tryz.ntmps91]) ?_
  rw [run_start]
  simp only [ac_ztrsy, go_sem, contS_seq, simprocAttr]
  (repeat' (first | (refine GifP.mk (fun _ => ?_) (fun _ => ?_)) | (refine Gif.mk (fun _ => ?_) (fun _ => ?_)) | (refine (dns_Label _).callW (enters_of Tryz.func70 rfl rfl) _ rfl rfl ?_; rintro _ rfl; try simp only [go_sem, contS_seq, simprocAttr]))) <;> (simp only [retK, fullK, iterK, resD, resA, AOp.ex, St.ev, Option.map_some, Option.bind_some, St.get, lk, reduceIte, Nat.reduceEqDiff, Option.getD_some, oneD, List.getElem?_cons_zero, List.getElem?_cons_succ, List.drop_zero, List.drop_succ_cons, List.take_succ_cons, List.take_zero, List.length_cons, List.length_nil, Nat.zero_add, Nat.reduceAdd, Nat.le_refl, Nat.reduceLeDiff, D.pub, D.pubs, Tryz.results91]; exact ⟨_, rfl, rfl, congrArg bln (by first | rfl | (rw [Bool.eq_iff_iff]; simp only [labValue]; simp; done) | (rw [Bool.eq_iff_iff]; simp only [labValue]; simp; omega) | (rw [Bool.eq_iff_iff]; simp only [labValue]; simp [*]; done) | (rw [Bool.eq_iff_iff]; simp only [labValue]; simp [*]; omega) | (simp_all [labValue]; done) | (exfalso; omega))⟩)

def parentMay (p : AParent) : Bool := labValue p.space && dname p.name && labValue p.section_ && (decide (p.port = 0) || oport p.port)

theorem object_parent (p : AParent) : Pure Tryz.prog 64 [p.d] (fun d => d = bln (parentMay p)) := by
  refine pure_of_run follows an_za0y7 Tryz.func64 rfl ok_za0y7 dst_za0y7 (by simp [Tryz.ntmps64]) ?_
  rw [run_start]
  simp only [ac_za0y7, go_sem, contS_seq, simprocAttr]
  (repeat' (first | (refine GifP.mk (fun _ => ?_) (fun _ => ?_)) | (refine Gif.mk (fun _ => ?_) (fun _ => ?_)) | ((first | refine (object_near _).callW (enters_of Tryz.func91 rfl rfl) _ rfl rfl ?_ | refine (dns_Name _).callW (enters_of Tryz.func53 rfl rfl) _ rfl rfl ?_ | refine (object_port _).callW (enters_of Tryz.func48 rfl rfl) _ rfl rfl ?_); rintro _ rfl; try simp only [go_sem, contS_seq, simprocAttr]))) <;> (simp only [retK, fullK, iterK, resD, resA, AOp.ex, St.ev, Option.map_some, Option.bind_some, St.get, lk, reduceIte, Nat.reduceEqDiff, Option.getD_some, oneD, List.getElem?_cons_zero, List.getElem?_cons_succ, List.drop_zero, List.drop_succ_cons, List.take_succ_cons, List.take_zero, List.length_cons, List.length_nil, Nat.zero_add, Nat.reduceAdd, Nat.le_refl, Nat.reduceLeDiff, D.pub, D.pubs, Tryz.results64]; exact ⟨_, rfl, rfl, congrArg bln (by first | rfl | (rw [Bool.eq_iff_iff]; simp only [parentMay]; simp; done) | (rw [Bool.eq_iff_iff]; simp only [parentMay]; simp; omega) | (rw [Bool.eq_iff_iff]; simp only [parentMay]; simp [*]; done) | (rw [Bool.eq_iff_iff]; simp only [parentMay]; simp [*]; omega) | (simp_all [parentMay]; done) | (exfalso; omega))⟩)

def backendMay (b : ABackend) : Bool := okind b.ref.kind && labValue b.ref.space && dname b.ref.name && (decide (b.port = 0) || oport b.port) && decide (0 ≤ b.weight) && decide (b.weight ≤ 1000)

theorem object_backend (b : ABackend) : Pure Tryz.prog 107 [b.d] (fun d => d = bln (backendMay b)) := by
  refine pure_of_run follows an_z2jf5 Tryz.func107 rfl ok_z2jf5 dst_z2jf5 (by simp [Tryz.ntmps107]) ?_
  rw [run_start]
  simp only [ac_z2jf5, go_sem, contS_seq, simprocAttr]
  (repeat' (first | (refine GifP.mk (fun _ => ?_) (fun _ => ?_)) | (refine Gif.mk (fun _ => ?_) (fun _ => ?_)) | ((first | refine (object_kind _).callW (enters_of Tryz.func69 rfl rfl) _ rfl rfl ?_ | refine (object_near _).callW (enters_of Tryz.func91 rfl rfl) _ rfl rfl ?_ | refine (dns_Name _).callW (enters_of Tryz.func53 rfl rfl) _ rfl rfl ?_ | refine (object_port _).callW (enters_of Tryz.func48 rfl rfl) _ rfl rfl ?_); rintro _ rfl; try simp only [go_sem, contS_seq, simprocAttr]))) <;> (simp only [retK, fullK, iterK, resD, resA, AOp.ex, St.ev, Option.map_some, Option.bind_some, St.get, lk, reduceIte, Nat.reduceEqDiff, Option.getD_some, oneD, List.getElem?_cons_zero, List.getElem?_cons_succ, List.drop_zero, List.drop_succ_cons, List.take_succ_cons, List.take_zero, List.length_cons, List.length_nil, Nat.zero_add, Nat.reduceAdd, Nat.le_refl, Nat.reduceLeDiff, D.pub, D.pubs, Tryz.results107]; exact ⟨_, rfl, rfl, congrArg bln (by first | rfl | (rw [Bool.eq_iff_iff]; simp only [backendMay]; simp; done) | (rw [Bool.eq_iff_iff]; simp only [backendMay]; simp; omega) | (rw [Bool.eq_iff_iff]; simp only [backendMay]; simp [*]; done) | (rw [Bool.eq_iff_iff]; simp only [backendMay]; simp [*]; omega) | (simp_all [backendMay]; done) | (exfalso; omega))⟩)

def sideFrom (s : ASide) : Bool := okind s.kind && label s.space && decide (s.name = ⟨#[]⟩)
def sideTo (s : ASide) : Bool := okind s.kind && decide (s.space = ⟨#[]⟩) && (decide (s.name = ⟨#[]⟩) || dname s.name)

theorem thing_grant_1 (s : ASide) : Pure Tryz.prog 68 [s.d] (fun d => d = bln (sideFrom s)) := by
  refine pure_of_run follows an_z9wz0 Tryz.func68 rfl ok_z9wz0 dst_z9wz0 (by simp [Tryz.ntmps68]) ?_
  rw [run_start]
  simp only [ac_z9wz0, go_sem, contS_seq, simprocAttr]
  (repeat' (first | (refine GifP.mk (fun _ => ?_) (fun _ => ?_)) | (refine Gif.mk (fun _ => ?_) (fun _ => ?_)) | ((first | refine (object_kind _).callW (enters_of Tryz.func69 rfl rfl) _ rfl rfl ?_ | refine (dns_Label _).callW (enters_of Tryz.func70 rfl rfl) _ rfl rfl ?_); rintro _ rfl; try simp only [go_sem, contS_seq, simprocAttr]))) <;> (simp only [retK, fullK, iterK, resD, resA, AOp.ex, St.ev, Option.map_some, Option.bind_some, St.get, lk, reduceIte, Nat.reduceEqDiff, Option.getD_some, oneD, List.getElem?_cons_zero, List.getElem?_cons_succ, List.drop_zero, List.drop_succ_cons, List.take_succ_cons, List.take_zero, List.length_cons, List.length_nil, Nat.zero_add, Nat.reduceAdd, Nat.le_refl, Nat.reduceLeDiff, D.pub, D.pubs, Tryz.results68]; exact ⟨_, rfl, rfl, congrArg bln (by first | rfl | (rw [Bool.eq_iff_iff]; simp only [sideFrom]; simp; done) | (rw [Bool.eq_iff_iff]; simp only [sideFrom]; simp; omega) | (rw [Bool.eq_iff_iff]; simp only [sideFrom]; simp [*]; done) | (rw [Bool.eq_iff_iff]; simp only [sideFrom]; simp [*]; omega) | (simp_all [sideFrom]; done) | (exfalso; omega))⟩)

theorem thing_grant_2 (s : ASide) : Pure Tryz.prog 71 [s.d] (fun d => d = bln (sideTo s)) := by
  refine pure_of_run follows an_z4xw6 Tryz.func71 rfl ok_z4xw6 dst_z4xw6 (by simp [Tryz.ntmps71]) ?_
  rw [run_start]
  simp only [ac_z4xw6, go_sem, contS_seq, simprocAttr]
  (repeat' (first | (refine GifP.mk (fun _ => ?_) (fun _ => ?_)) | (refine Gif.mk (fun _ => ?_) (fun _ => ?_)) | ((first | refine (object_kind _).callW (enters_of Tryz.func69 rfl rfl) _ rfl rfl ?_ | refine (dns_Name _).callW (enters_of Tryz.func53 rfl rfl) _ rfl rfl ?_); rintro _ rfl; try simp only [go_sem, contS_seq, simprocAttr]))) <;> (simp only [retK, fullK, iterK, resD, resA, AOp.ex, St.ev, Option.map_some, Option.bind_some, St.get, lk, reduceIte, Nat.reduceEqDiff, Option.getD_some, oneD, List.getElem?_cons_zero, List.getElem?_cons_succ, List.drop_zero, List.drop_succ_cons, List.take_succ_cons, List.take_zero, List.length_cons, List.length_nil, Nat.zero_add, Nat.reduceAdd, Nat.le_refl, Nat.reduceLeDiff, D.pub, D.pubs, Tryz.results71]; exact ⟨_, rfl, rfl, congrArg bln (by first | rfl | (rw [Bool.eq_iff_iff]; simp only [sideTo]; simp; done) | (rw [Bool.eq_iff_iff]; simp only [sideTo]; simp; omega) | (rw [Bool.eq_iff_iff]; simp only [sideTo]; simp [*]; done) | (rw [Bool.eq_iff_iff]; simp only [sideTo]; simp [*]; omega) | (simp_all [sideTo]; done) | (exfalso; omega))⟩)

def intSame (a b : Int) : Bool := decide (a = b)
def strSame (a b : ByteArray) : Bool := decide (a = b)
def lisName (a b : AListener) : Bool := decide (a.name = b.name)
def parSame (a b : AParent) : Bool := decide (a = b)
def patMay (s : ByteArray) : Bool := !decide (s = ⟨#[]⟩) && hostMay s

theorem thing_service_1 (a b : Int) : Pure Tryz.prog 51 [int a, int b] (fun d => d = bln (intSame a b)) := by
  refine pure_of_run follows an_zwdgh Tryz.func51 rfl ok_zwdgh dst_zwdgh (by simp [Tryz.ntmps51]) ?_
  rw [run_start]
  simp only [ac_zwdgh, go_sem, contS_seq, simprocAttr]
  (repeat' (first | (refine GifP.mk (fun _ => ?_) (fun _ => ?_)) | (refine Gif.mk (fun _ => ?_) (fun _ => ?_)))) <;> (simp only [retK, fullK, iterK, resD, resA, AOp.ex, St.ev, Option.map_some, Option.bind_some, St.get, lk, reduceIte, Nat.reduceEqDiff, Option.getD_some, oneD, List.getElem?_cons_zero, List.getElem?_cons_succ, List.drop_zero, List.drop_succ_cons, List.take_succ_cons, List.take_zero, List.length_cons, List.length_nil, Nat.zero_add, Nat.reduceAdd, Nat.le_refl, Nat.reduceLeDiff, D.pub, D.pubs, Tryz.results51]; exact ⟨_, rfl, rfl, congrArg bln (by first | rfl | (rw [Bool.eq_iff_iff]; simp only [intSame]; simp; done) | (rw [Bool.eq_iff_iff]; simp only [intSame]; simp; omega) | (rw [Bool.eq_iff_iff]; simp only [intSame]; simp [*]; done) | (rw [Bool.eq_iff_iff]; simp only [intSame]; simp [*]; omega) | (simp_all [intSame]; done) | (exfalso; omega))⟩)

theorem thing_gateway_1 (a b : AListener) : Pure Tryz.prog 52 [a.d, b.d] (fun d => d = bln (lisName a b)) := by
  refine pure_of_run follows an_zpej9 Tryz.func52 rfl ok_zpej9 dst_zpej9 (by simp [Tryz.ntmps52]) ?_
  rw [run_start]
  simp only [ac_zpej9, go_sem, contS_seq, simprocAttr]
  (repeat' (first | (refine GifP.mk (fun _ => ?_) (fun _ => ?_)) | (refine Gif.mk (fun _ => ?_) (fun _ => ?_)))) <;> (simp only [retK, fullK, iterK, resD, resA, AOp.ex, St.ev, Option.map_some, Option.bind_some, St.get, lk, reduceIte, Nat.reduceEqDiff, Option.getD_some, oneD, List.getElem?_cons_zero, List.getElem?_cons_succ, List.drop_zero, List.drop_succ_cons, List.take_succ_cons, List.take_zero, List.length_cons, List.length_nil, Nat.zero_add, Nat.reduceAdd, Nat.le_refl, Nat.reduceLeDiff, D.pub, D.pubs, Tryz.results52]; exact ⟨_, rfl, rfl, congrArg bln (by first | rfl | (rw [Bool.eq_iff_iff]; simp only [lisName]; simp; done) | (rw [Bool.eq_iff_iff]; simp only [lisName]; simp; omega) | (rw [Bool.eq_iff_iff]; simp only [lisName]; simp [*]; done) | (rw [Bool.eq_iff_iff]; simp only [lisName]; simp [*]; omega) | (simp_all [lisName]; done) | (exfalso; omega))⟩)

theorem thing_route_1 (a b : AParent) : Pure Tryz.prog 58 [a.d, b.d] (fun d => d = bln (parSame a b)) := by
  refine pure_of_run follows an_zh5vi Tryz.func58 rfl ok_zh5vi dst_zh5vi (by simp [Tryz.ntmps58]) ?_
  rw [run_start]
  simp only [ac_zh5vi, go_sem, contS_seq, simprocAttr, eqVs, eqV, eq_Parent]
  simp only [retK, fullK, iterK, resD, resA, AOp.ex, St.ev, Option.map_some, Option.bind_some, St.get, lk, reduceIte, Nat.reduceEqDiff, Option.getD_some, oneD, List.getElem?_cons_zero, List.getElem?_cons_succ, List.drop_zero, List.drop_succ_cons, List.take_succ_cons, List.take_zero, List.length_cons, List.length_nil, Nat.zero_add, Nat.reduceAdd, Nat.le_refl, Nat.reduceLeDiff, D.pub, D.pubs, Tryz.results58]
  exact ⟨_, rfl, rfl, rfl⟩

theorem thing_route_2 (a b : ByteArray) : Pure Tryz.prog 60 [str a, str b] (fun d => d = bln (strSame a b)) := by
  refine pure_of_run follows an_zkpqc Tryz.func60 rfl ok_zkpqc dst_zkpqc (by simp [Tryz.ntmps60]) ?_
  rw [run_start]
  simp only [ac_zkpqc, go_sem, contS_seq, simprocAttr]
  (repeat' (first | (refine GifP.mk (fun _ => ?_) (fun _ => ?_)) | (refine Gif.mk (fun _ => ?_) (fun _ => ?_)))) <;> (simp only [retK, fullK, iterK, resD, resA, AOp.ex, St.ev, Option.map_some, Option.bind_some, St.get, lk, reduceIte, Nat.reduceEqDiff, Option.getD_some, oneD, List.getElem?_cons_zero, List.getElem?_cons_succ, List.drop_zero, List.drop_succ_cons, List.take_succ_cons, List.take_zero, List.length_cons, List.length_nil, Nat.zero_add, Nat.reduceAdd, Nat.le_refl, Nat.reduceLeDiff, D.pub, D.pubs, Tryz.results60]; exact ⟨_, rfl, rfl, congrArg bln (by first | rfl | (rw [Bool.eq_iff_iff]; simp only [strSame]; simp; done) | (rw [Bool.eq_iff_iff]; simp only [strSame]; simp; omega) | (rw [Bool.eq_iff_iff]; simp only [strSame]; simp [*]; done) | (rw [Bool.eq_iff_iff]; simp only [strSame]; simp [*]; omega) | (simp_all [strSame]; done) | (exfalso; omega))⟩)

theorem thing_route_3 (s : ByteArray) : Pure Tryz.prog 61 [str s] (fun d => d = bln (patMay s)) := by
  refine pure_of_run follows an_z4pg2 Tryz.func61 rfl ok_z4pg2 dst_z4pg2 (by simp [Tryz.ntmps61]) ?_
  rw [run_start]
  simp only [ac_z4pg2, go_sem, contS_seq, simprocAttr]
  (repeat' (first | (refine GifP.mk (fun _ => ?_) (fun _ => ?_)) | (refine Gif.mk (fun _ => ?_) (fun _ => ?_)) | (refine (host_May _).callW (enters_of Tryz.func62 rfl rfl) _ rfl rfl ?_; rintro _ rfl; try simp only [go_sem, contS_seq, simprocAttr]))) <;> (simp only [retK, fullK, iterK, resD, resA, AOp.ex, St.ev, Option.map_some, Option.bind_some, St.get, lk, reduceIte, Nat.reduceEqDiff, Option.getD_some, oneD, List.getElem?_cons_zero, List.getElem?_cons_succ, List.drop_zero, List.drop_succ_cons, List.take_succ_cons, List.take_zero, List.length_cons, List.length_nil, Nat.zero_add, Nat.reduceAdd, Nat.le_refl, Nat.reduceLeDiff, D.pub, D.pubs, Tryz.results61]; exact ⟨_, rfl, rfl, congrArg bln (by first | rfl | (rw [Bool.eq_iff_iff]; simp only [patMay]; simp; done) | (rw [Bool.eq_iff_iff]; simp only [patMay]; simp; omega) | (rw [Bool.eq_iff_iff]; simp only [patMay]; simp [*]; done) | (rw [Bool.eq_iff_iff]; simp only [patMay]; simp [*]; omega) | (simp_all [patMay]; done) | (exfalso; omega))⟩)

def notNaN (_ : Int) : Bool := false
def intLess (a b : Int) : Bool := decide (a < b)

theorem cmp_isNaN (a : Int) : Pure Tryz.prog 118 [int a] (fun d => d = bln (notNaN a)) := by
  refine pure_of_run follows an_zkuzu Tryz.func118 rfl ok_zkuzu dst_zkuzu (by simp [Tryz.ntmps118]) ?_
  rw [run_start]
  simp only [ac_zkuzu, go_sem, contS_seq, simprocAttr]
  (repeat' (first | (refine GifP.mk (fun _ => ?_) (fun _ => ?_)) | (refine Gif.mk (fun _ => ?_) (fun _ => ?_)))) <;> (simp only [retK, fullK, iterK, resD, resA, AOp.ex, St.ev, Option.map_some, Option.bind_some, St.get, lk, reduceIte, Nat.reduceEqDiff, Option.getD_some, oneD, List.getElem?_cons_zero, List.getElem?_cons_succ, List.drop_zero, List.drop_succ_cons, List.take_succ_cons, List.take_zero, List.length_cons, List.length_nil, Nat.zero_add, Nat.reduceAdd, Nat.le_refl, Nat.reduceLeDiff, D.pub, D.pubs, Tryz.results118]; exact ⟨_, rfl, rfl, congrArg bln (by first | rfl | (rw [Bool.eq_iff_iff]; simp only [notNaN]; simp; done) | (rw [Bool.eq_iff_iff]; simp only [notNaN]; simp; omega) | (rw [Bool.eq_iff_iff]; simp only [notNaN]; simp [*]; done) | (rw [Bool.eq_iff_iff]; simp only [notNaN]; simp [*]; omega) | (simp_all [notNaN]; done) | (exfalso; omega))⟩)

theorem cmp_Less (a b : Int) : Pure Tryz.prog 86 [int a, int b] (fun d => d = bln (intLess a b)) := by
  refine pure_of_run follows an_zte1c Tryz.func86 rfl ok_zte1c dst_zte1c (by simp [Tryz.ntmps86]) ?_
  rw [run_start]
  simp only [ac_zte1c, go_sem, contS_seq, simprocAttr]
  refine (cmp_isNaN a).callW (enters_of Tryz.func118 rfl rfl) _ rfl rfl ?_
  rintro d rfl
  simp only [go_sem, contS_seq, simprocAttr, notNaN]
  simp only [retK, fullK, iterK, resD, resA, AOp.ex, St.ev, Option.map_some, Option.bind_some, St.get, lk, reduceIte, Nat.reduceEqDiff, Option.getD_some, oneD, List.getElem?_cons_zero, List.getElem?_cons_succ, List.drop_zero, List.drop_succ_cons, List.take_succ_cons, List.take_zero, List.length_cons, List.length_nil, Nat.zero_add, Nat.reduceAdd, Nat.le_refl, Nat.reduceLeDiff, D.pub, D.pubs, Tryz.results86]
  exact ⟨_, rfl, rfl, rfl⟩

def mayRef (r : ARef) : Bool := if r.kind = 1 then decide (r.space = ⟨#[]⟩) && dname r.name else if r.kind = 2 then decide (r.space = ⟨#[]⟩) && label r.name else okind r.kind && label r.space && dname r.name

theorem object_MayRef (r : ARef) : Pure Tryz.prog 41 [r.d] (fun d => d = bln (mayRef r)) := by
  refine pure_of_run follows an_zkdrf Tryz.func41 rfl ok_zkdrf dst_zkdrf (by simp [Tryz.ntmps41]) ?_
  rw [run_start]
  simp only [ac_zkdrf, go_sem, contS_seq, simprocAttr]
  (repeat' (first | (refine GifP.mk (fun _ => ?_) (fun _ => ?_)) | (refine Gif.mk (fun _ => ?_) (fun _ => ?_)) | ((first | refine (object_kind _).callW (enters_of Tryz.func69 rfl rfl) _ rfl rfl ?_ | refine (dns_Label _).callW (enters_of Tryz.func70 rfl rfl) _ rfl rfl ?_ | refine (dns_Name _).callW (enters_of Tryz.func53 rfl rfl) _ rfl rfl ?_); rintro _ rfl; try simp only [go_sem, contS_seq, simprocAttr]))) <;> (simp only [retK, fullK, iterK, resD, resA, AOp.ex, St.ev, Option.map_some, Option.bind_some, St.get, lk, reduceIte, Nat.reduceEqDiff, Option.getD_some, oneD, List.getElem?_cons_zero, List.getElem?_cons_succ, List.drop_zero, List.drop_succ_cons, List.take_succ_cons, List.take_zero, List.length_cons, List.length_nil, Nat.zero_add, Nat.reduceAdd, Nat.le_refl, Nat.reduceLeDiff, D.pub, D.pubs, Tryz.results41]; exact ⟨_, rfl, rfl, congrArg bln (by first | rfl | (rw [Bool.eq_iff_iff]; simp only [mayRef]; simp; done) | (rw [Bool.eq_iff_iff]; simp only [mayRef]; simp; omega) | (rw [Bool.eq_iff_iff]; simp only [mayRef]; simp [*]; done) | (rw [Bool.eq_iff_iff]; simp only [mayRef]; simp [*]; omega) | (simp_all [mayRef]; done) | (exfalso; omega))⟩)

def fewVals (n : ANeed) : Bool := decide (1 ≤ n.vals.length) && decide (n.vals.length ≤ 8) && !n.vals.any (fun s => !labValue s)

theorem label_asks_1 (s : ByteArray) : Pure Tryz.prog 153 [str s] (fun d => d = bln (!labValue s)) := by
  refine pure_of_run follows an_zuzx4 Tryz.func153 rfl ok_zuzx4 dst_zuzx4 (by simp [Tryz.ntmps153]) ?_
  rw [run_start]
  simp only [ac_zuzx4, go_sem, contS_seq, simprocAttr]
  (repeat' (first | (refine GifP.mk (fun _ => ?_) (fun _ => ?_)) | (refine Gif.mk (fun _ => ?_) (fun _ => ?_)) | (refine (label_value _).callW (enters_of Tryz.func83 rfl rfl) _ rfl rfl ?_; rintro _ rfl; try simp only [go_sem, contS_seq, simprocAttr]))) <;> (simp only [retK, fullK, iterK, resD, resA, AOp.ex, St.ev, Option.map_some, Option.bind_some, St.get, lk, reduceIte, Nat.reduceEqDiff, Option.getD_some, oneD, List.getElem?_cons_zero, List.getElem?_cons_succ, List.drop_zero, List.drop_succ_cons, List.take_succ_cons, List.take_zero, List.length_cons, List.length_nil, Nat.zero_add, Nat.reduceAdd, Nat.le_refl, Nat.reduceLeDiff, D.pub, D.pubs, Tryz.results153]; exact ⟨_, rfl, rfl, congrArg bln (by first | rfl | (rw [Bool.eq_iff_iff]; simp only [labValue]; simp; done) | (rw [Bool.eq_iff_iff]; simp only [labValue]; simp; omega) | (rw [Bool.eq_iff_iff]; simp only [labValue]; simp [*]; done) | (rw [Bool.eq_iff_iff]; simp only [labValue]; simp [*]; omega) | (simp_all [labValue]; done) | (exfalso; omega))⟩)

def asksD (n : ANeed) : D :=
  if dname n.name = false then .pd (.raw .nilIface)
  else if n.kind = 1 ∧ fewVals n = true then .pd (.iface 184 true [pStr n.name, .slice (strs n.vals)])
  else if n.kind = 2 ∧ fewVals n = true then .pd (.iface 186 true [pStr n.name, .slice (strs n.vals)])
  else if n.kind = 3 ∧ n.vals.length = 0 then .pd (.iface 187 false [pStr n.name])
  else if n.kind = 4 ∧ n.vals.length = 0 then .pd (.iface 189 true [pStr n.name])
  else .pd (.raw .nilIface)

def askMay (n : ANeed) : Bool := dname n.name && ((decide (n.kind = 1) && fewVals n) || (decide (n.kind = 2) && fewVals n) || (decide (n.kind = 3) && decide (n.vals.length = 0)) || (decide (n.kind = 4) && decide (n.vals.length = 0)))

set_option maxHeartbeats 2000000 in
theorem label_asks (n : ANeed) (hv : n.vals.length ≤ 1000000) : Pure Tryz.prog 123 [n.d] (fun d => d = asksD n) := by
  refine pure_of_run follows an_zyjit Tryz.func123 rfl ok_zyjit dst_zyjit (by simp [Tryz.ntmps123]) ?_
  rw [run_start]
  simp only [ac_zyjit, go_sem, contS_seq, simprocAttr, rows_len]
  have key : ∀ b : Bool, fewVals n = b → ∀ d : D, (d = if dname n.name = false then .pd (.raw .nilIface)
      else if n.kind = 1 ∧ b = true then .pd (.iface 184 true [pStr n.name, .slice (strs n.vals)])
      else if n.kind = 2 ∧ b = true then .pd (.iface 186 true [pStr n.name, .slice (strs n.vals)])
      else if n.kind = 3 ∧ n.vals.length = 0 then .pd (.iface 187 false [pStr n.name])
      else if n.kind = 4 ∧ n.vals.length = 0 then .pd (.iface 189 true [pStr n.name])
      else .pd (.raw .nilIface)) → d = asksD n := fun b h d hd => by
    rw [hd]; unfold asksD; rw [h]
  refine GifP.mk (fun h1 => ?_) (fun h1 => ?_)
  · refine GifP.mk (fun h2 => ?_) (fun h2 => ?_)
    · refine (ContainsP_string (fun s => !labValue s) _ (enters_of Tryz.func153 rfl rfl) n.vals hv (fun s _ => label_asks_1 s)).callW (enters_of Tryz.func96 rfl rfl) _ rfl rfl ?_
      rintro d rfl
      have hf : fewVals n = !n.vals.any (fun s => !labValue s) := by
        have h3 : 1 ≤ n.vals.length := by omega
        have h4 : n.vals.length ≤ 8 := by omega
        simp [fewVals, h3, h4]
      obtain ⟨q, hq⟩ : ∃ q, n.vals.any (fun s => !labValue s) = q := ⟨_, rfl⟩
      rw [hq] at hf ⊢
      cases q
      all_goals
        have key' := key _ hf
        simp only [go_sem, contS_seq, simprocAttr, rows_len]
        (repeat' (first | (refine GifP.mk (fun _ => ?_) (fun _ => ?_)) | (refine Gif.mk (fun _ => ?_) (fun _ => ?_)) | (refine (dns_Name _).callW (enters_of Tryz.func53 rfl rfl) _ rfl rfl ?_; rintro _ rfl; try simp only [go_sem, contS_seq, simprocAttr, rows_len]))) <;> (simp only [retK, fullK, iterK, resD, resA, AOp.ex, St.ev, Option.map_some, Option.bind_some, St.get, lk, reduceIte, Nat.reduceEqDiff, Option.getD_some, oneD, List.getElem?_cons_zero, List.getElem?_cons_succ, List.drop_zero, List.drop_succ_cons, List.take_succ_cons, List.take_zero, List.length_cons, List.length_nil, Nat.zero_add, Nat.reduceAdd, Nat.le_refl, Nat.reduceLeDiff, D.pub, D.pubs, Tryz.results123]; refine ⟨_, rfl, rfl, ?_⟩; refine key' _ ?_; clear key key'; dsimp only [D.pub]; (repeat' split) <;> first | rfl | (exfalso; omega) | (exfalso; simp_all; done) | (exfalso; simp_all; omega))
    · have hf : fewVals n = false := by
        have h4 : ¬ n.vals.length ≤ 8 := by omega
        simp [fewVals, h4]
      have key' := key _ hf
      (repeat' (first | (refine GifP.mk (fun _ => ?_) (fun _ => ?_)) | (refine Gif.mk (fun _ => ?_) (fun _ => ?_)) | (refine (dns_Name _).callW (enters_of Tryz.func53 rfl rfl) _ rfl rfl ?_; rintro _ rfl; try simp only [go_sem, contS_seq, simprocAttr, rows_len]))) <;> (simp only [retK, fullK, iterK, resD, resA, AOp.ex, St.ev, Option.map_some, Option.bind_some, St.get, lk, reduceIte, Nat.reduceEqDiff, Option.getD_some, oneD, List.getElem?_cons_zero, List.getElem?_cons_succ, List.drop_zero, List.drop_succ_cons, List.take_succ_cons, List.take_zero, List.length_cons, List.length_nil, Nat.zero_add, Nat.reduceAdd, Nat.le_refl, Nat.reduceLeDiff, D.pub, D.pubs, Tryz.results123]; refine ⟨_, rfl, rfl, ?_⟩; refine key' _ ?_; clear key key'; dsimp only [D.pub]; (repeat' split) <;> first | rfl | (exfalso; omega) | (exfalso; simp_all; done) | (exfalso; simp_all; omega))
  · have hf : fewVals n = false := by
      have h4 : ¬ 1 ≤ n.vals.length := by omega
      simp [fewVals, h4]
    have key' := key _ hf
    (repeat' (first | (refine GifP.mk (fun _ => ?_) (fun _ => ?_)) | (refine Gif.mk (fun _ => ?_) (fun _ => ?_)) | (refine (dns_Name _).callW (enters_of Tryz.func53 rfl rfl) _ rfl rfl ?_; rintro _ rfl; try simp only [go_sem, contS_seq, simprocAttr, rows_len]))) <;> (simp only [retK, fullK, iterK, resD, resA, AOp.ex, St.ev, Option.map_some, Option.bind_some, St.get, lk, reduceIte, Nat.reduceEqDiff, Option.getD_some, oneD, List.getElem?_cons_zero, List.getElem?_cons_succ, List.drop_zero, List.drop_succ_cons, List.take_succ_cons, List.take_zero, List.length_cons, List.length_nil, Nat.zero_add, Nat.reduceAdd, Nat.le_refl, Nat.reduceLeDiff, D.pub, D.pubs, Tryz.results123]; refine ⟨_, rfl, rfl, ?_⟩; refine key' _ ?_; clear key key'; dsimp only [D.pub]; (repeat' split) <;> first | rfl | (exfalso; omega) | (exfalso; simp_all; done) | (exfalso; simp_all; omega))

theorem askMay_isnil (n : ANeed) : (∃ t a cs, asksD n = .pd (.iface t a cs) ∧ askMay n = true) ∨ (asksD n = .pd (.raw .nilIface) ∧ askMay n = false) := by
  unfold asksD askMay
  repeat' split
  all_goals first
    | exact .inl ⟨_, _, _, rfl, by simp_all⟩
    | exact .inr ⟨rfl, by simp_all⟩

theorem label_Needs_1 (n : ANeed) (hv : n.vals.length ≤ 1000000) : Pure Tryz.prog 122 [n.d] (fun d => d = bln (!askMay n)) := by
  refine pure_of_run follows an_zdaaj Tryz.func122 rfl ok_zdaaj dst_zdaaj (by simp [Tryz.ntmps122]) ?_
  rw [run_start]
  simp only [ac_zdaaj, go_sem, contS_seq, simprocAttr, rows_len]
  refine (label_asks n hv).callW (enters_of Tryz.func123 rfl rfl) _ rfl rfl ?_
  rintro d rfl
  rcases askMay_isnil n with ⟨t, a, cs, h1, h2⟩ | ⟨h1, h2⟩
  all_goals
    rw [h1]
    simp only [go_sem, contS_seq, simprocAttr]
    simp only [retK, fullK, iterK, resD, resA, AOp.ex, St.ev, Option.map_some, Option.bind_some, St.get, lk, reduceIte, Nat.reduceEqDiff, Option.getD_some, oneD, List.getElem?_cons_zero, List.getElem?_cons_succ, List.drop_zero, List.drop_succ_cons, List.take_succ_cons, List.take_zero, List.length_cons, List.length_nil, Nat.zero_add, Nat.reduceAdd, Nat.le_refl, Nat.reduceLeDiff, D.pub, D.pubs, Tryz.results122]
    exact ⟨_, rfl, rfl, congrArg bln (by rw [h2]; rfl)⟩

def ANeed.ok (n : ANeed) : Prop := n.vals.length ≤ 1000000

def needsMay (l : List ANeed) : Bool := decide (l.length ≤ 8) && !l.any (fun n => !askMay n)

theorem label_Needs (l : List ANeed) (hl : l.length ≤ 1000000) (hv : ∀ n ∈ l, n.ok) : Pure Tryz.prog 92 [.pd (.slice (rows ANeed.pd l))] (fun d => d = bln (needsMay l)) := by
  refine pure_of_run follows an_zlask Tryz.func92 rfl ok_zlask dst_zlask (by simp [Tryz.ntmps92]) ?_
  rw [run_start]
  simp only [ac_zlask, go_sem, contS_seq, simprocAttr, rows_len]
  (repeat' (first | (refine GifP.mk (fun _ => ?_) (fun _ => ?_)) | (refine Gif.mk (fun _ => ?_) (fun _ => ?_)) | (refine (ContainsP_Need (fun n => !askMay n) _ (enters_of Tryz.func122 rfl rfl) l hl (fun n hn => label_Needs_1 n (hv n hn))).callW (enters_of Tryz.func121 rfl rfl) _ rfl rfl ?_; rintro _ rfl; try simp only [go_sem, contS_seq, simprocAttr, rows_len]))) <;> (simp only [retK, fullK, iterK, resD, resA, AOp.ex, St.ev, Option.map_some, Option.bind_some, St.get, lk, reduceIte, Nat.reduceEqDiff, Option.getD_some, oneD, List.getElem?_cons_zero, List.getElem?_cons_succ, List.drop_zero, List.drop_succ_cons, List.take_succ_cons, List.take_zero, List.length_cons, List.length_nil, Nat.zero_add, Nat.reduceAdd, Nat.le_refl, Nat.reduceLeDiff, D.pub, D.pubs, Tryz.results92]; exact ⟨_, rfl, rfl, congrArg bln (by first | rfl | (rw [Bool.eq_iff_iff]; simp only [needsMay]; simp; done) | (rw [Bool.eq_iff_iff]; simp only [needsMay]; simp; omega) | (rw [Bool.eq_iff_iff]; simp only [needsMay]; simp [*]; done) | (rw [Bool.eq_iff_iff]; simp only [needsMay]; simp [*]; omega) | (simp_all [needsMay]; done) | (exfalso; omega))⟩)

def needSame (a b : ANeed) : Bool := decide (a.kind = b.kind) && decide (a.name = b.name) && decide (a.vals = b.vals)

theorem label_Same_1 (a b : ANeed) (ha : a.ok) (hb : b.ok) : Pure Tryz.prog 148 [a.d, b.d] (fun d => d = bln (needSame a b)) := by
  refine pure_of_run follows an_zvpxe Tryz.func148 rfl ok_zvpxe dst_zvpxe (by simp [Tryz.ntmps148]) ?_
  rw [run_start]
  simp only [ac_zvpxe, go_sem, contS_seq, simprocAttr]
  (repeat' (first | (refine GifP.mk (fun _ => ?_) (fun _ => ?_)) | (refine Gif.mk (fun _ => ?_) (fun _ => ?_)) | (refine (Equal_string a.vals b.vals ha hb).callW (enters_of Tryz.func75 rfl rfl) _ rfl rfl ?_; rintro _ rfl; try simp only [go_sem, contS_seq, simprocAttr]))) <;> (simp only [retK, fullK, iterK, resD, resA, AOp.ex, St.ev, Option.map_some, Option.bind_some, St.get, lk, reduceIte, Nat.reduceEqDiff, Option.getD_some, oneD, List.getElem?_cons_zero, List.getElem?_cons_succ, List.drop_zero, List.drop_succ_cons, List.take_succ_cons, List.take_zero, List.length_cons, List.length_nil, Nat.zero_add, Nat.reduceAdd, Nat.le_refl, Nat.reduceLeDiff, D.pub, D.pubs, Tryz.results148]; exact ⟨_, rfl, rfl, congrArg bln (by first | rfl | (rw [Bool.eq_iff_iff]; simp only [needSame]; simp; done) | (rw [Bool.eq_iff_iff]; simp only [needSame]; simp; omega) | (rw [Bool.eq_iff_iff]; simp only [needSame]; simp [*]; done) | (rw [Bool.eq_iff_iff]; simp only [needSame]; simp [*]; omega) | (simp_all [needSame]; done) | (exfalso; omega))⟩)

theorem label_Same (l m : List ANeed) (hl : l.length ≤ 1000000) (hm : m.length ≤ 1000000) (h1 : ∀ n ∈ l, n.ok) (h2 : ∀ n ∈ m, n.ok) : Pure Tryz.prog 112 [.pd (.slice (rows ANeed.pd l)), .pd (.slice (rows ANeed.pd m))] (fun d => d = bln (eqf needSame l m)) := by
  refine pure_of_run follows an_zx2gm Tryz.func112 rfl ok_zx2gm dst_zx2gm (by simp [Tryz.ntmps112]) ?_
  rw [run_start]
  simp only [ac_zx2gm, go_sem, contS_seq, simprocAttr]
  (repeat' (first | (refine GifP.mk (fun _ => ?_) (fun _ => ?_)) | (refine Gif.mk (fun _ => ?_) (fun _ => ?_)) | (refine (EqualFunc_Need needSame _ (enters_of Tryz.func148 rfl rfl) l m hl hm (fun x hx y hy => label_Same_1 x y (h1 x hx) (h2 y hy))).callW (enters_of Tryz.func147 rfl rfl) _ rfl rfl ?_; rintro _ rfl; try simp only [go_sem, contS_seq, simprocAttr]))) <;> (simp only [retK, fullK, iterK, resD, resA, AOp.ex, St.ev, Option.map_some, Option.bind_some, St.get, lk, reduceIte, Nat.reduceEqDiff, Option.getD_some, oneD, List.getElem?_cons_zero, List.getElem?_cons_succ, List.drop_zero, List.drop_succ_cons, List.take_succ_cons, List.take_zero, List.length_cons, List.length_nil, Nat.zero_add, Nat.reduceAdd, Nat.le_refl, Nat.reduceLeDiff, D.pub, D.pubs, Tryz.results112]; exact ⟨_, rfl, rfl, congrArg bln (by first | rfl | (rw [Bool.eq_iff_iff]; simp only [id]; simp; done) | (rw [Bool.eq_iff_iff]; simp only [id]; simp; omega) | (rw [Bool.eq_iff_iff]; simp only [id]; simp [*]; done) | (rw [Bool.eq_iff_iff]; simp only [id]; simp [*]; omega) | (simp_all [id]; done) | (exfalso; omega))⟩)


def valOct (b : UInt8) : Bool := decide (32 ≤ b.toNat) && decide (b.toNat ≤ 126)

def fvalue (s : ByteArray) : Bool := s.data.toList.all valOct && decide (s.size ≤ 40) && decide (trim s = s)

theorem pairs_Value (s : ByteArray) (hs : s.size ≤ 1000000) : Pure Tryz.prog 132 [str s] (fun d => d = bln (fvalue s)) := by
  refine pure_of_run follows an_z4wze Tryz.func132 rfl ok_z4wze dst_z4wze (by simp [Tryz.ntmps132]) ?_
  rw [run_start]
  simp only [ac_z4wze, go_sem, contS_seq, simprocAttr, rows_len]
  refine loopS (fun k st => ∃ i : Nat, k = s.size - i ∧ i ≤ s.size ∧ (s.data.toList.drop i).all valOct = s.data.toList.all valOct ∧
    st = ⟨[(0, str s), (5, int s.size), (6, int i)], [], [], .no⟩) s.size _ (Weak.refl _ _) ⟨0, rfl, Nat.zero_le _, rfl, rfl⟩ ?_
  rintro k st ⟨i, rfl, hi, hr, rfl⟩
  by_cases hlt : i < s.size
  · obtain ⟨b, hb, hd⟩ := byte_at hlt
    have hlt' : ((i : Int) < (s.size : Int)) = True := eq_true (by omega)
    rw [hd, List.all_cons] at hr
    have bad : valOct b = false → fvalue s = false := fun h => by
      rw [h, Bool.false_and] at hr
      simp only [fvalue, ← hr, Bool.false_and]
    have hw := i64_succ (show i < 1000000000 by omega)
    simp only [go_sem, contS_seq, simprocAttr, hlt', hb, hw]
    repeat' (first | refine GifP.mk (fun _ => ?_) (fun _ => ?_) | refine Gif.mk (fun _ => ?_) (fun _ => ?_))
    iterate 2
      · simp only [retK, fullK, iterK, resD, resA, AOp.ex, St.ev, Option.map_some, Option.bind_some, St.get, lk, reduceIte, Nat.reduceEqDiff, Option.getD_some, oneD, List.getElem?_cons_zero, List.getElem?_cons_succ, List.drop_zero, List.drop_succ_cons, List.take_succ_cons, List.take_zero, List.length_cons, List.length_nil, Nat.zero_add, Nat.reduceAdd, Nat.le_refl, Nat.reduceLeDiff, D.pub, D.pubs, Tryz.results132]
        exact ⟨_, rfl, rfl, congrArg bln (bad (by simp [valOct]; omega)).symm⟩
    · have hg : valOct b = true := by simp [valOct]; omega
      rw [hg, Bool.true_and] at hr
      refine ⟨s.size - (i + 1), _, ?_, ?_, i + 1, rfl, ?_, hr, rfl⟩
      · omega
      · exact Weak.less (by simp [lessL, lk]) (by simp [lessL, lk]) (by simp [lessL, lk]) rfl
      · omega
  · have hlt' : ((i : Int) < (s.size : Int)) = False := eq_false (by omega)
    rw [byte_end hlt] at hr
    have hr' := hr.symm
    rw [List.all_nil] at hr'
    simp only [go_sem, contS_seq, simprocAttr, rows_len, hlt']
    (repeat' (first | (refine GifP.mk (fun _ => ?_) (fun _ => ?_)) | (refine Gif.mk (fun _ => ?_) (fun _ => ?_)) | (refine (strings_Trim s hs).callW (enters_of Tryz.func157 rfl rfl) _ rfl rfl ?_; rintro _ rfl; try simp only [go_sem, contS_seq, simprocAttr]))) <;> (simp only [retK, fullK, iterK, resD, resA, AOp.ex, St.ev, Option.map_some, Option.bind_some, St.get, lk, reduceIte, Nat.reduceEqDiff, Option.getD_some, oneD, List.getElem?_cons_zero, List.getElem?_cons_succ, List.drop_zero, List.drop_succ_cons, List.take_succ_cons, List.take_zero, List.length_cons, List.length_nil, Nat.zero_add, Nat.reduceAdd, Nat.le_refl, Nat.reduceLeDiff, D.pub, D.pubs, Tryz.results132]; exact ⟨_, rfl, rfl, congrArg bln (by first | rfl | (rw [Bool.eq_iff_iff]; simp only [fvalue, hr']; simp; done) | (rw [Bool.eq_iff_iff]; simp only [fvalue, hr']; simp; omega) | (rw [Bool.eq_iff_iff]; simp only [fvalue, hr']; simp [*]; done) | (rw [Bool.eq_iff_iff]; simp only [fvalue, hr']; simp [*]; omega) | (simp_all [fvalue, hr']; done) | (exfalso; omega))⟩)

def foldSame (a b : ByteArray) : Bool := decide (fold a = fold b)

theorem pairs_Same (a b : ByteArray) (ha : a.size ≤ 1000000) (hb : b.size ≤ 1000000) : Pure Tryz.prog 137 [str a, str b] (fun d => d = bln (foldSame a b)) := by
  refine pure_of_run follows an_zrrew Tryz.func137 rfl ok_zrrew dst_zrrew (by simp [Tryz.ntmps137]) ?_
  rw [run_start]
  simp only [ac_zrrew, go_sem, contS_seq, simprocAttr]
  (repeat' (first | (refine GifP.mk (fun _ => ?_) (fun _ => ?_)) | (refine Gif.mk (fun _ => ?_) (fun _ => ?_)) | ((first | refine (dns_Fold a ha).callW (enters_of Tryz.func163 rfl rfl) _ rfl rfl ?_ | refine (dns_Fold b hb).callW (enters_of Tryz.func163 rfl rfl) _ rfl rfl ?_); rintro _ rfl; try simp only [go_sem, contS_seq, simprocAttr]))) <;> (simp only [retK, fullK, iterK, resD, resA, AOp.ex, St.ev, Option.map_some, Option.bind_some, St.get, lk, reduceIte, Nat.reduceEqDiff, Option.getD_some, oneD, List.getElem?_cons_zero, List.getElem?_cons_succ, List.drop_zero, List.drop_succ_cons, List.take_succ_cons, List.take_zero, List.length_cons, List.length_nil, Nat.zero_add, Nat.reduceAdd, Nat.le_refl, Nat.reduceLeDiff, D.pub, D.pubs, Tryz.results137]; exact ⟨_, rfl, rfl, congrArg bln (by first | rfl | (rw [Bool.eq_iff_iff]; simp only [foldSame]; simp; done) | (rw [Bool.eq_iff_iff]; simp only [foldSame]; simp; omega) | (rw [Bool.eq_iff_iff]; simp only [foldSame]; simp [*]; done) | (rw [Bool.eq_iff_iff]; simp only [foldSame]; simp [*]; omega) | (simp_all [foldSame]; done) | (exfalso; omega))⟩)

def APair.ok (p : APair) : Prop := p.name.size ≤ 1000000 ∧ p.val.size ≤ 1000000
def AFilter.ok (f : AFilter) : Prop := f.name.size ≤ 1000000 ∧ f.val.size ≤ 1000000
structure AMatch.ok (m : AMatch) : Prop where
  hl : m.head.length ≤ 1000000
  ql : m.query.length ≤ 1000000
  h : ∀ p ∈ m.head, p.ok
  q : ∀ p ∈ m.query, p.ok

def pairOdd (p : APair) : Bool := !token p.name || !fvalue p.val

theorem rule_May_1 (p : APair) (h : p.ok) : Pure Tryz.prog 130 [p.d] (fun d => d = bln (pairOdd p)) := by
  refine pure_of_run follows an_zqrzx Tryz.func130 rfl ok_zqrzx dst_zqrzx (by simp [Tryz.ntmps130]) ?_
  rw [run_start]
  simp only [ac_zqrzx, go_sem, contS_seq, simprocAttr]
  (repeat' (first | (refine GifP.mk (fun _ => ?_) (fun _ => ?_)) | (refine Gif.mk (fun _ => ?_) (fun _ => ?_)) | ((first | refine (pairs_Token p.name h.1).callW (enters_of Tryz.func131 rfl rfl) _ rfl rfl ?_ | refine (pairs_Value p.val h.2).callW (enters_of Tryz.func132 rfl rfl) _ rfl rfl ?_); rintro _ rfl; try simp only [go_sem, contS_seq, simprocAttr]))) <;> (simp only [retK, fullK, iterK, resD, resA, AOp.ex, St.ev, Option.map_some, Option.bind_some, St.get, lk, reduceIte, Nat.reduceEqDiff, Option.getD_some, oneD, List.getElem?_cons_zero, List.getElem?_cons_succ, List.drop_zero, List.drop_succ_cons, List.take_succ_cons, List.take_zero, List.length_cons, List.length_nil, Nat.zero_add, Nat.reduceAdd, Nat.le_refl, Nat.reduceLeDiff, D.pub, D.pubs, Tryz.results130]; exact ⟨_, rfl, rfl, congrArg bln (by first | rfl | (rw [Bool.eq_iff_iff]; simp only [pairOdd]; simp; done) | (rw [Bool.eq_iff_iff]; simp only [pairOdd]; simp; omega) | (rw [Bool.eq_iff_iff]; simp only [pairOdd]; simp [*]; done) | (rw [Bool.eq_iff_iff]; simp only [pairOdd]; simp [*]; omega) | (simp_all [pairOdd]; done) | (exfalso; omega))⟩)

theorem rule_May_2 (a b : ByteArray) : Pure Tryz.prog 139 [str a, str b] (fun d => d = bln (strSame a b)) := by
  refine pure_of_run follows an_zwio7 Tryz.func139 rfl ok_zwio7 dst_zwio7 (by simp [Tryz.ntmps139]) ?_
  rw [run_start]
  simp only [ac_zwio7, go_sem, contS_seq, simprocAttr]
  (repeat' (first | (refine GifP.mk (fun _ => ?_) (fun _ => ?_)) | (refine Gif.mk (fun _ => ?_) (fun _ => ?_)))) <;> (simp only [retK, fullK, iterK, resD, resA, AOp.ex, St.ev, Option.map_some, Option.bind_some, St.get, lk, reduceIte, Nat.reduceEqDiff, Option.getD_some, oneD, List.getElem?_cons_zero, List.getElem?_cons_succ, List.drop_zero, List.drop_succ_cons, List.take_succ_cons, List.take_zero, List.length_cons, List.length_nil, Nat.zero_add, Nat.reduceAdd, Nat.le_refl, Nat.reduceLeDiff, D.pub, D.pubs, Tryz.results139]; exact ⟨_, rfl, rfl, congrArg bln (by first | rfl | (rw [Bool.eq_iff_iff]; simp only [strSame]; simp; done) | (rw [Bool.eq_iff_iff]; simp only [strSame]; simp; omega) | (rw [Bool.eq_iff_iff]; simp only [strSame]; simp [*]; done) | (rw [Bool.eq_iff_iff]; simp only [strSame]; simp [*]; omega) | (simp_all [strSame]; done) | (exfalso; omega))⟩)

theorem rule_twice_1 (q : ByteArray → ByteArray → Bool) (f : FuncId) (he : Enters Tryz.prog f) (x y : APair) (hp : Pure Tryz.prog f [str y.name, str x.name] (fun d => d = bln (q y.name x.name))) :
    PureB Tryz.prog 162 [y.d, .ptr 1000001 0, .ptr 1000002 0] [(1000001, [.fn f []]), (1000002, [str x.name, str x.val])] (fun d => d = bln (q y.name x.name)) := by
  refine pureB_of_run follows an_zpw6o Tryz.func162 rfl ok_zpw6o dst_zpw6o (by simp [Tryz.ntmps162]) ?_
  rw [run_start]
  simp only [ac_zpw6o, go_sem, contS_seq, simprocAttr]
  refine hp.callW he _ rfl rfl ?_
  rintro d rfl
  simp only [go_sem, contS_seq, simprocAttr]
  simp only [retK, fullK, iterK, resD, resA, AOp.ex, St.ev, Option.map_some, Option.bind_some, St.get, lk, reduceIte, Nat.reduceEqDiff, Option.getD_some, oneD, List.getElem?_cons_zero, List.getElem?_cons_succ, List.drop_zero, List.drop_succ_cons, List.take_succ_cons, List.take_zero, List.length_cons, List.length_nil, Nat.zero_add, Nat.reduceAdd, Nat.le_refl, Nat.reduceLeDiff, D.pub, D.pubs, Tryz.results162]
  exact ⟨_, rfl, rfl, rfl⟩

def pairTwice (q : ByteArray → ByteArray → Bool) (l : List APair) : Bool := twice (fun x y => q y.name x.name) l

theorem rule_twice (q : ByteArray → ByteArray → Bool) (f : FuncId) (he : Enters Tryz.prog f) (l : List APair) (hl : l.length ≤ 1000000) (hp : ∀ x ∈ l, ∀ y ∈ l, Pure Tryz.prog f [str y.name, str x.name] (fun d => d = bln (q y.name x.name))) :
    Pure Tryz.prog 136 [.pd (.slice (rows APair.pd l)), .fn f []] (fun d => d = bln (pairTwice q l)) := by
  refine pure_of_run follows an_z6for Tryz.func136 rfl ok_z6for dst_z6for (by simp [Tryz.ntmps136]) ?_
  rw [run_start]
  simp only [ac_z6for, go_sem, contS_seq, simprocAttr, rows_len]
  refine loopS (fun k st => ∃ i : Nat, k = l.length - i ∧ i ≤ l.length ∧ twiceFrom (fun x y : APair => q y.name x.name) l k i = pairTwice q l ∧
    st = ⟨[(0, .pd (.slice (rows APair.pd l))), (3, .ptr 3 0), (7, .pd (.slice (rows APair.pd l))), (8, int l.length), (9, int i)], [(3, [.fn f []])], [], .no⟩) l.length _ (Weak.refl _ _) ⟨0, rfl, Nat.zero_le _, rfl, rfl⟩ ?_
  rintro k st ⟨i, rfl, hi, hr, rfl⟩
  by_cases hlt : i < l.length
  · obtain ⟨x, hx⟩ := at_lt hlt
    have hlt' : ((i : Int) < (l.length : Int)) = True := eq_true (by omega)
    have hle : (i ≤ l.length) = True := eq_true (by omega)
    have hw := i64_succ (show i < 1000000000 by omega)
    have hmx := List.mem_of_getElem? hx
    obtain ⟨m, hm⟩ : ∃ m, l.length - i = m + 1 := ⟨l.length - i - 1, by omega⟩
    rw [hm, twiceFrom, hx] at hr
    have hrows : rowsOK 2 (rows APair.pd l) = True := rowsOK_rows (f := APair.pd) (n := 2) (fun _ => rfl) l
    have htk : (rows APair.pd l).take i = rows APair.pd (l.take i) := by simp [rows, List.map_take]
    simp only [go_sem, contS_seq, simprocAttr, hlt', rows_get hx, rows_len, hrows, hle, htk]
    refine (ContainsFunc_Pair (fun y => q y.name x.name) 162 (enters_of Tryz.func162 rfl rfl) [(1000001, 0), (1000002, 0)] [(1000001, [.fn f []]), (1000002, [str x.name, str x.val])] (Cl.of rfl rfl rfl rfl rfl) (l.take i) (by simp; omega)
      (fun y hy => rule_twice_1 q f he x y (hp x hmx y (List.mem_of_mem_take hy)))).callW (enters_of Tryz.func135 rfl rfl) _ [(3, 1000001), (6, 1000002)] rfl rfl rfl ?_
    rintro d rfl
    simp only [go_sem, contS_seq, simprocAttr, hw]
    refine Gif.mk (fun h => ?_) (fun h => ?_)
    · simp only [h, Bool.true_or] at hr
      simp only [retK, fullK, iterK, resD, resA, AOp.ex, St.ev, Option.map_some, Option.bind_some, St.get, lk, reduceIte, Nat.reduceEqDiff, Option.getD_some, oneD, List.getElem?_cons_zero, List.getElem?_cons_succ, List.drop_zero, List.drop_succ_cons, List.take_succ_cons, List.take_zero, List.length_cons, List.length_nil, Nat.zero_add, Nat.reduceAdd, Nat.le_refl, Nat.reduceLeDiff, D.pub, D.pubs, Tryz.results136]
      exact ⟨_, rfl, rfl, congrArg bln hr⟩
    · simp only [h, Bool.false_or] at hr
      refine ⟨m, _, ?_, ?_, i + 1, ?_, ?_, hr, rfl⟩
      · omega
      · exact Weak.less (by simp [lessL, lk]) (by simp [lessL, lk]) (by simp [lessL, lk]) rfl
      · omega
      · omega
  · have hlt' : ((i : Int) < (l.length : Int)) = False := eq_false (by omega)
    rw [show l.length - i = 0 by omega, twiceFrom] at hr
    simp only [go_sem, contS_seq, simprocAttr, rows_len, hlt']
    simp only [retK, fullK, iterK, resD, resA, AOp.ex, St.ev, Option.map_some, Option.bind_some, St.get, lk, reduceIte, Nat.reduceEqDiff, Option.getD_some, oneD, List.getElem?_cons_zero, List.getElem?_cons_succ, List.drop_zero, List.drop_succ_cons, List.take_succ_cons, List.take_zero, List.length_cons, List.length_nil, Nat.zero_add, Nat.reduceAdd, Nat.le_refl, Nat.reduceLeDiff, D.pub, D.pubs, Tryz.results136]
    exact ⟨_, rfl, rfl, congrArg bln hr⟩

def matchMay (m : AMatch) : Bool :=
  pathMay m.pkind m.pval && (decide (m.method = ⟨#[]⟩) || method m.method) && decide (m.head.length ≤ 8) && !m.head.any pairOdd && !pairTwice foldSame m.head && decide (m.query.length ≤ 8) && queryMay m.query && !pairTwice strSame m.query

set_option maxHeartbeats 1000000 in
theorem rule_May (m : AMatch) (h : m.ok) : Pure Tryz.prog 104 [m.d] (fun d => d = bln (matchMay m)) := by
  refine pure_of_run follows an_zi87h Tryz.func104 rfl ok_zi87h dst_zi87h (by simp [Tryz.ntmps104]) ?_
  rw [run_start]
  simp only [ac_zi87h, go_sem, contS_seq, simprocAttr, rows_len]
  (repeat' (first | (refine GifP.mk (fun _ => ?_) (fun _ => ?_)) | (refine Gif.mk (fun _ => ?_) (fun _ => ?_)) | ((first | refine (path_May _ _).callW (enters_of Tryz.func133 rfl rfl) _ rfl rfl ?_ | refine (rule_Method _).callW (enters_of Tryz.func134 rfl rfl) _ rfl rfl ?_ | refine (ContainsP_Pair pairOdd _ (enters_of Tryz.func130 rfl rfl) m.head h.hl (fun p hp => rule_May_1 p (h.h p hp))).callW (enters_of Tryz.func135 rfl rfl) _ rfl rfl ?_ | refine (rule_twice foldSame _ (enters_of Tryz.func137 rfl rfl) m.head h.hl (fun x hx y hy => pairs_Same _ _ (h.h y hy).1 (h.h x hx).1)).callW (enters_of Tryz.func136 rfl rfl) _ rfl rfl ?_ | refine (rule_twice strSame _ (enters_of Tryz.func139 rfl rfl) m.query h.ql (fun x hx y hy => rule_May_2 _ _)).callW (enters_of Tryz.func136 rfl rfl) _ rfl rfl ?_ | refine (query_May m.query h.ql).callW (enters_of Tryz.func138 rfl rfl) _ rfl rfl ?_); rintro _ rfl; try simp only [go_sem, contS_seq, simprocAttr, rows_len]))) <;> (simp only [retK, fullK, iterK, resD, resA, AOp.ex, St.ev, Option.map_some, Option.bind_some, St.get, lk, reduceIte, Nat.reduceEqDiff, Option.getD_some, oneD, List.getElem?_cons_zero, List.getElem?_cons_succ, List.drop_zero, List.drop_succ_cons, List.take_succ_cons, List.take_zero, List.length_cons, List.length_nil, Nat.zero_add, Nat.reduceAdd, Nat.le_refl, Nat.reduceLeDiff, D.pub, D.pubs, Tryz.results104]; exact ⟨_, rfl, rfl, congrArg bln (by first | rfl | (rw [Bool.eq_iff_iff]; simp only [matchMay]; simp; done) | (rw [Bool.eq_iff_iff]; simp only [matchMay]; simp; omega) | (rw [Bool.eq_iff_iff]; simp only [matchMay]; simp [*]; done) | (rw [Bool.eq_iff_iff]; simp only [matchMay]; simp [*]; omega) | (simp_all [matchMay]; done) | (exfalso; omega))⟩)

def matchSame (a b : AMatch) : Bool := decide (a.pkind = b.pkind) && decide (a.pval = b.pval) && decide (a.method = b.method) && decide (a.head = b.head) && decide (a.query = b.query)

theorem rule_Same (a b : AMatch) (ha : a.ok) (hb : b.ok) : Pure Tryz.prog 114 [a.d, b.d] (fun d => d = bln (matchSame a b)) := by
  refine pure_of_run follows an_zb37x Tryz.func114 rfl ok_zb37x dst_zb37x (by simp [Tryz.ntmps114]) ?_
  rw [run_start]
  simp only [ac_zb37x, go_sem, contS_seq, simprocAttr, eqVs, eqV]
  (repeat' (first | (refine GifP.mk (fun _ => ?_) (fun _ => ?_)) | (refine Gif.mk (fun _ => ?_) (fun _ => ?_)) | ((first | refine (Equal_Pair a.head b.head ha.hl hb.hl).callW (enters_of Tryz.func73 rfl rfl) _ rfl rfl ?_ | refine (Equal_Pair a.query b.query ha.ql hb.ql).callW (enters_of Tryz.func73 rfl rfl) _ rfl rfl ?_); rintro _ rfl; try simp only [go_sem, contS_seq, simprocAttr, eqVs, eqV]))) <;> (simp only [retK, fullK, iterK, resD, resA, AOp.ex, St.ev, Option.map_some, Option.bind_some, St.get, lk, reduceIte, Nat.reduceEqDiff, Option.getD_some, oneD, List.getElem?_cons_zero, List.getElem?_cons_succ, List.drop_zero, List.drop_succ_cons, List.take_succ_cons, List.take_zero, List.length_cons, List.length_nil, Nat.zero_add, Nat.reduceAdd, Nat.le_refl, Nat.reduceLeDiff, D.pub, D.pubs, Tryz.results114]; exact ⟨_, rfl, rfl, congrArg bln (by first | rfl | (rw [Bool.eq_iff_iff]; simp only [matchSame]; simp; done) | (rw [Bool.eq_iff_iff]; simp only [matchSame]; simp; omega) | (rw [Bool.eq_iff_iff]; simp only [matchSame]; simp [*]; done) | (rw [Bool.eq_iff_iff]; simp only [matchSame]; simp [*]; omega) | (simp_all [matchSame]; done) | (exfalso; omega))⟩)


def fturner (f : AFilter) : Bool := decide (f.kind = 4) || decide (f.kind = 5)

theorem filter_turner (f : AFilter) : Pure Tryz.prog 141 [f.d] (fun d => d = bln (fturner f)) := by
  refine pure_of_run follows an_zm6be Tryz.func141 rfl ok_zm6be dst_zm6be (by simp [Tryz.ntmps141]) ?_
  rw [run_start]
  simp only [ac_zm6be, go_sem, contS_seq, simprocAttr]
  (repeat' (first | (refine GifP.mk (fun _ => ?_) (fun _ => ?_)) | (refine Gif.mk (fun _ => ?_) (fun _ => ?_)))) <;> (simp only [retK, fullK, iterK, resD, resA, AOp.ex, St.ev, Option.map_some, Option.bind_some, St.get, lk, reduceIte, Nat.reduceEqDiff, Option.getD_some, oneD, List.getElem?_cons_zero, List.getElem?_cons_succ, List.drop_zero, List.drop_succ_cons, List.take_succ_cons, List.take_zero, List.length_cons, List.length_nil, Nat.zero_add, Nat.reduceAdd, Nat.le_refl, Nat.reduceLeDiff, D.pub, D.pubs, Tryz.results141]; exact ⟨_, rfl, rfl, congrArg bln (by first | rfl | (rw [Bool.eq_iff_iff]; simp only [fturner]; simp; done) | (rw [Bool.eq_iff_iff]; simp only [fturner]; simp; omega) | (rw [Bool.eq_iff_iff]; simp only [fturner]; simp [*]; done) | (rw [Bool.eq_iff_iff]; simp only [fturner]; simp [*]; omega) | (simp_all [fturner]; done) | (exfalso; omega))⟩)

def fturns (f : AFilter) : Bool :=
  !(!decide (f.host = ⟨#[]⟩) && !dname f.host) && (if f.path = ⟨#[]⟩ then !f.whole else if f.whole = true then pathIs f.path else pathMay 2 f.path)

theorem filter_turns (f : AFilter) : Pure Tryz.prog 164 [f.d] (fun d => d = bln (fturns f)) := by
  refine pure_of_run follows an_z3d8y Tryz.func164 rfl ok_z3d8y dst_z3d8y (by simp [Tryz.ntmps164]) ?_
  rw [run_start]
  simp only [ac_z3d8y, go_sem, contS_seq, simprocAttr]
  (repeat' (first | (refine GifP.mk (fun _ => ?_) (fun _ => ?_)) | (refine Gif.mk (fun _ => ?_) (fun _ => ?_)) | ((first | refine (dns_Name _).callW (enters_of Tryz.func53 rfl rfl) _ rfl rfl ?_ | refine (path_Is _).callW (enters_of Tryz.func158 rfl rfl) _ rfl rfl ?_ | refine (path_May _ _).callW (enters_of Tryz.func133 rfl rfl) _ rfl rfl ?_); rintro _ rfl; try simp only [go_sem, contS_seq, simprocAttr]))) <;> (simp only [retK, fullK, iterK, resD, resA, AOp.ex, St.ev, Option.map_some, Option.bind_some, St.get, lk, reduceIte, Nat.reduceEqDiff, Option.getD_some, oneD, List.getElem?_cons_zero, List.getElem?_cons_succ, List.drop_zero, List.drop_succ_cons, List.take_succ_cons, List.take_zero, List.length_cons, List.length_nil, Nat.zero_add, Nat.reduceAdd, Nat.le_refl, Nat.reduceLeDiff, D.pub, D.pubs, Tryz.results164]; exact ⟨_, rfl, rfl, congrArg bln (by first | rfl | (rw [Bool.eq_iff_iff]; simp only [fturns]; simp; done) | (rw [Bool.eq_iff_iff]; simp only [fturns]; simp; omega) | (rw [Bool.eq_iff_iff]; simp only [fturns]; simp [*]; done) | (rw [Bool.eq_iff_iff]; simp only [fturns]; simp [*]; omega) | (simp_all [fturns]; done) | (exfalso; omega))⟩)

def fzero (n v h p t w c : Bool) (f : AFilter) : Bool :=
  (n || decide (f.name = ⟨#[]⟩)) && (v || decide (f.val = ⟨#[]⟩)) && (h || decide (f.host = ⟨#[]⟩)) && (p || decide (f.port = 0)) && (t || decide (f.path = ⟨#[]⟩)) && (w || !f.whole) && (c || decide (f.code = 0))

def filterMay (f : AFilter) : Bool :=
  if f.kind = 1 ∨ f.kind = 2 then fzero true true false false false false false f && token f.name && fvalue f.val
  else if f.kind = 3 then fzero true false false false false false false f && token f.name
  else if f.kind = 4 then decide (f.name = ⟨#[]⟩) && decide (f.val = ⟨#[]⟩) && fturns f && decide (0 ≤ f.port) && decide (f.port ≤ 65535) && (decide (f.code = 301) || decide (f.code = 302))
  else if f.kind = 5 then fzero false false true false true true false f && fturns f && (!decide (f.host = ⟨#[]⟩) || !decide (f.path = ⟨#[]⟩))
  else false

theorem beq_self_true {b : Bool} : (b == b) = true := by cases b <;> rfl

set_option maxHeartbeats 1000000 in
theorem filter_May (f : AFilter) (h : f.ok) : Pure Tryz.prog 142 [f.d] (fun d => d = bln (filterMay f)) := by
  refine pure_of_run follows an_zhj59 Tryz.func142 rfl ok_zhj59 dst_zhj59 (by simp [Tryz.ntmps142]) ?_
  rw [run_start]
  simp only [ac_zhj59, go_sem, contS_seq, simprocAttr, eqVs, eqV, beq_self_true]
  (repeat' (first | (refine GifP.mk (fun _ => ?_) (fun _ => ?_)) | (refine Gif.mk (fun _ => ?_) (fun _ => ?_)) | ((first | refine (pairs_Token f.name h.1).callW (enters_of Tryz.func131 rfl rfl) _ rfl rfl ?_ | refine (pairs_Value f.val h.2).callW (enters_of Tryz.func132 rfl rfl) _ rfl rfl ?_ | refine (filter_turns f).callW (enters_of Tryz.func164 rfl rfl) _ rfl rfl ?_); rintro _ rfl; try simp only [go_sem, contS_seq, simprocAttr, eqVs, eqV, beq_self_true]))) <;> (simp only [retK, fullK, iterK, resD, resA, AOp.ex, St.ev, Option.map_some, Option.bind_some, St.get, lk, reduceIte, Nat.reduceEqDiff, Option.getD_some, oneD, List.getElem?_cons_zero, List.getElem?_cons_succ, List.drop_zero, List.drop_succ_cons, List.take_succ_cons, List.take_zero, List.length_cons, List.length_nil, Nat.zero_add, Nat.reduceAdd, Nat.le_refl, Nat.reduceLeDiff, D.pub, D.pubs, Tryz.results142]; exact ⟨_, rfl, rfl, congrArg bln (by first | rfl | (rw [Bool.eq_iff_iff]; simp only [filterMay, fzero]; simp; done) | (rw [Bool.eq_iff_iff]; simp only [filterMay, fzero]; simp; omega) | (rw [Bool.eq_iff_iff]; simp only [filterMay, fzero]; simp [*]; done) | (rw [Bool.eq_iff_iff]; simp only [filterMay, fzero]; simp [*]; omega) | (simp_all [filterMay, fzero]; done) | (exfalso; omega))⟩)

def likeF (f x : AFilter) : Bool := (fturner x && fturner f) || (decide (x.kind = f.kind) && foldSame x.name f.name)

abbrev AFilter.ds (f : AFilter) : List D := [int f.kind, str f.name, str f.val, str f.host, int f.port, str f.path, bln f.whole, int f.code]

theorem filter_All_1 (f x : AFilter) (hf : f.ok) (hx : x.ok) : PureB Tryz.prog 140 [x.d, .ptr 1000001 0] [(1000001, f.ds)] (fun d => d = bln (likeF f x)) := by
  refine pureB_of_run follows an_z38ed Tryz.func140 rfl ok_z38ed dst_z38ed (by simp [Tryz.ntmps140]) ?_
  rw [run_start]
  simp only [ac_z38ed, go_sem, contS_seq, simprocAttr]
  (repeat' (first | (refine GifP.mk (fun _ => ?_) (fun _ => ?_)) | (refine Gif.mk (fun _ => ?_) (fun _ => ?_)) | ((first | refine (filter_turner x).callW (enters_of Tryz.func141 rfl rfl) _ rfl rfl ?_ | refine (filter_turner f).callW (enters_of Tryz.func141 rfl rfl) _ rfl rfl ?_ | refine (pairs_Same _ _ hx.1 hf.1).callW (enters_of Tryz.func137 rfl rfl) _ rfl rfl ?_); rintro _ rfl; try simp only [go_sem, contS_seq, simprocAttr]))) <;> (simp only [retK, fullK, iterK, resD, resA, AOp.ex, St.ev, Option.map_some, Option.bind_some, St.get, lk, reduceIte, Nat.reduceEqDiff, Option.getD_some, oneD, List.getElem?_cons_zero, List.getElem?_cons_succ, List.drop_zero, List.drop_succ_cons, List.take_succ_cons, List.take_zero, List.length_cons, List.length_nil, Nat.zero_add, Nat.reduceAdd, Nat.le_refl, Nat.reduceLeDiff, D.pub, D.pubs, Tryz.results140]; exact ⟨_, rfl, rfl, congrArg bln (by first | rfl | (rw [Bool.eq_iff_iff]; simp only [likeF]; simp; done) | (rw [Bool.eq_iff_iff]; simp only [likeF]; simp; omega) | (rw [Bool.eq_iff_iff]; simp only [likeF]; simp [*]; done) | (rw [Bool.eq_iff_iff]; simp only [likeF]; simp [*]; omega) | (simp_all [likeF]; done) | (exfalso; omega))⟩)

def filtersFrom (l : List AFilter) : Nat → Nat → Bool
  | 0, _ => true
  | k + 1, i => (match l[i]? with
    | some f => filterMay f && !(l.take i).any (likeF f)
    | none => true) && filtersFrom l k (i + 1)

def filtersAll (l : List AFilter) : Bool := filtersFrom l l.length 0 && decide (l.length ≤ 8)

theorem filter_All (l : List AFilter) (hl : l.length ≤ 1000000) (ho : ∀ f ∈ l, f.ok) : Pure Tryz.prog 105 [.pd (.slice (rows AFilter.pd l))] (fun d => d = bln (filtersAll l)) := by
  refine pure_of_run follows an_zhmnj Tryz.func105 rfl ok_zhmnj dst_zhmnj (by simp [Tryz.ntmps105]) ?_
  rw [run_start]
  simp only [ac_zhmnj, go_sem, contS_seq, simprocAttr, rows_len]
  refine loopS (fun k st => ∃ i : Nat, k = l.length - i ∧ i ≤ l.length ∧ filtersFrom l k i = filtersFrom l l.length 0 ∧
    st = ⟨[(0, .pd (.slice (rows AFilter.pd l))), (6, .pd (.slice (rows AFilter.pd l))), (7, int l.length), (8, int i)], [], [], .no⟩) l.length _ (Weak.refl _ _) ⟨0, rfl, Nat.zero_le _, rfl, rfl⟩ ?_
  rintro k st ⟨i, rfl, hi, hr, rfl⟩
  by_cases hlt : i < l.length
  · obtain ⟨x, hx⟩ := at_lt hlt
    have hlt' : ((i : Int) < (l.length : Int)) = True := eq_true (by omega)
    have hle : (i ≤ l.length) = True := eq_true (by omega)
    have hw := i64_succ (show i < 1000000000 by omega)
    have hmx := List.mem_of_getElem? hx
    obtain ⟨m, hm⟩ : ∃ m, l.length - i = m + 1 := ⟨l.length - i - 1, by omega⟩
    rw [hm, filtersFrom, hx] at hr
    have hrows : rowsOK 8 (rows AFilter.pd l) = True := rowsOK_rows (f := AFilter.pd) (n := 8) (fun _ => rfl) l
    have htk : (rows AFilter.pd l).take i = rows AFilter.pd (l.take i) := by simp [rows, List.map_take]
    have bad : filtersFrom l l.length 0 = false → filtersAll l = false := fun h => by simp [filtersAll, h]
    simp only [go_sem, contS_seq, simprocAttr, hlt', rows_get hx, rows_len, hrows, hle, htk]
    refine (filter_May x (ho x hmx)).callW (enters_of Tryz.func142 rfl rfl) _ rfl rfl ?_
    rintro d rfl
    simp only [go_sem, contS_seq, simprocAttr, hrows, hle, htk, rows_len]
    refine Gif.mk (fun h => ?_) (fun h => ?_)
    · refine (ContainsFunc_Filter (likeF x) 140 (enters_of Tryz.func140 rfl rfl) [(1000001, 0)] [(1000001, x.ds)] (Cl.of rfl rfl rfl rfl rfl) (l.take i) (by simp; omega)
        (fun y hy => filter_All_1 x y (ho x hmx) (ho y (List.mem_of_mem_take hy)))).callW (enters_of Tryz.func143 rfl rfl) _ [(4, 1000001)] rfl rfl rfl ?_
      rintro d rfl
      simp only [go_sem, contS_seq, simprocAttr, hw]
      refine Gif.mk (fun h2 => ?_) (fun h2 => ?_)
      · simp only [h, h2, Bool.not_true, Bool.and_false, Bool.false_and] at hr
        simp only [retK, fullK, iterK, resD, resA, AOp.ex, St.ev, Option.map_some, Option.bind_some, St.get, lk, reduceIte, Nat.reduceEqDiff, Option.getD_some, oneD, List.getElem?_cons_zero, List.getElem?_cons_succ, List.drop_zero, List.drop_succ_cons, List.take_succ_cons, List.take_zero, List.length_cons, List.length_nil, Nat.zero_add, Nat.reduceAdd, Nat.le_refl, Nat.reduceLeDiff, D.pub, D.pubs, Tryz.results105]
        exact ⟨_, rfl, rfl, congrArg bln (bad hr.symm).symm⟩
      · simp only [h, h2, Bool.not_false, Bool.and_true, Bool.true_and] at hr
        refine ⟨m, _, ?_, ?_, i + 1, ?_, ?_, hr, rfl⟩
        · omega
        · exact Weak.less (by simp [lessL, lk]) (by simp [lessL, lk]) (by simp [lessL, lk]) rfl
        · omega
        · omega
    · simp only [h, Bool.false_and] at hr
      simp only [retK, fullK, iterK, resD, resA, AOp.ex, St.ev, Option.map_some, Option.bind_some, St.get, lk, reduceIte, Nat.reduceEqDiff, Option.getD_some, oneD, List.getElem?_cons_zero, List.getElem?_cons_succ, List.drop_zero, List.drop_succ_cons, List.take_succ_cons, List.take_zero, List.length_cons, List.length_nil, Nat.zero_add, Nat.reduceAdd, Nat.le_refl, Nat.reduceLeDiff, D.pub, D.pubs, Tryz.results105]
      exact ⟨_, rfl, rfl, congrArg bln (bad hr.symm).symm⟩
  · have hlt' : ((i : Int) < (l.length : Int)) = False := eq_false (by omega)
    rw [show l.length - i = 0 by omega, filtersFrom] at hr
    simp only [go_sem, contS_seq, simprocAttr, rows_len, hlt']
    repeat' (first | refine GifP.mk (fun _ => ?_) (fun _ => ?_) | refine Gif.mk (fun _ => ?_) (fun _ => ?_))
    all_goals
      simp only [retK, fullK, iterK, resD, resA, AOp.ex, St.ev, Option.map_some, Option.bind_some, St.get, lk, reduceIte, Nat.reduceEqDiff, Option.getD_some, oneD, List.getElem?_cons_zero, List.getElem?_cons_succ, List.drop_zero, List.drop_succ_cons, List.take_succ_cons, List.take_zero, List.length_cons, List.length_nil, Nat.zero_add, Nat.reduceAdd, Nat.le_refl, Nat.reduceLeDiff, D.pub, D.pubs, Tryz.results105]
      exact ⟨_, rfl, rfl, congrArg bln (by first | rfl | (rw [Bool.eq_iff_iff]; simp only [filtersAll, ← hr]; simp; done) | (rw [Bool.eq_iff_iff]; simp only [filtersAll, ← hr]; simp; omega) | (rw [Bool.eq_iff_iff]; simp only [filtersAll, ← hr]; simp [*]; done) | (rw [Bool.eq_iff_iff]; simp only [filtersAll, ← hr]; simp [*]; omega) | (simp_all [filtersAll, ← hr]; done) | (exfalso; omega))⟩

def listenerMay (l : AListener) : Bool :=
  (if l.tls = true then decide (l.cert.kind = 4) && labValue l.cert.space && dname l.cert.name else decide (l.cert.kind = 0) && decide (l.cert.space = ⟨#[]⟩) && decide (l.cert.name = ⟨#[]⟩)) &&
  label l.name && oport l.port && hostMay l.host && decide (0 ≤ l.from_) && decide (l.from_ ≤ 2) && needsMay l.needs && (decide (l.from_ = 2) || decide (l.needs.length = 0))

structure AListener.ok (l : AListener) : Prop where
  nl : l.needs.length ≤ 1000000
  n : ∀ x ∈ l.needs, x.ok

set_option maxHeartbeats 1000000 in
theorem object_listener (l : AListener) (h : l.ok) : Pure Tryz.prog 55 [l.d] (fun d => d = bln (listenerMay l)) := by
  refine pure_of_run follows an_z5xl6 Tryz.func55 rfl ok_z5xl6 dst_z5xl6 (by simp [Tryz.ntmps55]) ?_
  rw [run_start]
  simp only [ac_z5xl6, go_sem, contS_seq, simprocAttr, rows_len, eqVs, eqV]
  (repeat' (first | (refine GifP.mk (fun _ => ?_) (fun _ => ?_)) | (refine Gif.mk (fun _ => ?_) (fun _ => ?_)) | ((first | refine (object_near _).callW (enters_of Tryz.func91 rfl rfl) _ rfl rfl ?_ | refine (dns_Name _).callW (enters_of Tryz.func53 rfl rfl) _ rfl rfl ?_ | refine (dns_Label _).callW (enters_of Tryz.func70 rfl rfl) _ rfl rfl ?_ | refine (object_port _).callW (enters_of Tryz.func48 rfl rfl) _ rfl rfl ?_ | refine (host_May _).callW (enters_of Tryz.func62 rfl rfl) _ rfl rfl ?_ | refine (label_Needs l.needs h.nl h.n).callW (enters_of Tryz.func92 rfl rfl) _ rfl rfl ?_); rintro _ rfl; try simp only [go_sem, contS_seq, simprocAttr, rows_len, eqVs, eqV]))) <;> (simp only [retK, fullK, iterK, resD, resA, AOp.ex, St.ev, Option.map_some, Option.bind_some, St.get, lk, reduceIte, Nat.reduceEqDiff, Option.getD_some, oneD, List.getElem?_cons_zero, List.getElem?_cons_succ, List.drop_zero, List.drop_succ_cons, List.take_succ_cons, List.take_zero, List.length_cons, List.length_nil, Nat.zero_add, Nat.reduceAdd, Nat.le_refl, Nat.reduceLeDiff, D.pub, D.pubs, Tryz.results55]; exact ⟨_, rfl, rfl, congrArg bln (by first | rfl | (rw [Bool.eq_iff_iff]; simp only [listenerMay]; simp; done) | (rw [Bool.eq_iff_iff]; simp only [listenerMay]; simp; omega) | (rw [Bool.eq_iff_iff]; simp only [listenerMay]; simp [*]; done) | (rw [Bool.eq_iff_iff]; simp only [listenerMay]; simp [*]; omega) | (simp_all [listenerMay]; done) | (exfalso; omega))⟩)

structure ARule.ok (r : ARule) : Prop where
  ml : r.matches_.length ≤ 1000000
  fl : r.filters.length ≤ 1000000
  bl : r.backends.length ≤ 1000000
  m : ∀ x ∈ r.matches_, x.ok
  f : ∀ x ∈ r.filters, x.ok

def ruleMay (r : ARule) : Bool := every matchMay r.matches_ 4 && filtersAll r.filters && every backendMay r.backends 4

theorem object_ruled (r : ARule) (h : r.ok) : Pure Tryz.prog 67 [r.d] (fun d => d = bln (ruleMay r)) := by
  refine pure_of_run follows an_zjms9 Tryz.func67 rfl ok_zjms9 dst_zjms9 (by simp [Tryz.ntmps67]) ?_
  rw [run_start]
  simp only [ac_zjms9, go_sem, contS_seq, simprocAttr]
  (repeat' (first | (refine GifP.mk (fun _ => ?_) (fun _ => ?_)) | (refine Gif.mk (fun _ => ?_) (fun _ => ?_)) | ((first | refine (every_Match matchMay _ (enters_of Tryz.func104 rfl rfl) r.matches_ h.ml 4 (fun x hx => rule_May x (h.m x hx))).callW (enters_of Tryz.func103 rfl rfl) _ rfl rfl ?_ | refine (filter_All r.filters h.fl h.f).callW (enters_of Tryz.func105 rfl rfl) _ rfl rfl ?_ | refine (every_Backend backendMay _ (enters_of Tryz.func107 rfl rfl) r.backends h.bl 4 (fun x _ => object_backend x)).callW (enters_of Tryz.func106 rfl rfl) _ rfl rfl ?_); rintro _ rfl; try simp only [go_sem, contS_seq, simprocAttr]))) <;> (simp only [retK, fullK, iterK, resD, resA, AOp.ex, St.ev, Option.map_some, Option.bind_some, St.get, lk, reduceIte, Nat.reduceEqDiff, Option.getD_some, oneD, List.getElem?_cons_zero, List.getElem?_cons_succ, List.drop_zero, List.drop_succ_cons, List.take_succ_cons, List.take_zero, List.length_cons, List.length_nil, Nat.zero_add, Nat.reduceAdd, Nat.le_refl, Nat.reduceLeDiff, D.pub, D.pubs, Tryz.results67]; exact ⟨_, rfl, rfl, congrArg bln (by first | rfl | (rw [Bool.eq_iff_iff]; simp only [ruleMay]; simp; done) | (rw [Bool.eq_iff_iff]; simp only [ruleMay]; simp; omega) | (rw [Bool.eq_iff_iff]; simp only [ruleMay]; simp [*]; done) | (rw [Bool.eq_iff_iff]; simp only [ruleMay]; simp [*]; omega) | (simp_all [ruleMay]; done) | (exfalso; omega))⟩)

def listenerSame (a b : AListener) : Bool :=
  decide (a.name = b.name) && decide (a.port = b.port) && (a.tls == b.tls) && decide (a.host = b.host) && decide (a.cert = b.cert) && decide (a.from_ = b.from_) && eqf needSame a.needs b.needs

theorem object_sameListener (a b : AListener) (ha : a.ok) (hb : b.ok) : Pure Tryz.prog 79 [a.d, b.d] (fun d => d = bln (listenerSame a b)) := by
  refine pure_of_run follows an_z1fwi Tryz.func79 rfl ok_z1fwi dst_z1fwi (by simp [Tryz.ntmps79]) ?_
  rw [run_start]
  simp only [ac_z1fwi, go_sem, contS_seq, simprocAttr, eqVs, eqV, eq_Ref]
  (repeat' (first | (refine GifP.mk (fun _ => ?_) (fun _ => ?_)) | (refine Gif.mk (fun _ => ?_) (fun _ => ?_)) | (refine (label_Same a.needs b.needs ha.nl hb.nl ha.n hb.n).callW (enters_of Tryz.func112 rfl rfl) _ rfl rfl ?_; rintro _ rfl; try simp only [go_sem, contS_seq, simprocAttr, eqVs, eqV, eq_Ref]))) <;> (simp only [retK, fullK, iterK, resD, resA, AOp.ex, St.ev, Option.map_some, Option.bind_some, St.get, lk, reduceIte, Nat.reduceEqDiff, Option.getD_some, oneD, List.getElem?_cons_zero, List.getElem?_cons_succ, List.drop_zero, List.drop_succ_cons, List.take_succ_cons, List.take_zero, List.length_cons, List.length_nil, Nat.zero_add, Nat.reduceAdd, Nat.le_refl, Nat.reduceLeDiff, D.pub, D.pubs, Tryz.results79]; exact ⟨_, rfl, rfl, congrArg bln (by first | rfl | (rw [Bool.eq_iff_iff]; simp only [listenerSame]; simp; done) | (rw [Bool.eq_iff_iff]; simp only [listenerSame]; simp; omega) | (rw [Bool.eq_iff_iff]; simp only [listenerSame]; simp [*]; done) | (rw [Bool.eq_iff_iff]; simp only [listenerSame]; simp [*]; omega) | (simp_all [listenerSame]; done) | (exfalso; omega))⟩)

def ruleSame (a b : ARule) : Bool := eqf matchSame a.matches_ b.matches_ && decide (a.filters = b.filters) && decide (a.backends = b.backends)

theorem object_sameRule (a b : ARule) (ha : a.ok) (hb : b.ok) : Pure Tryz.prog 81 [a.d, b.d] (fun d => d = bln (ruleSame a b)) := by
  refine pure_of_run follows an_z30xg Tryz.func81 rfl ok_z30xg dst_z30xg (by simp [Tryz.ntmps81]) ?_
  rw [run_start]
  simp only [ac_z30xg, go_sem, contS_seq, simprocAttr]
  (repeat' (first | (refine GifP.mk (fun _ => ?_) (fun _ => ?_)) | (refine Gif.mk (fun _ => ?_) (fun _ => ?_)) | ((first | refine (EqualFunc_Match matchSame _ (enters_of Tryz.func114 rfl rfl) a.matches_ b.matches_ ha.ml hb.ml (fun x hx y hy => rule_Same x y (ha.m x hx) (hb.m y hy))).callW (enters_of Tryz.func113 rfl rfl) _ rfl rfl ?_ | refine (Equal_Filter a.filters b.filters ha.fl hb.fl).callW (enters_of Tryz.func115 rfl rfl) _ rfl rfl ?_ | refine (Equal_Backend a.backends b.backends ha.bl hb.bl).callW (enters_of Tryz.func116 rfl rfl) _ rfl rfl ?_); rintro _ rfl; try simp only [go_sem, contS_seq, simprocAttr]))) <;> (simp only [retK, fullK, iterK, resD, resA, AOp.ex, St.ev, Option.map_some, Option.bind_some, St.get, lk, reduceIte, Nat.reduceEqDiff, Option.getD_some, oneD, List.getElem?_cons_zero, List.getElem?_cons_succ, List.drop_zero, List.drop_succ_cons, List.take_succ_cons, List.take_zero, List.length_cons, List.length_nil, Nat.zero_add, Nat.reduceAdd, Nat.le_refl, Nat.reduceLeDiff, D.pub, D.pubs, Tryz.results81]; exact ⟨_, rfl, rfl, congrArg bln (by first | rfl | (rw [Bool.eq_iff_iff]; simp only [ruleSame]; simp; done) | (rw [Bool.eq_iff_iff]; simp only [ruleSame]; simp; omega) | (rw [Bool.eq_iff_iff]; simp only [ruleSame]; simp [*]; done) | (rw [Bool.eq_iff_iff]; simp only [ruleSame]; simp [*]; omega) | (simp_all [ruleSame]; done) | (exfalso; omega))⟩)

end Go.Proofs.YtmdepehjfnpklaaGreatDoor
