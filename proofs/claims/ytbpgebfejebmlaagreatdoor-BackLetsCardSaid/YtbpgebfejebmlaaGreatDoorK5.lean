/- Texts of the prover's, joined: G1 G2 G3 G4 G5. -/
import Derived.Test.YtbpgebfejebmlaaGreatDoorK4

namespace Go.Proofs.YtbpgebfejebmlaaGreatDoor
open Go Go.RowKit
set_option linter.unusedSimpArgs false
set_option linter.unusedVariables false
set_option maxRecDepth 100000

theorem IndexFunc_Object (p : AObj → Bool) (g : FuncId) (he : Enters Tryz.prog g) (caps : List (Nat × Nat)) (bs : List (Nat × List D)) (hc : Cl bs caps) (l : List AObj) (hl : l.length ≤ 1000000)
    (hp : ∀ x ∈ l, PureB Tryz.prog g (AObj.d x :: capD caps) bs (fun d => d = bln (p x))) :
    PureB Tryz.prog 49 [.pd (.slice (rows AObj.pd l)), .fn g caps] bs (fun d => d = int (lidx p l 0)) := by
  refine pureB_of_run follows an_z35 Tryz.func49 rfl ok_z35 dst_z35 (by simp [Tryz.ntmps49]) ?_
  rw [run_start]
  simp only [ac_z35, go_sem, contS_seq, reduceIte, reduceCtorEq, Nat.reduceEqDiff, Nat.reduceAdd, Nat.reduceBEq, Nat.reduceBNe, Int.reduceLE, Int.reduceLT, Int.reduceToNat, Int.reduceEq, Nat.reduceLeDiff, Nat.reduceLT, Nat.reducePow, Nat.reduceDiv, Nat.reduceMod, rows_len]
  refine loopS (fun k st => ∃ i : Nat, k = l.length - i ∧ i ≤ l.length ∧ lidx p (l.drop i) i = lidx p l 0 ∧
    st = ⟨[(0, .pd (.slice (rows AObj.pd l))), (1, .fn g caps), (7, int l.length), (8, int i)], bs, [], .no⟩) l.length _ (Weak.refl _ _) ⟨0, rfl, Nat.zero_le _, rfl, rfl⟩ ?_
  rintro k st ⟨i, rfl, hi, hr, rfl⟩
  by_cases hlt : i < l.length
  · obtain ⟨x, hx⟩ := at_lt hlt
    have hlt' : ((i : Int) < (l.length : Int)) = True := eq_true (by omega)
    have hw := i64_succ (show i < 1000000000 by omega)
    rw [drop_at hx, lidx] at hr
    simp only [go_sem, contS_seq, reduceIte, reduceCtorEq, Nat.reduceEqDiff, Nat.reduceAdd, Nat.reduceBEq, Nat.reduceBNe, Int.reduceLE, Int.reduceLT, Int.reduceToNat, Int.reduceEq, Nat.reduceLeDiff, Nat.reduceLT, Nat.reducePow, Nat.reduceDiv, Nat.reduceMod, hlt', rows_get hx]
    refine (hp x (List.mem_of_getElem? hx)).callW he _ (idr bs) hc.ok (hc.args (by rfl)) hc.see ?_
    rintro d rfl
    simp only [go_sem, contS_seq, reduceIte, reduceCtorEq, Nat.reduceEqDiff, Nat.reduceAdd, Nat.reduceBEq, Nat.reduceBNe, Int.reduceLE, Int.reduceLT, Int.reduceToNat, Int.reduceEq, Nat.reduceLeDiff, Nat.reduceLT, Nat.reducePow, Nat.reduceDiv, Nat.reduceMod]
    refine Gif.mk (fun h => ?_) (fun h => ?_)
    · rw [if_pos h] at hr
      simp only [retK, fullK, iterK, resD, resA, AOp.ex, St.ev, Option.map_some, Option.bind_some, St.get, lk, reduceIte, Nat.reduceEqDiff, Option.getD_some, oneD, List.getElem?_cons_zero, List.getElem?_cons_succ, List.drop_zero, List.drop_succ_cons, List.take_succ_cons, List.take_zero, List.length_cons, List.length_nil, Nat.zero_add, Nat.reduceAdd, Nat.le_refl, Nat.reduceLeDiff, D.pub, D.pubs, Tryz.results49]
      exact ⟨_, rfl, rfl, congrArg int hr⟩
    · rw [if_neg (by simp [h])] at hr
      simp only [go_sem, contS_seq, reduceIte, reduceCtorEq, Nat.reduceEqDiff, Nat.reduceAdd, Nat.reduceBEq, Nat.reduceBNe, Int.reduceLE, Int.reduceLT, Int.reduceToNat, Int.reduceEq, Nat.reduceLeDiff, Nat.reduceLT, Nat.reducePow, Nat.reduceDiv, Nat.reduceMod, hw]
      refine ⟨l.length - (i + 1), _, ?_, ?_, i + 1, rfl, ?_, hr, rfl⟩
      · omega
      · exact Weak.less (by simp [lessL, lk]) (lessL_refl hc.nd) (by simp [lessL, lk]) rfl
      · omega
  · have hlt' : ((i : Int) < (l.length : Int)) = False := eq_false (by omega)
    rw [List.drop_eq_nil_of_le (by omega), lidx] at hr
    simp only [go_sem, contS_seq, reduceIte, reduceCtorEq, Nat.reduceEqDiff, Nat.reduceAdd, Nat.reduceBEq, Nat.reduceBNe, Int.reduceLE, Int.reduceLT, Int.reduceToNat, Int.reduceEq, Nat.reduceLeDiff, Nat.reduceLT, Nat.reducePow, Nat.reduceDiv, Nat.reduceMod, rows_len, hlt']
    simp only [retK, fullK, iterK, resD, resA, AOp.ex, St.ev, Option.map_some, Option.bind_some, St.get, lk, reduceIte, Nat.reduceEqDiff, Option.getD_some, oneD, List.getElem?_cons_zero, List.getElem?_cons_succ, List.drop_zero, List.drop_succ_cons, List.take_succ_cons, List.take_zero, List.length_cons, List.length_nil, Nat.zero_add, Nat.reduceAdd, Nat.le_refl, Nat.reduceLeDiff, D.pub, D.pubs, Tryz.results49]
    exact ⟨_, rfl, rfl, congrArg int hr⟩

theorem IndexFunc_Side (p : ASide → Bool) (g : FuncId) (he : Enters Tryz.prog g) (caps : List (Nat × Nat)) (bs : List (Nat × List D)) (hc : Cl bs caps) (l : List ASide) (hl : l.length ≤ 1000000)
    (hp : ∀ x ∈ l, PureB Tryz.prog g (ASide.d x :: capD caps) bs (fun d => d = bln (p x))) :
    PureB Tryz.prog 163 [.pd (.slice (rows ASide.pd l)), .fn g caps] bs (fun d => d = int (lidx p l 0)) := by
  refine pureB_of_run follows an_z76 Tryz.func163 rfl ok_z76 dst_z76 (by simp [Tryz.ntmps163]) ?_
  rw [run_start]
  simp only [ac_z76, go_sem, contS_seq, reduceIte, reduceCtorEq, Nat.reduceEqDiff, Nat.reduceAdd, Nat.reduceBEq, Nat.reduceBNe, Int.reduceLE, Int.reduceLT, Int.reduceToNat, Int.reduceEq, Nat.reduceLeDiff, Nat.reduceLT, Nat.reducePow, Nat.reduceDiv, Nat.reduceMod, rows_len]
  refine loopS (fun k st => ∃ i : Nat, k = l.length - i ∧ i ≤ l.length ∧ lidx p (l.drop i) i = lidx p l 0 ∧
    st = ⟨[(0, .pd (.slice (rows ASide.pd l))), (1, .fn g caps), (7, int l.length), (8, int i)], bs, [], .no⟩) l.length _ (Weak.refl _ _) ⟨0, rfl, Nat.zero_le _, rfl, rfl⟩ ?_
  rintro k st ⟨i, rfl, hi, hr, rfl⟩
  by_cases hlt : i < l.length
  · obtain ⟨x, hx⟩ := at_lt hlt
    have hlt' : ((i : Int) < (l.length : Int)) = True := eq_true (by omega)
    have hw := i64_succ (show i < 1000000000 by omega)
    rw [drop_at hx, lidx] at hr
    simp only [go_sem, contS_seq, reduceIte, reduceCtorEq, Nat.reduceEqDiff, Nat.reduceAdd, Nat.reduceBEq, Nat.reduceBNe, Int.reduceLE, Int.reduceLT, Int.reduceToNat, Int.reduceEq, Nat.reduceLeDiff, Nat.reduceLT, Nat.reducePow, Nat.reduceDiv, Nat.reduceMod, hlt', rows_get hx]
    refine (hp x (List.mem_of_getElem? hx)).callW he _ (idr bs) hc.ok (hc.args (by rfl)) hc.see ?_
    rintro d rfl
    simp only [go_sem, contS_seq, reduceIte, reduceCtorEq, Nat.reduceEqDiff, Nat.reduceAdd, Nat.reduceBEq, Nat.reduceBNe, Int.reduceLE, Int.reduceLT, Int.reduceToNat, Int.reduceEq, Nat.reduceLeDiff, Nat.reduceLT, Nat.reducePow, Nat.reduceDiv, Nat.reduceMod]
    refine Gif.mk (fun h => ?_) (fun h => ?_)
    · rw [if_pos h] at hr
      simp only [retK, fullK, iterK, resD, resA, AOp.ex, St.ev, Option.map_some, Option.bind_some, St.get, lk, reduceIte, Nat.reduceEqDiff, Option.getD_some, oneD, List.getElem?_cons_zero, List.getElem?_cons_succ, List.drop_zero, List.drop_succ_cons, List.take_succ_cons, List.take_zero, List.length_cons, List.length_nil, Nat.zero_add, Nat.reduceAdd, Nat.le_refl, Nat.reduceLeDiff, D.pub, D.pubs, Tryz.results163]
      exact ⟨_, rfl, rfl, congrArg int hr⟩
    · rw [if_neg (by simp [h])] at hr
      simp only [go_sem, contS_seq, reduceIte, reduceCtorEq, Nat.reduceEqDiff, Nat.reduceAdd, Nat.reduceBEq, Nat.reduceBNe, Int.reduceLE, Int.reduceLT, Int.reduceToNat, Int.reduceEq, Nat.reduceLeDiff, Nat.reduceLT, Nat.reducePow, Nat.reduceDiv, Nat.reduceMod, hw]
      refine ⟨l.length - (i + 1), _, ?_, ?_, i + 1, rfl, ?_, hr, rfl⟩
      · omega
      · exact Weak.less (by simp [lessL, lk]) (lessL_refl hc.nd) (by simp [lessL, lk]) rfl
      · omega
  · have hlt' : ((i : Int) < (l.length : Int)) = False := eq_false (by omega)
    rw [List.drop_eq_nil_of_le (by omega), lidx] at hr
    simp only [go_sem, contS_seq, reduceIte, reduceCtorEq, Nat.reduceEqDiff, Nat.reduceAdd, Nat.reduceBEq, Nat.reduceBNe, Int.reduceLE, Int.reduceLT, Int.reduceToNat, Int.reduceEq, Nat.reduceLeDiff, Nat.reduceLT, Nat.reducePow, Nat.reduceDiv, Nat.reduceMod, rows_len, hlt']
    simp only [retK, fullK, iterK, resD, resA, AOp.ex, St.ev, Option.map_some, Option.bind_some, St.get, lk, reduceIte, Nat.reduceEqDiff, Option.getD_some, oneD, List.getElem?_cons_zero, List.getElem?_cons_succ, List.drop_zero, List.drop_succ_cons, List.take_succ_cons, List.take_zero, List.length_cons, List.length_nil, Nat.zero_add, Nat.reduceAdd, Nat.le_refl, Nat.reduceLeDiff, D.pub, D.pubs, Tryz.results163]
    exact ⟨_, rfl, rfl, congrArg int hr⟩

theorem IndexFunc_int (p : Int → Bool) (g : FuncId) (he : Enters Tryz.prog g) (caps : List (Nat × Nat)) (bs : List (Nat × List D)) (hc : Cl bs caps) (l : List Int) (hl : l.length ≤ 1000000)
    (hp : ∀ x ∈ l, PureB Tryz.prog g (int x :: capD caps) bs (fun d => d = bln (p x))) :
    PureB Tryz.prog 164 [.pd (.slice (rows cInt l)), .fn g caps] bs (fun d => d = int (lidx p l 0)) := by
  refine pureB_of_run follows an_z77 Tryz.func164 rfl ok_z77 dst_z77 (by simp [Tryz.ntmps164]) ?_
  rw [run_start]
  simp only [ac_z77, go_sem, contS_seq, reduceIte, reduceCtorEq, Nat.reduceEqDiff, Nat.reduceAdd, Nat.reduceBEq, Nat.reduceBNe, Int.reduceLE, Int.reduceLT, Int.reduceToNat, Int.reduceEq, Nat.reduceLeDiff, Nat.reduceLT, Nat.reducePow, Nat.reduceDiv, Nat.reduceMod, rows_len]
  refine loopS (fun k st => ∃ i : Nat, k = l.length - i ∧ i ≤ l.length ∧ lidx p (l.drop i) i = lidx p l 0 ∧
    st = ⟨[(0, .pd (.slice (rows cInt l))), (1, .fn g caps), (7, int l.length), (8, int i)], bs, [], .no⟩) l.length _ (Weak.refl _ _) ⟨0, rfl, Nat.zero_le _, rfl, rfl⟩ ?_
  rintro k st ⟨i, rfl, hi, hr, rfl⟩
  by_cases hlt : i < l.length
  · obtain ⟨x, hx⟩ := at_lt hlt
    have hlt' : ((i : Int) < (l.length : Int)) = True := eq_true (by omega)
    have hw := i64_succ (show i < 1000000000 by omega)
    rw [drop_at hx, lidx] at hr
    simp only [go_sem, contS_seq, reduceIte, reduceCtorEq, Nat.reduceEqDiff, Nat.reduceAdd, Nat.reduceBEq, Nat.reduceBNe, Int.reduceLE, Int.reduceLT, Int.reduceToNat, Int.reduceEq, Nat.reduceLeDiff, Nat.reduceLT, Nat.reducePow, Nat.reduceDiv, Nat.reduceMod, hlt', rows_get hx]
    refine (hp x (List.mem_of_getElem? hx)).callW he _ (idr bs) hc.ok (hc.args (by rfl)) hc.see ?_
    rintro d rfl
    simp only [go_sem, contS_seq, reduceIte, reduceCtorEq, Nat.reduceEqDiff, Nat.reduceAdd, Nat.reduceBEq, Nat.reduceBNe, Int.reduceLE, Int.reduceLT, Int.reduceToNat, Int.reduceEq, Nat.reduceLeDiff, Nat.reduceLT, Nat.reducePow, Nat.reduceDiv, Nat.reduceMod]
    refine Gif.mk (fun h => ?_) (fun h => ?_)
    · rw [if_pos h] at hr
      simp only [retK, fullK, iterK, resD, resA, AOp.ex, St.ev, Option.map_some, Option.bind_some, St.get, lk, reduceIte, Nat.reduceEqDiff, Option.getD_some, oneD, List.getElem?_cons_zero, List.getElem?_cons_succ, List.drop_zero, List.drop_succ_cons, List.take_succ_cons, List.take_zero, List.length_cons, List.length_nil, Nat.zero_add, Nat.reduceAdd, Nat.le_refl, Nat.reduceLeDiff, D.pub, D.pubs, Tryz.results164]
      exact ⟨_, rfl, rfl, congrArg int hr⟩
    · rw [if_neg (by simp [h])] at hr
      simp only [go_sem, contS_seq, reduceIte, reduceCtorEq, Nat.reduceEqDiff, Nat.reduceAdd, Nat.reduceBEq, Nat.reduceBNe, Int.reduceLE, Int.reduceLT, Int.reduceToNat, Int.reduceEq, Nat.reduceLeDiff, Nat.reduceLT, Nat.reducePow, Nat.reduceDiv, Nat.reduceMod, hw]
      refine ⟨l.length - (i + 1), _, ?_, ?_, i + 1, rfl, ?_, hr, rfl⟩
      · omega
      · exact Weak.less (by simp [lessL, lk]) (lessL_refl hc.nd) (by simp [lessL, lk]) rfl
      · omega
  · have hlt' : ((i : Int) < (l.length : Int)) = False := eq_false (by omega)
    rw [List.drop_eq_nil_of_le (by omega), lidx] at hr
    simp only [go_sem, contS_seq, reduceIte, reduceCtorEq, Nat.reduceEqDiff, Nat.reduceAdd, Nat.reduceBEq, Nat.reduceBNe, Int.reduceLE, Int.reduceLT, Int.reduceToNat, Int.reduceEq, Nat.reduceLeDiff, Nat.reduceLT, Nat.reducePow, Nat.reduceDiv, Nat.reduceMod, rows_len, hlt']
    simp only [retK, fullK, iterK, resD, resA, AOp.ex, St.ev, Option.map_some, Option.bind_some, St.get, lk, reduceIte, Nat.reduceEqDiff, Option.getD_some, oneD, List.getElem?_cons_zero, List.getElem?_cons_succ, List.drop_zero, List.drop_succ_cons, List.take_succ_cons, List.take_zero, List.length_cons, List.length_nil, Nat.zero_add, Nat.reduceAdd, Nat.le_refl, Nat.reduceLeDiff, D.pub, D.pubs, Tryz.results164]
    exact ⟨_, rfl, rfl, congrArg int hr⟩

theorem IndexFunc_Listener (p : AListener → Bool) (g : FuncId) (he : Enters Tryz.prog g) (caps : List (Nat × Nat)) (bs : List (Nat × List D)) (hc : Cl bs caps) (l : List AListener) (hl : l.length ≤ 1000000)
    (hp : ∀ x ∈ l, PureB Tryz.prog g (AListener.d x :: capD caps) bs (fun d => d = bln (p x))) :
    PureB Tryz.prog 167 [.pd (.slice (rows AListener.pd l)), .fn g caps] bs (fun d => d = int (lidx p l 0)) := by
  refine pureB_of_run follows an_z78 Tryz.func167 rfl ok_z78 dst_z78 (by simp [Tryz.ntmps167]) ?_
  rw [run_start]
  simp only [ac_z78, go_sem, contS_seq, reduceIte, reduceCtorEq, Nat.reduceEqDiff, Nat.reduceAdd, Nat.reduceBEq, Nat.reduceBNe, Int.reduceLE, Int.reduceLT, Int.reduceToNat, Int.reduceEq, Nat.reduceLeDiff, Nat.reduceLT, Nat.reducePow, Nat.reduceDiv, Nat.reduceMod, rows_len]
  refine loopS (fun k st => ∃ i : Nat, k = l.length - i ∧ i ≤ l.length ∧ lidx p (l.drop i) i = lidx p l 0 ∧
    st = ⟨[(0, .pd (.slice (rows AListener.pd l))), (1, .fn g caps), (7, int l.length), (8, int i)], bs, [], .no⟩) l.length _ (Weak.refl _ _) ⟨0, rfl, Nat.zero_le _, rfl, rfl⟩ ?_
  rintro k st ⟨i, rfl, hi, hr, rfl⟩
  by_cases hlt : i < l.length
  · obtain ⟨x, hx⟩ := at_lt hlt
    have hlt' : ((i : Int) < (l.length : Int)) = True := eq_true (by omega)
    have hw := i64_succ (show i < 1000000000 by omega)
    rw [drop_at hx, lidx] at hr
    simp only [go_sem, contS_seq, reduceIte, reduceCtorEq, Nat.reduceEqDiff, Nat.reduceAdd, Nat.reduceBEq, Nat.reduceBNe, Int.reduceLE, Int.reduceLT, Int.reduceToNat, Int.reduceEq, Nat.reduceLeDiff, Nat.reduceLT, Nat.reducePow, Nat.reduceDiv, Nat.reduceMod, hlt', rows_get hx]
    refine (hp x (List.mem_of_getElem? hx)).callW he _ (idr bs) hc.ok (hc.args (by rfl)) hc.see ?_
    rintro d rfl
    simp only [go_sem, contS_seq, reduceIte, reduceCtorEq, Nat.reduceEqDiff, Nat.reduceAdd, Nat.reduceBEq, Nat.reduceBNe, Int.reduceLE, Int.reduceLT, Int.reduceToNat, Int.reduceEq, Nat.reduceLeDiff, Nat.reduceLT, Nat.reducePow, Nat.reduceDiv, Nat.reduceMod]
    refine Gif.mk (fun h => ?_) (fun h => ?_)
    · rw [if_pos h] at hr
      simp only [retK, fullK, iterK, resD, resA, AOp.ex, St.ev, Option.map_some, Option.bind_some, St.get, lk, reduceIte, Nat.reduceEqDiff, Option.getD_some, oneD, List.getElem?_cons_zero, List.getElem?_cons_succ, List.drop_zero, List.drop_succ_cons, List.take_succ_cons, List.take_zero, List.length_cons, List.length_nil, Nat.zero_add, Nat.reduceAdd, Nat.le_refl, Nat.reduceLeDiff, D.pub, D.pubs, Tryz.results167]
      exact ⟨_, rfl, rfl, congrArg int hr⟩
    · rw [if_neg (by simp [h])] at hr
      simp only [go_sem, contS_seq, reduceIte, reduceCtorEq, Nat.reduceEqDiff, Nat.reduceAdd, Nat.reduceBEq, Nat.reduceBNe, Int.reduceLE, Int.reduceLT, Int.reduceToNat, Int.reduceEq, Nat.reduceLeDiff, Nat.reduceLT, Nat.reducePow, Nat.reduceDiv, Nat.reduceMod, hw]
      refine ⟨l.length - (i + 1), _, ?_, ?_, i + 1, rfl, ?_, hr, rfl⟩
      · omega
      · exact Weak.less (by simp [lessL, lk]) (lessL_refl hc.nd) (by simp [lessL, lk]) rfl
      · omega
  · have hlt' : ((i : Int) < (l.length : Int)) = False := eq_false (by omega)
    rw [List.drop_eq_nil_of_le (by omega), lidx] at hr
    simp only [go_sem, contS_seq, reduceIte, reduceCtorEq, Nat.reduceEqDiff, Nat.reduceAdd, Nat.reduceBEq, Nat.reduceBNe, Int.reduceLE, Int.reduceLT, Int.reduceToNat, Int.reduceEq, Nat.reduceLeDiff, Nat.reduceLT, Nat.reducePow, Nat.reduceDiv, Nat.reduceMod, rows_len, hlt']
    simp only [retK, fullK, iterK, resD, resA, AOp.ex, St.ev, Option.map_some, Option.bind_some, St.get, lk, reduceIte, Nat.reduceEqDiff, Option.getD_some, oneD, List.getElem?_cons_zero, List.getElem?_cons_succ, List.drop_zero, List.drop_succ_cons, List.take_succ_cons, List.take_zero, List.length_cons, List.length_nil, Nat.zero_add, Nat.reduceAdd, Nat.le_refl, Nat.reduceLeDiff, D.pub, D.pubs, Tryz.results167]
    exact ⟨_, rfl, rfl, congrArg int hr⟩

theorem IndexFunc_Need (p : ANeed → Bool) (g : FuncId) (he : Enters Tryz.prog g) (caps : List (Nat × Nat)) (bs : List (Nat × List D)) (hc : Cl bs caps) (l : List ANeed) (hl : l.length ≤ 1000000)
    (hp : ∀ x ∈ l, PureB Tryz.prog g (ANeed.d x :: capD caps) bs (fun d => d = bln (p x))) :
    PureB Tryz.prog 206 [.pd (.slice (rows ANeed.pd l)), .fn g caps] bs (fun d => d = int (lidx p l 0)) := by
  refine pureB_of_run follows an_z90 Tryz.func206 rfl ok_z90 dst_z90 (by simp [Tryz.ntmps206]) ?_
  rw [run_start]
  simp only [ac_z90, go_sem, contS_seq, reduceIte, reduceCtorEq, Nat.reduceEqDiff, Nat.reduceAdd, Nat.reduceBEq, Nat.reduceBNe, Int.reduceLE, Int.reduceLT, Int.reduceToNat, Int.reduceEq, Nat.reduceLeDiff, Nat.reduceLT, Nat.reducePow, Nat.reduceDiv, Nat.reduceMod, rows_len]
  refine loopS (fun k st => ∃ i : Nat, k = l.length - i ∧ i ≤ l.length ∧ lidx p (l.drop i) i = lidx p l 0 ∧
    st = ⟨[(0, .pd (.slice (rows ANeed.pd l))), (1, .fn g caps), (7, int l.length), (8, int i)], bs, [], .no⟩) l.length _ (Weak.refl _ _) ⟨0, rfl, Nat.zero_le _, rfl, rfl⟩ ?_
  rintro k st ⟨i, rfl, hi, hr, rfl⟩
  by_cases hlt : i < l.length
  · obtain ⟨x, hx⟩ := at_lt hlt
    have hlt' : ((i : Int) < (l.length : Int)) = True := eq_true (by omega)
    have hw := i64_succ (show i < 1000000000 by omega)
    rw [drop_at hx, lidx] at hr
    simp only [go_sem, contS_seq, reduceIte, reduceCtorEq, Nat.reduceEqDiff, Nat.reduceAdd, Nat.reduceBEq, Nat.reduceBNe, Int.reduceLE, Int.reduceLT, Int.reduceToNat, Int.reduceEq, Nat.reduceLeDiff, Nat.reduceLT, Nat.reducePow, Nat.reduceDiv, Nat.reduceMod, hlt', rows_get hx]
    refine (hp x (List.mem_of_getElem? hx)).callW he _ (idr bs) hc.ok (hc.args (by rfl)) hc.see ?_
    rintro d rfl
    simp only [go_sem, contS_seq, reduceIte, reduceCtorEq, Nat.reduceEqDiff, Nat.reduceAdd, Nat.reduceBEq, Nat.reduceBNe, Int.reduceLE, Int.reduceLT, Int.reduceToNat, Int.reduceEq, Nat.reduceLeDiff, Nat.reduceLT, Nat.reducePow, Nat.reduceDiv, Nat.reduceMod]
    refine Gif.mk (fun h => ?_) (fun h => ?_)
    · rw [if_pos h] at hr
      simp only [retK, fullK, iterK, resD, resA, AOp.ex, St.ev, Option.map_some, Option.bind_some, St.get, lk, reduceIte, Nat.reduceEqDiff, Option.getD_some, oneD, List.getElem?_cons_zero, List.getElem?_cons_succ, List.drop_zero, List.drop_succ_cons, List.take_succ_cons, List.take_zero, List.length_cons, List.length_nil, Nat.zero_add, Nat.reduceAdd, Nat.le_refl, Nat.reduceLeDiff, D.pub, D.pubs, Tryz.results206]
      exact ⟨_, rfl, rfl, congrArg int hr⟩
    · rw [if_neg (by simp [h])] at hr
      simp only [go_sem, contS_seq, reduceIte, reduceCtorEq, Nat.reduceEqDiff, Nat.reduceAdd, Nat.reduceBEq, Nat.reduceBNe, Int.reduceLE, Int.reduceLT, Int.reduceToNat, Int.reduceEq, Nat.reduceLeDiff, Nat.reduceLT, Nat.reducePow, Nat.reduceDiv, Nat.reduceMod, hw]
      refine ⟨l.length - (i + 1), _, ?_, ?_, i + 1, rfl, ?_, hr, rfl⟩
      · omega
      · exact Weak.less (by simp [lessL, lk]) (lessL_refl hc.nd) (by simp [lessL, lk]) rfl
      · omega
  · have hlt' : ((i : Int) < (l.length : Int)) = False := eq_false (by omega)
    rw [List.drop_eq_nil_of_le (by omega), lidx] at hr
    simp only [go_sem, contS_seq, reduceIte, reduceCtorEq, Nat.reduceEqDiff, Nat.reduceAdd, Nat.reduceBEq, Nat.reduceBNe, Int.reduceLE, Int.reduceLT, Int.reduceToNat, Int.reduceEq, Nat.reduceLeDiff, Nat.reduceLT, Nat.reducePow, Nat.reduceDiv, Nat.reduceMod, rows_len, hlt']
    simp only [retK, fullK, iterK, resD, resA, AOp.ex, St.ev, Option.map_some, Option.bind_some, St.get, lk, reduceIte, Nat.reduceEqDiff, Option.getD_some, oneD, List.getElem?_cons_zero, List.getElem?_cons_succ, List.drop_zero, List.drop_succ_cons, List.take_succ_cons, List.take_zero, List.length_cons, List.length_nil, Nat.zero_add, Nat.reduceAdd, Nat.le_refl, Nat.reduceLeDiff, D.pub, D.pubs, Tryz.results206]
    exact ⟨_, rfl, rfl, congrArg int hr⟩

theorem IndexFunc_Parent (p : AParent → Bool) (g : FuncId) (he : Enters Tryz.prog g) (caps : List (Nat × Nat)) (bs : List (Nat × List D)) (hc : Cl bs caps) (l : List AParent) (hl : l.length ≤ 1000000)
    (hp : ∀ x ∈ l, PureB Tryz.prog g (AParent.d x :: capD caps) bs (fun d => d = bln (p x))) :
    PureB Tryz.prog 171 [.pd (.slice (rows AParent.pd l)), .fn g caps] bs (fun d => d = int (lidx p l 0)) := by
  refine pureB_of_run follows an_z80 Tryz.func171 rfl ok_z80 dst_z80 (by simp [Tryz.ntmps171]) ?_
  rw [run_start]
  simp only [ac_z80, go_sem, contS_seq, reduceIte, reduceCtorEq, Nat.reduceEqDiff, Nat.reduceAdd, Nat.reduceBEq, Nat.reduceBNe, Int.reduceLE, Int.reduceLT, Int.reduceToNat, Int.reduceEq, Nat.reduceLeDiff, Nat.reduceLT, Nat.reducePow, Nat.reduceDiv, Nat.reduceMod, rows_len]
  refine loopS (fun k st => ∃ i : Nat, k = l.length - i ∧ i ≤ l.length ∧ lidx p (l.drop i) i = lidx p l 0 ∧
    st = ⟨[(0, .pd (.slice (rows AParent.pd l))), (1, .fn g caps), (7, int l.length), (8, int i)], bs, [], .no⟩) l.length _ (Weak.refl _ _) ⟨0, rfl, Nat.zero_le _, rfl, rfl⟩ ?_
  rintro k st ⟨i, rfl, hi, hr, rfl⟩
  by_cases hlt : i < l.length
  · obtain ⟨x, hx⟩ := at_lt hlt
    have hlt' : ((i : Int) < (l.length : Int)) = True := eq_true (by omega)
    have hw := i64_succ (show i < 1000000000 by omega)
    rw [drop_at hx, lidx] at hr
    simp only [go_sem, contS_seq, reduceIte, reduceCtorEq, Nat.reduceEqDiff, Nat.reduceAdd, Nat.reduceBEq, Nat.reduceBNe, Int.reduceLE, Int.reduceLT, Int.reduceToNat, Int.reduceEq, Nat.reduceLeDiff, Nat.reduceLT, Nat.reducePow, Nat.reduceDiv, Nat.reduceMod, hlt', rows_get hx]
    refine (hp x (List.mem_of_getElem? hx)).callW he _ (idr bs) hc.ok (hc.args (by rfl)) hc.see ?_
    rintro d rfl
    simp only [go_sem, contS_seq, reduceIte, reduceCtorEq, Nat.reduceEqDiff, Nat.reduceAdd, Nat.reduceBEq, Nat.reduceBNe, Int.reduceLE, Int.reduceLT, Int.reduceToNat, Int.reduceEq, Nat.reduceLeDiff, Nat.reduceLT, Nat.reducePow, Nat.reduceDiv, Nat.reduceMod]
    refine Gif.mk (fun h => ?_) (fun h => ?_)
    · rw [if_pos h] at hr
      simp only [retK, fullK, iterK, resD, resA, AOp.ex, St.ev, Option.map_some, Option.bind_some, St.get, lk, reduceIte, Nat.reduceEqDiff, Option.getD_some, oneD, List.getElem?_cons_zero, List.getElem?_cons_succ, List.drop_zero, List.drop_succ_cons, List.take_succ_cons, List.take_zero, List.length_cons, List.length_nil, Nat.zero_add, Nat.reduceAdd, Nat.le_refl, Nat.reduceLeDiff, D.pub, D.pubs, Tryz.results171]
      exact ⟨_, rfl, rfl, congrArg int hr⟩
    · rw [if_neg (by simp [h])] at hr
      simp only [go_sem, contS_seq, reduceIte, reduceCtorEq, Nat.reduceEqDiff, Nat.reduceAdd, Nat.reduceBEq, Nat.reduceBNe, Int.reduceLE, Int.reduceLT, Int.reduceToNat, Int.reduceEq, Nat.reduceLeDiff, Nat.reduceLT, Nat.reducePow, Nat.reduceDiv, Nat.reduceMod, hw]
      refine ⟨l.length - (i + 1), _, ?_, ?_, i + 1, rfl, ?_, hr, rfl⟩
      · omega
      · exact Weak.less (by simp [lessL, lk]) (lessL_refl hc.nd) (by simp [lessL, lk]) rfl
      · omega
  · have hlt' : ((i : Int) < (l.length : Int)) = False := eq_false (by omega)
    rw [List.drop_eq_nil_of_le (by omega), lidx] at hr
    simp only [go_sem, contS_seq, reduceIte, reduceCtorEq, Nat.reduceEqDiff, Nat.reduceAdd, Nat.reduceBEq, Nat.reduceBNe, Int.reduceLE, Int.reduceLT, Int.reduceToNat, Int.reduceEq, Nat.reduceLeDiff, Nat.reduceLT, Nat.reducePow, Nat.reduceDiv, Nat.reduceMod, rows_len, hlt']
    simp only [retK, fullK, iterK, resD, resA, AOp.ex, St.ev, Option.map_some, Option.bind_some, St.get, lk, reduceIte, Nat.reduceEqDiff, Option.getD_some, oneD, List.getElem?_cons_zero, List.getElem?_cons_succ, List.drop_zero, List.drop_succ_cons, List.take_succ_cons, List.take_zero, List.length_cons, List.length_nil, Nat.zero_add, Nat.reduceAdd, Nat.le_refl, Nat.reduceLeDiff, D.pub, D.pubs, Tryz.results171]
    exact ⟨_, rfl, rfl, congrArg int hr⟩

theorem IndexFunc_string (p : ByteArray → Bool) (g : FuncId) (he : Enters Tryz.prog g) (caps : List (Nat × Nat)) (bs : List (Nat × List D)) (hc : Cl bs caps) (l : List ByteArray) (hl : l.length ≤ 1000000)
    (hp : ∀ x ∈ l, PureB Tryz.prog g (str x :: capD caps) bs (fun d => d = bln (p x))) :
    PureB Tryz.prog 172 [.pd (.slice (rows cStr l)), .fn g caps] bs (fun d => d = int (lidx p l 0)) := by
  refine pureB_of_run follows an_z81 Tryz.func172 rfl ok_z81 dst_z81 (by simp [Tryz.ntmps172]) ?_
  rw [run_start]
  simp only [ac_z81, go_sem, contS_seq, reduceIte, reduceCtorEq, Nat.reduceEqDiff, Nat.reduceAdd, Nat.reduceBEq, Nat.reduceBNe, Int.reduceLE, Int.reduceLT, Int.reduceToNat, Int.reduceEq, Nat.reduceLeDiff, Nat.reduceLT, Nat.reducePow, Nat.reduceDiv, Nat.reduceMod, rows_len]
  refine loopS (fun k st => ∃ i : Nat, k = l.length - i ∧ i ≤ l.length ∧ lidx p (l.drop i) i = lidx p l 0 ∧
    st = ⟨[(0, .pd (.slice (rows cStr l))), (1, .fn g caps), (7, int l.length), (8, int i)], bs, [], .no⟩) l.length _ (Weak.refl _ _) ⟨0, rfl, Nat.zero_le _, rfl, rfl⟩ ?_
  rintro k st ⟨i, rfl, hi, hr, rfl⟩
  by_cases hlt : i < l.length
  · obtain ⟨x, hx⟩ := at_lt hlt
    have hlt' : ((i : Int) < (l.length : Int)) = True := eq_true (by omega)
    have hw := i64_succ (show i < 1000000000 by omega)
    rw [drop_at hx, lidx] at hr
    simp only [go_sem, contS_seq, reduceIte, reduceCtorEq, Nat.reduceEqDiff, Nat.reduceAdd, Nat.reduceBEq, Nat.reduceBNe, Int.reduceLE, Int.reduceLT, Int.reduceToNat, Int.reduceEq, Nat.reduceLeDiff, Nat.reduceLT, Nat.reducePow, Nat.reduceDiv, Nat.reduceMod, hlt', rows_get hx]
    refine (hp x (List.mem_of_getElem? hx)).callW he _ (idr bs) hc.ok (hc.args (by rfl)) hc.see ?_
    rintro d rfl
    simp only [go_sem, contS_seq, reduceIte, reduceCtorEq, Nat.reduceEqDiff, Nat.reduceAdd, Nat.reduceBEq, Nat.reduceBNe, Int.reduceLE, Int.reduceLT, Int.reduceToNat, Int.reduceEq, Nat.reduceLeDiff, Nat.reduceLT, Nat.reducePow, Nat.reduceDiv, Nat.reduceMod]
    refine Gif.mk (fun h => ?_) (fun h => ?_)
    · rw [if_pos h] at hr
      simp only [retK, fullK, iterK, resD, resA, AOp.ex, St.ev, Option.map_some, Option.bind_some, St.get, lk, reduceIte, Nat.reduceEqDiff, Option.getD_some, oneD, List.getElem?_cons_zero, List.getElem?_cons_succ, List.drop_zero, List.drop_succ_cons, List.take_succ_cons, List.take_zero, List.length_cons, List.length_nil, Nat.zero_add, Nat.reduceAdd, Nat.le_refl, Nat.reduceLeDiff, D.pub, D.pubs, Tryz.results172]
      exact ⟨_, rfl, rfl, congrArg int hr⟩
    · rw [if_neg (by simp [h])] at hr
      simp only [go_sem, contS_seq, reduceIte, reduceCtorEq, Nat.reduceEqDiff, Nat.reduceAdd, Nat.reduceBEq, Nat.reduceBNe, Int.reduceLE, Int.reduceLT, Int.reduceToNat, Int.reduceEq, Nat.reduceLeDiff, Nat.reduceLT, Nat.reducePow, Nat.reduceDiv, Nat.reduceMod, hw]
      refine ⟨l.length - (i + 1), _, ?_, ?_, i + 1, rfl, ?_, hr, rfl⟩
      · omega
      · exact Weak.less (by simp [lessL, lk]) (lessL_refl hc.nd) (by simp [lessL, lk]) rfl
      · omega
  · have hlt' : ((i : Int) < (l.length : Int)) = False := eq_false (by omega)
    rw [List.drop_eq_nil_of_le (by omega), lidx] at hr
    simp only [go_sem, contS_seq, reduceIte, reduceCtorEq, Nat.reduceEqDiff, Nat.reduceAdd, Nat.reduceBEq, Nat.reduceBNe, Int.reduceLE, Int.reduceLT, Int.reduceToNat, Int.reduceEq, Nat.reduceLeDiff, Nat.reduceLT, Nat.reducePow, Nat.reduceDiv, Nat.reduceMod, rows_len, hlt']
    simp only [retK, fullK, iterK, resD, resA, AOp.ex, St.ev, Option.map_some, Option.bind_some, St.get, lk, reduceIte, Nat.reduceEqDiff, Option.getD_some, oneD, List.getElem?_cons_zero, List.getElem?_cons_succ, List.drop_zero, List.drop_succ_cons, List.take_succ_cons, List.take_zero, List.length_cons, List.length_nil, Nat.zero_add, Nat.reduceAdd, Nat.le_refl, Nat.reduceLeDiff, D.pub, D.pubs, Tryz.results172]
    exact ⟨_, rfl, rfl, congrArg int hr⟩


theorem IndexFunc_Rule (p : ARule → Bool) (g : FuncId) (he : Enters Tryz.prog g) (caps : List (Nat × Nat)) (bs : List (Nat × List D)) (hc : Cl bs caps) (l : List ARule) (hl : l.length ≤ 1000000)
    (hp : ∀ x ∈ l, PureB Tryz.prog g (ARule.d x :: capD caps) bs (fun d => d = bln (p x))) :
    PureB Tryz.prog 174 [.pd (.slice (rows ARule.pd l)), .fn g caps] bs (fun d => d = int (lidx p l 0)) := by
  refine pureB_of_run follows an_z82 Tryz.func174 rfl ok_z82 dst_z82 (by simp [Tryz.ntmps174]) ?_
  rw [run_start]
  simp only [ac_z82, go_sem, contS_seq, reduceIte, reduceCtorEq, Nat.reduceEqDiff, Nat.reduceAdd, Nat.reduceBEq, Nat.reduceBNe, Int.reduceLE, Int.reduceLT, Int.reduceToNat, Int.reduceEq, Nat.reduceLeDiff, Nat.reduceLT, Nat.reducePow, Nat.reduceDiv, Nat.reduceMod, rows_len]
  refine loopS (fun k st => ∃ i : Nat, k = l.length - i ∧ i ≤ l.length ∧ lidx p (l.drop i) i = lidx p l 0 ∧
    st = ⟨[(0, .pd (.slice (rows ARule.pd l))), (1, .fn g caps), (7, int l.length), (8, int i)], bs, [], .no⟩) l.length _ (Weak.refl _ _) ⟨0, rfl, Nat.zero_le _, rfl, rfl⟩ ?_
  rintro k st ⟨i, rfl, hi, hr, rfl⟩
  by_cases hlt : i < l.length
  · obtain ⟨x, hx⟩ := at_lt hlt
    have hlt' : ((i : Int) < (l.length : Int)) = True := eq_true (by omega)
    have hw := i64_succ (show i < 1000000000 by omega)
    rw [drop_at hx, lidx] at hr
    simp only [go_sem, contS_seq, reduceIte, reduceCtorEq, Nat.reduceEqDiff, Nat.reduceAdd, Nat.reduceBEq, Nat.reduceBNe, Int.reduceLE, Int.reduceLT, Int.reduceToNat, Int.reduceEq, Nat.reduceLeDiff, Nat.reduceLT, Nat.reducePow, Nat.reduceDiv, Nat.reduceMod, hlt', rows_get hx]
    refine (hp x (List.mem_of_getElem? hx)).callW he _ (idr bs) hc.ok (hc.args (by rfl)) hc.see ?_
    rintro d rfl
    simp only [go_sem, contS_seq, reduceIte, reduceCtorEq, Nat.reduceEqDiff, Nat.reduceAdd, Nat.reduceBEq, Nat.reduceBNe, Int.reduceLE, Int.reduceLT, Int.reduceToNat, Int.reduceEq, Nat.reduceLeDiff, Nat.reduceLT, Nat.reducePow, Nat.reduceDiv, Nat.reduceMod]
    refine Gif.mk (fun h => ?_) (fun h => ?_)
    · rw [if_pos h] at hr
      simp only [retK, fullK, iterK, resD, resA, AOp.ex, St.ev, Option.map_some, Option.bind_some, St.get, lk, reduceIte, Nat.reduceEqDiff, Option.getD_some, oneD, List.getElem?_cons_zero, List.getElem?_cons_succ, List.drop_zero, List.drop_succ_cons, List.take_succ_cons, List.take_zero, List.length_cons, List.length_nil, Nat.zero_add, Nat.reduceAdd, Nat.le_refl, Nat.reduceLeDiff, D.pub, D.pubs, Tryz.results174]
      exact ⟨_, rfl, rfl, congrArg int hr⟩
    · rw [if_neg (by simp [h])] at hr
      simp only [go_sem, contS_seq, reduceIte, reduceCtorEq, Nat.reduceEqDiff, Nat.reduceAdd, Nat.reduceBEq, Nat.reduceBNe, Int.reduceLE, Int.reduceLT, Int.reduceToNat, Int.reduceEq, Nat.reduceLeDiff, Nat.reduceLT, Nat.reducePow, Nat.reduceDiv, Nat.reduceMod, hw]
      refine ⟨l.length - (i + 1), _, ?_, ?_, i + 1, rfl, ?_, hr, rfl⟩
      · omega
      · exact Weak.less (by simp [lessL, lk]) (lessL_refl hc.nd) (by simp [lessL, lk]) rfl
      · omega
  · have hlt' : ((i : Int) < (l.length : Int)) = False := eq_false (by omega)
    rw [List.drop_eq_nil_of_le (by omega), lidx] at hr
    simp only [go_sem, contS_seq, reduceIte, reduceCtorEq, Nat.reduceEqDiff, Nat.reduceAdd, Nat.reduceBEq, Nat.reduceBNe, Int.reduceLE, Int.reduceLT, Int.reduceToNat, Int.reduceEq, Nat.reduceLeDiff, Nat.reduceLT, Nat.reducePow, Nat.reduceDiv, Nat.reduceMod, rows_len, hlt']
    simp only [retK, fullK, iterK, resD, resA, AOp.ex, St.ev, Option.map_some, Option.bind_some, St.get, lk, reduceIte, Nat.reduceEqDiff, Option.getD_some, oneD, List.getElem?_cons_zero, List.getElem?_cons_succ, List.drop_zero, List.drop_succ_cons, List.take_succ_cons, List.take_zero, List.length_cons, List.length_nil, Nat.zero_add, Nat.reduceAdd, Nat.le_refl, Nat.reduceLeDiff, D.pub, D.pubs, Tryz.results174]
    exact ⟨_, rfl, rfl, congrArg int hr⟩

theorem IndexFunc_Match (p : AMatch → Bool) (g : FuncId) (he : Enters Tryz.prog g) (caps : List (Nat × Nat)) (bs : List (Nat × List D)) (hc : Cl bs caps) (l : List AMatch) (hl : l.length ≤ 1000000)
    (hp : ∀ x ∈ l, PureB Tryz.prog g (AMatch.d x :: capD caps) bs (fun d => d = bln (p x))) :
    PureB Tryz.prog 209 [.pd (.slice (rows AMatch.pd l)), .fn g caps] bs (fun d => d = int (lidx p l 0)) := by
  refine pureB_of_run follows an_z91 Tryz.func209 rfl ok_z91 dst_z91 (by simp [Tryz.ntmps209]) ?_
  rw [run_start]
  simp only [ac_z91, go_sem, contS_seq, reduceIte, reduceCtorEq, Nat.reduceEqDiff, Nat.reduceAdd, Nat.reduceBEq, Nat.reduceBNe, Int.reduceLE, Int.reduceLT, Int.reduceToNat, Int.reduceEq, Nat.reduceLeDiff, Nat.reduceLT, Nat.reducePow, Nat.reduceDiv, Nat.reduceMod, rows_len]
  refine loopS (fun k st => ∃ i : Nat, k = l.length - i ∧ i ≤ l.length ∧ lidx p (l.drop i) i = lidx p l 0 ∧
    st = ⟨[(0, .pd (.slice (rows AMatch.pd l))), (1, .fn g caps), (7, int l.length), (8, int i)], bs, [], .no⟩) l.length _ (Weak.refl _ _) ⟨0, rfl, Nat.zero_le _, rfl, rfl⟩ ?_
  rintro k st ⟨i, rfl, hi, hr, rfl⟩
  by_cases hlt : i < l.length
  · obtain ⟨x, hx⟩ := at_lt hlt
    have hlt' : ((i : Int) < (l.length : Int)) = True := eq_true (by omega)
    have hw := i64_succ (show i < 1000000000 by omega)
    rw [drop_at hx, lidx] at hr
    simp only [go_sem, contS_seq, reduceIte, reduceCtorEq, Nat.reduceEqDiff, Nat.reduceAdd, Nat.reduceBEq, Nat.reduceBNe, Int.reduceLE, Int.reduceLT, Int.reduceToNat, Int.reduceEq, Nat.reduceLeDiff, Nat.reduceLT, Nat.reducePow, Nat.reduceDiv, Nat.reduceMod, hlt', rows_get hx]
    refine (hp x (List.mem_of_getElem? hx)).callW he _ (idr bs) hc.ok (hc.args (by rfl)) hc.see ?_
    rintro d rfl
    simp only [go_sem, contS_seq, reduceIte, reduceCtorEq, Nat.reduceEqDiff, Nat.reduceAdd, Nat.reduceBEq, Nat.reduceBNe, Int.reduceLE, Int.reduceLT, Int.reduceToNat, Int.reduceEq, Nat.reduceLeDiff, Nat.reduceLT, Nat.reducePow, Nat.reduceDiv, Nat.reduceMod]
    refine Gif.mk (fun h => ?_) (fun h => ?_)
    · rw [if_pos h] at hr
      simp only [retK, fullK, iterK, resD, resA, AOp.ex, St.ev, Option.map_some, Option.bind_some, St.get, lk, reduceIte, Nat.reduceEqDiff, Option.getD_some, oneD, List.getElem?_cons_zero, List.getElem?_cons_succ, List.drop_zero, List.drop_succ_cons, List.take_succ_cons, List.take_zero, List.length_cons, List.length_nil, Nat.zero_add, Nat.reduceAdd, Nat.le_refl, Nat.reduceLeDiff, D.pub, D.pubs, Tryz.results209]
      exact ⟨_, rfl, rfl, congrArg int hr⟩
    · rw [if_neg (by simp [h])] at hr
      simp only [go_sem, contS_seq, reduceIte, reduceCtorEq, Nat.reduceEqDiff, Nat.reduceAdd, Nat.reduceBEq, Nat.reduceBNe, Int.reduceLE, Int.reduceLT, Int.reduceToNat, Int.reduceEq, Nat.reduceLeDiff, Nat.reduceLT, Nat.reducePow, Nat.reduceDiv, Nat.reduceMod, hw]
      refine ⟨l.length - (i + 1), _, ?_, ?_, i + 1, rfl, ?_, hr, rfl⟩
      · omega
      · exact Weak.less (by simp [lessL, lk]) (lessL_refl hc.nd) (by simp [lessL, lk]) rfl
      · omega
  · have hlt' : ((i : Int) < (l.length : Int)) = False := eq_false (by omega)
    rw [List.drop_eq_nil_of_le (by omega), lidx] at hr
    simp only [go_sem, contS_seq, reduceIte, reduceCtorEq, Nat.reduceEqDiff, Nat.reduceAdd, Nat.reduceBEq, Nat.reduceBNe, Int.reduceLE, Int.reduceLT, Int.reduceToNat, Int.reduceEq, Nat.reduceLeDiff, Nat.reduceLT, Nat.reducePow, Nat.reduceDiv, Nat.reduceMod, rows_len, hlt']
    simp only [retK, fullK, iterK, resD, resA, AOp.ex, St.ev, Option.map_some, Option.bind_some, St.get, lk, reduceIte, Nat.reduceEqDiff, Option.getD_some, oneD, List.getElem?_cons_zero, List.getElem?_cons_succ, List.drop_zero, List.drop_succ_cons, List.take_succ_cons, List.take_zero, List.length_cons, List.length_nil, Nat.zero_add, Nat.reduceAdd, Nat.le_refl, Nat.reduceLeDiff, D.pub, D.pubs, Tryz.results209]
    exact ⟨_, rfl, rfl, congrArg int hr⟩

theorem IndexFunc_Pair (p : APair → Bool) (g : FuncId) (he : Enters Tryz.prog g) (caps : List (Nat × Nat)) (bs : List (Nat × List D)) (hc : Cl bs caps) (l : List APair) (hl : l.length ≤ 1000000)
    (hp : ∀ x ∈ l, PureB Tryz.prog g (APair.d x :: capD caps) bs (fun d => d = bln (p x))) :
    PureB Tryz.prog 215 [.pd (.slice (rows APair.pd l)), .fn g caps] bs (fun d => d = int (lidx p l 0)) := by
  refine pureB_of_run follows an_z92 Tryz.func215 rfl ok_z92 dst_z92 (by simp [Tryz.ntmps215]) ?_
  rw [run_start]
  simp only [ac_z92, go_sem, contS_seq, reduceIte, reduceCtorEq, Nat.reduceEqDiff, Nat.reduceAdd, Nat.reduceBEq, Nat.reduceBNe, Int.reduceLE, Int.reduceLT, Int.reduceToNat, Int.reduceEq, Nat.reduceLeDiff, Nat.reduceLT, Nat.reducePow, Nat.reduceDiv, Nat.reduceMod, rows_len]
  refine loopS (fun k st => ∃ i : Nat, k = l.length - i ∧ i ≤ l.length ∧ lidx p (l.drop i) i = lidx p l 0 ∧
    st = ⟨[(0, .pd (.slice (rows APair.pd l))), (1, .fn g caps), (7, int l.length), (8, int i)], bs, [], .no⟩) l.length _ (Weak.refl _ _) ⟨0, rfl, Nat.zero_le _, rfl, rfl⟩ ?_
  rintro k st ⟨i, rfl, hi, hr, rfl⟩
  by_cases hlt : i < l.length
  · obtain ⟨x, hx⟩ := at_lt hlt
    have hlt' : ((i : Int) < (l.length : Int)) = True := eq_true (by omega)
    have hw := i64_succ (show i < 1000000000 by omega)
    rw [drop_at hx, lidx] at hr
    simp only [go_sem, contS_seq, reduceIte, reduceCtorEq, Nat.reduceEqDiff, Nat.reduceAdd, Nat.reduceBEq, Nat.reduceBNe, Int.reduceLE, Int.reduceLT, Int.reduceToNat, Int.reduceEq, Nat.reduceLeDiff, Nat.reduceLT, Nat.reducePow, Nat.reduceDiv, Nat.reduceMod, hlt', rows_get hx]
    refine (hp x (List.mem_of_getElem? hx)).callW he _ (idr bs) hc.ok (hc.args (by rfl)) hc.see ?_
    rintro d rfl
    simp only [go_sem, contS_seq, reduceIte, reduceCtorEq, Nat.reduceEqDiff, Nat.reduceAdd, Nat.reduceBEq, Nat.reduceBNe, Int.reduceLE, Int.reduceLT, Int.reduceToNat, Int.reduceEq, Nat.reduceLeDiff, Nat.reduceLT, Nat.reducePow, Nat.reduceDiv, Nat.reduceMod]
    refine Gif.mk (fun h => ?_) (fun h => ?_)
    · rw [if_pos h] at hr
      simp only [retK, fullK, iterK, resD, resA, AOp.ex, St.ev, Option.map_some, Option.bind_some, St.get, lk, reduceIte, Nat.reduceEqDiff, Option.getD_some, oneD, List.getElem?_cons_zero, List.getElem?_cons_succ, List.drop_zero, List.drop_succ_cons, List.take_succ_cons, List.take_zero, List.length_cons, List.length_nil, Nat.zero_add, Nat.reduceAdd, Nat.le_refl, Nat.reduceLeDiff, D.pub, D.pubs, Tryz.results215]
      exact ⟨_, rfl, rfl, congrArg int hr⟩
    · rw [if_neg (by simp [h])] at hr
      simp only [go_sem, contS_seq, reduceIte, reduceCtorEq, Nat.reduceEqDiff, Nat.reduceAdd, Nat.reduceBEq, Nat.reduceBNe, Int.reduceLE, Int.reduceLT, Int.reduceToNat, Int.reduceEq, Nat.reduceLeDiff, Nat.reduceLT, Nat.reducePow, Nat.reduceDiv, Nat.reduceMod, hw]
      refine ⟨l.length - (i + 1), _, ?_, ?_, i + 1, rfl, ?_, hr, rfl⟩
      · omega
      · exact Weak.less (by simp [lessL, lk]) (lessL_refl hc.nd) (by simp [lessL, lk]) rfl
      · omega
  · have hlt' : ((i : Int) < (l.length : Int)) = False := eq_false (by omega)
    rw [List.drop_eq_nil_of_le (by omega), lidx] at hr
    simp only [go_sem, contS_seq, reduceIte, reduceCtorEq, Nat.reduceEqDiff, Nat.reduceAdd, Nat.reduceBEq, Nat.reduceBNe, Int.reduceLE, Int.reduceLT, Int.reduceToNat, Int.reduceEq, Nat.reduceLeDiff, Nat.reduceLT, Nat.reducePow, Nat.reduceDiv, Nat.reduceMod, rows_len, hlt']
    simp only [retK, fullK, iterK, resD, resA, AOp.ex, St.ev, Option.map_some, Option.bind_some, St.get, lk, reduceIte, Nat.reduceEqDiff, Option.getD_some, oneD, List.getElem?_cons_zero, List.getElem?_cons_succ, List.drop_zero, List.drop_succ_cons, List.take_succ_cons, List.take_zero, List.length_cons, List.length_nil, Nat.zero_add, Nat.reduceAdd, Nat.le_refl, Nat.reduceLeDiff, D.pub, D.pubs, Tryz.results215]
    exact ⟨_, rfl, rfl, congrArg int hr⟩

theorem IndexFunc_Filter (p : AFilter → Bool) (g : FuncId) (he : Enters Tryz.prog g) (caps : List (Nat × Nat)) (bs : List (Nat × List D)) (hc : Cl bs caps) (l : List AFilter) (hl : l.length ≤ 1000000)
    (hp : ∀ x ∈ l, PureB Tryz.prog g (AFilter.d x :: capD caps) bs (fun d => d = bln (p x))) :
    PureB Tryz.prog 219 [.pd (.slice (rows AFilter.pd l)), .fn g caps] bs (fun d => d = int (lidx p l 0)) := by
  refine pureB_of_run follows an_z93 Tryz.func219 rfl ok_z93 dst_z93 (by simp [Tryz.ntmps219]) ?_
  rw [run_start]
  simp only [ac_z93, go_sem, contS_seq, reduceIte, reduceCtorEq, Nat.reduceEqDiff, Nat.reduceAdd, Nat.reduceBEq, Nat.reduceBNe, Int.reduceLE, Int.reduceLT, Int.reduceToNat, Int.reduceEq, Nat.reduceLeDiff, Nat.reduceLT, Nat.reducePow, Nat.reduceDiv, Nat.reduceMod, rows_len]
  refine loopS (fun k st => ∃ i : Nat, k = l.length - i ∧ i ≤ l.length ∧ lidx p (l.drop i) i = lidx p l 0 ∧
    st = ⟨[(0, .pd (.slice (rows AFilter.pd l))), (1, .fn g caps), (7, int l.length), (8, int i)], bs, [], .no⟩) l.length _ (Weak.refl _ _) ⟨0, rfl, Nat.zero_le _, rfl, rfl⟩ ?_
  rintro k st ⟨i, rfl, hi, hr, rfl⟩
  by_cases hlt : i < l.length
  · obtain ⟨x, hx⟩ := at_lt hlt
    have hlt' : ((i : Int) < (l.length : Int)) = True := eq_true (by omega)
    have hw := i64_succ (show i < 1000000000 by omega)
    rw [drop_at hx, lidx] at hr
    simp only [go_sem, contS_seq, reduceIte, reduceCtorEq, Nat.reduceEqDiff, Nat.reduceAdd, Nat.reduceBEq, Nat.reduceBNe, Int.reduceLE, Int.reduceLT, Int.reduceToNat, Int.reduceEq, Nat.reduceLeDiff, Nat.reduceLT, Nat.reducePow, Nat.reduceDiv, Nat.reduceMod, hlt', rows_get hx]
    refine (hp x (List.mem_of_getElem? hx)).callW he _ (idr bs) hc.ok (hc.args (by rfl)) hc.see ?_
    rintro d rfl
    simp only [go_sem, contS_seq, reduceIte, reduceCtorEq, Nat.reduceEqDiff, Nat.reduceAdd, Nat.reduceBEq, Nat.reduceBNe, Int.reduceLE, Int.reduceLT, Int.reduceToNat, Int.reduceEq, Nat.reduceLeDiff, Nat.reduceLT, Nat.reducePow, Nat.reduceDiv, Nat.reduceMod]
    refine Gif.mk (fun h => ?_) (fun h => ?_)
    · rw [if_pos h] at hr
      simp only [retK, fullK, iterK, resD, resA, AOp.ex, St.ev, Option.map_some, Option.bind_some, St.get, lk, reduceIte, Nat.reduceEqDiff, Option.getD_some, oneD, List.getElem?_cons_zero, List.getElem?_cons_succ, List.drop_zero, List.drop_succ_cons, List.take_succ_cons, List.take_zero, List.length_cons, List.length_nil, Nat.zero_add, Nat.reduceAdd, Nat.le_refl, Nat.reduceLeDiff, D.pub, D.pubs, Tryz.results219]
      exact ⟨_, rfl, rfl, congrArg int hr⟩
    · rw [if_neg (by simp [h])] at hr
      simp only [go_sem, contS_seq, reduceIte, reduceCtorEq, Nat.reduceEqDiff, Nat.reduceAdd, Nat.reduceBEq, Nat.reduceBNe, Int.reduceLE, Int.reduceLT, Int.reduceToNat, Int.reduceEq, Nat.reduceLeDiff, Nat.reduceLT, Nat.reducePow, Nat.reduceDiv, Nat.reduceMod, hw]
      refine ⟨l.length - (i + 1), _, ?_, ?_, i + 1, rfl, ?_, hr, rfl⟩
      · omega
      · exact Weak.less (by simp [lessL, lk]) (lessL_refl hc.nd) (by simp [lessL, lk]) rfl
      · omega
  · have hlt' : ((i : Int) < (l.length : Int)) = False := eq_false (by omega)
    rw [List.drop_eq_nil_of_le (by omega), lidx] at hr
    simp only [go_sem, contS_seq, reduceIte, reduceCtorEq, Nat.reduceEqDiff, Nat.reduceAdd, Nat.reduceBEq, Nat.reduceBNe, Int.reduceLE, Int.reduceLT, Int.reduceToNat, Int.reduceEq, Nat.reduceLeDiff, Nat.reduceLT, Nat.reducePow, Nat.reduceDiv, Nat.reduceMod, rows_len, hlt']
    simp only [retK, fullK, iterK, resD, resA, AOp.ex, St.ev, Option.map_some, Option.bind_some, St.get, lk, reduceIte, Nat.reduceEqDiff, Option.getD_some, oneD, List.getElem?_cons_zero, List.getElem?_cons_succ, List.drop_zero, List.drop_succ_cons, List.take_succ_cons, List.take_zero, List.length_cons, List.length_nil, Nat.zero_add, Nat.reduceAdd, Nat.le_refl, Nat.reduceLeDiff, D.pub, D.pubs, Tryz.results219]
    exact ⟨_, rfl, rfl, congrArg int hr⟩

theorem IndexFunc_Backend (p : ABackend → Bool) (g : FuncId) (he : Enters Tryz.prog g) (caps : List (Nat × Nat)) (bs : List (Nat × List D)) (hc : Cl bs caps) (l : List ABackend) (hl : l.length ≤ 1000000)
    (hp : ∀ x ∈ l, PureB Tryz.prog g (ABackend.d x :: capD caps) bs (fun d => d = bln (p x))) :
    PureB Tryz.prog 220 [.pd (.slice (rows ABackend.pd l)), .fn g caps] bs (fun d => d = int (lidx p l 0)) := by
  refine pureB_of_run follows an_z94 Tryz.func220 rfl ok_z94 dst_z94 (by simp [Tryz.ntmps220]) ?_
  rw [run_start]
  simp only [ac_z94, go_sem, contS_seq, reduceIte, reduceCtorEq, Nat.reduceEqDiff, Nat.reduceAdd, Nat.reduceBEq, Nat.reduceBNe, Int.reduceLE, Int.reduceLT, Int.reduceToNat, Int.reduceEq, Nat.reduceLeDiff, Nat.reduceLT, Nat.reducePow, Nat.reduceDiv, Nat.reduceMod, rows_len]
  refine loopS (fun k st => ∃ i : Nat, k = l.length - i ∧ i ≤ l.length ∧ lidx p (l.drop i) i = lidx p l 0 ∧
    st = ⟨[(0, .pd (.slice (rows ABackend.pd l))), (1, .fn g caps), (7, int l.length), (8, int i)], bs, [], .no⟩) l.length _ (Weak.refl _ _) ⟨0, rfl, Nat.zero_le _, rfl, rfl⟩ ?_
  rintro k st ⟨i, rfl, hi, hr, rfl⟩
  by_cases hlt : i < l.length
  · obtain ⟨x, hx⟩ := at_lt hlt
    have hlt' : ((i : Int) < (l.length : Int)) = True := eq_true (by omega)
    have hw := i64_succ (show i < 1000000000 by omega)
    rw [drop_at hx, lidx] at hr
    simp only [go_sem, contS_seq, reduceIte, reduceCtorEq, Nat.reduceEqDiff, Nat.reduceAdd, Nat.reduceBEq, Nat.reduceBNe, Int.reduceLE, Int.reduceLT, Int.reduceToNat, Int.reduceEq, Nat.reduceLeDiff, Nat.reduceLT, Nat.reducePow, Nat.reduceDiv, Nat.reduceMod, hlt', rows_get hx]
    refine (hp x (List.mem_of_getElem? hx)).callW he _ (idr bs) hc.ok (hc.args (by rfl)) hc.see ?_
    rintro d rfl
    simp only [go_sem, contS_seq, reduceIte, reduceCtorEq, Nat.reduceEqDiff, Nat.reduceAdd, Nat.reduceBEq, Nat.reduceBNe, Int.reduceLE, Int.reduceLT, Int.reduceToNat, Int.reduceEq, Nat.reduceLeDiff, Nat.reduceLT, Nat.reducePow, Nat.reduceDiv, Nat.reduceMod]
    refine Gif.mk (fun h => ?_) (fun h => ?_)
    · rw [if_pos h] at hr
      simp only [retK, fullK, iterK, resD, resA, AOp.ex, St.ev, Option.map_some, Option.bind_some, St.get, lk, reduceIte, Nat.reduceEqDiff, Option.getD_some, oneD, List.getElem?_cons_zero, List.getElem?_cons_succ, List.drop_zero, List.drop_succ_cons, List.take_succ_cons, List.take_zero, List.length_cons, List.length_nil, Nat.zero_add, Nat.reduceAdd, Nat.le_refl, Nat.reduceLeDiff, D.pub, D.pubs, Tryz.results220]
      exact ⟨_, rfl, rfl, congrArg int hr⟩
    · rw [if_neg (by simp [h])] at hr
      simp only [go_sem, contS_seq, reduceIte, reduceCtorEq, Nat.reduceEqDiff, Nat.reduceAdd, Nat.reduceBEq, Nat.reduceBNe, Int.reduceLE, Int.reduceLT, Int.reduceToNat, Int.reduceEq, Nat.reduceLeDiff, Nat.reduceLT, Nat.reducePow, Nat.reduceDiv, Nat.reduceMod, hw]
      refine ⟨l.length - (i + 1), _, ?_, ?_, i + 1, rfl, ?_, hr, rfl⟩
      · omega
      · exact Weak.less (by simp [lessL, lk]) (lessL_refl hc.nd) (by simp [lessL, lk]) rfl
      · omega
  · have hlt' : ((i : Int) < (l.length : Int)) = False := eq_false (by omega)
    rw [List.drop_eq_nil_of_le (by omega), lidx] at hr
    simp only [go_sem, contS_seq, reduceIte, reduceCtorEq, Nat.reduceEqDiff, Nat.reduceAdd, Nat.reduceBEq, Nat.reduceBNe, Int.reduceLE, Int.reduceLT, Int.reduceToNat, Int.reduceEq, Nat.reduceLeDiff, Nat.reduceLT, Nat.reducePow, Nat.reduceDiv, Nat.reduceMod, rows_len, hlt']
    simp only [retK, fullK, iterK, resD, resA, AOp.ex, St.ev, Option.map_some, Option.bind_some, St.get, lk, reduceIte, Nat.reduceEqDiff, Option.getD_some, oneD, List.getElem?_cons_zero, List.getElem?_cons_succ, List.drop_zero, List.drop_succ_cons, List.take_succ_cons, List.take_zero, List.length_cons, List.length_nil, Nat.zero_add, Nat.reduceAdd, Nat.le_refl, Nat.reduceLeDiff, D.pub, D.pubs, Tryz.results220]
    exact ⟨_, rfl, rfl, congrArg int hr⟩


theorem ContainsFunc_Side (p : ASide → Bool) (g : FuncId) (he : Enters Tryz.prog g) (caps : List (Nat × Nat)) (bs : List (Nat × List D)) (hc : Cl bs caps) (l : List ASide) (hl : l.length ≤ 1000000)
    (hp : ∀ x ∈ l, PureB Tryz.prog g (ASide.d x :: capD caps) bs (fun d => d = bln (p x))) :
    PureB Tryz.prog 122 [.pd (.slice (rows ASide.pd l)), .fn g caps] bs (fun d => d = bln (l.any p)) := by
  refine pureB_of_run follows an_z55 Tryz.func122 rfl ok_z55 dst_z55 (by simp [Tryz.ntmps122]) ?_
  rw [run_start]
  simp only [ac_z55, go_sem, contS_seq, reduceIte, reduceCtorEq, Nat.reduceEqDiff, Nat.reduceAdd, Nat.reduceBEq, Nat.reduceBNe, Int.reduceLE, Int.reduceLT, Int.reduceToNat, Int.reduceEq, Nat.reduceLeDiff, Nat.reduceLT, Nat.reducePow, Nat.reduceDiv, Nat.reduceMod, rows_len]
  refine (IndexFunc_Side p g he caps bs hc l hl hp).callW (enters_of Tryz.func163 rfl rfl) _ (idr bs) hc.ok hc.two hc.see ?_
  rintro d rfl
  simp only [go_sem, contS_seq, reduceIte, reduceCtorEq, Nat.reduceEqDiff, Nat.reduceAdd, Nat.reduceBEq, Nat.reduceBNe, Int.reduceLE, Int.reduceLT, Int.reduceToNat, Int.reduceEq, Nat.reduceLeDiff, Nat.reduceLT, Nat.reducePow, Nat.reduceDiv, Nat.reduceMod]
  simp only [retK, fullK, iterK, resD, resA, AOp.ex, St.ev, Option.map_some, Option.bind_some, St.get, lk, reduceIte, Nat.reduceEqDiff, Option.getD_some, oneD, List.getElem?_cons_zero, List.getElem?_cons_succ, List.drop_zero, List.drop_succ_cons, List.take_succ_cons, List.take_zero, List.length_cons, List.length_nil, Nat.zero_add, Nat.reduceAdd, Nat.le_refl, Nat.reduceLeDiff, D.pub, D.pubs, Tryz.results122]
  exact ⟨_, rfl, rfl, congrArg bln (lidx_any p l)⟩

theorem ContainsFunc_int (p : Int → Bool) (g : FuncId) (he : Enters Tryz.prog g) (caps : List (Nat × Nat)) (bs : List (Nat × List D)) (hc : Cl bs caps) (l : List Int) (hl : l.length ≤ 1000000)
    (hp : ∀ x ∈ l, PureB Tryz.prog g (int x :: capD caps) bs (fun d => d = bln (p x))) :
    PureB Tryz.prog 124 [.pd (.slice (rows cInt l)), .fn g caps] bs (fun d => d = bln (l.any p)) := by
  refine pureB_of_run follows an_z56 Tryz.func124 rfl ok_z56 dst_z56 (by simp [Tryz.ntmps124]) ?_
  rw [run_start]
  simp only [ac_z56, go_sem, contS_seq, reduceIte, reduceCtorEq, Nat.reduceEqDiff, Nat.reduceAdd, Nat.reduceBEq, Nat.reduceBNe, Int.reduceLE, Int.reduceLT, Int.reduceToNat, Int.reduceEq, Nat.reduceLeDiff, Nat.reduceLT, Nat.reducePow, Nat.reduceDiv, Nat.reduceMod, rows_len]
  refine (IndexFunc_int p g he caps bs hc l hl hp).callW (enters_of Tryz.func164 rfl rfl) _ (idr bs) hc.ok hc.two hc.see ?_
  rintro d rfl
  simp only [go_sem, contS_seq, reduceIte, reduceCtorEq, Nat.reduceEqDiff, Nat.reduceAdd, Nat.reduceBEq, Nat.reduceBNe, Int.reduceLE, Int.reduceLT, Int.reduceToNat, Int.reduceEq, Nat.reduceLeDiff, Nat.reduceLT, Nat.reducePow, Nat.reduceDiv, Nat.reduceMod]
  simp only [retK, fullK, iterK, resD, resA, AOp.ex, St.ev, Option.map_some, Option.bind_some, St.get, lk, reduceIte, Nat.reduceEqDiff, Option.getD_some, oneD, List.getElem?_cons_zero, List.getElem?_cons_succ, List.drop_zero, List.drop_succ_cons, List.take_succ_cons, List.take_zero, List.length_cons, List.length_nil, Nat.zero_add, Nat.reduceAdd, Nat.le_refl, Nat.reduceLeDiff, D.pub, D.pubs, Tryz.results124]
  exact ⟨_, rfl, rfl, congrArg bln (lidx_any p l)⟩

theorem ContainsFunc_Listener (p : AListener → Bool) (g : FuncId) (he : Enters Tryz.prog g) (caps : List (Nat × Nat)) (bs : List (Nat × List D)) (hc : Cl bs caps) (l : List AListener) (hl : l.length ≤ 1000000)
    (hp : ∀ x ∈ l, PureB Tryz.prog g (AListener.d x :: capD caps) bs (fun d => d = bln (p x))) :
    PureB Tryz.prog 129 [.pd (.slice (rows AListener.pd l)), .fn g caps] bs (fun d => d = bln (l.any p)) := by
  refine pureB_of_run follows an_z59 Tryz.func129 rfl ok_z59 dst_z59 (by simp [Tryz.ntmps129]) ?_
  rw [run_start]
  simp only [ac_z59, go_sem, contS_seq, reduceIte, reduceCtorEq, Nat.reduceEqDiff, Nat.reduceAdd, Nat.reduceBEq, Nat.reduceBNe, Int.reduceLE, Int.reduceLT, Int.reduceToNat, Int.reduceEq, Nat.reduceLeDiff, Nat.reduceLT, Nat.reducePow, Nat.reduceDiv, Nat.reduceMod, rows_len]
  refine (IndexFunc_Listener p g he caps bs hc l hl hp).callW (enters_of Tryz.func167 rfl rfl) _ (idr bs) hc.ok hc.two hc.see ?_
  rintro d rfl
  simp only [go_sem, contS_seq, reduceIte, reduceCtorEq, Nat.reduceEqDiff, Nat.reduceAdd, Nat.reduceBEq, Nat.reduceBNe, Int.reduceLE, Int.reduceLT, Int.reduceToNat, Int.reduceEq, Nat.reduceLeDiff, Nat.reduceLT, Nat.reducePow, Nat.reduceDiv, Nat.reduceMod]
  simp only [retK, fullK, iterK, resD, resA, AOp.ex, St.ev, Option.map_some, Option.bind_some, St.get, lk, reduceIte, Nat.reduceEqDiff, Option.getD_some, oneD, List.getElem?_cons_zero, List.getElem?_cons_succ, List.drop_zero, List.drop_succ_cons, List.take_succ_cons, List.take_zero, List.length_cons, List.length_nil, Nat.zero_add, Nat.reduceAdd, Nat.le_refl, Nat.reduceLeDiff, D.pub, D.pubs, Tryz.results129]
  exact ⟨_, rfl, rfl, congrArg bln (lidx_any p l)⟩

theorem ContainsFunc_Need (p : ANeed → Bool) (g : FuncId) (he : Enters Tryz.prog g) (caps : List (Nat × Nat)) (bs : List (Nat × List D)) (hc : Cl bs caps) (l : List ANeed) (hl : l.length ≤ 1000000)
    (hp : ∀ x ∈ l, PureB Tryz.prog g (ANeed.d x :: capD caps) bs (fun d => d = bln (p x))) :
    PureB Tryz.prog 168 [.pd (.slice (rows ANeed.pd l)), .fn g caps] bs (fun d => d = bln (l.any p)) := by
  refine pureB_of_run follows an_z79 Tryz.func168 rfl ok_z79 dst_z79 (by simp [Tryz.ntmps168]) ?_
  rw [run_start]
  simp only [ac_z79, go_sem, contS_seq, reduceIte, reduceCtorEq, Nat.reduceEqDiff, Nat.reduceAdd, Nat.reduceBEq, Nat.reduceBNe, Int.reduceLE, Int.reduceLT, Int.reduceToNat, Int.reduceEq, Nat.reduceLeDiff, Nat.reduceLT, Nat.reducePow, Nat.reduceDiv, Nat.reduceMod, rows_len]
  refine (IndexFunc_Need p g he caps bs hc l hl hp).callW (enters_of Tryz.func206 rfl rfl) _ (idr bs) hc.ok hc.two hc.see ?_
  rintro d rfl
  simp only [go_sem, contS_seq, reduceIte, reduceCtorEq, Nat.reduceEqDiff, Nat.reduceAdd, Nat.reduceBEq, Nat.reduceBNe, Int.reduceLE, Int.reduceLT, Int.reduceToNat, Int.reduceEq, Nat.reduceLeDiff, Nat.reduceLT, Nat.reducePow, Nat.reduceDiv, Nat.reduceMod]
  simp only [retK, fullK, iterK, resD, resA, AOp.ex, St.ev, Option.map_some, Option.bind_some, St.get, lk, reduceIte, Nat.reduceEqDiff, Option.getD_some, oneD, List.getElem?_cons_zero, List.getElem?_cons_succ, List.drop_zero, List.drop_succ_cons, List.take_succ_cons, List.take_zero, List.length_cons, List.length_nil, Nat.zero_add, Nat.reduceAdd, Nat.le_refl, Nat.reduceLeDiff, D.pub, D.pubs, Tryz.results168]
  exact ⟨_, rfl, rfl, congrArg bln (lidx_any p l)⟩

theorem ContainsFunc_Parent (p : AParent → Bool) (g : FuncId) (he : Enters Tryz.prog g) (caps : List (Nat × Nat)) (bs : List (Nat × List D)) (hc : Cl bs caps) (l : List AParent) (hl : l.length ≤ 1000000)
    (hp : ∀ x ∈ l, PureB Tryz.prog g (AParent.d x :: capD caps) bs (fun d => d = bln (p x))) :
    PureB Tryz.prog 134 [.pd (.slice (rows AParent.pd l)), .fn g caps] bs (fun d => d = bln (l.any p)) := by
  refine pureB_of_run follows an_z62 Tryz.func134 rfl ok_z62 dst_z62 (by simp [Tryz.ntmps134]) ?_
  rw [run_start]
  simp only [ac_z62, go_sem, contS_seq, reduceIte, reduceCtorEq, Nat.reduceEqDiff, Nat.reduceAdd, Nat.reduceBEq, Nat.reduceBNe, Int.reduceLE, Int.reduceLT, Int.reduceToNat, Int.reduceEq, Nat.reduceLeDiff, Nat.reduceLT, Nat.reducePow, Nat.reduceDiv, Nat.reduceMod, rows_len]
  refine (IndexFunc_Parent p g he caps bs hc l hl hp).callW (enters_of Tryz.func171 rfl rfl) _ (idr bs) hc.ok hc.two hc.see ?_
  rintro d rfl
  simp only [go_sem, contS_seq, reduceIte, reduceCtorEq, Nat.reduceEqDiff, Nat.reduceAdd, Nat.reduceBEq, Nat.reduceBNe, Int.reduceLE, Int.reduceLT, Int.reduceToNat, Int.reduceEq, Nat.reduceLeDiff, Nat.reduceLT, Nat.reducePow, Nat.reduceDiv, Nat.reduceMod]
  simp only [retK, fullK, iterK, resD, resA, AOp.ex, St.ev, Option.map_some, Option.bind_some, St.get, lk, reduceIte, Nat.reduceEqDiff, Option.getD_some, oneD, List.getElem?_cons_zero, List.getElem?_cons_succ, List.drop_zero, List.drop_succ_cons, List.take_succ_cons, List.take_zero, List.length_cons, List.length_nil, Nat.zero_add, Nat.reduceAdd, Nat.le_refl, Nat.reduceLeDiff, D.pub, D.pubs, Tryz.results134]
  exact ⟨_, rfl, rfl, congrArg bln (lidx_any p l)⟩

theorem ContainsFunc_string (p : ByteArray → Bool) (g : FuncId) (he : Enters Tryz.prog g) (caps : List (Nat × Nat)) (bs : List (Nat × List D)) (hc : Cl bs caps) (l : List ByteArray) (hl : l.length ≤ 1000000)
    (hp : ∀ x ∈ l, PureB Tryz.prog g (str x :: capD caps) bs (fun d => d = bln (p x))) :
    PureB Tryz.prog 136 [.pd (.slice (rows cStr l)), .fn g caps] bs (fun d => d = bln (l.any p)) := by
  refine pureB_of_run follows an_z64 Tryz.func136 rfl ok_z64 dst_z64 (by simp [Tryz.ntmps136]) ?_
  rw [run_start]
  simp only [ac_z64, go_sem, contS_seq, reduceIte, reduceCtorEq, Nat.reduceEqDiff, Nat.reduceAdd, Nat.reduceBEq, Nat.reduceBNe, Int.reduceLE, Int.reduceLT, Int.reduceToNat, Int.reduceEq, Nat.reduceLeDiff, Nat.reduceLT, Nat.reducePow, Nat.reduceDiv, Nat.reduceMod, rows_len]
  refine (IndexFunc_string p g he caps bs hc l hl hp).callW (enters_of Tryz.func172 rfl rfl) _ (idr bs) hc.ok hc.two hc.see ?_
  rintro d rfl
  simp only [go_sem, contS_seq, reduceIte, reduceCtorEq, Nat.reduceEqDiff, Nat.reduceAdd, Nat.reduceBEq, Nat.reduceBNe, Int.reduceLE, Int.reduceLT, Int.reduceToNat, Int.reduceEq, Nat.reduceLeDiff, Nat.reduceLT, Nat.reducePow, Nat.reduceDiv, Nat.reduceMod]
  simp only [retK, fullK, iterK, resD, resA, AOp.ex, St.ev, Option.map_some, Option.bind_some, St.get, lk, reduceIte, Nat.reduceEqDiff, Option.getD_some, oneD, List.getElem?_cons_zero, List.getElem?_cons_succ, List.drop_zero, List.drop_succ_cons, List.take_succ_cons, List.take_zero, List.length_cons, List.length_nil, Nat.zero_add, Nat.reduceAdd, Nat.le_refl, Nat.reduceLeDiff, D.pub, D.pubs, Tryz.results136]
  exact ⟨_, rfl, rfl, congrArg bln (lidx_any p l)⟩

theorem ContainsFunc_Rule (p : ARule → Bool) (g : FuncId) (he : Enters Tryz.prog g) (caps : List (Nat × Nat)) (bs : List (Nat × List D)) (hc : Cl bs caps) (l : List ARule) (hl : l.length ≤ 1000000)
    (hp : ∀ x ∈ l, PureB Tryz.prog g (ARule.d x :: capD caps) bs (fun d => d = bln (p x))) :
    PureB Tryz.prog 141 [.pd (.slice (rows ARule.pd l)), .fn g caps] bs (fun d => d = bln (l.any p)) := by
  refine pureB_of_run follows an_z68 Tryz.func141 rfl ok_z68 dst_z68 (by simp [Tryz.ntmps141]) ?_
  rw [run_start]
  simp only [ac_z68, go_sem, contS_seq, reduceIte, reduceCtorEq, Nat.reduceEqDiff, Nat.reduceAdd, Nat.reduceBEq, Nat.reduceBNe, Int.reduceLE, Int.reduceLT, Int.reduceToNat, Int.reduceEq, Nat.reduceLeDiff, Nat.reduceLT, Nat.reducePow, Nat.reduceDiv, Nat.reduceMod, rows_len]
  refine (IndexFunc_Rule p g he caps bs hc l hl hp).callW (enters_of Tryz.func174 rfl rfl) _ (idr bs) hc.ok hc.two hc.see ?_
  rintro d rfl
  simp only [go_sem, contS_seq, reduceIte, reduceCtorEq, Nat.reduceEqDiff, Nat.reduceAdd, Nat.reduceBEq, Nat.reduceBNe, Int.reduceLE, Int.reduceLT, Int.reduceToNat, Int.reduceEq, Nat.reduceLeDiff, Nat.reduceLT, Nat.reducePow, Nat.reduceDiv, Nat.reduceMod]
  simp only [retK, fullK, iterK, resD, resA, AOp.ex, St.ev, Option.map_some, Option.bind_some, St.get, lk, reduceIte, Nat.reduceEqDiff, Option.getD_some, oneD, List.getElem?_cons_zero, List.getElem?_cons_succ, List.drop_zero, List.drop_succ_cons, List.take_succ_cons, List.take_zero, List.length_cons, List.length_nil, Nat.zero_add, Nat.reduceAdd, Nat.le_refl, Nat.reduceLeDiff, D.pub, D.pubs, Tryz.results141]
  exact ⟨_, rfl, rfl, congrArg bln (lidx_any p l)⟩

theorem ContainsFunc_Match (p : AMatch → Bool) (g : FuncId) (he : Enters Tryz.prog g) (caps : List (Nat × Nat)) (bs : List (Nat × List D)) (hc : Cl bs caps) (l : List AMatch) (hl : l.length ≤ 1000000)
    (hp : ∀ x ∈ l, PureB Tryz.prog g (AMatch.d x :: capD caps) bs (fun d => d = bln (p x))) :
    PureB Tryz.prog 175 [.pd (.slice (rows AMatch.pd l)), .fn g caps] bs (fun d => d = bln (l.any p)) := by
  refine pureB_of_run follows an_z83 Tryz.func175 rfl ok_z83 dst_z83 (by simp [Tryz.ntmps175]) ?_
  rw [run_start]
  simp only [ac_z83, go_sem, contS_seq, reduceIte, reduceCtorEq, Nat.reduceEqDiff, Nat.reduceAdd, Nat.reduceBEq, Nat.reduceBNe, Int.reduceLE, Int.reduceLT, Int.reduceToNat, Int.reduceEq, Nat.reduceLeDiff, Nat.reduceLT, Nat.reducePow, Nat.reduceDiv, Nat.reduceMod, rows_len]
  refine (IndexFunc_Match p g he caps bs hc l hl hp).callW (enters_of Tryz.func209 rfl rfl) _ (idr bs) hc.ok hc.two hc.see ?_
  rintro d rfl
  simp only [go_sem, contS_seq, reduceIte, reduceCtorEq, Nat.reduceEqDiff, Nat.reduceAdd, Nat.reduceBEq, Nat.reduceBNe, Int.reduceLE, Int.reduceLT, Int.reduceToNat, Int.reduceEq, Nat.reduceLeDiff, Nat.reduceLT, Nat.reducePow, Nat.reduceDiv, Nat.reduceMod]
  simp only [retK, fullK, iterK, resD, resA, AOp.ex, St.ev, Option.map_some, Option.bind_some, St.get, lk, reduceIte, Nat.reduceEqDiff, Option.getD_some, oneD, List.getElem?_cons_zero, List.getElem?_cons_succ, List.drop_zero, List.drop_succ_cons, List.take_succ_cons, List.take_zero, List.length_cons, List.length_nil, Nat.zero_add, Nat.reduceAdd, Nat.le_refl, Nat.reduceLeDiff, D.pub, D.pubs, Tryz.results175]
  exact ⟨_, rfl, rfl, congrArg bln (lidx_any p l)⟩

theorem ContainsFunc_Pair (p : APair → Bool) (g : FuncId) (he : Enters Tryz.prog g) (caps : List (Nat × Nat)) (bs : List (Nat × List D)) (hc : Cl bs caps) (l : List APair) (hl : l.length ≤ 1000000)
    (hp : ∀ x ∈ l, PureB Tryz.prog g (APair.d x :: capD caps) bs (fun d => d = bln (p x))) :
    PureB Tryz.prog 182 [.pd (.slice (rows APair.pd l)), .fn g caps] bs (fun d => d = bln (l.any p)) := by
  refine pureB_of_run follows an_z85 Tryz.func182 rfl ok_z85 dst_z85 (by simp [Tryz.ntmps182]) ?_
  rw [run_start]
  simp only [ac_z85, go_sem, contS_seq, reduceIte, reduceCtorEq, Nat.reduceEqDiff, Nat.reduceAdd, Nat.reduceBEq, Nat.reduceBNe, Int.reduceLE, Int.reduceLT, Int.reduceToNat, Int.reduceEq, Nat.reduceLeDiff, Nat.reduceLT, Nat.reducePow, Nat.reduceDiv, Nat.reduceMod, rows_len]
  refine (IndexFunc_Pair p g he caps bs hc l hl hp).callW (enters_of Tryz.func215 rfl rfl) _ (idr bs) hc.ok hc.two hc.see ?_
  rintro d rfl
  simp only [go_sem, contS_seq, reduceIte, reduceCtorEq, Nat.reduceEqDiff, Nat.reduceAdd, Nat.reduceBEq, Nat.reduceBNe, Int.reduceLE, Int.reduceLT, Int.reduceToNat, Int.reduceEq, Nat.reduceLeDiff, Nat.reduceLT, Nat.reducePow, Nat.reduceDiv, Nat.reduceMod]
  simp only [retK, fullK, iterK, resD, resA, AOp.ex, St.ev, Option.map_some, Option.bind_some, St.get, lk, reduceIte, Nat.reduceEqDiff, Option.getD_some, oneD, List.getElem?_cons_zero, List.getElem?_cons_succ, List.drop_zero, List.drop_succ_cons, List.take_succ_cons, List.take_zero, List.length_cons, List.length_nil, Nat.zero_add, Nat.reduceAdd, Nat.le_refl, Nat.reduceLeDiff, D.pub, D.pubs, Tryz.results182]
  exact ⟨_, rfl, rfl, congrArg bln (lidx_any p l)⟩

theorem ContainsFunc_Filter (p : AFilter → Bool) (g : FuncId) (he : Enters Tryz.prog g) (caps : List (Nat × Nat)) (bs : List (Nat × List D)) (hc : Cl bs caps) (l : List AFilter) (hl : l.length ≤ 1000000)
    (hp : ∀ x ∈ l, PureB Tryz.prog g (AFilter.d x :: capD caps) bs (fun d => d = bln (p x))) :
    PureB Tryz.prog 190 [.pd (.slice (rows AFilter.pd l)), .fn g caps] bs (fun d => d = bln (l.any p)) := by
  refine pureB_of_run follows an_z86 Tryz.func190 rfl ok_z86 dst_z86 (by simp [Tryz.ntmps190]) ?_
  rw [run_start]
  simp only [ac_z86, go_sem, contS_seq, reduceIte, reduceCtorEq, Nat.reduceEqDiff, Nat.reduceAdd, Nat.reduceBEq, Nat.reduceBNe, Int.reduceLE, Int.reduceLT, Int.reduceToNat, Int.reduceEq, Nat.reduceLeDiff, Nat.reduceLT, Nat.reducePow, Nat.reduceDiv, Nat.reduceMod, rows_len]
  refine (IndexFunc_Filter p g he caps bs hc l hl hp).callW (enters_of Tryz.func219 rfl rfl) _ (idr bs) hc.ok hc.two hc.see ?_
  rintro d rfl
  simp only [go_sem, contS_seq, reduceIte, reduceCtorEq, Nat.reduceEqDiff, Nat.reduceAdd, Nat.reduceBEq, Nat.reduceBNe, Int.reduceLE, Int.reduceLT, Int.reduceToNat, Int.reduceEq, Nat.reduceLeDiff, Nat.reduceLT, Nat.reducePow, Nat.reduceDiv, Nat.reduceMod]
  simp only [retK, fullK, iterK, resD, resA, AOp.ex, St.ev, Option.map_some, Option.bind_some, St.get, lk, reduceIte, Nat.reduceEqDiff, Option.getD_some, oneD, List.getElem?_cons_zero, List.getElem?_cons_succ, List.drop_zero, List.drop_succ_cons, List.take_succ_cons, List.take_zero, List.length_cons, List.length_nil, Nat.zero_add, Nat.reduceAdd, Nat.le_refl, Nat.reduceLeDiff, D.pub, D.pubs, Tryz.results190]
  exact ⟨_, rfl, rfl, congrArg bln (lidx_any p l)⟩

theorem ContainsFunc_Backend (p : ABackend → Bool) (g : FuncId) (he : Enters Tryz.prog g) (caps : List (Nat × Nat)) (bs : List (Nat × List D)) (hc : Cl bs caps) (l : List ABackend) (hl : l.length ≤ 1000000)
    (hp : ∀ x ∈ l, PureB Tryz.prog g (ABackend.d x :: capD caps) bs (fun d => d = bln (p x))) :
    PureB Tryz.prog 191 [.pd (.slice (rows ABackend.pd l)), .fn g caps] bs (fun d => d = bln (l.any p)) := by
  refine pureB_of_run follows an_z87 Tryz.func191 rfl ok_z87 dst_z87 (by simp [Tryz.ntmps191]) ?_
  rw [run_start]
  simp only [ac_z87, go_sem, contS_seq, reduceIte, reduceCtorEq, Nat.reduceEqDiff, Nat.reduceAdd, Nat.reduceBEq, Nat.reduceBNe, Int.reduceLE, Int.reduceLT, Int.reduceToNat, Int.reduceEq, Nat.reduceLeDiff, Nat.reduceLT, Nat.reducePow, Nat.reduceDiv, Nat.reduceMod, rows_len]
  refine (IndexFunc_Backend p g he caps bs hc l hl hp).callW (enters_of Tryz.func220 rfl rfl) _ (idr bs) hc.ok hc.two hc.see ?_
  rintro d rfl
  simp only [go_sem, contS_seq, reduceIte, reduceCtorEq, Nat.reduceEqDiff, Nat.reduceAdd, Nat.reduceBEq, Nat.reduceBNe, Int.reduceLE, Int.reduceLT, Int.reduceToNat, Int.reduceEq, Nat.reduceLeDiff, Nat.reduceLT, Nat.reducePow, Nat.reduceDiv, Nat.reduceMod]
  simp only [retK, fullK, iterK, resD, resA, AOp.ex, St.ev, Option.map_some, Option.bind_some, St.get, lk, reduceIte, Nat.reduceEqDiff, Option.getD_some, oneD, List.getElem?_cons_zero, List.getElem?_cons_succ, List.drop_zero, List.drop_succ_cons, List.take_succ_cons, List.take_zero, List.length_cons, List.length_nil, Nat.zero_add, Nat.reduceAdd, Nat.le_refl, Nat.reduceLeDiff, D.pub, D.pubs, Tryz.results191]
  exact ⟨_, rfl, rfl, congrArg bln (lidx_any p l)⟩

theorem ContainsP_Need (p : ANeed → Bool) (f : FuncId) (he : Enters Tryz.prog f) (l : List ANeed) (hl : l.length ≤ 1000000) (hp : ∀ x ∈ l, Pure Tryz.prog f [ANeed.d x] (fun d => d = bln (p x))) :
    Pure Tryz.prog 168 [.pd (.slice (rows ANeed.pd l)), .fn f []] (fun d => d = bln (l.any p)) :=
  (ContainsFunc_Need p f he [] [] (Cl.of rfl rfl rfl rfl rfl) l hl (fun x hx => (hp x hx).pureB rfl)).pure

theorem ContainsP_string (p : ByteArray → Bool) (f : FuncId) (he : Enters Tryz.prog f) (l : List ByteArray) (hl : l.length ≤ 1000000) (hp : ∀ x ∈ l, Pure Tryz.prog f [str x] (fun d => d = bln (p x))) :
    Pure Tryz.prog 136 [.pd (.slice (rows cStr l)), .fn f []] (fun d => d = bln (l.any p)) :=
  (ContainsFunc_string p f he [] [] (Cl.of rfl rfl rfl rfl rfl) l hl (fun x hx => (hp x hx).pureB rfl)).pure

theorem ContainsP_Pair (p : APair → Bool) (f : FuncId) (he : Enters Tryz.prog f) (l : List APair) (hl : l.length ≤ 1000000) (hp : ∀ x ∈ l, Pure Tryz.prog f [APair.d x] (fun d => d = bln (p x))) :
    Pure Tryz.prog 182 [.pd (.slice (rows APair.pd l)), .fn f []] (fun d => d = bln (l.any p)) :=
  (ContainsFunc_Pair p f he [] [] (Cl.of rfl rfl rfl rfl rfl) l hl (fun x hx => (hp x hx).pureB rfl)).pure

theorem ContainsP_Side (p : ASide → Bool) (f : FuncId) (he : Enters Tryz.prog f) (l : List ASide) (hl : l.length ≤ 1000000) (hp : ∀ x ∈ l, Pure Tryz.prog f [ASide.d x] (fun d => d = bln (p x))) :
    Pure Tryz.prog 122 [.pd (.slice (rows ASide.pd l)), .fn f []] (fun d => d = bln (l.any p)) :=
  (ContainsFunc_Side p f he [] [] (Cl.of rfl rfl rfl rfl rfl) l hl (fun x hx => (hp x hx).pureB rfl)).pure


theorem every_int_1 (p : Int → Bool) (f : FuncId) (he : Enters Tryz.prog f) (x : Int) (hp : Pure Tryz.prog f [int x] (fun d => d = bln (p x))) :
    PureB Tryz.prog 125 [int x, .ptr 1000001 0] [(1000001, [.fn f []])] (fun d => d = bln (!p x)) := by
  refine pureB_of_run follows an_z57 Tryz.func125 rfl ok_z57 dst_z57 (by simp [Tryz.ntmps125]) ?_
  rw [run_start]
  simp only [ac_z57, go_sem, contS_seq, reduceIte, reduceCtorEq, Nat.reduceEqDiff, Nat.reduceAdd, Nat.reduceBEq, Nat.reduceBNe, Int.reduceLE, Int.reduceLT, Int.reduceToNat, Int.reduceEq, Nat.reduceLeDiff, Nat.reduceLT, Nat.reducePow, Nat.reduceDiv, Nat.reduceMod]
  refine hp.callW he _ rfl rfl ?_
  rintro d rfl
  simp only [go_sem, contS_seq, reduceIte, reduceCtorEq, Nat.reduceEqDiff, Nat.reduceAdd, Nat.reduceBEq, Nat.reduceBNe, Int.reduceLE, Int.reduceLT, Int.reduceToNat, Int.reduceEq, Nat.reduceLeDiff, Nat.reduceLT, Nat.reducePow, Nat.reduceDiv, Nat.reduceMod]
  simp only [retK, fullK, iterK, resD, resA, AOp.ex, St.ev, Option.map_some, Option.bind_some, St.get, lk, reduceIte, Nat.reduceEqDiff, Option.getD_some, oneD, List.getElem?_cons_zero, List.getElem?_cons_succ, List.drop_zero, List.drop_succ_cons, List.take_succ_cons, List.take_zero, List.length_cons, List.length_nil, Nat.zero_add, Nat.reduceAdd, Nat.le_refl, Nat.reduceLeDiff, D.pub, D.pubs, Tryz.results125]
  exact ⟨_, rfl, rfl, rfl⟩

theorem every_int (p : Int → Bool) (f : FuncId) (he : Enters Tryz.prog f) (l : List Int) (hl : l.length ≤ 1000000) (n : Int) (hp : ∀ x ∈ l, Pure Tryz.prog f [int x] (fun d => d = bln (p x))) :
    Pure Tryz.prog 72 [.pd (.slice (rows cInt l)), int n, .fn f []] (fun d => d = bln (every p l n)) := by
  refine pure_of_run follows an_z37 Tryz.func72 rfl ok_z37 dst_z37 (by simp [Tryz.ntmps72]) ?_
  rw [run_start]
  simp only [ac_z37, go_sem, contS_seq, reduceIte, reduceCtorEq, Nat.reduceEqDiff, Nat.reduceAdd, Nat.reduceBEq, Nat.reduceBNe, Int.reduceLE, Int.reduceLT, Int.reduceToNat, Int.reduceEq, Nat.reduceLeDiff, Nat.reduceLT, Nat.reducePow, Nat.reduceDiv, Nat.reduceMod, rows_len]
  refine GifP.mk (fun h => ?_) (fun h => ?_)
  · refine (ContainsFunc_int (fun x => !p x) 125 (enters_of Tryz.func125 rfl rfl) [(1000001, 0)] [(1000001, [.fn f []])] (Cl.of rfl rfl rfl rfl rfl) l hl (fun x hx => every_int_1 p f he x (hp x hx))).callW (enters_of Tryz.func124 rfl rfl) _ [(5, 1000001)] rfl rfl rfl ?_
    rintro d rfl
    simp only [go_sem, contS_seq, reduceIte, reduceCtorEq, Nat.reduceEqDiff, Nat.reduceAdd, Nat.reduceBEq, Nat.reduceBNe, Int.reduceLE, Int.reduceLT, Int.reduceToNat, Int.reduceEq, Nat.reduceLeDiff, Nat.reduceLT, Nat.reducePow, Nat.reduceDiv, Nat.reduceMod]
    simp only [retK, fullK, iterK, resD, resA, AOp.ex, St.ev, Option.map_some, Option.bind_some, St.get, lk, reduceIte, Nat.reduceEqDiff, Option.getD_some, oneD, List.getElem?_cons_zero, List.getElem?_cons_succ, List.drop_zero, List.drop_succ_cons, List.take_succ_cons, List.take_zero, List.length_cons, List.length_nil, Nat.zero_add, Nat.reduceAdd, Nat.le_refl, Nat.reduceLeDiff, D.pub, D.pubs, Tryz.results72]
    exact ⟨_, rfl, rfl, congrArg bln (by simp [every, h, List.all_eq_not_any_not])⟩
  · simp only [retK, fullK, iterK, resD, resA, AOp.ex, St.ev, Option.map_some, Option.bind_some, St.get, lk, reduceIte, Nat.reduceEqDiff, Option.getD_some, oneD, List.getElem?_cons_zero, List.getElem?_cons_succ, List.drop_zero, List.drop_succ_cons, List.take_succ_cons, List.take_zero, List.length_cons, List.length_nil, Nat.zero_add, Nat.reduceAdd, Nat.le_refl, Nat.reduceLeDiff, D.pub, D.pubs, Tryz.results72]
    exact ⟨_, rfl, rfl, congrArg bln (by simp [every, h])⟩

theorem every_Listener_1 (p : AListener → Bool) (f : FuncId) (he : Enters Tryz.prog f) (x : AListener) (hp : Pure Tryz.prog f [AListener.d x] (fun d => d = bln (p x))) :
    PureB Tryz.prog 130 [AListener.d x, .ptr 1000001 0] [(1000001, [.fn f []])] (fun d => d = bln (!p x)) := by
  refine pureB_of_run follows an_z60 Tryz.func130 rfl ok_z60 dst_z60 (by simp [Tryz.ntmps130]) ?_
  rw [run_start]
  simp only [ac_z60, go_sem, contS_seq, reduceIte, reduceCtorEq, Nat.reduceEqDiff, Nat.reduceAdd, Nat.reduceBEq, Nat.reduceBNe, Int.reduceLE, Int.reduceLT, Int.reduceToNat, Int.reduceEq, Nat.reduceLeDiff, Nat.reduceLT, Nat.reducePow, Nat.reduceDiv, Nat.reduceMod]
  refine hp.callW he _ rfl rfl ?_
  rintro d rfl
  simp only [go_sem, contS_seq, reduceIte, reduceCtorEq, Nat.reduceEqDiff, Nat.reduceAdd, Nat.reduceBEq, Nat.reduceBNe, Int.reduceLE, Int.reduceLT, Int.reduceToNat, Int.reduceEq, Nat.reduceLeDiff, Nat.reduceLT, Nat.reducePow, Nat.reduceDiv, Nat.reduceMod]
  simp only [retK, fullK, iterK, resD, resA, AOp.ex, St.ev, Option.map_some, Option.bind_some, St.get, lk, reduceIte, Nat.reduceEqDiff, Option.getD_some, oneD, List.getElem?_cons_zero, List.getElem?_cons_succ, List.drop_zero, List.drop_succ_cons, List.take_succ_cons, List.take_zero, List.length_cons, List.length_nil, Nat.zero_add, Nat.reduceAdd, Nat.le_refl, Nat.reduceLeDiff, D.pub, D.pubs, Tryz.results130]
  exact ⟨_, rfl, rfl, rfl⟩

theorem every_Listener (p : AListener → Bool) (f : FuncId) (he : Enters Tryz.prog f) (l : List AListener) (hl : l.length ≤ 1000000) (n : Int) (hp : ∀ x ∈ l, Pure Tryz.prog f [AListener.d x] (fun d => d = bln (p x))) :
    Pure Tryz.prog 79 [.pd (.slice (rows AListener.pd l)), int n, .fn f []] (fun d => d = bln (every p l n)) := by
  refine pure_of_run follows an_z40 Tryz.func79 rfl ok_z40 dst_z40 (by simp [Tryz.ntmps79]) ?_
  rw [run_start]
  simp only [ac_z40, go_sem, contS_seq, reduceIte, reduceCtorEq, Nat.reduceEqDiff, Nat.reduceAdd, Nat.reduceBEq, Nat.reduceBNe, Int.reduceLE, Int.reduceLT, Int.reduceToNat, Int.reduceEq, Nat.reduceLeDiff, Nat.reduceLT, Nat.reducePow, Nat.reduceDiv, Nat.reduceMod, rows_len]
  refine GifP.mk (fun h => ?_) (fun h => ?_)
  · refine (ContainsFunc_Listener (fun x => !p x) 130 (enters_of Tryz.func130 rfl rfl) [(1000001, 0)] [(1000001, [.fn f []])] (Cl.of rfl rfl rfl rfl rfl) l hl (fun x hx => every_Listener_1 p f he x (hp x hx))).callW (enters_of Tryz.func129 rfl rfl) _ [(5, 1000001)] rfl rfl rfl ?_
    rintro d rfl
    simp only [go_sem, contS_seq, reduceIte, reduceCtorEq, Nat.reduceEqDiff, Nat.reduceAdd, Nat.reduceBEq, Nat.reduceBNe, Int.reduceLE, Int.reduceLT, Int.reduceToNat, Int.reduceEq, Nat.reduceLeDiff, Nat.reduceLT, Nat.reducePow, Nat.reduceDiv, Nat.reduceMod]
    simp only [retK, fullK, iterK, resD, resA, AOp.ex, St.ev, Option.map_some, Option.bind_some, St.get, lk, reduceIte, Nat.reduceEqDiff, Option.getD_some, oneD, List.getElem?_cons_zero, List.getElem?_cons_succ, List.drop_zero, List.drop_succ_cons, List.take_succ_cons, List.take_zero, List.length_cons, List.length_nil, Nat.zero_add, Nat.reduceAdd, Nat.le_refl, Nat.reduceLeDiff, D.pub, D.pubs, Tryz.results79]
    exact ⟨_, rfl, rfl, congrArg bln (by simp [every, h, List.all_eq_not_any_not])⟩
  · simp only [retK, fullK, iterK, resD, resA, AOp.ex, St.ev, Option.map_some, Option.bind_some, St.get, lk, reduceIte, Nat.reduceEqDiff, Option.getD_some, oneD, List.getElem?_cons_zero, List.getElem?_cons_succ, List.drop_zero, List.drop_succ_cons, List.take_succ_cons, List.take_zero, List.length_cons, List.length_nil, Nat.zero_add, Nat.reduceAdd, Nat.le_refl, Nat.reduceLeDiff, D.pub, D.pubs, Tryz.results79]
    exact ⟨_, rfl, rfl, congrArg bln (by simp [every, h])⟩

theorem every_Parent_1 (p : AParent → Bool) (f : FuncId) (he : Enters Tryz.prog f) (x : AParent) (hp : Pure Tryz.prog f [AParent.d x] (fun d => d = bln (p x))) :
    PureB Tryz.prog 139 [AParent.d x, .ptr 1000001 0] [(1000001, [.fn f []])] (fun d => d = bln (!p x)) := by
  refine pureB_of_run follows an_z66 Tryz.func139 rfl ok_z66 dst_z66 (by simp [Tryz.ntmps139]) ?_
  rw [run_start]
  simp only [ac_z66, go_sem, contS_seq, reduceIte, reduceCtorEq, Nat.reduceEqDiff, Nat.reduceAdd, Nat.reduceBEq, Nat.reduceBNe, Int.reduceLE, Int.reduceLT, Int.reduceToNat, Int.reduceEq, Nat.reduceLeDiff, Nat.reduceLT, Nat.reducePow, Nat.reduceDiv, Nat.reduceMod]
  refine hp.callW he _ rfl rfl ?_
  rintro d rfl
  simp only [go_sem, contS_seq, reduceIte, reduceCtorEq, Nat.reduceEqDiff, Nat.reduceAdd, Nat.reduceBEq, Nat.reduceBNe, Int.reduceLE, Int.reduceLT, Int.reduceToNat, Int.reduceEq, Nat.reduceLeDiff, Nat.reduceLT, Nat.reducePow, Nat.reduceDiv, Nat.reduceMod]
  simp only [retK, fullK, iterK, resD, resA, AOp.ex, St.ev, Option.map_some, Option.bind_some, St.get, lk, reduceIte, Nat.reduceEqDiff, Option.getD_some, oneD, List.getElem?_cons_zero, List.getElem?_cons_succ, List.drop_zero, List.drop_succ_cons, List.take_succ_cons, List.take_zero, List.length_cons, List.length_nil, Nat.zero_add, Nat.reduceAdd, Nat.le_refl, Nat.reduceLeDiff, D.pub, D.pubs, Tryz.results139]
  exact ⟨_, rfl, rfl, rfl⟩

theorem every_Parent (p : AParent → Bool) (f : FuncId) (he : Enters Tryz.prog f) (l : List AParent) (hl : l.length ≤ 1000000) (n : Int) (hp : ∀ x ∈ l, Pure Tryz.prog f [AParent.d x] (fun d => d = bln (p x))) :
    Pure Tryz.prog 88 [.pd (.slice (rows AParent.pd l)), int n, .fn f []] (fun d => d = bln (every p l n)) := by
  refine pure_of_run follows an_z44 Tryz.func88 rfl ok_z44 dst_z44 (by simp [Tryz.ntmps88]) ?_
  rw [run_start]
  simp only [ac_z44, go_sem, contS_seq, reduceIte, reduceCtorEq, Nat.reduceEqDiff, Nat.reduceAdd, Nat.reduceBEq, Nat.reduceBNe, Int.reduceLE, Int.reduceLT, Int.reduceToNat, Int.reduceEq, Nat.reduceLeDiff, Nat.reduceLT, Nat.reducePow, Nat.reduceDiv, Nat.reduceMod, rows_len]
  refine GifP.mk (fun h => ?_) (fun h => ?_)
  · refine (ContainsFunc_Parent (fun x => !p x) 139 (enters_of Tryz.func139 rfl rfl) [(1000001, 0)] [(1000001, [.fn f []])] (Cl.of rfl rfl rfl rfl rfl) l hl (fun x hx => every_Parent_1 p f he x (hp x hx))).callW (enters_of Tryz.func134 rfl rfl) _ [(5, 1000001)] rfl rfl rfl ?_
    rintro d rfl
    simp only [go_sem, contS_seq, reduceIte, reduceCtorEq, Nat.reduceEqDiff, Nat.reduceAdd, Nat.reduceBEq, Nat.reduceBNe, Int.reduceLE, Int.reduceLT, Int.reduceToNat, Int.reduceEq, Nat.reduceLeDiff, Nat.reduceLT, Nat.reducePow, Nat.reduceDiv, Nat.reduceMod]
    simp only [retK, fullK, iterK, resD, resA, AOp.ex, St.ev, Option.map_some, Option.bind_some, St.get, lk, reduceIte, Nat.reduceEqDiff, Option.getD_some, oneD, List.getElem?_cons_zero, List.getElem?_cons_succ, List.drop_zero, List.drop_succ_cons, List.take_succ_cons, List.take_zero, List.length_cons, List.length_nil, Nat.zero_add, Nat.reduceAdd, Nat.le_refl, Nat.reduceLeDiff, D.pub, D.pubs, Tryz.results88]
    exact ⟨_, rfl, rfl, congrArg bln (by simp [every, h, List.all_eq_not_any_not])⟩
  · simp only [retK, fullK, iterK, resD, resA, AOp.ex, St.ev, Option.map_some, Option.bind_some, St.get, lk, reduceIte, Nat.reduceEqDiff, Option.getD_some, oneD, List.getElem?_cons_zero, List.getElem?_cons_succ, List.drop_zero, List.drop_succ_cons, List.take_succ_cons, List.take_zero, List.length_cons, List.length_nil, Nat.zero_add, Nat.reduceAdd, Nat.le_refl, Nat.reduceLeDiff, D.pub, D.pubs, Tryz.results88]
    exact ⟨_, rfl, rfl, congrArg bln (by simp [every, h])⟩

theorem every_string_1 (p : ByteArray → Bool) (f : FuncId) (he : Enters Tryz.prog f) (x : ByteArray) (hp : Pure Tryz.prog f [str x] (fun d => d = bln (p x))) :
    PureB Tryz.prog 140 [str x, .ptr 1000001 0] [(1000001, [.fn f []])] (fun d => d = bln (!p x)) := by
  refine pureB_of_run follows an_z67 Tryz.func140 rfl ok_z67 dst_z67 (by simp [Tryz.ntmps140]) ?_
  rw [run_start]
  simp only [ac_z67, go_sem, contS_seq, reduceIte, reduceCtorEq, Nat.reduceEqDiff, Nat.reduceAdd, Nat.reduceBEq, Nat.reduceBNe, Int.reduceLE, Int.reduceLT, Int.reduceToNat, Int.reduceEq, Nat.reduceLeDiff, Nat.reduceLT, Nat.reducePow, Nat.reduceDiv, Nat.reduceMod]
  refine hp.callW he _ rfl rfl ?_
  rintro d rfl
  simp only [go_sem, contS_seq, reduceIte, reduceCtorEq, Nat.reduceEqDiff, Nat.reduceAdd, Nat.reduceBEq, Nat.reduceBNe, Int.reduceLE, Int.reduceLT, Int.reduceToNat, Int.reduceEq, Nat.reduceLeDiff, Nat.reduceLT, Nat.reducePow, Nat.reduceDiv, Nat.reduceMod]
  simp only [retK, fullK, iterK, resD, resA, AOp.ex, St.ev, Option.map_some, Option.bind_some, St.get, lk, reduceIte, Nat.reduceEqDiff, Option.getD_some, oneD, List.getElem?_cons_zero, List.getElem?_cons_succ, List.drop_zero, List.drop_succ_cons, List.take_succ_cons, List.take_zero, List.length_cons, List.length_nil, Nat.zero_add, Nat.reduceAdd, Nat.le_refl, Nat.reduceLeDiff, D.pub, D.pubs, Tryz.results140]
  exact ⟨_, rfl, rfl, rfl⟩

theorem every_string (p : ByteArray → Bool) (f : FuncId) (he : Enters Tryz.prog f) (l : List ByteArray) (hl : l.length ≤ 1000000) (n : Int) (hp : ∀ x ∈ l, Pure Tryz.prog f [str x] (fun d => d = bln (p x))) :
    Pure Tryz.prog 90 [.pd (.slice (rows cStr l)), int n, .fn f []] (fun d => d = bln (every p l n)) := by
  refine pure_of_run follows an_z45 Tryz.func90 rfl ok_z45 dst_z45 (by simp [Tryz.ntmps90]) ?_
  rw [run_start]
  simp only [ac_z45, go_sem, contS_seq, reduceIte, reduceCtorEq, Nat.reduceEqDiff, Nat.reduceAdd, Nat.reduceBEq, Nat.reduceBNe, Int.reduceLE, Int.reduceLT, Int.reduceToNat, Int.reduceEq, Nat.reduceLeDiff, Nat.reduceLT, Nat.reducePow, Nat.reduceDiv, Nat.reduceMod, rows_len]
  refine GifP.mk (fun h => ?_) (fun h => ?_)
  · refine (ContainsFunc_string (fun x => !p x) 140 (enters_of Tryz.func140 rfl rfl) [(1000001, 0)] [(1000001, [.fn f []])] (Cl.of rfl rfl rfl rfl rfl) l hl (fun x hx => every_string_1 p f he x (hp x hx))).callW (enters_of Tryz.func136 rfl rfl) _ [(5, 1000001)] rfl rfl rfl ?_
    rintro d rfl
    simp only [go_sem, contS_seq, reduceIte, reduceCtorEq, Nat.reduceEqDiff, Nat.reduceAdd, Nat.reduceBEq, Nat.reduceBNe, Int.reduceLE, Int.reduceLT, Int.reduceToNat, Int.reduceEq, Nat.reduceLeDiff, Nat.reduceLT, Nat.reducePow, Nat.reduceDiv, Nat.reduceMod]
    simp only [retK, fullK, iterK, resD, resA, AOp.ex, St.ev, Option.map_some, Option.bind_some, St.get, lk, reduceIte, Nat.reduceEqDiff, Option.getD_some, oneD, List.getElem?_cons_zero, List.getElem?_cons_succ, List.drop_zero, List.drop_succ_cons, List.take_succ_cons, List.take_zero, List.length_cons, List.length_nil, Nat.zero_add, Nat.reduceAdd, Nat.le_refl, Nat.reduceLeDiff, D.pub, D.pubs, Tryz.results90]
    exact ⟨_, rfl, rfl, congrArg bln (by simp [every, h, List.all_eq_not_any_not])⟩
  · simp only [retK, fullK, iterK, resD, resA, AOp.ex, St.ev, Option.map_some, Option.bind_some, St.get, lk, reduceIte, Nat.reduceEqDiff, Option.getD_some, oneD, List.getElem?_cons_zero, List.getElem?_cons_succ, List.drop_zero, List.drop_succ_cons, List.take_succ_cons, List.take_zero, List.length_cons, List.length_nil, Nat.zero_add, Nat.reduceAdd, Nat.le_refl, Nat.reduceLeDiff, D.pub, D.pubs, Tryz.results90]
    exact ⟨_, rfl, rfl, congrArg bln (by simp [every, h])⟩

theorem every_Rule_1 (p : ARule → Bool) (f : FuncId) (he : Enters Tryz.prog f) (x : ARule) (hp : Pure Tryz.prog f [ARule.d x] (fun d => d = bln (p x))) :
    PureB Tryz.prog 142 [ARule.d x, .ptr 1000001 0] [(1000001, [.fn f []])] (fun d => d = bln (!p x)) := by
  refine pureB_of_run follows an_z69 Tryz.func142 rfl ok_z69 dst_z69 (by simp [Tryz.ntmps142]) ?_
  rw [run_start]
  simp only [ac_z69, go_sem, contS_seq, reduceIte, reduceCtorEq, Nat.reduceEqDiff, Nat.reduceAdd, Nat.reduceBEq, Nat.reduceBNe, Int.reduceLE, Int.reduceLT, Int.reduceToNat, Int.reduceEq, Nat.reduceLeDiff, Nat.reduceLT, Nat.reducePow, Nat.reduceDiv, Nat.reduceMod]
  refine hp.callW he _ rfl rfl ?_
  rintro d rfl
  simp only [go_sem, contS_seq, reduceIte, reduceCtorEq, Nat.reduceEqDiff, Nat.reduceAdd, Nat.reduceBEq, Nat.reduceBNe, Int.reduceLE, Int.reduceLT, Int.reduceToNat, Int.reduceEq, Nat.reduceLeDiff, Nat.reduceLT, Nat.reducePow, Nat.reduceDiv, Nat.reduceMod]
  simp only [retK, fullK, iterK, resD, resA, AOp.ex, St.ev, Option.map_some, Option.bind_some, St.get, lk, reduceIte, Nat.reduceEqDiff, Option.getD_some, oneD, List.getElem?_cons_zero, List.getElem?_cons_succ, List.drop_zero, List.drop_succ_cons, List.take_succ_cons, List.take_zero, List.length_cons, List.length_nil, Nat.zero_add, Nat.reduceAdd, Nat.le_refl, Nat.reduceLeDiff, D.pub, D.pubs, Tryz.results142]
  exact ⟨_, rfl, rfl, rfl⟩

theorem every_Rule (p : ARule → Bool) (f : FuncId) (he : Enters Tryz.prog f) (l : List ARule) (hl : l.length ≤ 1000000) (n : Int) (hp : ∀ x ∈ l, Pure Tryz.prog f [ARule.d x] (fun d => d = bln (p x))) :
    Pure Tryz.prog 91 [.pd (.slice (rows ARule.pd l)), int n, .fn f []] (fun d => d = bln (every p l n)) := by
  refine pure_of_run follows an_z46 Tryz.func91 rfl ok_z46 dst_z46 (by simp [Tryz.ntmps91]) ?_
  rw [run_start]
  simp only [ac_z46, go_sem, contS_seq, reduceIte, reduceCtorEq, Nat.reduceEqDiff, Nat.reduceAdd, Nat.reduceBEq, Nat.reduceBNe, Int.reduceLE, Int.reduceLT, Int.reduceToNat, Int.reduceEq, Nat.reduceLeDiff, Nat.reduceLT, Nat.reducePow, Nat.reduceDiv, Nat.reduceMod, rows_len]
  refine GifP.mk (fun h => ?_) (fun h => ?_)
  · refine (ContainsFunc_Rule (fun x => !p x) 142 (enters_of Tryz.func142 rfl rfl) [(1000001, 0)] [(1000001, [.fn f []])] (Cl.of rfl rfl rfl rfl rfl) l hl (fun x hx => every_Rule_1 p f he x (hp x hx))).callW (enters_of Tryz.func141 rfl rfl) _ [(5, 1000001)] rfl rfl rfl ?_
    rintro d rfl
    simp only [go_sem, contS_seq, reduceIte, reduceCtorEq, Nat.reduceEqDiff, Nat.reduceAdd, Nat.reduceBEq, Nat.reduceBNe, Int.reduceLE, Int.reduceLT, Int.reduceToNat, Int.reduceEq, Nat.reduceLeDiff, Nat.reduceLT, Nat.reducePow, Nat.reduceDiv, Nat.reduceMod]
    simp only [retK, fullK, iterK, resD, resA, AOp.ex, St.ev, Option.map_some, Option.bind_some, St.get, lk, reduceIte, Nat.reduceEqDiff, Option.getD_some, oneD, List.getElem?_cons_zero, List.getElem?_cons_succ, List.drop_zero, List.drop_succ_cons, List.take_succ_cons, List.take_zero, List.length_cons, List.length_nil, Nat.zero_add, Nat.reduceAdd, Nat.le_refl, Nat.reduceLeDiff, D.pub, D.pubs, Tryz.results91]
    exact ⟨_, rfl, rfl, congrArg bln (by simp [every, h, List.all_eq_not_any_not])⟩
  · simp only [retK, fullK, iterK, resD, resA, AOp.ex, St.ev, Option.map_some, Option.bind_some, St.get, lk, reduceIte, Nat.reduceEqDiff, Option.getD_some, oneD, List.getElem?_cons_zero, List.getElem?_cons_succ, List.drop_zero, List.drop_succ_cons, List.take_succ_cons, List.take_zero, List.length_cons, List.length_nil, Nat.zero_add, Nat.reduceAdd, Nat.le_refl, Nat.reduceLeDiff, D.pub, D.pubs, Tryz.results91]
    exact ⟨_, rfl, rfl, congrArg bln (by simp [every, h])⟩

theorem every_Side_1 (p : ASide → Bool) (f : FuncId) (he : Enters Tryz.prog f) (x : ASide) (hp : Pure Tryz.prog f [ASide.d x] (fun d => d = bln (p x))) :
    PureB Tryz.prog 151 [ASide.d x, .ptr 1000001 0] [(1000001, [.fn f []])] (fun d => d = bln (!p x)) := by
  refine pureB_of_run follows an_z72 Tryz.func151 rfl ok_z72 dst_z72 (by simp [Tryz.ntmps151]) ?_
  rw [run_start]
  simp only [ac_z72, go_sem, contS_seq, reduceIte, reduceCtorEq, Nat.reduceEqDiff, Nat.reduceAdd, Nat.reduceBEq, Nat.reduceBNe, Int.reduceLE, Int.reduceLT, Int.reduceToNat, Int.reduceEq, Nat.reduceLeDiff, Nat.reduceLT, Nat.reducePow, Nat.reduceDiv, Nat.reduceMod]
  refine hp.callW he _ rfl rfl ?_
  rintro d rfl
  simp only [go_sem, contS_seq, reduceIte, reduceCtorEq, Nat.reduceEqDiff, Nat.reduceAdd, Nat.reduceBEq, Nat.reduceBNe, Int.reduceLE, Int.reduceLT, Int.reduceToNat, Int.reduceEq, Nat.reduceLeDiff, Nat.reduceLT, Nat.reducePow, Nat.reduceDiv, Nat.reduceMod]
  simp only [retK, fullK, iterK, resD, resA, AOp.ex, St.ev, Option.map_some, Option.bind_some, St.get, lk, reduceIte, Nat.reduceEqDiff, Option.getD_some, oneD, List.getElem?_cons_zero, List.getElem?_cons_succ, List.drop_zero, List.drop_succ_cons, List.take_succ_cons, List.take_zero, List.length_cons, List.length_nil, Nat.zero_add, Nat.reduceAdd, Nat.le_refl, Nat.reduceLeDiff, D.pub, D.pubs, Tryz.results151]
  exact ⟨_, rfl, rfl, rfl⟩

theorem every_Side (p : ASide → Bool) (f : FuncId) (he : Enters Tryz.prog f) (l : List ASide) (hl : l.length ≤ 1000000) (n : Int) (hp : ∀ x ∈ l, Pure Tryz.prog f [ASide.d x] (fun d => d = bln (p x))) :
    Pure Tryz.prog 97 [.pd (.slice (rows ASide.pd l)), int n, .fn f []] (fun d => d = bln (every p l n)) := by
  refine pure_of_run follows an_z47 Tryz.func97 rfl ok_z47 dst_z47 (by simp [Tryz.ntmps97]) ?_
  rw [run_start]
  simp only [ac_z47, go_sem, contS_seq, reduceIte, reduceCtorEq, Nat.reduceEqDiff, Nat.reduceAdd, Nat.reduceBEq, Nat.reduceBNe, Int.reduceLE, Int.reduceLT, Int.reduceToNat, Int.reduceEq, Nat.reduceLeDiff, Nat.reduceLT, Nat.reducePow, Nat.reduceDiv, Nat.reduceMod, rows_len]
  refine GifP.mk (fun h => ?_) (fun h => ?_)
  · refine (ContainsFunc_Side (fun x => !p x) 151 (enters_of Tryz.func151 rfl rfl) [(1000001, 0)] [(1000001, [.fn f []])] (Cl.of rfl rfl rfl rfl rfl) l hl (fun x hx => every_Side_1 p f he x (hp x hx))).callW (enters_of Tryz.func122 rfl rfl) _ [(5, 1000001)] rfl rfl rfl ?_
    rintro d rfl
    simp only [go_sem, contS_seq, reduceIte, reduceCtorEq, Nat.reduceEqDiff, Nat.reduceAdd, Nat.reduceBEq, Nat.reduceBNe, Int.reduceLE, Int.reduceLT, Int.reduceToNat, Int.reduceEq, Nat.reduceLeDiff, Nat.reduceLT, Nat.reducePow, Nat.reduceDiv, Nat.reduceMod]
    simp only [retK, fullK, iterK, resD, resA, AOp.ex, St.ev, Option.map_some, Option.bind_some, St.get, lk, reduceIte, Nat.reduceEqDiff, Option.getD_some, oneD, List.getElem?_cons_zero, List.getElem?_cons_succ, List.drop_zero, List.drop_succ_cons, List.take_succ_cons, List.take_zero, List.length_cons, List.length_nil, Nat.zero_add, Nat.reduceAdd, Nat.le_refl, Nat.reduceLeDiff, D.pub, D.pubs, Tryz.results97]
    exact ⟨_, rfl, rfl, congrArg bln (by simp [every, h, List.all_eq_not_any_not])⟩
  · simp only [retK, fullK, iterK, resD, resA, AOp.ex, St.ev, Option.map_some, Option.bind_some, St.get, lk, reduceIte, Nat.reduceEqDiff, Option.getD_some, oneD, List.getElem?_cons_zero, List.getElem?_cons_succ, List.drop_zero, List.drop_succ_cons, List.take_succ_cons, List.take_zero, List.length_cons, List.length_nil, Nat.zero_add, Nat.reduceAdd, Nat.le_refl, Nat.reduceLeDiff, D.pub, D.pubs, Tryz.results97]
    exact ⟨_, rfl, rfl, congrArg bln (by simp [every, h])⟩

theorem every_Match_1 (p : AMatch → Bool) (f : FuncId) (he : Enters Tryz.prog f) (x : AMatch) (hp : Pure Tryz.prog f [AMatch.d x] (fun d => d = bln (p x))) :
    PureB Tryz.prog 176 [AMatch.d x, .ptr 1000001 0] [(1000001, [.fn f []])] (fun d => d = bln (!p x)) := by
  refine pureB_of_run follows an_z84 Tryz.func176 rfl ok_z84 dst_z84 (by simp [Tryz.ntmps176]) ?_
  rw [run_start]
  simp only [ac_z84, go_sem, contS_seq, reduceIte, reduceCtorEq, Nat.reduceEqDiff, Nat.reduceAdd, Nat.reduceBEq, Nat.reduceBNe, Int.reduceLE, Int.reduceLT, Int.reduceToNat, Int.reduceEq, Nat.reduceLeDiff, Nat.reduceLT, Nat.reducePow, Nat.reduceDiv, Nat.reduceMod]
  refine hp.callW he _ rfl rfl ?_
  rintro d rfl
  simp only [go_sem, contS_seq, reduceIte, reduceCtorEq, Nat.reduceEqDiff, Nat.reduceAdd, Nat.reduceBEq, Nat.reduceBNe, Int.reduceLE, Int.reduceLT, Int.reduceToNat, Int.reduceEq, Nat.reduceLeDiff, Nat.reduceLT, Nat.reducePow, Nat.reduceDiv, Nat.reduceMod]
  simp only [retK, fullK, iterK, resD, resA, AOp.ex, St.ev, Option.map_some, Option.bind_some, St.get, lk, reduceIte, Nat.reduceEqDiff, Option.getD_some, oneD, List.getElem?_cons_zero, List.getElem?_cons_succ, List.drop_zero, List.drop_succ_cons, List.take_succ_cons, List.take_zero, List.length_cons, List.length_nil, Nat.zero_add, Nat.reduceAdd, Nat.le_refl, Nat.reduceLeDiff, D.pub, D.pubs, Tryz.results176]
  exact ⟨_, rfl, rfl, rfl⟩

theorem every_Match (p : AMatch → Bool) (f : FuncId) (he : Enters Tryz.prog f) (l : List AMatch) (hl : l.length ≤ 1000000) (n : Int) (hp : ∀ x ∈ l, Pure Tryz.prog f [AMatch.d x] (fun d => d = bln (p x))) :
    Pure Tryz.prog 143 [.pd (.slice (rows AMatch.pd l)), int n, .fn f []] (fun d => d = bln (every p l n)) := by
  refine pure_of_run follows an_z70 Tryz.func143 rfl ok_z70 dst_z70 (by simp [Tryz.ntmps143]) ?_
  rw [run_start]
  simp only [ac_z70, go_sem, contS_seq, reduceIte, reduceCtorEq, Nat.reduceEqDiff, Nat.reduceAdd, Nat.reduceBEq, Nat.reduceBNe, Int.reduceLE, Int.reduceLT, Int.reduceToNat, Int.reduceEq, Nat.reduceLeDiff, Nat.reduceLT, Nat.reducePow, Nat.reduceDiv, Nat.reduceMod, rows_len]
  refine GifP.mk (fun h => ?_) (fun h => ?_)
  · refine (ContainsFunc_Match (fun x => !p x) 176 (enters_of Tryz.func176 rfl rfl) [(1000001, 0)] [(1000001, [.fn f []])] (Cl.of rfl rfl rfl rfl rfl) l hl (fun x hx => every_Match_1 p f he x (hp x hx))).callW (enters_of Tryz.func175 rfl rfl) _ [(5, 1000001)] rfl rfl rfl ?_
    rintro d rfl
    simp only [go_sem, contS_seq, reduceIte, reduceCtorEq, Nat.reduceEqDiff, Nat.reduceAdd, Nat.reduceBEq, Nat.reduceBNe, Int.reduceLE, Int.reduceLT, Int.reduceToNat, Int.reduceEq, Nat.reduceLeDiff, Nat.reduceLT, Nat.reducePow, Nat.reduceDiv, Nat.reduceMod]
    simp only [retK, fullK, iterK, resD, resA, AOp.ex, St.ev, Option.map_some, Option.bind_some, St.get, lk, reduceIte, Nat.reduceEqDiff, Option.getD_some, oneD, List.getElem?_cons_zero, List.getElem?_cons_succ, List.drop_zero, List.drop_succ_cons, List.take_succ_cons, List.take_zero, List.length_cons, List.length_nil, Nat.zero_add, Nat.reduceAdd, Nat.le_refl, Nat.reduceLeDiff, D.pub, D.pubs, Tryz.results143]
    exact ⟨_, rfl, rfl, congrArg bln (by simp [every, h, List.all_eq_not_any_not])⟩
  · simp only [retK, fullK, iterK, resD, resA, AOp.ex, St.ev, Option.map_some, Option.bind_some, St.get, lk, reduceIte, Nat.reduceEqDiff, Option.getD_some, oneD, List.getElem?_cons_zero, List.getElem?_cons_succ, List.drop_zero, List.drop_succ_cons, List.take_succ_cons, List.take_zero, List.length_cons, List.length_nil, Nat.zero_add, Nat.reduceAdd, Nat.le_refl, Nat.reduceLeDiff, D.pub, D.pubs, Tryz.results143]
    exact ⟨_, rfl, rfl, congrArg bln (by simp [every, h])⟩

theorem every_Backend_1 (p : ABackend → Bool) (f : FuncId) (he : Enters Tryz.prog f) (x : ABackend) (hp : Pure Tryz.prog f [ABackend.d x] (fun d => d = bln (p x))) :
    PureB Tryz.prog 192 [ABackend.d x, .ptr 1000001 0] [(1000001, [.fn f []])] (fun d => d = bln (!p x)) := by
  refine pureB_of_run follows an_z88 Tryz.func192 rfl ok_z88 dst_z88 (by simp [Tryz.ntmps192]) ?_
  rw [run_start]
  simp only [ac_z88, go_sem, contS_seq, reduceIte, reduceCtorEq, Nat.reduceEqDiff, Nat.reduceAdd, Nat.reduceBEq, Nat.reduceBNe, Int.reduceLE, Int.reduceLT, Int.reduceToNat, Int.reduceEq, Nat.reduceLeDiff, Nat.reduceLT, Nat.reducePow, Nat.reduceDiv, Nat.reduceMod]
  refine hp.callW he _ rfl rfl ?_
  rintro d rfl
  simp only [go_sem, contS_seq, reduceIte, reduceCtorEq, Nat.reduceEqDiff, Nat.reduceAdd, Nat.reduceBEq, Nat.reduceBNe, Int.reduceLE, Int.reduceLT, Int.reduceToNat, Int.reduceEq, Nat.reduceLeDiff, Nat.reduceLT, Nat.reducePow, Nat.reduceDiv, Nat.reduceMod]
  simp only [retK, fullK, iterK, resD, resA, AOp.ex, St.ev, Option.map_some, Option.bind_some, St.get, lk, reduceIte, Nat.reduceEqDiff, Option.getD_some, oneD, List.getElem?_cons_zero, List.getElem?_cons_succ, List.drop_zero, List.drop_succ_cons, List.take_succ_cons, List.take_zero, List.length_cons, List.length_nil, Nat.zero_add, Nat.reduceAdd, Nat.le_refl, Nat.reduceLeDiff, D.pub, D.pubs, Tryz.results192]
  exact ⟨_, rfl, rfl, rfl⟩

theorem every_Backend (p : ABackend → Bool) (f : FuncId) (he : Enters Tryz.prog f) (l : List ABackend) (hl : l.length ≤ 1000000) (n : Int) (hp : ∀ x ∈ l, Pure Tryz.prog f [ABackend.d x] (fun d => d = bln (p x))) :
    Pure Tryz.prog 146 [.pd (.slice (rows ABackend.pd l)), int n, .fn f []] (fun d => d = bln (every p l n)) := by
  refine pure_of_run follows an_z71 Tryz.func146 rfl ok_z71 dst_z71 (by simp [Tryz.ntmps146]) ?_
  rw [run_start]
  simp only [ac_z71, go_sem, contS_seq, reduceIte, reduceCtorEq, Nat.reduceEqDiff, Nat.reduceAdd, Nat.reduceBEq, Nat.reduceBNe, Int.reduceLE, Int.reduceLT, Int.reduceToNat, Int.reduceEq, Nat.reduceLeDiff, Nat.reduceLT, Nat.reducePow, Nat.reduceDiv, Nat.reduceMod, rows_len]
  refine GifP.mk (fun h => ?_) (fun h => ?_)
  · refine (ContainsFunc_Backend (fun x => !p x) 192 (enters_of Tryz.func192 rfl rfl) [(1000001, 0)] [(1000001, [.fn f []])] (Cl.of rfl rfl rfl rfl rfl) l hl (fun x hx => every_Backend_1 p f he x (hp x hx))).callW (enters_of Tryz.func191 rfl rfl) _ [(5, 1000001)] rfl rfl rfl ?_
    rintro d rfl
    simp only [go_sem, contS_seq, reduceIte, reduceCtorEq, Nat.reduceEqDiff, Nat.reduceAdd, Nat.reduceBEq, Nat.reduceBNe, Int.reduceLE, Int.reduceLT, Int.reduceToNat, Int.reduceEq, Nat.reduceLeDiff, Nat.reduceLT, Nat.reducePow, Nat.reduceDiv, Nat.reduceMod]
    simp only [retK, fullK, iterK, resD, resA, AOp.ex, St.ev, Option.map_some, Option.bind_some, St.get, lk, reduceIte, Nat.reduceEqDiff, Option.getD_some, oneD, List.getElem?_cons_zero, List.getElem?_cons_succ, List.drop_zero, List.drop_succ_cons, List.take_succ_cons, List.take_zero, List.length_cons, List.length_nil, Nat.zero_add, Nat.reduceAdd, Nat.le_refl, Nat.reduceLeDiff, D.pub, D.pubs, Tryz.results146]
    exact ⟨_, rfl, rfl, congrArg bln (by simp [every, h, List.all_eq_not_any_not])⟩
  · simp only [retK, fullK, iterK, resD, resA, AOp.ex, St.ev, Option.map_some, Option.bind_some, St.get, lk, reduceIte, Nat.reduceEqDiff, Option.getD_some, oneD, List.getElem?_cons_zero, List.getElem?_cons_succ, List.drop_zero, List.drop_succ_cons, List.take_succ_cons, List.take_zero, List.length_cons, List.length_nil, Nat.zero_add, Nat.reduceAdd, Nat.le_refl, Nat.reduceLeDiff, D.pub, D.pubs, Tryz.results146]
    exact ⟨_, rfl, rfl, congrArg bln (by simp [every, h])⟩

theorem twice_int_1 (q : Int → Int → Bool) (f : FuncId) (he : Enters Tryz.prog f) (x y : Int) (hp : Pure Tryz.prog f [int x, int y] (fun d => d = bln (q x y))) :
    PureB Tryz.prog 127 [int y, .ptr 1000001 0, .ptr 1000002 0] [(1000001, [.fn f []]), (1000002, [int x])] (fun d => d = bln (q x y)) := by
  refine pureB_of_run follows an_z58 Tryz.func127 rfl ok_z58 dst_z58 (by simp [Tryz.ntmps127]) ?_
  rw [run_start]
  simp only [ac_z58, go_sem, contS_seq, reduceIte, reduceCtorEq, Nat.reduceEqDiff, Nat.reduceAdd, Nat.reduceBEq, Nat.reduceBNe, Int.reduceLE, Int.reduceLT, Int.reduceToNat, Int.reduceEq, Nat.reduceLeDiff, Nat.reduceLT, Nat.reducePow, Nat.reduceDiv, Nat.reduceMod]
  refine hp.callW he _ rfl rfl ?_
  rintro d rfl
  simp only [go_sem, contS_seq, reduceIte, reduceCtorEq, Nat.reduceEqDiff, Nat.reduceAdd, Nat.reduceBEq, Nat.reduceBNe, Int.reduceLE, Int.reduceLT, Int.reduceToNat, Int.reduceEq, Nat.reduceLeDiff, Nat.reduceLT, Nat.reducePow, Nat.reduceDiv, Nat.reduceMod]
  simp only [retK, fullK, iterK, resD, resA, AOp.ex, St.ev, Option.map_some, Option.bind_some, St.get, lk, reduceIte, Nat.reduceEqDiff, Option.getD_some, oneD, List.getElem?_cons_zero, List.getElem?_cons_succ, List.drop_zero, List.drop_succ_cons, List.take_succ_cons, List.take_zero, List.length_cons, List.length_nil, Nat.zero_add, Nat.reduceAdd, Nat.le_refl, Nat.reduceLeDiff, D.pub, D.pubs, Tryz.results127]
  exact ⟨_, rfl, rfl, rfl⟩

theorem twice_int (q : Int → Int → Bool) (f : FuncId) (he : Enters Tryz.prog f) (l : List Int) (hl : l.length ≤ 1000000) (hp : ∀ x ∈ l, ∀ y ∈ l, Pure Tryz.prog f [int x, int y] (fun d => d = bln (q x y))) :
    Pure Tryz.prog 75 [.pd (.slice (rows cInt l)), .fn f []] (fun d => d = bln (twice q l)) := by
  refine pure_of_run follows an_z39 Tryz.func75 rfl ok_z39 dst_z39 (by simp [Tryz.ntmps75]) ?_
  rw [run_start]
  simp only [ac_z39, go_sem, contS_seq, reduceIte, reduceCtorEq, Nat.reduceEqDiff, Nat.reduceAdd, Nat.reduceBEq, Nat.reduceBNe, Int.reduceLE, Int.reduceLT, Int.reduceToNat, Int.reduceEq, Nat.reduceLeDiff, Nat.reduceLT, Nat.reducePow, Nat.reduceDiv, Nat.reduceMod, rows_len]
  refine loopS (fun k st => ∃ i : Nat, k = l.length - i ∧ i ≤ l.length ∧ twiceFrom q l k i = twice q l ∧
    st = ⟨[(0, .pd (.slice (rows cInt l))), (3, .ptr 3 0), (7, .pd (.slice (rows cInt l))), (8, int l.length), (9, int i)], [(3, [.fn f []])], [], .no⟩) l.length _ (Weak.refl _ _) ⟨0, rfl, Nat.zero_le _, rfl, rfl⟩ ?_
  rintro k st ⟨i, rfl, hi, hr, rfl⟩
  by_cases hlt : i < l.length
  · obtain ⟨x, hx⟩ := at_lt hlt
    have hlt' : ((i : Int) < (l.length : Int)) = True := eq_true (by omega)
    have hle : (i ≤ l.length) = True := eq_true (by omega)
    have hw := i64_succ (show i < 1000000000 by omega)
    have hmx := List.mem_of_getElem? hx
    obtain ⟨m, hm⟩ : ∃ m, l.length - i = m + 1 := ⟨l.length - i - 1, by omega⟩
    rw [hm, twiceFrom, hx] at hr
    have hrows : rowsOK 1 (rows cInt l) = True := rowsOK_rows (f := cInt) (n := 1) (fun _ => rfl) l
    have htk : (rows cInt l).take i = rows cInt (l.take i) := by simp [rows, List.map_take]
    simp only [go_sem, contS_seq, reduceIte, reduceCtorEq, Nat.reduceEqDiff, Nat.reduceAdd, Nat.reduceBEq, Nat.reduceBNe, Int.reduceLE, Int.reduceLT, Int.reduceToNat, Int.reduceEq, Nat.reduceLeDiff, Nat.reduceLT, Nat.reducePow, Nat.reduceDiv, Nat.reduceMod, hlt', rows_get hx, rows_len, hrows, hle, htk]
    refine (ContainsFunc_int (fun y => q x y) 127 (enters_of Tryz.func127 rfl rfl) [(1000001, 0), (1000002, 0)] [(1000001, [.fn f []]), (1000002, [int x])] (Cl.of rfl rfl rfl rfl rfl) (l.take i) (by simp; omega)
      (fun y hy => twice_int_1 q f he x y (hp x hmx y (List.mem_of_mem_take hy)))).callW (enters_of Tryz.func124 rfl rfl) _ [(3, 1000001), (6, 1000002)] rfl rfl rfl ?_
    rintro d rfl
    simp only [go_sem, contS_seq, reduceIte, reduceCtorEq, Nat.reduceEqDiff, Nat.reduceAdd, Nat.reduceBEq, Nat.reduceBNe, Int.reduceLE, Int.reduceLT, Int.reduceToNat, Int.reduceEq, Nat.reduceLeDiff, Nat.reduceLT, Nat.reducePow, Nat.reduceDiv, Nat.reduceMod, hw]
    refine Gif.mk (fun h => ?_) (fun h => ?_)
    · simp only [h, Bool.true_or] at hr
      simp only [retK, fullK, iterK, resD, resA, AOp.ex, St.ev, Option.map_some, Option.bind_some, St.get, lk, reduceIte, Nat.reduceEqDiff, Option.getD_some, oneD, List.getElem?_cons_zero, List.getElem?_cons_succ, List.drop_zero, List.drop_succ_cons, List.take_succ_cons, List.take_zero, List.length_cons, List.length_nil, Nat.zero_add, Nat.reduceAdd, Nat.le_refl, Nat.reduceLeDiff, D.pub, D.pubs, Tryz.results75]
      exact ⟨_, rfl, rfl, congrArg bln hr⟩
    · simp only [h, Bool.false_or] at hr
      refine ⟨m, _, ?_, ?_, i + 1, ?_, ?_, hr, rfl⟩
      · omega
      · exact Weak.less (by simp [lessL, lk]) (by simp [lessL, lk]) (by simp [lessL, lk]) rfl
      · omega
      · omega
  · have hlt' : ((i : Int) < (l.length : Int)) = False := eq_false (by omega)
    rw [show l.length - i = 0 by omega, twiceFrom] at hr
    simp only [go_sem, contS_seq, reduceIte, reduceCtorEq, Nat.reduceEqDiff, Nat.reduceAdd, Nat.reduceBEq, Nat.reduceBNe, Int.reduceLE, Int.reduceLT, Int.reduceToNat, Int.reduceEq, Nat.reduceLeDiff, Nat.reduceLT, Nat.reducePow, Nat.reduceDiv, Nat.reduceMod, rows_len, hlt']
    simp only [retK, fullK, iterK, resD, resA, AOp.ex, St.ev, Option.map_some, Option.bind_some, St.get, lk, reduceIte, Nat.reduceEqDiff, Option.getD_some, oneD, List.getElem?_cons_zero, List.getElem?_cons_succ, List.drop_zero, List.drop_succ_cons, List.take_succ_cons, List.take_zero, List.length_cons, List.length_nil, Nat.zero_add, Nat.reduceAdd, Nat.le_refl, Nat.reduceLeDiff, D.pub, D.pubs, Tryz.results75]
    exact ⟨_, rfl, rfl, congrArg bln hr⟩

theorem twice_Listener_1 (q : AListener → AListener → Bool) (f : FuncId) (he : Enters Tryz.prog f) (x y : AListener) (hp : Pure Tryz.prog f [AListener.d x, AListener.d y] (fun d => d = bln (q x y))) :
    PureB Tryz.prog 133 [AListener.d y, .ptr 1000001 0, .ptr 1000002 0] [(1000001, [.fn f []]), (1000002, AListener.ds x)] (fun d => d = bln (q x y)) := by
  refine pureB_of_run follows an_z61 Tryz.func133 rfl ok_z61 dst_z61 (by simp [Tryz.ntmps133]) ?_
  rw [run_start]
  simp only [ac_z61, go_sem, contS_seq, reduceIte, reduceCtorEq, Nat.reduceEqDiff, Nat.reduceAdd, Nat.reduceBEq, Nat.reduceBNe, Int.reduceLE, Int.reduceLT, Int.reduceToNat, Int.reduceEq, Nat.reduceLeDiff, Nat.reduceLT, Nat.reducePow, Nat.reduceDiv, Nat.reduceMod]
  refine hp.callW he _ rfl rfl ?_
  rintro d rfl
  simp only [go_sem, contS_seq, reduceIte, reduceCtorEq, Nat.reduceEqDiff, Nat.reduceAdd, Nat.reduceBEq, Nat.reduceBNe, Int.reduceLE, Int.reduceLT, Int.reduceToNat, Int.reduceEq, Nat.reduceLeDiff, Nat.reduceLT, Nat.reducePow, Nat.reduceDiv, Nat.reduceMod]
  simp only [retK, fullK, iterK, resD, resA, AOp.ex, St.ev, Option.map_some, Option.bind_some, St.get, lk, reduceIte, Nat.reduceEqDiff, Option.getD_some, oneD, List.getElem?_cons_zero, List.getElem?_cons_succ, List.drop_zero, List.drop_succ_cons, List.take_succ_cons, List.take_zero, List.length_cons, List.length_nil, Nat.zero_add, Nat.reduceAdd, Nat.le_refl, Nat.reduceLeDiff, D.pub, D.pubs, Tryz.results133]
  exact ⟨_, rfl, rfl, rfl⟩

theorem twice_Listener (q : AListener → AListener → Bool) (f : FuncId) (he : Enters Tryz.prog f) (l : List AListener) (hl : l.length ≤ 1000000) (hp : ∀ x ∈ l, ∀ y ∈ l, Pure Tryz.prog f [AListener.d x, AListener.d y] (fun d => d = bln (q x y))) :
    Pure Tryz.prog 81 [.pd (.slice (rows AListener.pd l)), .fn f []] (fun d => d = bln (twice q l)) := by
  refine pure_of_run follows an_z41 Tryz.func81 rfl ok_z41 dst_z41 (by simp [Tryz.ntmps81]) ?_
  rw [run_start]
  simp only [ac_z41, go_sem, contS_seq, reduceIte, reduceCtorEq, Nat.reduceEqDiff, Nat.reduceAdd, Nat.reduceBEq, Nat.reduceBNe, Int.reduceLE, Int.reduceLT, Int.reduceToNat, Int.reduceEq, Nat.reduceLeDiff, Nat.reduceLT, Nat.reducePow, Nat.reduceDiv, Nat.reduceMod, rows_len]
  refine loopS (fun k st => ∃ i : Nat, k = l.length - i ∧ i ≤ l.length ∧ twiceFrom q l k i = twice q l ∧
    st = ⟨[(0, .pd (.slice (rows AListener.pd l))), (3, .ptr 3 0), (7, .pd (.slice (rows AListener.pd l))), (8, int l.length), (9, int i)], [(3, [.fn f []])], [], .no⟩) l.length _ (Weak.refl _ _) ⟨0, rfl, Nat.zero_le _, rfl, rfl⟩ ?_
  rintro k st ⟨i, rfl, hi, hr, rfl⟩
  by_cases hlt : i < l.length
  · obtain ⟨x, hx⟩ := at_lt hlt
    have hlt' : ((i : Int) < (l.length : Int)) = True := eq_true (by omega)
    have hle : (i ≤ l.length) = True := eq_true (by omega)
    have hw := i64_succ (show i < 1000000000 by omega)
    have hmx := List.mem_of_getElem? hx
    obtain ⟨m, hm⟩ : ∃ m, l.length - i = m + 1 := ⟨l.length - i - 1, by omega⟩
    rw [hm, twiceFrom, hx] at hr
    have hrows : rowsOK 9 (rows AListener.pd l) = True := rowsOK_rows (f := AListener.pd) (n := 9) (fun _ => rfl) l
    have htk : (rows AListener.pd l).take i = rows AListener.pd (l.take i) := by simp [rows, List.map_take]
    simp only [go_sem, contS_seq, reduceIte, reduceCtorEq, Nat.reduceEqDiff, Nat.reduceAdd, Nat.reduceBEq, Nat.reduceBNe, Int.reduceLE, Int.reduceLT, Int.reduceToNat, Int.reduceEq, Nat.reduceLeDiff, Nat.reduceLT, Nat.reducePow, Nat.reduceDiv, Nat.reduceMod, hlt', rows_get hx, rows_len, hrows, hle, htk]
    refine (ContainsFunc_Listener (fun y => q x y) 133 (enters_of Tryz.func133 rfl rfl) [(1000001, 0), (1000002, 0)] [(1000001, [.fn f []]), (1000002, AListener.ds x)] (Cl.of rfl rfl rfl rfl rfl) (l.take i) (by simp; omega)
      (fun y hy => twice_Listener_1 q f he x y (hp x hmx y (List.mem_of_mem_take hy)))).callW (enters_of Tryz.func129 rfl rfl) _ [(3, 1000001), (6, 1000002)] rfl rfl rfl ?_
    rintro d rfl
    simp only [go_sem, contS_seq, reduceIte, reduceCtorEq, Nat.reduceEqDiff, Nat.reduceAdd, Nat.reduceBEq, Nat.reduceBNe, Int.reduceLE, Int.reduceLT, Int.reduceToNat, Int.reduceEq, Nat.reduceLeDiff, Nat.reduceLT, Nat.reducePow, Nat.reduceDiv, Nat.reduceMod, hw]
    refine Gif.mk (fun h => ?_) (fun h => ?_)
    · simp only [h, Bool.true_or] at hr
      simp only [retK, fullK, iterK, resD, resA, AOp.ex, St.ev, Option.map_some, Option.bind_some, St.get, lk, reduceIte, Nat.reduceEqDiff, Option.getD_some, oneD, List.getElem?_cons_zero, List.getElem?_cons_succ, List.drop_zero, List.drop_succ_cons, List.take_succ_cons, List.take_zero, List.length_cons, List.length_nil, Nat.zero_add, Nat.reduceAdd, Nat.le_refl, Nat.reduceLeDiff, D.pub, D.pubs, Tryz.results81]
      exact ⟨_, rfl, rfl, congrArg bln hr⟩
    · simp only [h, Bool.false_or] at hr
      refine ⟨m, _, ?_, ?_, i + 1, ?_, ?_, hr, rfl⟩
      · omega
      · exact Weak.less (by simp [lessL, lk]) (by simp [lessL, lk]) (by simp [lessL, lk]) rfl
      · omega
      · omega
  · have hlt' : ((i : Int) < (l.length : Int)) = False := eq_false (by omega)
    rw [show l.length - i = 0 by omega, twiceFrom] at hr
    simp only [go_sem, contS_seq, reduceIte, reduceCtorEq, Nat.reduceEqDiff, Nat.reduceAdd, Nat.reduceBEq, Nat.reduceBNe, Int.reduceLE, Int.reduceLT, Int.reduceToNat, Int.reduceEq, Nat.reduceLeDiff, Nat.reduceLT, Nat.reducePow, Nat.reduceDiv, Nat.reduceMod, rows_len, hlt']
    simp only [retK, fullK, iterK, resD, resA, AOp.ex, St.ev, Option.map_some, Option.bind_some, St.get, lk, reduceIte, Nat.reduceEqDiff, Option.getD_some, oneD, List.getElem?_cons_zero, List.getElem?_cons_succ, List.drop_zero, List.drop_succ_cons, List.take_succ_cons, List.take_zero, List.length_cons, List.length_nil, Nat.zero_add, Nat.reduceAdd, Nat.le_refl, Nat.reduceLeDiff, D.pub, D.pubs, Tryz.results81]
    exact ⟨_, rfl, rfl, congrArg bln hr⟩

theorem twice_Parent_1 (q : AParent → AParent → Bool) (f : FuncId) (he : Enters Tryz.prog f) (x y : AParent) (hp : Pure Tryz.prog f [AParent.d x, AParent.d y] (fun d => d = bln (q x y))) :
    PureB Tryz.prog 135 [AParent.d y, .ptr 1000001 0, .ptr 1000002 0] [(1000001, [.fn f []]), (1000002, AParent.ds x)] (fun d => d = bln (q x y)) := by
  refine pureB_of_run follows an_z63 Tryz.func135 rfl ok_z63 dst_z63 (by simp [Tryz.ntmps135]) ?_
  rw [run_start]
  simp only [ac_z63, go_sem, contS_seq, reduceIte, reduceCtorEq, Nat.reduceEqDiff, Nat.reduceAdd, Nat.reduceBEq, Nat.reduceBNe, Int.reduceLE, Int.reduceLT, Int.reduceToNat, Int.reduceEq, Nat.reduceLeDiff, Nat.reduceLT, Nat.reducePow, Nat.reduceDiv, Nat.reduceMod]
  refine hp.callW he _ rfl rfl ?_
  rintro d rfl
  simp only [go_sem, contS_seq, reduceIte, reduceCtorEq, Nat.reduceEqDiff, Nat.reduceAdd, Nat.reduceBEq, Nat.reduceBNe, Int.reduceLE, Int.reduceLT, Int.reduceToNat, Int.reduceEq, Nat.reduceLeDiff, Nat.reduceLT, Nat.reducePow, Nat.reduceDiv, Nat.reduceMod]
  simp only [retK, fullK, iterK, resD, resA, AOp.ex, St.ev, Option.map_some, Option.bind_some, St.get, lk, reduceIte, Nat.reduceEqDiff, Option.getD_some, oneD, List.getElem?_cons_zero, List.getElem?_cons_succ, List.drop_zero, List.drop_succ_cons, List.take_succ_cons, List.take_zero, List.length_cons, List.length_nil, Nat.zero_add, Nat.reduceAdd, Nat.le_refl, Nat.reduceLeDiff, D.pub, D.pubs, Tryz.results135]
  exact ⟨_, rfl, rfl, rfl⟩

theorem twice_Parent (q : AParent → AParent → Bool) (f : FuncId) (he : Enters Tryz.prog f) (l : List AParent) (hl : l.length ≤ 1000000) (hp : ∀ x ∈ l, ∀ y ∈ l, Pure Tryz.prog f [AParent.d x, AParent.d y] (fun d => d = bln (q x y))) :
    Pure Tryz.prog 82 [.pd (.slice (rows AParent.pd l)), .fn f []] (fun d => d = bln (twice q l)) := by
  refine pure_of_run follows an_z42 Tryz.func82 rfl ok_z42 dst_z42 (by simp [Tryz.ntmps82]) ?_
  rw [run_start]
  simp only [ac_z42, go_sem, contS_seq, reduceIte, reduceCtorEq, Nat.reduceEqDiff, Nat.reduceAdd, Nat.reduceBEq, Nat.reduceBNe, Int.reduceLE, Int.reduceLT, Int.reduceToNat, Int.reduceEq, Nat.reduceLeDiff, Nat.reduceLT, Nat.reducePow, Nat.reduceDiv, Nat.reduceMod, rows_len]
  refine loopS (fun k st => ∃ i : Nat, k = l.length - i ∧ i ≤ l.length ∧ twiceFrom q l k i = twice q l ∧
    st = ⟨[(0, .pd (.slice (rows AParent.pd l))), (3, .ptr 3 0), (7, .pd (.slice (rows AParent.pd l))), (8, int l.length), (9, int i)], [(3, [.fn f []])], [], .no⟩) l.length _ (Weak.refl _ _) ⟨0, rfl, Nat.zero_le _, rfl, rfl⟩ ?_
  rintro k st ⟨i, rfl, hi, hr, rfl⟩
  by_cases hlt : i < l.length
  · obtain ⟨x, hx⟩ := at_lt hlt
    have hlt' : ((i : Int) < (l.length : Int)) = True := eq_true (by omega)
    have hle : (i ≤ l.length) = True := eq_true (by omega)
    have hw := i64_succ (show i < 1000000000 by omega)
    have hmx := List.mem_of_getElem? hx
    obtain ⟨m, hm⟩ : ∃ m, l.length - i = m + 1 := ⟨l.length - i - 1, by omega⟩
    rw [hm, twiceFrom, hx] at hr
    have hrows : rowsOK 4 (rows AParent.pd l) = True := rowsOK_rows (f := AParent.pd) (n := 4) (fun _ => rfl) l
    have htk : (rows AParent.pd l).take i = rows AParent.pd (l.take i) := by simp [rows, List.map_take]
    simp only [go_sem, contS_seq, reduceIte, reduceCtorEq, Nat.reduceEqDiff, Nat.reduceAdd, Nat.reduceBEq, Nat.reduceBNe, Int.reduceLE, Int.reduceLT, Int.reduceToNat, Int.reduceEq, Nat.reduceLeDiff, Nat.reduceLT, Nat.reducePow, Nat.reduceDiv, Nat.reduceMod, hlt', rows_get hx, rows_len, hrows, hle, htk]
    refine (ContainsFunc_Parent (fun y => q x y) 135 (enters_of Tryz.func135 rfl rfl) [(1000001, 0), (1000002, 0)] [(1000001, [.fn f []]), (1000002, AParent.ds x)] (Cl.of rfl rfl rfl rfl rfl) (l.take i) (by simp; omega)
      (fun y hy => twice_Parent_1 q f he x y (hp x hmx y (List.mem_of_mem_take hy)))).callW (enters_of Tryz.func134 rfl rfl) _ [(3, 1000001), (6, 1000002)] rfl rfl rfl ?_
    rintro d rfl
    simp only [go_sem, contS_seq, reduceIte, reduceCtorEq, Nat.reduceEqDiff, Nat.reduceAdd, Nat.reduceBEq, Nat.reduceBNe, Int.reduceLE, Int.reduceLT, Int.reduceToNat, Int.reduceEq, Nat.reduceLeDiff, Nat.reduceLT, Nat.reducePow, Nat.reduceDiv, Nat.reduceMod, hw]
    refine Gif.mk (fun h => ?_) (fun h => ?_)
    · simp only [h, Bool.true_or] at hr
      simp only [retK, fullK, iterK, resD, resA, AOp.ex, St.ev, Option.map_some, Option.bind_some, St.get, lk, reduceIte, Nat.reduceEqDiff, Option.getD_some, oneD, List.getElem?_cons_zero, List.getElem?_cons_succ, List.drop_zero, List.drop_succ_cons, List.take_succ_cons, List.take_zero, List.length_cons, List.length_nil, Nat.zero_add, Nat.reduceAdd, Nat.le_refl, Nat.reduceLeDiff, D.pub, D.pubs, Tryz.results82]
      exact ⟨_, rfl, rfl, congrArg bln hr⟩
    · simp only [h, Bool.false_or] at hr
      refine ⟨m, _, ?_, ?_, i + 1, ?_, ?_, hr, rfl⟩
      · omega
      · exact Weak.less (by simp [lessL, lk]) (by simp [lessL, lk]) (by simp [lessL, lk]) rfl
      · omega
      · omega
  · have hlt' : ((i : Int) < (l.length : Int)) = False := eq_false (by omega)
    rw [show l.length - i = 0 by omega, twiceFrom] at hr
    simp only [go_sem, contS_seq, reduceIte, reduceCtorEq, Nat.reduceEqDiff, Nat.reduceAdd, Nat.reduceBEq, Nat.reduceBNe, Int.reduceLE, Int.reduceLT, Int.reduceToNat, Int.reduceEq, Nat.reduceLeDiff, Nat.reduceLT, Nat.reducePow, Nat.reduceDiv, Nat.reduceMod, rows_len, hlt']
    simp only [retK, fullK, iterK, resD, resA, AOp.ex, St.ev, Option.map_some, Option.bind_some, St.get, lk, reduceIte, Nat.reduceEqDiff, Option.getD_some, oneD, List.getElem?_cons_zero, List.getElem?_cons_succ, List.drop_zero, List.drop_succ_cons, List.take_succ_cons, List.take_zero, List.length_cons, List.length_nil, Nat.zero_add, Nat.reduceAdd, Nat.le_refl, Nat.reduceLeDiff, D.pub, D.pubs, Tryz.results82]
    exact ⟨_, rfl, rfl, congrArg bln hr⟩

theorem twice_string_1 (q : ByteArray → ByteArray → Bool) (f : FuncId) (he : Enters Tryz.prog f) (x y : ByteArray) (hp : Pure Tryz.prog f [str x, str y] (fun d => d = bln (q x y))) :
    PureB Tryz.prog 137 [str y, .ptr 1000001 0, .ptr 1000002 0] [(1000001, [.fn f []]), (1000002, [str x])] (fun d => d = bln (q x y)) := by
  refine pureB_of_run follows an_z65 Tryz.func137 rfl ok_z65 dst_z65 (by simp [Tryz.ntmps137]) ?_
  rw [run_start]
  simp only [ac_z65, go_sem, contS_seq, reduceIte, reduceCtorEq, Nat.reduceEqDiff, Nat.reduceAdd, Nat.reduceBEq, Nat.reduceBNe, Int.reduceLE, Int.reduceLT, Int.reduceToNat, Int.reduceEq, Nat.reduceLeDiff, Nat.reduceLT, Nat.reducePow, Nat.reduceDiv, Nat.reduceMod]
  refine hp.callW he _ rfl rfl ?_
  rintro d rfl
  simp only [go_sem, contS_seq, reduceIte, reduceCtorEq, Nat.reduceEqDiff, Nat.reduceAdd, Nat.reduceBEq, Nat.reduceBNe, Int.reduceLE, Int.reduceLT, Int.reduceToNat, Int.reduceEq, Nat.reduceLeDiff, Nat.reduceLT, Nat.reducePow, Nat.reduceDiv, Nat.reduceMod]
  simp only [retK, fullK, iterK, resD, resA, AOp.ex, St.ev, Option.map_some, Option.bind_some, St.get, lk, reduceIte, Nat.reduceEqDiff, Option.getD_some, oneD, List.getElem?_cons_zero, List.getElem?_cons_succ, List.drop_zero, List.drop_succ_cons, List.take_succ_cons, List.take_zero, List.length_cons, List.length_nil, Nat.zero_add, Nat.reduceAdd, Nat.le_refl, Nat.reduceLeDiff, D.pub, D.pubs, Tryz.results137]
  exact ⟨_, rfl, rfl, rfl⟩

theorem twice_string (q : ByteArray → ByteArray → Bool) (f : FuncId) (he : Enters Tryz.prog f) (l : List ByteArray) (hl : l.length ≤ 1000000) (hp : ∀ x ∈ l, ∀ y ∈ l, Pure Tryz.prog f [str x, str y] (fun d => d = bln (q x y))) :
    Pure Tryz.prog 84 [.pd (.slice (rows cStr l)), .fn f []] (fun d => d = bln (twice q l)) := by
  refine pure_of_run follows an_z43 Tryz.func84 rfl ok_z43 dst_z43 (by simp [Tryz.ntmps84]) ?_
  rw [run_start]
  simp only [ac_z43, go_sem, contS_seq, reduceIte, reduceCtorEq, Nat.reduceEqDiff, Nat.reduceAdd, Nat.reduceBEq, Nat.reduceBNe, Int.reduceLE, Int.reduceLT, Int.reduceToNat, Int.reduceEq, Nat.reduceLeDiff, Nat.reduceLT, Nat.reducePow, Nat.reduceDiv, Nat.reduceMod, rows_len]
  refine loopS (fun k st => ∃ i : Nat, k = l.length - i ∧ i ≤ l.length ∧ twiceFrom q l k i = twice q l ∧
    st = ⟨[(0, .pd (.slice (rows cStr l))), (3, .ptr 3 0), (7, .pd (.slice (rows cStr l))), (8, int l.length), (9, int i)], [(3, [.fn f []])], [], .no⟩) l.length _ (Weak.refl _ _) ⟨0, rfl, Nat.zero_le _, rfl, rfl⟩ ?_
  rintro k st ⟨i, rfl, hi, hr, rfl⟩
  by_cases hlt : i < l.length
  · obtain ⟨x, hx⟩ := at_lt hlt
    have hlt' : ((i : Int) < (l.length : Int)) = True := eq_true (by omega)
    have hle : (i ≤ l.length) = True := eq_true (by omega)
    have hw := i64_succ (show i < 1000000000 by omega)
    have hmx := List.mem_of_getElem? hx
    obtain ⟨m, hm⟩ : ∃ m, l.length - i = m + 1 := ⟨l.length - i - 1, by omega⟩
    rw [hm, twiceFrom, hx] at hr
    have hrows : rowsOK 1 (rows cStr l) = True := rowsOK_rows (f := cStr) (n := 1) (fun _ => rfl) l
    have htk : (rows cStr l).take i = rows cStr (l.take i) := by simp [rows, List.map_take]
    simp only [go_sem, contS_seq, reduceIte, reduceCtorEq, Nat.reduceEqDiff, Nat.reduceAdd, Nat.reduceBEq, Nat.reduceBNe, Int.reduceLE, Int.reduceLT, Int.reduceToNat, Int.reduceEq, Nat.reduceLeDiff, Nat.reduceLT, Nat.reducePow, Nat.reduceDiv, Nat.reduceMod, hlt', rows_get hx, rows_len, hrows, hle, htk]
    refine (ContainsFunc_string (fun y => q x y) 137 (enters_of Tryz.func137 rfl rfl) [(1000001, 0), (1000002, 0)] [(1000001, [.fn f []]), (1000002, [str x])] (Cl.of rfl rfl rfl rfl rfl) (l.take i) (by simp; omega)
      (fun y hy => twice_string_1 q f he x y (hp x hmx y (List.mem_of_mem_take hy)))).callW (enters_of Tryz.func136 rfl rfl) _ [(3, 1000001), (6, 1000002)] rfl rfl rfl ?_
    rintro d rfl
    simp only [go_sem, contS_seq, reduceIte, reduceCtorEq, Nat.reduceEqDiff, Nat.reduceAdd, Nat.reduceBEq, Nat.reduceBNe, Int.reduceLE, Int.reduceLT, Int.reduceToNat, Int.reduceEq, Nat.reduceLeDiff, Nat.reduceLT, Nat.reducePow, Nat.reduceDiv, Nat.reduceMod, hw]
    refine Gif.mk (fun h => ?_) (fun h => ?_)
    · simp only [h, Bool.true_or] at hr
      simp only [retK, fullK, iterK, resD, resA, AOp.ex, St.ev, Option.map_some, Option.bind_some, St.get, lk, reduceIte, Nat.reduceEqDiff, Option.getD_some, oneD, List.getElem?_cons_zero, List.getElem?_cons_succ, List.drop_zero, List.drop_succ_cons, List.take_succ_cons, List.take_zero, List.length_cons, List.length_nil, Nat.zero_add, Nat.reduceAdd, Nat.le_refl, Nat.reduceLeDiff, D.pub, D.pubs, Tryz.results84]
      exact ⟨_, rfl, rfl, congrArg bln hr⟩
    · simp only [h, Bool.false_or] at hr
      refine ⟨m, _, ?_, ?_, i + 1, ?_, ?_, hr, rfl⟩
      · omega
      · exact Weak.less (by simp [lessL, lk]) (by simp [lessL, lk]) (by simp [lessL, lk]) rfl
      · omega
      · omega
  · have hlt' : ((i : Int) < (l.length : Int)) = False := eq_false (by omega)
    rw [show l.length - i = 0 by omega, twiceFrom] at hr
    simp only [go_sem, contS_seq, reduceIte, reduceCtorEq, Nat.reduceEqDiff, Nat.reduceAdd, Nat.reduceBEq, Nat.reduceBNe, Int.reduceLE, Int.reduceLT, Int.reduceToNat, Int.reduceEq, Nat.reduceLeDiff, Nat.reduceLT, Nat.reducePow, Nat.reduceDiv, Nat.reduceMod, rows_len, hlt']
    simp only [retK, fullK, iterK, resD, resA, AOp.ex, St.ev, Option.map_some, Option.bind_some, St.get, lk, reduceIte, Nat.reduceEqDiff, Option.getD_some, oneD, List.getElem?_cons_zero, List.getElem?_cons_succ, List.drop_zero, List.drop_succ_cons, List.take_succ_cons, List.take_zero, List.length_cons, List.length_nil, Nat.zero_add, Nat.reduceAdd, Nat.le_refl, Nat.reduceLeDiff, D.pub, D.pubs, Tryz.results84]
    exact ⟨_, rfl, rfl, congrArg bln hr⟩


theorem Equal_Pair (l m : List APair) (hl : l.length ≤ 1000000) (hm : m.length ≤ 1000000) :
    Pure Tryz.prog 98 [.pd (.slice (rows APair.pd l)), .pd (.slice (rows APair.pd m))] (fun d => d = bln (decide (l = m))) := by
  refine pure_of_run follows an_z48 Tryz.func98 rfl ok_z48 dst_z48 (by simp [Tryz.ntmps98]) ?_
  rw [run_start]
  simp only [ac_z48, go_sem, contS_seq, reduceIte, reduceCtorEq, Nat.reduceEqDiff, Nat.reduceAdd, Nat.reduceBEq, Nat.reduceBNe, Int.reduceLE, Int.reduceLT, Int.reduceToNat, Int.reduceEq, Nat.reduceLeDiff, Nat.reduceLT, Nat.reducePow, Nat.reduceDiv, Nat.reduceMod, go_sem, rows_len]
  refine GifP.mk (fun hn => ?_) (fun hn => ?_)
  rotate_left
  · simp only [retK, fullK, iterK, resD, resA, AOp.ex, St.ev, Option.map_some, Option.bind_some, St.get, lk, reduceIte, Nat.reduceEqDiff, Option.getD_some, oneD, List.getElem?_cons_zero, List.getElem?_cons_succ, List.drop_zero, List.drop_succ_cons, List.take_succ_cons, List.take_zero, List.length_cons, List.length_nil, Nat.zero_add, Nat.reduceAdd, Nat.le_refl, Nat.reduceLeDiff, D.pub, D.pubs, Tryz.results98]
    exact ⟨_, rfl, rfl, congrArg bln (decide_eq_false (fun h => hn (by rw [h]))).symm⟩
  have hlm : l.length = m.length := by omega
  refine loopS (fun k st => ∃ i : Nat, k = l.length - i ∧ i ≤ l.length ∧ decide (l.drop i = m.drop i) = decide (l = m) ∧
    st = ⟨[(0, .pd (.slice (rows APair.pd l))), (1, .pd (.slice (rows APair.pd m))), (12, int l.length), (13, int i)], [], [], .no⟩) l.length _ (Weak.refl _ _) ⟨0, rfl, Nat.zero_le _, rfl, rfl⟩ ?_
  rintro k st ⟨i, rfl, hi, hr, rfl⟩
  by_cases hlt : i < l.length
  · obtain ⟨x, hx⟩ := at_lt hlt
    obtain ⟨y, hy⟩ := at_lt (show i < m.length by omega)
    have hlt' : ((i : Int) < (l.length : Int)) = True := eq_true (by omega)
    have hw := i64_succ (show i < 1000000000 by omega)
    rw [drop_at hx, drop_at hy] at hr
    simp only [go_sem, contS_seq, reduceIte, reduceCtorEq, Nat.reduceEqDiff, Nat.reduceAdd, Nat.reduceBEq, Nat.reduceBNe, Int.reduceLE, Int.reduceLT, Int.reduceToNat, Int.reduceEq, Nat.reduceLeDiff, Nat.reduceLT, Nat.reducePow, Nat.reduceDiv, Nat.reduceMod, go_sem, hlt', rows_get hx, rows_get hy, eqVs, eqV, eq_Pair, hw]
    refine GifP.mk (fun h => ?_) (fun h => ?_)
    · subst h
      simp only [List.cons.injEq, true_and] at hr
      refine ⟨l.length - (i + 1), _, ?_, ?_, i + 1, rfl, ?_, hr, rfl⟩
      · omega
      · exact Weak.less (by simp [lessL, lk]) (by simp [lessL, lk]) (by simp [lessL, lk]) rfl
      · omega
    · simp only [retK, fullK, iterK, resD, resA, AOp.ex, St.ev, Option.map_some, Option.bind_some, St.get, lk, reduceIte, Nat.reduceEqDiff, Option.getD_some, oneD, List.getElem?_cons_zero, List.getElem?_cons_succ, List.drop_zero, List.drop_succ_cons, List.take_succ_cons, List.take_zero, List.length_cons, List.length_nil, Nat.zero_add, Nat.reduceAdd, Nat.le_refl, Nat.reduceLeDiff, D.pub, D.pubs, Tryz.results98]
      rw [decide_eq_false (fun e => h (List.cons.inj e).1)] at hr
      exact ⟨_, rfl, rfl, congrArg bln hr⟩
  · have hlt' : ((i : Int) < (l.length : Int)) = False := eq_false (by omega)
    rw [List.drop_eq_nil_of_le (by omega), List.drop_eq_nil_of_le (by omega)] at hr
    simp only [go_sem, contS_seq, reduceIte, reduceCtorEq, Nat.reduceEqDiff, Nat.reduceAdd, Nat.reduceBEq, Nat.reduceBNe, Int.reduceLE, Int.reduceLT, Int.reduceToNat, Int.reduceEq, Nat.reduceLeDiff, Nat.reduceLT, Nat.reducePow, Nat.reduceDiv, Nat.reduceMod, go_sem, rows_len, hlt']
    simp only [retK, fullK, iterK, resD, resA, AOp.ex, St.ev, Option.map_some, Option.bind_some, St.get, lk, reduceIte, Nat.reduceEqDiff, Option.getD_some, oneD, List.getElem?_cons_zero, List.getElem?_cons_succ, List.drop_zero, List.drop_succ_cons, List.take_succ_cons, List.take_zero, List.length_cons, List.length_nil, Nat.zero_add, Nat.reduceAdd, Nat.le_refl, Nat.reduceLeDiff, D.pub, D.pubs, Tryz.results98]
    exact ⟨_, rfl, rfl, congrArg bln (by simpa using hr)⟩

theorem Equal_int (l m : List Int) (hl : l.length ≤ 1000000) (hm : m.length ≤ 1000000) :
    Pure Tryz.prog 99 [.pd (.slice (rows cInt l)), .pd (.slice (rows cInt m))] (fun d => d = bln (decide (l = m))) := by
  refine pure_of_run follows an_z49 Tryz.func99 rfl ok_z49 dst_z49 (by simp [Tryz.ntmps99]) ?_
  rw [run_start]
  simp only [ac_z49, go_sem, contS_seq, reduceIte, reduceCtorEq, Nat.reduceEqDiff, Nat.reduceAdd, Nat.reduceBEq, Nat.reduceBNe, Int.reduceLE, Int.reduceLT, Int.reduceToNat, Int.reduceEq, Nat.reduceLeDiff, Nat.reduceLT, Nat.reducePow, Nat.reduceDiv, Nat.reduceMod, go_sem, rows_len]
  refine GifP.mk (fun hn => ?_) (fun hn => ?_)
  rotate_left
  · simp only [retK, fullK, iterK, resD, resA, AOp.ex, St.ev, Option.map_some, Option.bind_some, St.get, lk, reduceIte, Nat.reduceEqDiff, Option.getD_some, oneD, List.getElem?_cons_zero, List.getElem?_cons_succ, List.drop_zero, List.drop_succ_cons, List.take_succ_cons, List.take_zero, List.length_cons, List.length_nil, Nat.zero_add, Nat.reduceAdd, Nat.le_refl, Nat.reduceLeDiff, D.pub, D.pubs, Tryz.results99]
    exact ⟨_, rfl, rfl, congrArg bln (decide_eq_false (fun h => hn (by rw [h]))).symm⟩
  have hlm : l.length = m.length := by omega
  refine loopS (fun k st => ∃ i : Nat, k = l.length - i ∧ i ≤ l.length ∧ decide (l.drop i = m.drop i) = decide (l = m) ∧
    st = ⟨[(0, .pd (.slice (rows cInt l))), (1, .pd (.slice (rows cInt m))), (12, int l.length), (13, int i)], [], [], .no⟩) l.length _ (Weak.refl _ _) ⟨0, rfl, Nat.zero_le _, rfl, rfl⟩ ?_
  rintro k st ⟨i, rfl, hi, hr, rfl⟩
  by_cases hlt : i < l.length
  · obtain ⟨x, hx⟩ := at_lt hlt
    obtain ⟨y, hy⟩ := at_lt (show i < m.length by omega)
    have hlt' : ((i : Int) < (l.length : Int)) = True := eq_true (by omega)
    have hw := i64_succ (show i < 1000000000 by omega)
    rw [drop_at hx, drop_at hy] at hr
    simp only [go_sem, contS_seq, reduceIte, reduceCtorEq, Nat.reduceEqDiff, Nat.reduceAdd, Nat.reduceBEq, Nat.reduceBNe, Int.reduceLE, Int.reduceLT, Int.reduceToNat, Int.reduceEq, Nat.reduceLeDiff, Nat.reduceLT, Nat.reducePow, Nat.reduceDiv, Nat.reduceMod, go_sem, hlt', rows_get hx, rows_get hy, eqVs, eqV, eq_int, hw]
    refine GifP.mk (fun h => ?_) (fun h => ?_)
    · subst h
      simp only [List.cons.injEq, true_and] at hr
      refine ⟨l.length - (i + 1), _, ?_, ?_, i + 1, rfl, ?_, hr, rfl⟩
      · omega
      · exact Weak.less (by simp [lessL, lk]) (by simp [lessL, lk]) (by simp [lessL, lk]) rfl
      · omega
    · simp only [retK, fullK, iterK, resD, resA, AOp.ex, St.ev, Option.map_some, Option.bind_some, St.get, lk, reduceIte, Nat.reduceEqDiff, Option.getD_some, oneD, List.getElem?_cons_zero, List.getElem?_cons_succ, List.drop_zero, List.drop_succ_cons, List.take_succ_cons, List.take_zero, List.length_cons, List.length_nil, Nat.zero_add, Nat.reduceAdd, Nat.le_refl, Nat.reduceLeDiff, D.pub, D.pubs, Tryz.results99]
      rw [decide_eq_false (fun e => h (List.cons.inj e).1)] at hr
      exact ⟨_, rfl, rfl, congrArg bln hr⟩
  · have hlt' : ((i : Int) < (l.length : Int)) = False := eq_false (by omega)
    rw [List.drop_eq_nil_of_le (by omega), List.drop_eq_nil_of_le (by omega)] at hr
    simp only [go_sem, contS_seq, reduceIte, reduceCtorEq, Nat.reduceEqDiff, Nat.reduceAdd, Nat.reduceBEq, Nat.reduceBNe, Int.reduceLE, Int.reduceLT, Int.reduceToNat, Int.reduceEq, Nat.reduceLeDiff, Nat.reduceLT, Nat.reducePow, Nat.reduceDiv, Nat.reduceMod, go_sem, rows_len, hlt']
    simp only [retK, fullK, iterK, resD, resA, AOp.ex, St.ev, Option.map_some, Option.bind_some, St.get, lk, reduceIte, Nat.reduceEqDiff, Option.getD_some, oneD, List.getElem?_cons_zero, List.getElem?_cons_succ, List.drop_zero, List.drop_succ_cons, List.take_succ_cons, List.take_zero, List.length_cons, List.length_nil, Nat.zero_add, Nat.reduceAdd, Nat.le_refl, Nat.reduceLeDiff, D.pub, D.pubs, Tryz.results99]
    exact ⟨_, rfl, rfl, congrArg bln (by simpa using hr)⟩

theorem Equal_string (l m : List ByteArray) (hl : l.length ≤ 1000000) (hm : m.length ≤ 1000000) :
    Pure Tryz.prog 100 [.pd (.slice (rows cStr l)), .pd (.slice (rows cStr m))] (fun d => d = bln (decide (l = m))) := by
  refine pure_of_run follows an_z50 Tryz.func100 rfl ok_z50 dst_z50 (by simp [Tryz.ntmps100]) ?_
  rw [run_start]
  simp only [ac_z50, go_sem, contS_seq, reduceIte, reduceCtorEq, Nat.reduceEqDiff, Nat.reduceAdd, Nat.reduceBEq, Nat.reduceBNe, Int.reduceLE, Int.reduceLT, Int.reduceToNat, Int.reduceEq, Nat.reduceLeDiff, Nat.reduceLT, Nat.reducePow, Nat.reduceDiv, Nat.reduceMod, go_sem, rows_len]
  refine GifP.mk (fun hn => ?_) (fun hn => ?_)
  rotate_left
  · simp only [retK, fullK, iterK, resD, resA, AOp.ex, St.ev, Option.map_some, Option.bind_some, St.get, lk, reduceIte, Nat.reduceEqDiff, Option.getD_some, oneD, List.getElem?_cons_zero, List.getElem?_cons_succ, List.drop_zero, List.drop_succ_cons, List.take_succ_cons, List.take_zero, List.length_cons, List.length_nil, Nat.zero_add, Nat.reduceAdd, Nat.le_refl, Nat.reduceLeDiff, D.pub, D.pubs, Tryz.results100]
    exact ⟨_, rfl, rfl, congrArg bln (decide_eq_false (fun h => hn (by rw [h]))).symm⟩
  have hlm : l.length = m.length := by omega
  refine loopS (fun k st => ∃ i : Nat, k = l.length - i ∧ i ≤ l.length ∧ decide (l.drop i = m.drop i) = decide (l = m) ∧
    st = ⟨[(0, .pd (.slice (rows cStr l))), (1, .pd (.slice (rows cStr m))), (12, int l.length), (13, int i)], [], [], .no⟩) l.length _ (Weak.refl _ _) ⟨0, rfl, Nat.zero_le _, rfl, rfl⟩ ?_
  rintro k st ⟨i, rfl, hi, hr, rfl⟩
  by_cases hlt : i < l.length
  · obtain ⟨x, hx⟩ := at_lt hlt
    obtain ⟨y, hy⟩ := at_lt (show i < m.length by omega)
    have hlt' : ((i : Int) < (l.length : Int)) = True := eq_true (by omega)
    have hw := i64_succ (show i < 1000000000 by omega)
    rw [drop_at hx, drop_at hy] at hr
    simp only [go_sem, contS_seq, reduceIte, reduceCtorEq, Nat.reduceEqDiff, Nat.reduceAdd, Nat.reduceBEq, Nat.reduceBNe, Int.reduceLE, Int.reduceLT, Int.reduceToNat, Int.reduceEq, Nat.reduceLeDiff, Nat.reduceLT, Nat.reducePow, Nat.reduceDiv, Nat.reduceMod, go_sem, hlt', rows_get hx, rows_get hy, eqVs, eqV, eq_string, hw]
    refine GifP.mk (fun h => ?_) (fun h => ?_)
    · subst h
      simp only [List.cons.injEq, true_and] at hr
      refine ⟨l.length - (i + 1), _, ?_, ?_, i + 1, rfl, ?_, hr, rfl⟩
      · omega
      · exact Weak.less (by simp [lessL, lk]) (by simp [lessL, lk]) (by simp [lessL, lk]) rfl
      · omega
    · simp only [retK, fullK, iterK, resD, resA, AOp.ex, St.ev, Option.map_some, Option.bind_some, St.get, lk, reduceIte, Nat.reduceEqDiff, Option.getD_some, oneD, List.getElem?_cons_zero, List.getElem?_cons_succ, List.drop_zero, List.drop_succ_cons, List.take_succ_cons, List.take_zero, List.length_cons, List.length_nil, Nat.zero_add, Nat.reduceAdd, Nat.le_refl, Nat.reduceLeDiff, D.pub, D.pubs, Tryz.results100]
      rw [decide_eq_false (fun e => h (List.cons.inj e).1)] at hr
      exact ⟨_, rfl, rfl, congrArg bln hr⟩
  · have hlt' : ((i : Int) < (l.length : Int)) = False := eq_false (by omega)
    rw [List.drop_eq_nil_of_le (by omega), List.drop_eq_nil_of_le (by omega)] at hr
    simp only [go_sem, contS_seq, reduceIte, reduceCtorEq, Nat.reduceEqDiff, Nat.reduceAdd, Nat.reduceBEq, Nat.reduceBNe, Int.reduceLE, Int.reduceLT, Int.reduceToNat, Int.reduceEq, Nat.reduceLeDiff, Nat.reduceLT, Nat.reducePow, Nat.reduceDiv, Nat.reduceMod, go_sem, rows_len, hlt']
    simp only [retK, fullK, iterK, resD, resA, AOp.ex, St.ev, Option.map_some, Option.bind_some, St.get, lk, reduceIte, Nat.reduceEqDiff, Option.getD_some, oneD, List.getElem?_cons_zero, List.getElem?_cons_succ, List.drop_zero, List.drop_succ_cons, List.take_succ_cons, List.take_zero, List.length_cons, List.length_nil, Nat.zero_add, Nat.reduceAdd, Nat.le_refl, Nat.reduceLeDiff, D.pub, D.pubs, Tryz.results100]
    exact ⟨_, rfl, rfl, congrArg bln (by simpa using hr)⟩

theorem Equal_Parent (l m : List AParent) (hl : l.length ≤ 1000000) (hm : m.length ≤ 1000000) :
    Pure Tryz.prog 101 [.pd (.slice (rows AParent.pd l)), .pd (.slice (rows AParent.pd m))] (fun d => d = bln (decide (l = m))) := by
  refine pure_of_run follows an_z51 Tryz.func101 rfl ok_z51 dst_z51 (by simp [Tryz.ntmps101]) ?_
  rw [run_start]
  simp only [ac_z51, go_sem, contS_seq, reduceIte, reduceCtorEq, Nat.reduceEqDiff, Nat.reduceAdd, Nat.reduceBEq, Nat.reduceBNe, Int.reduceLE, Int.reduceLT, Int.reduceToNat, Int.reduceEq, Nat.reduceLeDiff, Nat.reduceLT, Nat.reducePow, Nat.reduceDiv, Nat.reduceMod, go_sem, rows_len]
  refine GifP.mk (fun hn => ?_) (fun hn => ?_)
  rotate_left
  · simp only [retK, fullK, iterK, resD, resA, AOp.ex, St.ev, Option.map_some, Option.bind_some, St.get, lk, reduceIte, Nat.reduceEqDiff, Option.getD_some, oneD, List.getElem?_cons_zero, List.getElem?_cons_succ, List.drop_zero, List.drop_succ_cons, List.take_succ_cons, List.take_zero, List.length_cons, List.length_nil, Nat.zero_add, Nat.reduceAdd, Nat.le_refl, Nat.reduceLeDiff, D.pub, D.pubs, Tryz.results101]
    exact ⟨_, rfl, rfl, congrArg bln (decide_eq_false (fun h => hn (by rw [h]))).symm⟩
  have hlm : l.length = m.length := by omega
  refine loopS (fun k st => ∃ i : Nat, k = l.length - i ∧ i ≤ l.length ∧ decide (l.drop i = m.drop i) = decide (l = m) ∧
    st = ⟨[(0, .pd (.slice (rows AParent.pd l))), (1, .pd (.slice (rows AParent.pd m))), (12, int l.length), (13, int i)], [], [], .no⟩) l.length _ (Weak.refl _ _) ⟨0, rfl, Nat.zero_le _, rfl, rfl⟩ ?_
  rintro k st ⟨i, rfl, hi, hr, rfl⟩
  by_cases hlt : i < l.length
  · obtain ⟨x, hx⟩ := at_lt hlt
    obtain ⟨y, hy⟩ := at_lt (show i < m.length by omega)
    have hlt' : ((i : Int) < (l.length : Int)) = True := eq_true (by omega)
    have hw := i64_succ (show i < 1000000000 by omega)
    rw [drop_at hx, drop_at hy] at hr
    simp only [go_sem, contS_seq, reduceIte, reduceCtorEq, Nat.reduceEqDiff, Nat.reduceAdd, Nat.reduceBEq, Nat.reduceBNe, Int.reduceLE, Int.reduceLT, Int.reduceToNat, Int.reduceEq, Nat.reduceLeDiff, Nat.reduceLT, Nat.reducePow, Nat.reduceDiv, Nat.reduceMod, go_sem, hlt', rows_get hx, rows_get hy, eqVs, eqV, eq_Parent, hw]
    refine GifP.mk (fun h => ?_) (fun h => ?_)
    · subst h
      simp only [List.cons.injEq, true_and] at hr
      refine ⟨l.length - (i + 1), _, ?_, ?_, i + 1, rfl, ?_, hr, rfl⟩
      · omega
      · exact Weak.less (by simp [lessL, lk]) (by simp [lessL, lk]) (by simp [lessL, lk]) rfl
      · omega
    · simp only [retK, fullK, iterK, resD, resA, AOp.ex, St.ev, Option.map_some, Option.bind_some, St.get, lk, reduceIte, Nat.reduceEqDiff, Option.getD_some, oneD, List.getElem?_cons_zero, List.getElem?_cons_succ, List.drop_zero, List.drop_succ_cons, List.take_succ_cons, List.take_zero, List.length_cons, List.length_nil, Nat.zero_add, Nat.reduceAdd, Nat.le_refl, Nat.reduceLeDiff, D.pub, D.pubs, Tryz.results101]
      rw [decide_eq_false (fun e => h (List.cons.inj e).1)] at hr
      exact ⟨_, rfl, rfl, congrArg bln hr⟩
  · have hlt' : ((i : Int) < (l.length : Int)) = False := eq_false (by omega)
    rw [List.drop_eq_nil_of_le (by omega), List.drop_eq_nil_of_le (by omega)] at hr
    simp only [go_sem, contS_seq, reduceIte, reduceCtorEq, Nat.reduceEqDiff, Nat.reduceAdd, Nat.reduceBEq, Nat.reduceBNe, Int.reduceLE, Int.reduceLT, Int.reduceToNat, Int.reduceEq, Nat.reduceLeDiff, Nat.reduceLT, Nat.reducePow, Nat.reduceDiv, Nat.reduceMod, go_sem, rows_len, hlt']
    simp only [retK, fullK, iterK, resD, resA, AOp.ex, St.ev, Option.map_some, Option.bind_some, St.get, lk, reduceIte, Nat.reduceEqDiff, Option.getD_some, oneD, List.getElem?_cons_zero, List.getElem?_cons_succ, List.drop_zero, List.drop_succ_cons, List.take_succ_cons, List.take_zero, List.length_cons, List.length_nil, Nat.zero_add, Nat.reduceAdd, Nat.le_refl, Nat.reduceLeDiff, D.pub, D.pubs, Tryz.results101]
    exact ⟨_, rfl, rfl, congrArg bln (by simpa using hr)⟩

theorem Equal_Side (l m : List ASide) (hl : l.length ≤ 1000000) (hm : m.length ≤ 1000000) :
    Pure Tryz.prog 102 [.pd (.slice (rows ASide.pd l)), .pd (.slice (rows ASide.pd m))] (fun d => d = bln (decide (l = m))) := by
  refine pure_of_run follows an_z52 Tryz.func102 rfl ok_z52 dst_z52 (by simp [Tryz.ntmps102]) ?_
  rw [run_start]
  simp only [ac_z52, go_sem, contS_seq, reduceIte, reduceCtorEq, Nat.reduceEqDiff, Nat.reduceAdd, Nat.reduceBEq, Nat.reduceBNe, Int.reduceLE, Int.reduceLT, Int.reduceToNat, Int.reduceEq, Nat.reduceLeDiff, Nat.reduceLT, Nat.reducePow, Nat.reduceDiv, Nat.reduceMod, go_sem, rows_len]
  refine GifP.mk (fun hn => ?_) (fun hn => ?_)
  rotate_left
  · simp only [retK, fullK, iterK, resD, resA, AOp.ex, St.ev, Option.map_some, Option.bind_some, St.get, lk, reduceIte, Nat.reduceEqDiff, Option.getD_some, oneD, List.getElem?_cons_zero, List.getElem?_cons_succ, List.drop_zero, List.drop_succ_cons, List.take_succ_cons, List.take_zero, List.length_cons, List.length_nil, Nat.zero_add, Nat.reduceAdd, Nat.le_refl, Nat.reduceLeDiff, D.pub, D.pubs, Tryz.results102]
    exact ⟨_, rfl, rfl, congrArg bln (decide_eq_false (fun h => hn (by rw [h]))).symm⟩
  have hlm : l.length = m.length := by omega
  refine loopS (fun k st => ∃ i : Nat, k = l.length - i ∧ i ≤ l.length ∧ decide (l.drop i = m.drop i) = decide (l = m) ∧
    st = ⟨[(0, .pd (.slice (rows ASide.pd l))), (1, .pd (.slice (rows ASide.pd m))), (12, int l.length), (13, int i)], [], [], .no⟩) l.length _ (Weak.refl _ _) ⟨0, rfl, Nat.zero_le _, rfl, rfl⟩ ?_
  rintro k st ⟨i, rfl, hi, hr, rfl⟩
  by_cases hlt : i < l.length
  · obtain ⟨x, hx⟩ := at_lt hlt
    obtain ⟨y, hy⟩ := at_lt (show i < m.length by omega)
    have hlt' : ((i : Int) < (l.length : Int)) = True := eq_true (by omega)
    have hw := i64_succ (show i < 1000000000 by omega)
    rw [drop_at hx, drop_at hy] at hr
    simp only [go_sem, contS_seq, reduceIte, reduceCtorEq, Nat.reduceEqDiff, Nat.reduceAdd, Nat.reduceBEq, Nat.reduceBNe, Int.reduceLE, Int.reduceLT, Int.reduceToNat, Int.reduceEq, Nat.reduceLeDiff, Nat.reduceLT, Nat.reducePow, Nat.reduceDiv, Nat.reduceMod, go_sem, hlt', rows_get hx, rows_get hy, eqVs, eqV, eq_Side, hw]
    refine GifP.mk (fun h => ?_) (fun h => ?_)
    · subst h
      simp only [List.cons.injEq, true_and] at hr
      refine ⟨l.length - (i + 1), _, ?_, ?_, i + 1, rfl, ?_, hr, rfl⟩
      · omega
      · exact Weak.less (by simp [lessL, lk]) (by simp [lessL, lk]) (by simp [lessL, lk]) rfl
      · omega
    · simp only [retK, fullK, iterK, resD, resA, AOp.ex, St.ev, Option.map_some, Option.bind_some, St.get, lk, reduceIte, Nat.reduceEqDiff, Option.getD_some, oneD, List.getElem?_cons_zero, List.getElem?_cons_succ, List.drop_zero, List.drop_succ_cons, List.take_succ_cons, List.take_zero, List.length_cons, List.length_nil, Nat.zero_add, Nat.reduceAdd, Nat.le_refl, Nat.reduceLeDiff, D.pub, D.pubs, Tryz.results102]
      rw [decide_eq_false (fun e => h (List.cons.inj e).1)] at hr
      exact ⟨_, rfl, rfl, congrArg bln hr⟩
  · have hlt' : ((i : Int) < (l.length : Int)) = False := eq_false (by omega)
    rw [List.drop_eq_nil_of_le (by omega), List.drop_eq_nil_of_le (by omega)] at hr
    simp only [go_sem, contS_seq, reduceIte, reduceCtorEq, Nat.reduceEqDiff, Nat.reduceAdd, Nat.reduceBEq, Nat.reduceBNe, Int.reduceLE, Int.reduceLT, Int.reduceToNat, Int.reduceEq, Nat.reduceLeDiff, Nat.reduceLT, Nat.reducePow, Nat.reduceDiv, Nat.reduceMod, go_sem, rows_len, hlt']
    simp only [retK, fullK, iterK, resD, resA, AOp.ex, St.ev, Option.map_some, Option.bind_some, St.get, lk, reduceIte, Nat.reduceEqDiff, Option.getD_some, oneD, List.getElem?_cons_zero, List.getElem?_cons_succ, List.drop_zero, List.drop_succ_cons, List.take_succ_cons, List.take_zero, List.length_cons, List.length_nil, Nat.zero_add, Nat.reduceAdd, Nat.le_refl, Nat.reduceLeDiff, D.pub, D.pubs, Tryz.results102]
    exact ⟨_, rfl, rfl, congrArg bln (by simpa using hr)⟩

theorem Equal_Filter (l m : List AFilter) (hl : l.length ≤ 1000000) (hm : m.length ≤ 1000000) :
    Pure Tryz.prog 155 [.pd (.slice (rows AFilter.pd l)), .pd (.slice (rows AFilter.pd m))] (fun d => d = bln (decide (l = m))) := by
  refine pure_of_run follows an_z74 Tryz.func155 rfl ok_z74 dst_z74 (by simp [Tryz.ntmps155]) ?_
  rw [run_start]
  simp only [ac_z74, go_sem, contS_seq, reduceIte, reduceCtorEq, Nat.reduceEqDiff, Nat.reduceAdd, Nat.reduceBEq, Nat.reduceBNe, Int.reduceLE, Int.reduceLT, Int.reduceToNat, Int.reduceEq, Nat.reduceLeDiff, Nat.reduceLT, Nat.reducePow, Nat.reduceDiv, Nat.reduceMod, go_sem, rows_len]
  refine GifP.mk (fun hn => ?_) (fun hn => ?_)
  rotate_left
  · simp only [retK, fullK, iterK, resD, resA, AOp.ex, St.ev, Option.map_some, Option.bind_some, St.get, lk, reduceIte, Nat.reduceEqDiff, Option.getD_some, oneD, List.getElem?_cons_zero, List.getElem?_cons_succ, List.drop_zero, List.drop_succ_cons, List.take_succ_cons, List.take_zero, List.length_cons, List.length_nil, Nat.zero_add, Nat.reduceAdd, Nat.le_refl, Nat.reduceLeDiff, D.pub, D.pubs, Tryz.results155]
    exact ⟨_, rfl, rfl, congrArg bln (decide_eq_false (fun h => hn (by rw [h]))).symm⟩
  have hlm : l.length = m.length := by omega
  refine loopS (fun k st => ∃ i : Nat, k = l.length - i ∧ i ≤ l.length ∧ decide (l.drop i = m.drop i) = decide (l = m) ∧
    st = ⟨[(0, .pd (.slice (rows AFilter.pd l))), (1, .pd (.slice (rows AFilter.pd m))), (12, int l.length), (13, int i)], [], [], .no⟩) l.length _ (Weak.refl _ _) ⟨0, rfl, Nat.zero_le _, rfl, rfl⟩ ?_
  rintro k st ⟨i, rfl, hi, hr, rfl⟩
  by_cases hlt : i < l.length
  · obtain ⟨x, hx⟩ := at_lt hlt
    obtain ⟨y, hy⟩ := at_lt (show i < m.length by omega)
    have hlt' : ((i : Int) < (l.length : Int)) = True := eq_true (by omega)
    have hw := i64_succ (show i < 1000000000 by omega)
    rw [drop_at hx, drop_at hy] at hr
    simp only [go_sem, contS_seq, reduceIte, reduceCtorEq, Nat.reduceEqDiff, Nat.reduceAdd, Nat.reduceBEq, Nat.reduceBNe, Int.reduceLE, Int.reduceLT, Int.reduceToNat, Int.reduceEq, Nat.reduceLeDiff, Nat.reduceLT, Nat.reducePow, Nat.reduceDiv, Nat.reduceMod, go_sem, hlt', rows_get hx, rows_get hy, eqVs, eqV, eq_Filter, hw]
    refine GifP.mk (fun h => ?_) (fun h => ?_)
    · subst h
      simp only [List.cons.injEq, true_and] at hr
      refine ⟨l.length - (i + 1), _, ?_, ?_, i + 1, rfl, ?_, hr, rfl⟩
      · omega
      · exact Weak.less (by simp [lessL, lk]) (by simp [lessL, lk]) (by simp [lessL, lk]) rfl
      · omega
    · simp only [retK, fullK, iterK, resD, resA, AOp.ex, St.ev, Option.map_some, Option.bind_some, St.get, lk, reduceIte, Nat.reduceEqDiff, Option.getD_some, oneD, List.getElem?_cons_zero, List.getElem?_cons_succ, List.drop_zero, List.drop_succ_cons, List.take_succ_cons, List.take_zero, List.length_cons, List.length_nil, Nat.zero_add, Nat.reduceAdd, Nat.le_refl, Nat.reduceLeDiff, D.pub, D.pubs, Tryz.results155]
      rw [decide_eq_false (fun e => h (List.cons.inj e).1)] at hr
      exact ⟨_, rfl, rfl, congrArg bln hr⟩
  · have hlt' : ((i : Int) < (l.length : Int)) = False := eq_false (by omega)
    rw [List.drop_eq_nil_of_le (by omega), List.drop_eq_nil_of_le (by omega)] at hr
    simp only [go_sem, contS_seq, reduceIte, reduceCtorEq, Nat.reduceEqDiff, Nat.reduceAdd, Nat.reduceBEq, Nat.reduceBNe, Int.reduceLE, Int.reduceLT, Int.reduceToNat, Int.reduceEq, Nat.reduceLeDiff, Nat.reduceLT, Nat.reducePow, Nat.reduceDiv, Nat.reduceMod, go_sem, rows_len, hlt']
    simp only [retK, fullK, iterK, resD, resA, AOp.ex, St.ev, Option.map_some, Option.bind_some, St.get, lk, reduceIte, Nat.reduceEqDiff, Option.getD_some, oneD, List.getElem?_cons_zero, List.getElem?_cons_succ, List.drop_zero, List.drop_succ_cons, List.take_succ_cons, List.take_zero, List.length_cons, List.length_nil, Nat.zero_add, Nat.reduceAdd, Nat.le_refl, Nat.reduceLeDiff, D.pub, D.pubs, Tryz.results155]
    exact ⟨_, rfl, rfl, congrArg bln (by simpa using hr)⟩

theorem Equal_Backend (l m : List ABackend) (hl : l.length ≤ 1000000) (hm : m.length ≤ 1000000) :
    Pure Tryz.prog 156 [.pd (.slice (rows ABackend.pd l)), .pd (.slice (rows ABackend.pd m))] (fun d => d = bln (decide (l = m))) := by
  refine pure_of_run follows an_z75 Tryz.func156 rfl ok_z75 dst_z75 (by simp [Tryz.ntmps156]) ?_
  rw [run_start]
  simp only [ac_z75, go_sem, contS_seq, reduceIte, reduceCtorEq, Nat.reduceEqDiff, Nat.reduceAdd, Nat.reduceBEq, Nat.reduceBNe, Int.reduceLE, Int.reduceLT, Int.reduceToNat, Int.reduceEq, Nat.reduceLeDiff, Nat.reduceLT, Nat.reducePow, Nat.reduceDiv, Nat.reduceMod, go_sem, rows_len]
  refine GifP.mk (fun hn => ?_) (fun hn => ?_)
  rotate_left
  · simp only [retK, fullK, iterK, resD, resA, AOp.ex, St.ev, Option.map_some, Option.bind_some, St.get, lk, reduceIte, Nat.reduceEqDiff, Option.getD_some, oneD, List.getElem?_cons_zero, List.getElem?_cons_succ, List.drop_zero, List.drop_succ_cons, List.take_succ_cons, List.take_zero, List.length_cons, List.length_nil, Nat.zero_add, Nat.reduceAdd, Nat.le_refl, Nat.reduceLeDiff, D.pub, D.pubs, Tryz.results156]
    exact ⟨_, rfl, rfl, congrArg bln (decide_eq_false (fun h => hn (by rw [h]))).symm⟩
  have hlm : l.length = m.length := by omega
  refine loopS (fun k st => ∃ i : Nat, k = l.length - i ∧ i ≤ l.length ∧ decide (l.drop i = m.drop i) = decide (l = m) ∧
    st = ⟨[(0, .pd (.slice (rows ABackend.pd l))), (1, .pd (.slice (rows ABackend.pd m))), (12, int l.length), (13, int i)], [], [], .no⟩) l.length _ (Weak.refl _ _) ⟨0, rfl, Nat.zero_le _, rfl, rfl⟩ ?_
  rintro k st ⟨i, rfl, hi, hr, rfl⟩
  by_cases hlt : i < l.length
  · obtain ⟨x, hx⟩ := at_lt hlt
    obtain ⟨y, hy⟩ := at_lt (show i < m.length by omega)
    have hlt' : ((i : Int) < (l.length : Int)) = True := eq_true (by omega)
    have hw := i64_succ (show i < 1000000000 by omega)
    rw [drop_at hx, drop_at hy] at hr
    simp only [go_sem, contS_seq, reduceIte, reduceCtorEq, Nat.reduceEqDiff, Nat.reduceAdd, Nat.reduceBEq, Nat.reduceBNe, Int.reduceLE, Int.reduceLT, Int.reduceToNat, Int.reduceEq, Nat.reduceLeDiff, Nat.reduceLT, Nat.reducePow, Nat.reduceDiv, Nat.reduceMod, go_sem, hlt', rows_get hx, rows_get hy, eqVs, eqV, eq_Backend, hw]
    refine GifP.mk (fun h => ?_) (fun h => ?_)
    · subst h
      simp only [List.cons.injEq, true_and] at hr
      refine ⟨l.length - (i + 1), _, ?_, ?_, i + 1, rfl, ?_, hr, rfl⟩
      · omega
      · exact Weak.less (by simp [lessL, lk]) (by simp [lessL, lk]) (by simp [lessL, lk]) rfl
      · omega
    · simp only [retK, fullK, iterK, resD, resA, AOp.ex, St.ev, Option.map_some, Option.bind_some, St.get, lk, reduceIte, Nat.reduceEqDiff, Option.getD_some, oneD, List.getElem?_cons_zero, List.getElem?_cons_succ, List.drop_zero, List.drop_succ_cons, List.take_succ_cons, List.take_zero, List.length_cons, List.length_nil, Nat.zero_add, Nat.reduceAdd, Nat.le_refl, Nat.reduceLeDiff, D.pub, D.pubs, Tryz.results156]
      rw [decide_eq_false (fun e => h (List.cons.inj e).1)] at hr
      exact ⟨_, rfl, rfl, congrArg bln hr⟩
  · have hlt' : ((i : Int) < (l.length : Int)) = False := eq_false (by omega)
    rw [List.drop_eq_nil_of_le (by omega), List.drop_eq_nil_of_le (by omega)] at hr
    simp only [go_sem, contS_seq, reduceIte, reduceCtorEq, Nat.reduceEqDiff, Nat.reduceAdd, Nat.reduceBEq, Nat.reduceBNe, Int.reduceLE, Int.reduceLT, Int.reduceToNat, Int.reduceEq, Nat.reduceLeDiff, Nat.reduceLT, Nat.reducePow, Nat.reduceDiv, Nat.reduceMod, go_sem, rows_len, hlt']
    simp only [retK, fullK, iterK, resD, resA, AOp.ex, St.ev, Option.map_some, Option.bind_some, St.get, lk, reduceIte, Nat.reduceEqDiff, Option.getD_some, oneD, List.getElem?_cons_zero, List.getElem?_cons_succ, List.drop_zero, List.drop_succ_cons, List.take_succ_cons, List.take_zero, List.length_cons, List.length_nil, Nat.zero_add, Nat.reduceAdd, Nat.le_refl, Nat.reduceLeDiff, D.pub, D.pubs, Tryz.results156]
    exact ⟨_, rfl, rfl, congrArg bln (by simpa using hr)⟩

theorem EqualFunc_Listener (q : AListener → AListener → Bool) (f : FuncId) (he : Enters Tryz.prog f) (l m : List AListener) (hl : l.length ≤ 1000000) (hm : m.length ≤ 1000000) (hp : ∀ x ∈ l, ∀ y ∈ m, Pure Tryz.prog f [AListener.d x, AListener.d y] (fun d => d = bln (q x y))) :
    Pure Tryz.prog 103 [.pd (.slice (rows AListener.pd l)), .pd (.slice (rows AListener.pd m)), .fn f []] (fun d => d = bln (eqf q l m)) := by
  refine pure_of_run follows an_z53 Tryz.func103 rfl ok_z53 dst_z53 (by simp [Tryz.ntmps103]) ?_
  rw [run_start]
  simp only [ac_z53, go_sem, contS_seq, reduceIte, reduceCtorEq, Nat.reduceEqDiff, Nat.reduceAdd, Nat.reduceBEq, Nat.reduceBNe, Int.reduceLE, Int.reduceLT, Int.reduceToNat, Int.reduceEq, Nat.reduceLeDiff, Nat.reduceLT, Nat.reducePow, Nat.reduceDiv, Nat.reduceMod, rows_len]
  refine GifP.mk (fun hn => ?_) (fun hn => ?_)
  rotate_left
  · simp only [retK, fullK, iterK, resD, resA, AOp.ex, St.ev, Option.map_some, Option.bind_some, St.get, lk, reduceIte, Nat.reduceEqDiff, Option.getD_some, oneD, List.getElem?_cons_zero, List.getElem?_cons_succ, List.drop_zero, List.drop_succ_cons, List.take_succ_cons, List.take_zero, List.length_cons, List.length_nil, Nat.zero_add, Nat.reduceAdd, Nat.le_refl, Nat.reduceLeDiff, D.pub, D.pubs, Tryz.results103]
    exact ⟨_, rfl, rfl, congrArg bln (eqf_len q (by omega)).symm⟩
  have hlm : l.length = m.length := by omega
  refine loopS (fun k st => ∃ i : Nat, k = l.length - i ∧ i ≤ l.length ∧ eqf q (l.drop i) (m.drop i) = eqf q l m ∧
    st = ⟨[(1, .pd (.slice (rows AListener.pd m))), (2, .fn f []), (15, .pd (.slice (rows AListener.pd l))), (16, int l.length), (17, int i)], [], [], .no⟩) l.length _ (Weak.refl _ _) ⟨0, rfl, Nat.zero_le _, rfl, rfl⟩ ?_
  rintro k st ⟨i, rfl, hi, hr, rfl⟩
  by_cases hlt : i < l.length
  · obtain ⟨x, hx⟩ := at_lt hlt
    obtain ⟨y, hy⟩ := at_lt (show i < m.length by omega)
    have hlt' : ((i : Int) < (l.length : Int)) = True := eq_true (by omega)
    have hw := i64_succ (show i < 1000000000 by omega)
    rw [drop_at hx, drop_at hy, eqf] at hr
    simp only [go_sem, contS_seq, reduceIte, reduceCtorEq, Nat.reduceEqDiff, Nat.reduceAdd, Nat.reduceBEq, Nat.reduceBNe, Int.reduceLE, Int.reduceLT, Int.reduceToNat, Int.reduceEq, Nat.reduceLeDiff, Nat.reduceLT, Nat.reducePow, Nat.reduceDiv, Nat.reduceMod, hlt', rows_get hx, rows_get hy, hw]
    refine (hp x (List.mem_of_getElem? hx) y (List.mem_of_getElem? hy)).callW he _ rfl rfl ?_
    rintro d rfl
    simp only [go_sem, contS_seq, reduceIte, reduceCtorEq, Nat.reduceEqDiff, Nat.reduceAdd, Nat.reduceBEq, Nat.reduceBNe, Int.reduceLE, Int.reduceLT, Int.reduceToNat, Int.reduceEq, Nat.reduceLeDiff, Nat.reduceLT, Nat.reducePow, Nat.reduceDiv, Nat.reduceMod, hw]
    refine Gif.mk (fun h => ?_) (fun h => ?_)
    · rw [h, Bool.true_and] at hr
      refine ⟨l.length - (i + 1), _, ?_, ?_, i + 1, rfl, ?_, hr, rfl⟩
      · omega
      · exact Weak.less (by simp [lessL, lk]) (by simp [lessL, lk]) (by simp [lessL, lk]) rfl
      · omega
    · rw [h, Bool.false_and] at hr
      simp only [retK, fullK, iterK, resD, resA, AOp.ex, St.ev, Option.map_some, Option.bind_some, St.get, lk, reduceIte, Nat.reduceEqDiff, Option.getD_some, oneD, List.getElem?_cons_zero, List.getElem?_cons_succ, List.drop_zero, List.drop_succ_cons, List.take_succ_cons, List.take_zero, List.length_cons, List.length_nil, Nat.zero_add, Nat.reduceAdd, Nat.le_refl, Nat.reduceLeDiff, D.pub, D.pubs, Tryz.results103]
      exact ⟨_, rfl, rfl, congrArg bln hr⟩
  · have hlt' : ((i : Int) < (l.length : Int)) = False := eq_false (by omega)
    rw [List.drop_eq_nil_of_le (by omega), List.drop_eq_nil_of_le (by omega), eqf] at hr
    simp only [go_sem, contS_seq, reduceIte, reduceCtorEq, Nat.reduceEqDiff, Nat.reduceAdd, Nat.reduceBEq, Nat.reduceBNe, Int.reduceLE, Int.reduceLT, Int.reduceToNat, Int.reduceEq, Nat.reduceLeDiff, Nat.reduceLT, Nat.reducePow, Nat.reduceDiv, Nat.reduceMod, rows_len, hlt']
    simp only [retK, fullK, iterK, resD, resA, AOp.ex, St.ev, Option.map_some, Option.bind_some, St.get, lk, reduceIte, Nat.reduceEqDiff, Option.getD_some, oneD, List.getElem?_cons_zero, List.getElem?_cons_succ, List.drop_zero, List.drop_succ_cons, List.take_succ_cons, List.take_zero, List.length_cons, List.length_nil, Nat.zero_add, Nat.reduceAdd, Nat.le_refl, Nat.reduceLeDiff, D.pub, D.pubs, Tryz.results103]
    exact ⟨_, rfl, rfl, congrArg bln hr⟩

theorem EqualFunc_Rule (q : ARule → ARule → Bool) (f : FuncId) (he : Enters Tryz.prog f) (l m : List ARule) (hl : l.length ≤ 1000000) (hm : m.length ≤ 1000000) (hp : ∀ x ∈ l, ∀ y ∈ m, Pure Tryz.prog f [ARule.d x, ARule.d y] (fun d => d = bln (q x y))) :
    Pure Tryz.prog 105 [.pd (.slice (rows ARule.pd l)), .pd (.slice (rows ARule.pd m)), .fn f []] (fun d => d = bln (eqf q l m)) := by
  refine pure_of_run follows an_z54 Tryz.func105 rfl ok_z54 dst_z54 (by simp [Tryz.ntmps105]) ?_
  rw [run_start]
  simp only [ac_z54, go_sem, contS_seq, reduceIte, reduceCtorEq, Nat.reduceEqDiff, Nat.reduceAdd, Nat.reduceBEq, Nat.reduceBNe, Int.reduceLE, Int.reduceLT, Int.reduceToNat, Int.reduceEq, Nat.reduceLeDiff, Nat.reduceLT, Nat.reducePow, Nat.reduceDiv, Nat.reduceMod, rows_len]
  refine GifP.mk (fun hn => ?_) (fun hn => ?_)
  rotate_left
  · simp only [retK, fullK, iterK, resD, resA, AOp.ex, St.ev, Option.map_some, Option.bind_some, St.get, lk, reduceIte, Nat.reduceEqDiff, Option.getD_some, oneD, List.getElem?_cons_zero, List.getElem?_cons_succ, List.drop_zero, List.drop_succ_cons, List.take_succ_cons, List.take_zero, List.length_cons, List.length_nil, Nat.zero_add, Nat.reduceAdd, Nat.le_refl, Nat.reduceLeDiff, D.pub, D.pubs, Tryz.results105]
    exact ⟨_, rfl, rfl, congrArg bln (eqf_len q (by omega)).symm⟩
  have hlm : l.length = m.length := by omega
  refine loopS (fun k st => ∃ i : Nat, k = l.length - i ∧ i ≤ l.length ∧ eqf q (l.drop i) (m.drop i) = eqf q l m ∧
    st = ⟨[(1, .pd (.slice (rows ARule.pd m))), (2, .fn f []), (15, .pd (.slice (rows ARule.pd l))), (16, int l.length), (17, int i)], [], [], .no⟩) l.length _ (Weak.refl _ _) ⟨0, rfl, Nat.zero_le _, rfl, rfl⟩ ?_
  rintro k st ⟨i, rfl, hi, hr, rfl⟩
  by_cases hlt : i < l.length
  · obtain ⟨x, hx⟩ := at_lt hlt
    obtain ⟨y, hy⟩ := at_lt (show i < m.length by omega)
    have hlt' : ((i : Int) < (l.length : Int)) = True := eq_true (by omega)
    have hw := i64_succ (show i < 1000000000 by omega)
    rw [drop_at hx, drop_at hy, eqf] at hr
    simp only [go_sem, contS_seq, reduceIte, reduceCtorEq, Nat.reduceEqDiff, Nat.reduceAdd, Nat.reduceBEq, Nat.reduceBNe, Int.reduceLE, Int.reduceLT, Int.reduceToNat, Int.reduceEq, Nat.reduceLeDiff, Nat.reduceLT, Nat.reducePow, Nat.reduceDiv, Nat.reduceMod, hlt', rows_get hx, rows_get hy, hw]
    refine (hp x (List.mem_of_getElem? hx) y (List.mem_of_getElem? hy)).callW he _ rfl rfl ?_
    rintro d rfl
    simp only [go_sem, contS_seq, reduceIte, reduceCtorEq, Nat.reduceEqDiff, Nat.reduceAdd, Nat.reduceBEq, Nat.reduceBNe, Int.reduceLE, Int.reduceLT, Int.reduceToNat, Int.reduceEq, Nat.reduceLeDiff, Nat.reduceLT, Nat.reducePow, Nat.reduceDiv, Nat.reduceMod, hw]
    refine Gif.mk (fun h => ?_) (fun h => ?_)
    · rw [h, Bool.true_and] at hr
      refine ⟨l.length - (i + 1), _, ?_, ?_, i + 1, rfl, ?_, hr, rfl⟩
      · omega
      · exact Weak.less (by simp [lessL, lk]) (by simp [lessL, lk]) (by simp [lessL, lk]) rfl
      · omega
    · rw [h, Bool.false_and] at hr
      simp only [retK, fullK, iterK, resD, resA, AOp.ex, St.ev, Option.map_some, Option.bind_some, St.get, lk, reduceIte, Nat.reduceEqDiff, Option.getD_some, oneD, List.getElem?_cons_zero, List.getElem?_cons_succ, List.drop_zero, List.drop_succ_cons, List.take_succ_cons, List.take_zero, List.length_cons, List.length_nil, Nat.zero_add, Nat.reduceAdd, Nat.le_refl, Nat.reduceLeDiff, D.pub, D.pubs, Tryz.results105]
      exact ⟨_, rfl, rfl, congrArg bln hr⟩
  · have hlt' : ((i : Int) < (l.length : Int)) = False := eq_false (by omega)
    rw [List.drop_eq_nil_of_le (by omega), List.drop_eq_nil_of_le (by omega), eqf] at hr
    simp only [go_sem, contS_seq, reduceIte, reduceCtorEq, Nat.reduceEqDiff, Nat.reduceAdd, Nat.reduceBEq, Nat.reduceBNe, Int.reduceLE, Int.reduceLT, Int.reduceToNat, Int.reduceEq, Nat.reduceLeDiff, Nat.reduceLT, Nat.reducePow, Nat.reduceDiv, Nat.reduceMod, rows_len, hlt']
    simp only [retK, fullK, iterK, resD, resA, AOp.ex, St.ev, Option.map_some, Option.bind_some, St.get, lk, reduceIte, Nat.reduceEqDiff, Option.getD_some, oneD, List.getElem?_cons_zero, List.getElem?_cons_succ, List.drop_zero, List.drop_succ_cons, List.take_succ_cons, List.take_zero, List.length_cons, List.length_nil, Nat.zero_add, Nat.reduceAdd, Nat.le_refl, Nat.reduceLeDiff, D.pub, D.pubs, Tryz.results105]
    exact ⟨_, rfl, rfl, congrArg bln hr⟩

theorem EqualFunc_Match (q : AMatch → AMatch → Bool) (f : FuncId) (he : Enters Tryz.prog f) (l m : List AMatch) (hl : l.length ≤ 1000000) (hm : m.length ≤ 1000000) (hp : ∀ x ∈ l, ∀ y ∈ m, Pure Tryz.prog f [AMatch.d x, AMatch.d y] (fun d => d = bln (q x y))) :
    Pure Tryz.prog 153 [.pd (.slice (rows AMatch.pd l)), .pd (.slice (rows AMatch.pd m)), .fn f []] (fun d => d = bln (eqf q l m)) := by
  refine pure_of_run follows an_z73 Tryz.func153 rfl ok_z73 dst_z73 (by simp [Tryz.ntmps153]) ?_
  rw [run_start]
  simp only [ac_z73, go_sem, contS_seq, reduceIte, reduceCtorEq, Nat.reduceEqDiff, Nat.reduceAdd, Nat.reduceBEq, Nat.reduceBNe, Int.reduceLE, Int.reduceLT, Int.reduceToNat, Int.reduceEq, Nat.reduceLeDiff, Nat.reduceLT, Nat.reducePow, Nat.reduceDiv, Nat.reduceMod, rows_len]
  refine GifP.mk (fun hn => ?_) (fun hn => ?_)
  rotate_left
  · simp only [retK, fullK, iterK, resD, resA, AOp.ex, St.ev, Option.map_some, Option.bind_some, St.get, lk, reduceIte, Nat.reduceEqDiff, Option.getD_some, oneD, List.getElem?_cons_zero, List.getElem?_cons_succ, List.drop_zero, List.drop_succ_cons, List.take_succ_cons, List.take_zero, List.length_cons, List.length_nil, Nat.zero_add, Nat.reduceAdd, Nat.le_refl, Nat.reduceLeDiff, D.pub, D.pubs, Tryz.results153]
    exact ⟨_, rfl, rfl, congrArg bln (eqf_len q (by omega)).symm⟩
  have hlm : l.length = m.length := by omega
  refine loopS (fun k st => ∃ i : Nat, k = l.length - i ∧ i ≤ l.length ∧ eqf q (l.drop i) (m.drop i) = eqf q l m ∧
    st = ⟨[(1, .pd (.slice (rows AMatch.pd m))), (2, .fn f []), (15, .pd (.slice (rows AMatch.pd l))), (16, int l.length), (17, int i)], [], [], .no⟩) l.length _ (Weak.refl _ _) ⟨0, rfl, Nat.zero_le _, rfl, rfl⟩ ?_
  rintro k st ⟨i, rfl, hi, hr, rfl⟩
  by_cases hlt : i < l.length
  · obtain ⟨x, hx⟩ := at_lt hlt
    obtain ⟨y, hy⟩ := at_lt (show i < m.length by omega)
    have hlt' : ((i : Int) < (l.length : Int)) = True := eq_true (by omega)
    have hw := i64_succ (show i < 1000000000 by omega)
    rw [drop_at hx, drop_at hy, eqf] at hr
    simp only [go_sem, contS_seq, reduceIte, reduceCtorEq, Nat.reduceEqDiff, Nat.reduceAdd, Nat.reduceBEq, Nat.reduceBNe, Int.reduceLE, Int.reduceLT, Int.reduceToNat, Int.reduceEq, Nat.reduceLeDiff, Nat.reduceLT, Nat.reducePow, Nat.reduceDiv, Nat.reduceMod, hlt', rows_get hx, rows_get hy, hw]
    refine (hp x (List.mem_of_getElem? hx) y (List.mem_of_getElem? hy)).callW he _ rfl rfl ?_
    rintro d rfl
    simp only [go_sem, contS_seq, reduceIte, reduceCtorEq, Nat.reduceEqDiff, Nat.reduceAdd, Nat.reduceBEq, Nat.reduceBNe, Int.reduceLE, Int.reduceLT, Int.reduceToNat, Int.reduceEq, Nat.reduceLeDiff, Nat.reduceLT, Nat.reducePow, Nat.reduceDiv, Nat.reduceMod, hw]
    refine Gif.mk (fun h => ?_) (fun h => ?_)
    · rw [h, Bool.true_and] at hr
      refine ⟨l.length - (i + 1), _, ?_, ?_, i + 1, rfl, ?_, hr, rfl⟩
      · omega
      · exact Weak.less (by simp [lessL, lk]) (by simp [lessL, lk]) (by simp [lessL, lk]) rfl
      · omega
    · rw [h, Bool.false_and] at hr
      simp only [retK, fullK, iterK, resD, resA, AOp.ex, St.ev, Option.map_some, Option.bind_some, St.get, lk, reduceIte, Nat.reduceEqDiff, Option.getD_some, oneD, List.getElem?_cons_zero, List.getElem?_cons_succ, List.drop_zero, List.drop_succ_cons, List.take_succ_cons, List.take_zero, List.length_cons, List.length_nil, Nat.zero_add, Nat.reduceAdd, Nat.le_refl, Nat.reduceLeDiff, D.pub, D.pubs, Tryz.results153]
      exact ⟨_, rfl, rfl, congrArg bln hr⟩
  · have hlt' : ((i : Int) < (l.length : Int)) = False := eq_false (by omega)
    rw [List.drop_eq_nil_of_le (by omega), List.drop_eq_nil_of_le (by omega), eqf] at hr
    simp only [go_sem, contS_seq, reduceIte, reduceCtorEq, Nat.reduceEqDiff, Nat.reduceAdd, Nat.reduceBEq, Nat.reduceBNe, Int.reduceLE, Int.reduceLT, Int.reduceToNat, Int.reduceEq, Nat.reduceLeDiff, Nat.reduceLT, Nat.reducePow, Nat.reduceDiv, Nat.reduceMod, rows_len, hlt']
    simp only [retK, fullK, iterK, resD, resA, AOp.ex, St.ev, Option.map_some, Option.bind_some, St.get, lk, reduceIte, Nat.reduceEqDiff, Option.getD_some, oneD, List.getElem?_cons_zero, List.getElem?_cons_succ, List.drop_zero, List.drop_succ_cons, List.take_succ_cons, List.take_zero, List.length_cons, List.length_nil, Nat.zero_add, Nat.reduceAdd, Nat.le_refl, Nat.reduceLeDiff, D.pub, D.pubs, Tryz.results153]
    exact ⟨_, rfl, rfl, congrArg bln hr⟩

theorem EqualFunc_Need (q : ANeed → ANeed → Bool) (f : FuncId) (he : Enters Tryz.prog f) (l m : List ANeed) (hl : l.length ≤ 1000000) (hm : m.length ≤ 1000000) (hp : ∀ x ∈ l, ∀ y ∈ m, Pure Tryz.prog f [ANeed.d x, ANeed.d y] (fun d => d = bln (q x y))) :
    Pure Tryz.prog 194 [.pd (.slice (rows ANeed.pd l)), .pd (.slice (rows ANeed.pd m)), .fn f []] (fun d => d = bln (eqf q l m)) := by
  refine pure_of_run follows an_z89 Tryz.func194 rfl ok_z89 dst_z89 (by simp [Tryz.ntmps194]) ?_
  rw [run_start]
  simp only [ac_z89, go_sem, contS_seq, reduceIte, reduceCtorEq, Nat.reduceEqDiff, Nat.reduceAdd, Nat.reduceBEq, Nat.reduceBNe, Int.reduceLE, Int.reduceLT, Int.reduceToNat, Int.reduceEq, Nat.reduceLeDiff, Nat.reduceLT, Nat.reducePow, Nat.reduceDiv, Nat.reduceMod, rows_len]
  refine GifP.mk (fun hn => ?_) (fun hn => ?_)
  rotate_left
  · simp only [retK, fullK, iterK, resD, resA, AOp.ex, St.ev, Option.map_some, Option.bind_some, St.get, lk, reduceIte, Nat.reduceEqDiff, Option.getD_some, oneD, List.getElem?_cons_zero, List.getElem?_cons_succ, List.drop_zero, List.drop_succ_cons, List.take_succ_cons, List.take_zero, List.length_cons, List.length_nil, Nat.zero_add, Nat.reduceAdd, Nat.le_refl, Nat.reduceLeDiff, D.pub, D.pubs, Tryz.results194]
    exact ⟨_, rfl, rfl, congrArg bln (eqf_len q (by omega)).symm⟩
  have hlm : l.length = m.length := by omega
  refine loopS (fun k st => ∃ i : Nat, k = l.length - i ∧ i ≤ l.length ∧ eqf q (l.drop i) (m.drop i) = eqf q l m ∧
    st = ⟨[(1, .pd (.slice (rows ANeed.pd m))), (2, .fn f []), (15, .pd (.slice (rows ANeed.pd l))), (16, int l.length), (17, int i)], [], [], .no⟩) l.length _ (Weak.refl _ _) ⟨0, rfl, Nat.zero_le _, rfl, rfl⟩ ?_
  rintro k st ⟨i, rfl, hi, hr, rfl⟩
  by_cases hlt : i < l.length
  · obtain ⟨x, hx⟩ := at_lt hlt
    obtain ⟨y, hy⟩ := at_lt (show i < m.length by omega)
    have hlt' : ((i : Int) < (l.length : Int)) = True := eq_true (by omega)
    have hw := i64_succ (show i < 1000000000 by omega)
    rw [drop_at hx, drop_at hy, eqf] at hr
    simp only [go_sem, contS_seq, reduceIte, reduceCtorEq, Nat.reduceEqDiff, Nat.reduceAdd, Nat.reduceBEq, Nat.reduceBNe, Int.reduceLE, Int.reduceLT, Int.reduceToNat, Int.reduceEq, Nat.reduceLeDiff, Nat.reduceLT, Nat.reducePow, Nat.reduceDiv, Nat.reduceMod, hlt', rows_get hx, rows_get hy, hw]
    refine (hp x (List.mem_of_getElem? hx) y (List.mem_of_getElem? hy)).callW he _ rfl rfl ?_
    rintro d rfl
    simp only [go_sem, contS_seq, reduceIte, reduceCtorEq, Nat.reduceEqDiff, Nat.reduceAdd, Nat.reduceBEq, Nat.reduceBNe, Int.reduceLE, Int.reduceLT, Int.reduceToNat, Int.reduceEq, Nat.reduceLeDiff, Nat.reduceLT, Nat.reducePow, Nat.reduceDiv, Nat.reduceMod, hw]
    refine Gif.mk (fun h => ?_) (fun h => ?_)
    · rw [h, Bool.true_and] at hr
      refine ⟨l.length - (i + 1), _, ?_, ?_, i + 1, rfl, ?_, hr, rfl⟩
      · omega
      · exact Weak.less (by simp [lessL, lk]) (by simp [lessL, lk]) (by simp [lessL, lk]) rfl
      · omega
    · rw [h, Bool.false_and] at hr
      simp only [retK, fullK, iterK, resD, resA, AOp.ex, St.ev, Option.map_some, Option.bind_some, St.get, lk, reduceIte, Nat.reduceEqDiff, Option.getD_some, oneD, List.getElem?_cons_zero, List.getElem?_cons_succ, List.drop_zero, List.drop_succ_cons, List.take_succ_cons, List.take_zero, List.length_cons, List.length_nil, Nat.zero_add, Nat.reduceAdd, Nat.le_refl, Nat.reduceLeDiff, D.pub, D.pubs, Tryz.results194]
      exact ⟨_, rfl, rfl, congrArg bln hr⟩
  · have hlt' : ((i : Int) < (l.length : Int)) = False := eq_false (by omega)
    rw [List.drop_eq_nil_of_le (by omega), List.drop_eq_nil_of_le (by omega), eqf] at hr
    simp only [go_sem, contS_seq, reduceIte, reduceCtorEq, Nat.reduceEqDiff, Nat.reduceAdd, Nat.reduceBEq, Nat.reduceBNe, Int.reduceLE, Int.reduceLT, Int.reduceToNat, Int.reduceEq, Nat.reduceLeDiff, Nat.reduceLT, Nat.reducePow, Nat.reduceDiv, Nat.reduceMod, rows_len, hlt']
    simp only [retK, fullK, iterK, resD, resA, AOp.ex, St.ev, Option.map_some, Option.bind_some, St.get, lk, reduceIte, Nat.reduceEqDiff, Option.getD_some, oneD, List.getElem?_cons_zero, List.getElem?_cons_succ, List.drop_zero, List.drop_succ_cons, List.take_succ_cons, List.take_zero, List.length_cons, List.length_nil, Nat.zero_add, Nat.reduceAdd, Nat.le_refl, Nat.reduceLeDiff, D.pub, D.pubs, Tryz.results194]
    exact ⟨_, rfl, rfl, congrArg bln hr⟩

end Go.Proofs.YtbpgebfejebmlaaGreatDoor
