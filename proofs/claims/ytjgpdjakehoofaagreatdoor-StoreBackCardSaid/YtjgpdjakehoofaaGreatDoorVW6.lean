/- Texts of the prover's, joined: G5 F6 F7 JA J2 F8 F9 FC JB J3 J4 J8 J9 FB FA E7 FF FH FL J1. -/
import Derived.Test.YtjgpdjakehoofaaGreatDoorVW5
import Derived.Lib.DecodeN
import Derived.Lib.IndexLaws

namespace Go.Proofs.YtjgpdjakehoofaaGreatDoor
open Go Go.RowKit
set_option linter.unusedSimpArgs false
set_option linter.unusedVariables false
set_option maxRecDepth 100000

theorem Equal_Pair (l m : List APair) (hl : l.length ≤ 1000000) (hm : m.length ≤ 1000000) :
 Pure Tryz.prog 99 [.pd (.slice (rows APair.pd l)), .pd (.slice (rows APair.pd m))] (fun d => d = bln (decide (l = m))) := by
 refine pure_of_run follows an_zfsc3 Tryz.func99 rfl ok_zfsc3.1 ok_zfsc3.2 (by simp [Tryz.ntmps99]) ?_
 rw [run_start]
 simp only [ac_zfsc3, go_sem, contS_seq, simprocAttr, go_sem, rows_len]
 refine GifP.mk (fun hn => ?_) (fun hn => ?_)
 rotate_left
 ·simp only [retK, resD, retL, oneD, simprocAttr, Tryz.results99]
  exact ⟨_, rfl, rfl, congrArg bln (decide_eq_false (fun h => hn (by rw [h]))).symm⟩
 have hlm : l.length = m.length := by omega
 refine loopS (fun k st => ∃ i : Nat, k = l.length - i ∧ i ≤ l.length ∧ decide (l.drop i = m.drop i) = decide (l = m) ∧
  st = ⟨[(0, .pd (.slice (rows APair.pd l))), (1, .pd (.slice (rows APair.pd m))), (12, int l.length), (13, int i)], [], [], .no⟩) l.length _ (Weak.refl _ _) ⟨0, rfl, Nat.zero_le _, rfl, rfl⟩ ?_
 rintro k st ⟨i, rfl, hi, hr, rfl⟩
 by_cases hlt : i < l.length
 ·obtain ⟨x, hx⟩ := at_lt hlt
  obtain ⟨y, hy⟩ := at_lt (show i < m.length by omega)
  have hlt' : ((i : Int) < (l.length : Int)) = True := eq_true (by omega)
  have hw := i64_succ (show i < 1000000000 by omega)
  rw [drop_at hx, drop_at hy] at hr
  simp only [go_sem, contS_seq, simprocAttr, go_sem, hlt', rows_get hx, rows_get hy, eqVs, eqV, eq_Pair, hw]
  refine GifP.mk (fun h => ?_) (fun h => ?_)
  ·subst h
   simp only [List.cons.injEq, true_and] at hr
   refine ⟨l.length - (i + 1), _, ?_, ?_, i + 1, rfl, ?_, hr, rfl⟩
   ·omega
   ·exact lessA
   ·omega
  ·simp only [retK, resD, retL, oneD, simprocAttr, Tryz.results99]
   rw [decide_eq_false (fun e => h (List.cons.inj e).1)] at hr
   exact ⟨_, rfl, rfl, congrArg bln hr⟩
 ·have hlt' : ((i : Int) < (l.length : Int)) = False := eq_false (by omega)
  rw [List.drop_eq_nil_of_le (by omega), List.drop_eq_nil_of_le (by omega)] at hr
  simp only [go_sem, contS_seq, simprocAttr, go_sem, rows_len, hlt']
  simp only [retK, resD, retL, oneD, simprocAttr, Tryz.results99]
  exact ⟨_, rfl, rfl, congrArg bln (by simpa using hr)⟩

theorem Equal_int (l m : List Int) (hl : l.length ≤ 1000000) (hm : m.length ≤ 1000000) :
 Pure Tryz.prog 100 [.pd (.slice (rows cInt l)), .pd (.slice (rows cInt m))] (fun d => d = bln (decide (l = m))) := by
 refine pure_of_run follows an_zu266 Tryz.func100 rfl ok_zu266.1 ok_zu266.2 (by simp [Tryz.ntmps100]) ?_
 rw [run_start]
 simp only [ac_zu266, go_sem, contS_seq, simprocAttr, go_sem, rows_len]
 refine GifP.mk (fun hn => ?_) (fun hn => ?_)
 rotate_left
 ·simp only [retK, resD, retL, oneD, simprocAttr, Tryz.results100]
  exact ⟨_, rfl, rfl, congrArg bln (decide_eq_false (fun h => hn (by rw [h]))).symm⟩
 have hlm : l.length = m.length := by omega
 refine loopS (fun k st => ∃ i : Nat, k = l.length - i ∧ i ≤ l.length ∧ decide (l.drop i = m.drop i) = decide (l = m) ∧
  st = ⟨[(0, .pd (.slice (rows cInt l))), (1, .pd (.slice (rows cInt m))), (12, int l.length), (13, int i)], [], [], .no⟩) l.length _ (Weak.refl _ _) ⟨0, rfl, Nat.zero_le _, rfl, rfl⟩ ?_
 rintro k st ⟨i, rfl, hi, hr, rfl⟩
 by_cases hlt : i < l.length
 ·obtain ⟨x, hx⟩ := at_lt hlt
  obtain ⟨y, hy⟩ := at_lt (show i < m.length by omega)
  have hlt' : ((i : Int) < (l.length : Int)) = True := eq_true (by omega)
  have hw := i64_succ (show i < 1000000000 by omega)
  rw [drop_at hx, drop_at hy] at hr
  simp only [go_sem, contS_seq, simprocAttr, go_sem, hlt', rows_get hx, rows_get hy, eqVs, eqV, eq_int, hw]
  refine GifP.mk (fun h => ?_) (fun h => ?_)
  ·subst h
   simp only [List.cons.injEq, true_and] at hr
   refine ⟨l.length - (i + 1), _, ?_, ?_, i + 1, rfl, ?_, hr, rfl⟩
   ·omega
   ·exact lessA
   ·omega
  ·simp only [retK, resD, retL, oneD, simprocAttr, Tryz.results100]
   rw [decide_eq_false (fun e => h (List.cons.inj e).1)] at hr
   exact ⟨_, rfl, rfl, congrArg bln hr⟩
 ·have hlt' : ((i : Int) < (l.length : Int)) = False := eq_false (by omega)
  rw [List.drop_eq_nil_of_le (by omega), List.drop_eq_nil_of_le (by omega)] at hr
  simp only [go_sem, contS_seq, simprocAttr, go_sem, rows_len, hlt']
  simp only [retK, resD, retL, oneD, simprocAttr, Tryz.results100]
  exact ⟨_, rfl, rfl, congrArg bln (by simpa using hr)⟩

theorem Equal_string (l m : List ByteArray) (hl : l.length ≤ 1000000) (hm : m.length ≤ 1000000) :
 Pure Tryz.prog 101 [.pd (.slice (rows cStr l)), .pd (.slice (rows cStr m))] (fun d => d = bln (decide (l = m))) := by
 refine pure_of_run follows an_zdvt9 Tryz.func101 rfl ok_zdvt9.1 ok_zdvt9.2 (by simp [Tryz.ntmps101]) ?_
 rw [run_start]
 simp only [ac_zdvt9, go_sem, contS_seq, simprocAttr, go_sem, rows_len]
 refine GifP.mk (fun hn => ?_) (fun hn => ?_)
 rotate_left
 ·simp only [retK, resD, retL, oneD, simprocAttr, Tryz.results101]
  exact ⟨_, rfl, rfl, congrArg bln (decide_eq_false (fun h => hn (by rw [h]))).symm⟩
 have hlm : l.length = m.length := by omega
 refine loopS (fun k st => ∃ i : Nat, k = l.length - i ∧ i ≤ l.length ∧ decide (l.drop i = m.drop i) = decide (l = m) ∧
  st = ⟨[(0, .pd (.slice (rows cStr l))), (1, .pd (.slice (rows cStr m))), (12, int l.length), (13, int i)], [], [], .no⟩) l.length _ (Weak.refl _ _) ⟨0, rfl, Nat.zero_le _, rfl, rfl⟩ ?_
 rintro k st ⟨i, rfl, hi, hr, rfl⟩
 by_cases hlt : i < l.length
 ·obtain ⟨x, hx⟩ := at_lt hlt
  obtain ⟨y, hy⟩ := at_lt (show i < m.length by omega)
  have hlt' : ((i : Int) < (l.length : Int)) = True := eq_true (by omega)
  have hw := i64_succ (show i < 1000000000 by omega)
  rw [drop_at hx, drop_at hy] at hr
  simp only [go_sem, contS_seq, simprocAttr, go_sem, hlt', rows_get hx, rows_get hy, eqVs, eqV, eq_string, hw]
  refine GifP.mk (fun h => ?_) (fun h => ?_)
  ·subst h
   simp only [List.cons.injEq, true_and] at hr
   refine ⟨l.length - (i + 1), _, ?_, ?_, i + 1, rfl, ?_, hr, rfl⟩
   ·omega
   ·exact lessA
   ·omega
  ·simp only [retK, resD, retL, oneD, simprocAttr, Tryz.results101]
   rw [decide_eq_false (fun e => h (List.cons.inj e).1)] at hr
   exact ⟨_, rfl, rfl, congrArg bln hr⟩
 ·have hlt' : ((i : Int) < (l.length : Int)) = False := eq_false (by omega)
  rw [List.drop_eq_nil_of_le (by omega), List.drop_eq_nil_of_le (by omega)] at hr
  simp only [go_sem, contS_seq, simprocAttr, go_sem, rows_len, hlt']
  simp only [retK, resD, retL, oneD, simprocAttr, Tryz.results101]
  exact ⟨_, rfl, rfl, congrArg bln (by simpa using hr)⟩

theorem Equal_Parent (l m : List AParent) (hl : l.length ≤ 1000000) (hm : m.length ≤ 1000000) :
 Pure Tryz.prog 102 [.pd (.slice (rows AParent.pd l)), .pd (.slice (rows AParent.pd m))] (fun d => d = bln (decide (l = m))) := by
 refine pure_of_run follows an_zj0mp Tryz.func102 rfl ok_zj0mp.1 ok_zj0mp.2 (by simp [Tryz.ntmps102]) ?_
 rw [run_start]
 simp only [ac_zj0mp, go_sem, contS_seq, simprocAttr, go_sem, rows_len]
 refine GifP.mk (fun hn => ?_) (fun hn => ?_)
 rotate_left
 ·simp only [retK, resD, retL, oneD, simprocAttr, Tryz.results102]
  exact ⟨_, rfl, rfl, congrArg bln (decide_eq_false (fun h => hn (by rw [h]))).symm⟩
 have hlm : l.length = m.length := by omega
 refine loopS (fun k st => ∃ i : Nat, k = l.length - i ∧ i ≤ l.length ∧ decide (l.drop i = m.drop i) = decide (l = m) ∧
  st = ⟨[(0, .pd (.slice (rows AParent.pd l))), (1, .pd (.slice (rows AParent.pd m))), (12, int l.length), (13, int i)], [], [], .no⟩) l.length _ (Weak.refl _ _) ⟨0, rfl, Nat.zero_le _, rfl, rfl⟩ ?_
 rintro k st ⟨i, rfl, hi, hr, rfl⟩
 by_cases hlt : i < l.length
 ·obtain ⟨x, hx⟩ := at_lt hlt
  obtain ⟨y, hy⟩ := at_lt (show i < m.length by omega)
  have hlt' : ((i : Int) < (l.length : Int)) = True := eq_true (by omega)
  have hw := i64_succ (show i < 1000000000 by omega)
  rw [drop_at hx, drop_at hy] at hr
  simp only [go_sem, contS_seq, simprocAttr, go_sem, hlt', rows_get hx, rows_get hy, eqVs, eqV, eq_Parent, hw]
  refine GifP.mk (fun h => ?_) (fun h => ?_)
  ·subst h
   simp only [List.cons.injEq, true_and] at hr
   refine ⟨l.length - (i + 1), _, ?_, ?_, i + 1, rfl, ?_, hr, rfl⟩
   ·omega
   ·exact lessA
   ·omega
  ·simp only [retK, resD, retL, oneD, simprocAttr, Tryz.results102]
   rw [decide_eq_false (fun e => h (List.cons.inj e).1)] at hr
   exact ⟨_, rfl, rfl, congrArg bln hr⟩
 ·have hlt' : ((i : Int) < (l.length : Int)) = False := eq_false (by omega)
  rw [List.drop_eq_nil_of_le (by omega), List.drop_eq_nil_of_le (by omega)] at hr
  simp only [go_sem, contS_seq, simprocAttr, go_sem, rows_len, hlt']
  simp only [retK, resD, retL, oneD, simprocAttr, Tryz.results102]
  exact ⟨_, rfl, rfl, congrArg bln (by simpa using hr)⟩

theorem Equal_Side (l m : List ASide) (hl : l.length ≤ 1000000) (hm : m.length ≤ 1000000) :
 Pure Tryz.prog 103 [.pd (.slice (rows ASide.pd l)), .pd (.slice (rows ASide.pd m))] (fun d => d = bln (decide (l = m))) := by
 refine pure_of_run follows an_zlr2h Tryz.func103 rfl ok_zlr2h.1 ok_zlr2h.2 (by simp [Tryz.ntmps103]) ?_
 rw [run_start]
 simp only [ac_zlr2h, go_sem, contS_seq, simprocAttr, go_sem, rows_len]
 refine GifP.mk (fun hn => ?_) (fun hn => ?_)
 rotate_left
 ·simp only [retK, resD, retL, oneD, simprocAttr, Tryz.results103]
  exact ⟨_, rfl, rfl, congrArg bln (decide_eq_false (fun h => hn (by rw [h]))).symm⟩
 have hlm : l.length = m.length := by omega
 refine loopS (fun k st => ∃ i : Nat, k = l.length - i ∧ i ≤ l.length ∧ decide (l.drop i = m.drop i) = decide (l = m) ∧
  st = ⟨[(0, .pd (.slice (rows ASide.pd l))), (1, .pd (.slice (rows ASide.pd m))), (12, int l.length), (13, int i)], [], [], .no⟩) l.length _ (Weak.refl _ _) ⟨0, rfl, Nat.zero_le _, rfl, rfl⟩ ?_
 rintro k st ⟨i, rfl, hi, hr, rfl⟩
 by_cases hlt : i < l.length
 ·obtain ⟨x, hx⟩ := at_lt hlt
  obtain ⟨y, hy⟩ := at_lt (show i < m.length by omega)
  have hlt' : ((i : Int) < (l.length : Int)) = True := eq_true (by omega)
  have hw := i64_succ (show i < 1000000000 by omega)
  rw [drop_at hx, drop_at hy] at hr
  simp only [go_sem, contS_seq, simprocAttr, go_sem, hlt', rows_get hx, rows_get hy, eqVs, eqV, eq_Side, hw]
  refine GifP.mk (fun h => ?_) (fun h => ?_)
  ·subst h
   simp only [List.cons.injEq, true_and] at hr
   refine ⟨l.length - (i + 1), _, ?_, ?_, i + 1, rfl, ?_, hr, rfl⟩
   ·omega
   ·exact lessA
   ·omega
  ·simp only [retK, resD, retL, oneD, simprocAttr, Tryz.results103]
   rw [decide_eq_false (fun e => h (List.cons.inj e).1)] at hr
   exact ⟨_, rfl, rfl, congrArg bln hr⟩
 ·have hlt' : ((i : Int) < (l.length : Int)) = False := eq_false (by omega)
  rw [List.drop_eq_nil_of_le (by omega), List.drop_eq_nil_of_le (by omega)] at hr
  simp only [go_sem, contS_seq, simprocAttr, go_sem, rows_len, hlt']
  simp only [retK, resD, retL, oneD, simprocAttr, Tryz.results103]
  exact ⟨_, rfl, rfl, congrArg bln (by simpa using hr)⟩

theorem Equal_Filter (l m : List AFilter) (hl : l.length ≤ 1000000) (hm : m.length ≤ 1000000) :
 Pure Tryz.prog 155 [.pd (.slice (rows AFilter.pd l)), .pd (.slice (rows AFilter.pd m))] (fun d => d = bln (decide (l = m))) := by
 refine pure_of_run follows an_z7uuy Tryz.func155 rfl ok_z7uuy.1 ok_z7uuy.2 (by simp [Tryz.ntmps155]) ?_
 rw [run_start]
 simp only [ac_z7uuy, go_sem, contS_seq, simprocAttr, go_sem, rows_len]
 refine GifP.mk (fun hn => ?_) (fun hn => ?_)
 rotate_left
 ·simp only [retK, resD, retL, oneD, simprocAttr, Tryz.results155]
  exact ⟨_, rfl, rfl, congrArg bln (decide_eq_false (fun h => hn (by rw [h]))).symm⟩
 have hlm : l.length = m.length := by omega
 refine loopS (fun k st => ∃ i : Nat, k = l.length - i ∧ i ≤ l.length ∧ decide (l.drop i = m.drop i) = decide (l = m) ∧
  st = ⟨[(0, .pd (.slice (rows AFilter.pd l))), (1, .pd (.slice (rows AFilter.pd m))), (12, int l.length), (13, int i)], [], [], .no⟩) l.length _ (Weak.refl _ _) ⟨0, rfl, Nat.zero_le _, rfl, rfl⟩ ?_
 rintro k st ⟨i, rfl, hi, hr, rfl⟩
 by_cases hlt : i < l.length
 ·obtain ⟨x, hx⟩ := at_lt hlt
  obtain ⟨y, hy⟩ := at_lt (show i < m.length by omega)
  have hlt' : ((i : Int) < (l.length : Int)) = True := eq_true (by omega)
  have hw := i64_succ (show i < 1000000000 by omega)
  rw [drop_at hx, drop_at hy] at hr
  simp only [go_sem, contS_seq, simprocAttr, go_sem, hlt', rows_get hx, rows_get hy, eqVs, eqV, eq_Filter, hw]
  refine GifP.mk (fun h => ?_) (fun h => ?_)
  ·subst h
   simp only [List.cons.injEq, true_and] at hr
   refine ⟨l.length - (i + 1), _, ?_, ?_, i + 1, rfl, ?_, hr, rfl⟩
   ·omega
   ·exact lessA
   ·omega
  ·simp only [retK, resD, retL, oneD, simprocAttr, Tryz.results155]
   rw [decide_eq_false (fun e => h (List.cons.inj e).1)] at hr
   exact ⟨_, rfl, rfl, congrArg bln hr⟩
 ·have hlt' : ((i : Int) < (l.length : Int)) = False := eq_false (by omega)
  rw [List.drop_eq_nil_of_le (by omega), List.drop_eq_nil_of_le (by omega)] at hr
  simp only [go_sem, contS_seq, simprocAttr, go_sem, rows_len, hlt']
  simp only [retK, resD, retL, oneD, simprocAttr, Tryz.results155]
  exact ⟨_, rfl, rfl, congrArg bln (by simpa using hr)⟩

theorem Equal_Backend (l m : List ABackend) (hl : l.length ≤ 1000000) (hm : m.length ≤ 1000000) :
 Pure Tryz.prog 156 [.pd (.slice (rows ABackend.pd l)), .pd (.slice (rows ABackend.pd m))] (fun d => d = bln (decide (l = m))) := by
 refine pure_of_run follows an_ztr0f Tryz.func156 rfl ok_ztr0f.1 ok_ztr0f.2 (by simp [Tryz.ntmps156]) ?_
 rw [run_start]
 simp only [ac_ztr0f, go_sem, contS_seq, simprocAttr, go_sem, rows_len]
 refine GifP.mk (fun hn => ?_) (fun hn => ?_)
 rotate_left
 ·simp only [retK, resD, retL, oneD, simprocAttr, Tryz.results156]
  exact ⟨_, rfl, rfl, congrArg bln (decide_eq_false (fun h => hn (by rw [h]))).symm⟩
 have hlm : l.length = m.length := by omega
 refine loopS (fun k st => ∃ i : Nat, k = l.length - i ∧ i ≤ l.length ∧ decide (l.drop i = m.drop i) = decide (l = m) ∧
  st = ⟨[(0, .pd (.slice (rows ABackend.pd l))), (1, .pd (.slice (rows ABackend.pd m))), (12, int l.length), (13, int i)], [], [], .no⟩) l.length _ (Weak.refl _ _) ⟨0, rfl, Nat.zero_le _, rfl, rfl⟩ ?_
 rintro k st ⟨i, rfl, hi, hr, rfl⟩
 by_cases hlt : i < l.length
 ·obtain ⟨x, hx⟩ := at_lt hlt
  obtain ⟨y, hy⟩ := at_lt (show i < m.length by omega)
  have hlt' : ((i : Int) < (l.length : Int)) = True := eq_true (by omega)
  have hw := i64_succ (show i < 1000000000 by omega)
  rw [drop_at hx, drop_at hy] at hr
  simp only [go_sem, contS_seq, simprocAttr, go_sem, hlt', rows_get hx, rows_get hy, eqVs, eqV, eq_Backend, hw]
  refine GifP.mk (fun h => ?_) (fun h => ?_)
  ·subst h
   simp only [List.cons.injEq, true_and] at hr
   refine ⟨l.length - (i + 1), _, ?_, ?_, i + 1, rfl, ?_, hr, rfl⟩
   ·omega
   ·exact lessA
   ·omega
  ·simp only [retK, resD, retL, oneD, simprocAttr, Tryz.results156]
   rw [decide_eq_false (fun e => h (List.cons.inj e).1)] at hr
   exact ⟨_, rfl, rfl, congrArg bln hr⟩
 ·have hlt' : ((i : Int) < (l.length : Int)) = False := eq_false (by omega)
  rw [List.drop_eq_nil_of_le (by omega), List.drop_eq_nil_of_le (by omega)] at hr
  simp only [go_sem, contS_seq, simprocAttr, go_sem, rows_len, hlt']
  simp only [retK, resD, retL, oneD, simprocAttr, Tryz.results156]
  exact ⟨_, rfl, rfl, congrArg bln (by simpa using hr)⟩

theorem EqualFunc_Listener (q : AListener → AListener → Bool) (f : FuncId) (he : Enters Tryz.prog f) (l m : List AListener) (hl : l.length ≤ 1000000) (hm : m.length ≤ 1000000) (hp : ∀ x ∈ l, ∀ y ∈ m, Pure Tryz.prog f [AListener.d x, AListener.d y] (fun d => d = bln (q x y))) :
 Pure Tryz.prog 104 [.pd (.slice (rows AListener.pd l)), .pd (.slice (rows AListener.pd m)), .fn f []] (fun d => d = bln (eqf q l m)) := by
 refine pure_of_run follows an_zuyoe Tryz.func104 rfl ok_zuyoe.1 ok_zuyoe.2 (by simp [Tryz.ntmps104]) ?_
 rw [run_start]
 simp only [ac_zuyoe, go_sem, contS_seq, simprocAttr, rows_len]
 refine GifP.mk (fun hn => ?_) (fun hn => ?_)
 rotate_left
 ·simp only [retK, resD, retL, oneD, simprocAttr, Tryz.results104]
  exact ⟨_, rfl, rfl, congrArg bln (eqf_len q (by omega)).symm⟩
 have hlm : l.length = m.length := by omega
 refine loopS (fun k st => ∃ i : Nat, k = l.length - i ∧ i ≤ l.length ∧ eqf q (l.drop i) (m.drop i) = eqf q l m ∧
  st = ⟨[(1, .pd (.slice (rows AListener.pd m))), (2, .fn f []), (15, .pd (.slice (rows AListener.pd l))), (16, int l.length), (17, int i)], [], [], .no⟩) l.length _ (Weak.refl _ _) ⟨0, rfl, Nat.zero_le _, rfl, rfl⟩ ?_
 rintro k st ⟨i, rfl, hi, hr, rfl⟩
 by_cases hlt : i < l.length
 ·obtain ⟨x, hx⟩ := at_lt hlt
  obtain ⟨y, hy⟩ := at_lt (show i < m.length by omega)
  have hlt' : ((i : Int) < (l.length : Int)) = True := eq_true (by omega)
  have hw := i64_succ (show i < 1000000000 by omega)
  rw [drop_at hx, drop_at hy, eqf] at hr
  simp only [go_sem, contS_seq, simprocAttr, hlt', rows_get hx, rows_get hy, hw]
  refine (hp x (List.mem_of_getElem? hx) y (List.mem_of_getElem? hy)).callW he _ rfl rfl ?_
  rintro d rfl
  simp only [go_sem, contS_seq, simprocAttr, hw]
  refine Gif.mk (fun h => ?_) (fun h => ?_)
  ·rw [h, Bool.true_and] at hr
   refine ⟨l.length - (i + 1), _, ?_, ?_, i + 1, rfl, ?_, hr, rfl⟩
   ·omega
   ·exact lessA
   ·omega
  ·rw [h, Bool.false_and] at hr
   simp only [retK, resD, retL, oneD, simprocAttr, Tryz.results104]
   exact ⟨_, rfl, rfl, congrArg bln hr⟩
 ·have hlt' : ((i : Int) < (l.length : Int)) = False := eq_false (by omega)
  rw [List.drop_eq_nil_of_le (by omega), List.drop_eq_nil_of_le (by omega), eqf] at hr
  simp only [go_sem, contS_seq, simprocAttr, rows_len, hlt']
  simp only [retK, resD, retL, oneD, simprocAttr, Tryz.results104]
  exact ⟨_, rfl, rfl, congrArg bln hr⟩

theorem EqualFunc_Rule (q : ARule → ARule → Bool) (f : FuncId) (he : Enters Tryz.prog f) (l m : List ARule) (hl : l.length ≤ 1000000) (hm : m.length ≤ 1000000) (hp : ∀ x ∈ l, ∀ y ∈ m, Pure Tryz.prog f [ARule.d x, ARule.d y] (fun d => d = bln (q x y))) :
 Pure Tryz.prog 106 [.pd (.slice (rows ARule.pd l)), .pd (.slice (rows ARule.pd m)), .fn f []] (fun d => d = bln (eqf q l m)) := by
 refine pure_of_run follows an_zi41r Tryz.func106 rfl ok_zi41r.1 ok_zi41r.2 (by simp [Tryz.ntmps106]) ?_
 rw [run_start]
 simp only [ac_zi41r, go_sem, contS_seq, simprocAttr, rows_len]
 refine GifP.mk (fun hn => ?_) (fun hn => ?_)
 rotate_left
 ·simp only [retK, resD, retL, oneD, simprocAttr, Tryz.results106]
  exact ⟨_, rfl, rfl, congrArg bln (eqf_len q (by omega)).symm⟩
 have hlm : l.length = m.length := by omega
 refine loopS (fun k st => ∃ i : Nat, k = l.length - i ∧ i ≤ l.length ∧ eqf q (l.drop i) (m.drop i) = eqf q l m ∧
  st = ⟨[(1, .pd (.slice (rows ARule.pd m))), (2, .fn f []), (15, .pd (.slice (rows ARule.pd l))), (16, int l.length), (17, int i)], [], [], .no⟩) l.length _ (Weak.refl _ _) ⟨0, rfl, Nat.zero_le _, rfl, rfl⟩ ?_
 rintro k st ⟨i, rfl, hi, hr, rfl⟩
 by_cases hlt : i < l.length
 ·obtain ⟨x, hx⟩ := at_lt hlt
  obtain ⟨y, hy⟩ := at_lt (show i < m.length by omega)
  have hlt' : ((i : Int) < (l.length : Int)) = True := eq_true (by omega)
  have hw := i64_succ (show i < 1000000000 by omega)
  rw [drop_at hx, drop_at hy, eqf] at hr
  simp only [go_sem, contS_seq, simprocAttr, hlt', rows_get hx, rows_get hy, hw]
  refine (hp x (List.mem_of_getElem? hx) y (List.mem_of_getElem? hy)).callW he _ rfl rfl ?_
  rintro d rfl
  simp only [go_sem, contS_seq, simprocAttr, hw]
  refine Gif.mk (fun h => ?_) (fun h => ?_)
  ·rw [h, Bool.true_and] at hr
   refine ⟨l.length - (i + 1), _, ?_, ?_, i + 1, rfl, ?_, hr, rfl⟩
   ·omega
   ·exact lessA
   ·omega
  ·rw [h, Bool.false_and] at hr
   simp only [retK, resD, retL, oneD, simprocAttr, Tryz.results106]
   exact ⟨_, rfl, rfl, congrArg bln hr⟩
 ·have hlt' : ((i : Int) < (l.length : Int)) = False := eq_false (by omega)
  rw [List.drop_eq_nil_of_le (by omega), List.drop_eq_nil_of_le (by omega), eqf] at hr
  simp only [go_sem, contS_seq, simprocAttr, rows_len, hlt']
  simp only [retK, resD, retL, oneD, simprocAttr, Tryz.results106]
  exact ⟨_, rfl, rfl, congrArg bln hr⟩

theorem EqualFunc_Match (q : AMatch → AMatch → Bool) (f : FuncId) (he : Enters Tryz.prog f) (l m : List AMatch) (hl : l.length ≤ 1000000) (hm : m.length ≤ 1000000) (hp : ∀ x ∈ l, ∀ y ∈ m, Pure Tryz.prog f [AMatch.d x, AMatch.d y] (fun d => d = bln (q x y))) :
 Pure Tryz.prog 153 [.pd (.slice (rows AMatch.pd l)), .pd (.slice (rows AMatch.pd m)), .fn f []] (fun d => d = bln (eqf q l m)) := by
 refine pure_of_run follows an_zjaw1 Tryz.func153 rfl ok_zjaw1.1 ok_zjaw1.2 (by simp [Tryz.ntmps153]) ?_
 rw [run_start]
 simp only [ac_zjaw1, go_sem, contS_seq, simprocAttr, rows_len]
 refine GifP.mk (fun hn => ?_) (fun hn => ?_)
 rotate_left
 ·simp only [retK, resD, retL, oneD, simprocAttr, Tryz.results153]
  exact ⟨_, rfl, rfl, congrArg bln (eqf_len q (by omega)).symm⟩
 have hlm : l.length = m.length := by omega
 refine loopS (fun k st => ∃ i : Nat, k = l.length - i ∧ i ≤ l.length ∧ eqf q (l.drop i) (m.drop i) = eqf q l m ∧
  st = ⟨[(1, .pd (.slice (rows AMatch.pd m))), (2, .fn f []), (15, .pd (.slice (rows AMatch.pd l))), (16, int l.length), (17, int i)], [], [], .no⟩) l.length _ (Weak.refl _ _) ⟨0, rfl, Nat.zero_le _, rfl, rfl⟩ ?_
 rintro k st ⟨i, rfl, hi, hr, rfl⟩
 by_cases hlt : i < l.length
 ·obtain ⟨x, hx⟩ := at_lt hlt
  obtain ⟨y, hy⟩ := at_lt (show i < m.length by omega)
  have hlt' : ((i : Int) < (l.length : Int)) = True := eq_true (by omega)
  have hw := i64_succ (show i < 1000000000 by omega)
  rw [drop_at hx, drop_at hy, eqf] at hr
  simp only [go_sem, contS_seq, simprocAttr, hlt', rows_get hx, rows_get hy, hw]
  refine (hp x (List.mem_of_getElem? hx) y (List.mem_of_getElem? hy)).callW he _ rfl rfl ?_
  rintro d rfl
  simp only [go_sem, contS_seq, simprocAttr, hw]
  refine Gif.mk (fun h => ?_) (fun h => ?_)
  ·rw [h, Bool.true_and] at hr
   refine ⟨l.length - (i + 1), _, ?_, ?_, i + 1, rfl, ?_, hr, rfl⟩
   ·omega
   ·exact lessA
   ·omega
  ·rw [h, Bool.false_and] at hr
   simp only [retK, resD, retL, oneD, simprocAttr, Tryz.results153]
   exact ⟨_, rfl, rfl, congrArg bln hr⟩
 ·have hlt' : ((i : Int) < (l.length : Int)) = False := eq_false (by omega)
  rw [List.drop_eq_nil_of_le (by omega), List.drop_eq_nil_of_le (by omega), eqf] at hr
  simp only [go_sem, contS_seq, simprocAttr, rows_len, hlt']
  simp only [retK, resD, retL, oneD, simprocAttr, Tryz.results153]
  exact ⟨_, rfl, rfl, congrArg bln hr⟩

theorem EqualFunc_Need (q : ANeed → ANeed → Bool) (f : FuncId) (he : Enters Tryz.prog f) (l m : List ANeed) (hl : l.length ≤ 1000000) (hm : m.length ≤ 1000000) (hp : ∀ x ∈ l, ∀ y ∈ m, Pure Tryz.prog f [ANeed.d x, ANeed.d y] (fun d => d = bln (q x y))) :
 Pure Tryz.prog 202 [.pd (.slice (rows ANeed.pd l)), .pd (.slice (rows ANeed.pd m)), .fn f []] (fun d => d = bln (eqf q l m)) := by
 refine pure_of_run follows an_zdsnp Tryz.func202 rfl ok_zdsnp.1 ok_zdsnp.2 (by simp [Tryz.ntmps202]) ?_
 rw [run_start]
 simp only [ac_zdsnp, go_sem, contS_seq, simprocAttr, rows_len]
 refine GifP.mk (fun hn => ?_) (fun hn => ?_)
 rotate_left
 ·simp only [retK, resD, retL, oneD, simprocAttr, Tryz.results202]
  exact ⟨_, rfl, rfl, congrArg bln (eqf_len q (by omega)).symm⟩
 have hlm : l.length = m.length := by omega
 refine loopS (fun k st => ∃ i : Nat, k = l.length - i ∧ i ≤ l.length ∧ eqf q (l.drop i) (m.drop i) = eqf q l m ∧
  st = ⟨[(1, .pd (.slice (rows ANeed.pd m))), (2, .fn f []), (15, .pd (.slice (rows ANeed.pd l))), (16, int l.length), (17, int i)], [], [], .no⟩) l.length _ (Weak.refl _ _) ⟨0, rfl, Nat.zero_le _, rfl, rfl⟩ ?_
 rintro k st ⟨i, rfl, hi, hr, rfl⟩
 by_cases hlt : i < l.length
 ·obtain ⟨x, hx⟩ := at_lt hlt
  obtain ⟨y, hy⟩ := at_lt (show i < m.length by omega)
  have hlt' : ((i : Int) < (l.length : Int)) = True := eq_true (by omega)
  have hw := i64_succ (show i < 1000000000 by omega)
  rw [drop_at hx, drop_at hy, eqf] at hr
  simp only [go_sem, contS_seq, simprocAttr, hlt', rows_get hx, rows_get hy, hw]
  refine (hp x (List.mem_of_getElem? hx) y (List.mem_of_getElem? hy)).callW he _ rfl rfl ?_
  rintro d rfl
  simp only [go_sem, contS_seq, simprocAttr, hw]
  refine Gif.mk (fun h => ?_) (fun h => ?_)
  ·rw [h, Bool.true_and] at hr
   refine ⟨l.length - (i + 1), _, ?_, ?_, i + 1, rfl, ?_, hr, rfl⟩
   ·omega
   ·exact lessA
   ·omega
  ·rw [h, Bool.false_and] at hr
   simp only [retK, resD, retL, oneD, simprocAttr, Tryz.results202]
   exact ⟨_, rfl, rfl, congrArg bln hr⟩
 ·have hlt' : ((i : Int) < (l.length : Int)) = False := eq_false (by omega)
  rw [List.drop_eq_nil_of_le (by omega), List.drop_eq_nil_of_le (by omega), eqf] at hr
  simp only [go_sem, contS_seq, simprocAttr, rows_len, hlt']
  simp only [retK, resD, retL, oneD, simprocAttr, Tryz.results202]
  exact ⟨_, rfl, rfl, congrArg bln hr⟩


def okind (n : Int) : Bool := decide (1 ≤ n) && decide (n ≤ 7)
def oport (n : Int) : Bool := decide (1 ≤ n) && decide (n ≤ 65535)

theorem object_kind (n : Int) : Pure Tryz.prog 95 [int n] (fun d => d = bln (okind n)) := by
 refine pure_of_run follows an_zavnu Tryz.func95 rfl ok_zavnu.1 ok_zavnu.2 (by simp [Tryz.ntmps95]) ?_
 rw [run_start]
 simp only [ac_zavnu, go_sem, contS_seq, simprocAttr]
 (repeat' (first | (refine GifP.mk (fun _ => ?_) (fun _ => ?_)) | (refine Gif.mk (fun _ => ?_) (fun _ => ?_)))) <;> (simp only [retK, resD, retL, oneD, simprocAttr, Tryz.results95]; exact ⟨_, rfl, rfl, congrArg bln (by first | rfl | (rw [Bool.eq_iff_iff]; simp only [okind]; (first | (simp; done) | (simp; omega) | (simp [*]; done) | (simp [*]; omega))) | (simp_all [okind]; done) | (exfalso; omega))⟩)

theorem object_port (n : Int) : Pure Tryz.prog 126 [int n] (fun d => d = bln (oport n)) := by
 refine pure_of_run follows an_znt9b Tryz.func126 rfl ok_znt9b.1 ok_znt9b.2 (by simp [Tryz.ntmps126]) ?_
 rw [run_start]
 simp only [ac_znt9b, go_sem, contS_seq, simprocAttr]
 (repeat' (first | (refine GifP.mk (fun _ => ?_) (fun _ => ?_)) | (refine Gif.mk (fun _ => ?_) (fun _ => ?_)))) <;> (simp only [retK, resD, retL, oneD, simprocAttr, Tryz.results126]; exact ⟨_, rfl, rfl, congrArg bln (by first | rfl | (rw [Bool.eq_iff_iff]; simp only [oport]; (first | (simp; done) | (simp; omega) | (simp [*]; done) | (simp [*]; omega))) | (simp_all [oport]; done) | (exfalso; omega))⟩)

theorem object_near (s : ByteArray) : Pure Tryz.prog 181 [str s] (fun d => d = bln (labValue s)) := by
 refine pure_of_run follows an_ztrsy Tryz.func181 rfl ok_ztrsy.1 ok_ztrsy.2 (by simp [Tryz.ntmps181]) ?_
 rw [run_start]
 simp only [ac_ztrsy, go_sem, contS_seq, simprocAttr]
 (repeat' (first | (refine GifP.mk (fun _ => ?_) (fun _ => ?_)) | (refine Gif.mk (fun _ => ?_) (fun _ => ?_)) | (refine (dns_Label _).callW (enters_of Tryz.func94 rfl rfl) _ rfl rfl ?_; rintro _ rfl; try simp only [go_sem, contS_seq, simprocAttr]))) <;> (simp only [retK, resD, retL, oneD, simprocAttr, Tryz.results181]; exact ⟨_, rfl, rfl, congrArg bln (by first | rfl | (rw [Bool.eq_iff_iff]; simp only [labValue]; (first | (simp; done) | (simp; omega) | (simp [*]; done) | (simp [*]; omega))) | (simp_all [labValue]; done) | (exfalso; omega))⟩)

def parentMay (p : AParent) : Bool := labValue p.space && dname p.name && labValue p.section_ && (decide (p.port = 0) || oport p.port)

theorem object_parent (p : AParent) : Pure Tryz.prog 141 [p.d] (fun d => d = bln (parentMay p)) := by
 refine pure_of_run follows an_za0y7 Tryz.func141 rfl ok_za0y7.1 ok_za0y7.2 (by simp [Tryz.ntmps141]) ?_
 rw [run_start]
 simp only [ac_za0y7, go_sem, contS_seq, simprocAttr]
 (repeat' (first | (refine GifP.mk (fun _ => ?_) (fun _ => ?_)) | (refine Gif.mk (fun _ => ?_) (fun _ => ?_)) | ((first | refine (object_near _).callW (enters_of Tryz.func181 rfl rfl) _ rfl rfl ?_ | refine (dns_Name _).callW (enters_of Tryz.func93 rfl rfl) _ rfl rfl ?_ | refine (object_port _).callW (enters_of Tryz.func126 rfl rfl) _ rfl rfl ?_); rintro _ rfl; try simp only [go_sem, contS_seq, simprocAttr]))) <;> (simp only [retK, resD, retL, oneD, simprocAttr, Tryz.results141]; exact ⟨_, rfl, rfl, congrArg bln (by first | rfl | (rw [Bool.eq_iff_iff]; simp only [parentMay]; (first | (simp; done) | (simp; omega) | (simp [*]; done) | (simp [*]; omega))) | (simp_all [parentMay]; done) | (exfalso; omega))⟩)

def backendMay (b : ABackend) : Bool := okind b.ref.kind && labValue b.ref.space && dname b.ref.name && (decide (b.port = 0) || oport b.port) && decide (0 ≤ b.weight) && decide (b.weight ≤ 1000)

theorem object_backend (b : ABackend) : Pure Tryz.prog 197 [b.d] (fun d => d = bln (backendMay b)) := by
 refine pure_of_run follows an_z2jf5 Tryz.func197 rfl ok_z2jf5.1 ok_z2jf5.2 (by simp [Tryz.ntmps197]) ?_
 rw [run_start]
 simp only [ac_z2jf5, go_sem, contS_seq, simprocAttr]
 (repeat' (first | (refine GifP.mk (fun _ => ?_) (fun _ => ?_)) | (refine Gif.mk (fun _ => ?_) (fun _ => ?_)) | ((first | refine (object_kind _).callW (enters_of Tryz.func95 rfl rfl) _ rfl rfl ?_ | refine (object_near _).callW (enters_of Tryz.func181 rfl rfl) _ rfl rfl ?_ | refine (dns_Name _).callW (enters_of Tryz.func93 rfl rfl) _ rfl rfl ?_ | refine (object_port _).callW (enters_of Tryz.func126 rfl rfl) _ rfl rfl ?_); rintro _ rfl; try simp only [go_sem, contS_seq, simprocAttr]))) <;> (simp only [retK, resD, retL, oneD, simprocAttr, Tryz.results197]; exact ⟨_, rfl, rfl, congrArg bln (by first | rfl | (rw [Bool.eq_iff_iff]; simp only [backendMay]; (first | (simp; done) | (simp; omega) | (simp [*]; done) | (simp [*]; omega))) | (simp_all [backendMay]; done) | (exfalso; omega))⟩)

def sideFrom (s : ASide) : Bool := okind s.kind && label s.space && decide (s.name = ⟨#[]⟩)
def sideTo (s : ASide) : Bool := okind s.kind && decide (s.space = ⟨#[]⟩) && (decide (s.name = ⟨#[]⟩) || dname s.name)

theorem thing_grant_1 (s : ASide) : Pure Tryz.prog 145 [s.d] (fun d => d = bln (sideFrom s)) := by
 refine pure_of_run follows an_z9wz0 Tryz.func145 rfl ok_z9wz0.1 ok_z9wz0.2 (by simp [Tryz.ntmps145]) ?_
 rw [run_start]
 simp only [ac_z9wz0, go_sem, contS_seq, simprocAttr]
 (repeat' (first | (refine GifP.mk (fun _ => ?_) (fun _ => ?_)) | (refine Gif.mk (fun _ => ?_) (fun _ => ?_)) | ((first | refine (object_kind _).callW (enters_of Tryz.func95 rfl rfl) _ rfl rfl ?_ | refine (dns_Label _).callW (enters_of Tryz.func94 rfl rfl) _ rfl rfl ?_); rintro _ rfl; try simp only [go_sem, contS_seq, simprocAttr]))) <;> (simp only [retK, resD, retL, oneD, simprocAttr, Tryz.results145]; exact ⟨_, rfl, rfl, congrArg bln (by first | rfl | (rw [Bool.eq_iff_iff]; simp only [sideFrom]; (first | (simp; done) | (simp; omega) | (simp [*]; done) | (simp [*]; omega))) | (simp_all [sideFrom]; done) | (exfalso; omega))⟩)

theorem thing_grant_2 (s : ASide) : Pure Tryz.prog 146 [s.d] (fun d => d = bln (sideTo s)) := by
 refine pure_of_run follows an_z4xw6 Tryz.func146 rfl ok_z4xw6.1 ok_z4xw6.2 (by simp [Tryz.ntmps146]) ?_
 rw [run_start]
 simp only [ac_z4xw6, go_sem, contS_seq, simprocAttr]
 (repeat' (first | (refine GifP.mk (fun _ => ?_) (fun _ => ?_)) | (refine Gif.mk (fun _ => ?_) (fun _ => ?_)) | ((first | refine (object_kind _).callW (enters_of Tryz.func95 rfl rfl) _ rfl rfl ?_ | refine (dns_Name _).callW (enters_of Tryz.func93 rfl rfl) _ rfl rfl ?_); rintro _ rfl; try simp only [go_sem, contS_seq, simprocAttr]))) <;> (simp only [retK, resD, retL, oneD, simprocAttr, Tryz.results146]; exact ⟨_, rfl, rfl, congrArg bln (by first | rfl | (rw [Bool.eq_iff_iff]; simp only [sideTo]; (first | (simp; done) | (simp; omega) | (simp [*]; done) | (simp [*]; omega))) | (simp_all [sideTo]; done) | (exfalso; omega))⟩)

def intSame (a b : Int) : Bool := decide (a = b)
def strSame (a b : ByteArray) : Bool := decide (a = b)
def lisName (a b : AListener) : Bool := decide (a.name = b.name)
def parSame (a b : AParent) : Bool := decide (a = b)
def patMay (s : ByteArray) : Bool := !decide (s = ⟨#[]⟩) && hostMay s

theorem thing_service_1 (a b : Int) : Pure Tryz.prog 129 [int a, int b] (fun d => d = bln (intSame a b)) := by
 refine pure_of_run follows an_zwdgh Tryz.func129 rfl ok_zwdgh.1 ok_zwdgh.2 (by simp [Tryz.ntmps129]) ?_
 rw [run_start]
 simp only [ac_zwdgh, go_sem, contS_seq, simprocAttr]
 (repeat' (first | (refine GifP.mk (fun _ => ?_) (fun _ => ?_)) | (refine Gif.mk (fun _ => ?_) (fun _ => ?_)))) <;> (simp only [retK, resD, retL, oneD, simprocAttr, Tryz.results129]; exact ⟨_, rfl, rfl, congrArg bln (by first | rfl | (rw [Bool.eq_iff_iff]; simp only [intSame]; (first | (simp; done) | (simp; omega) | (simp [*]; done) | (simp [*]; omega))) | (simp_all [intSame]; done) | (exfalso; omega))⟩)

theorem thing_gateway_1 (a b : AListener) : Pure Tryz.prog 130 [a.d, b.d] (fun d => d = bln (lisName a b)) := by
 refine pure_of_run follows an_zpej9 Tryz.func130 rfl ok_zpej9.1 ok_zpej9.2 (by simp [Tryz.ntmps130]) ?_
 rw [run_start]
 simp only [ac_zpej9, go_sem, contS_seq, simprocAttr]
 (repeat' (first | (refine GifP.mk (fun _ => ?_) (fun _ => ?_)) | (refine Gif.mk (fun _ => ?_) (fun _ => ?_)))) <;> (simp only [retK, resD, retL, oneD, simprocAttr, Tryz.results130]; exact ⟨_, rfl, rfl, congrArg bln (by first | rfl | (rw [Bool.eq_iff_iff]; simp only [lisName]; (first | (simp; done) | (simp; omega) | (simp [*]; done) | (simp [*]; omega))) | (simp_all [lisName]; done) | (exfalso; omega))⟩)

theorem thing_route_1 (a b : AParent) : Pure Tryz.prog 135 [a.d, b.d] (fun d => d = bln (parSame a b)) := by
 refine pure_of_run follows an_zh5vi Tryz.func135 rfl ok_zh5vi.1 ok_zh5vi.2 (by simp [Tryz.ntmps135]) ?_
 rw [run_start]
 simp only [ac_zh5vi, go_sem, contS_seq, simprocAttr, eqVs, eqV, eq_Parent]
 simp only [retK, resD, retL, oneD, simprocAttr, Tryz.results135]
 exact ⟨_, rfl, rfl, rfl⟩

theorem thing_route_2 (a b : ByteArray) : Pure Tryz.prog 137 [str a, str b] (fun d => d = bln (strSame a b)) := by
 refine pure_of_run follows an_zkpqc Tryz.func137 rfl ok_zkpqc.1 ok_zkpqc.2 (by simp [Tryz.ntmps137]) ?_
 rw [run_start]
 simp only [ac_zkpqc, go_sem, contS_seq, simprocAttr]
 (repeat' (first | (refine GifP.mk (fun _ => ?_) (fun _ => ?_)) | (refine Gif.mk (fun _ => ?_) (fun _ => ?_)))) <;> (simp only [retK, resD, retL, oneD, simprocAttr, Tryz.results137]; exact ⟨_, rfl, rfl, congrArg bln (by first | rfl | (rw [Bool.eq_iff_iff]; simp only [strSame]; (first | (simp; done) | (simp; omega) | (simp [*]; done) | (simp [*]; omega))) | (simp_all [strSame]; done) | (exfalso; omega))⟩)

theorem thing_route_3 (s : ByteArray) : Pure Tryz.prog 138 [str s] (fun d => d = bln (patMay s)) := by
 refine pure_of_run follows an_z4pg2 Tryz.func138 rfl ok_z4pg2.1 ok_z4pg2.2 (by simp [Tryz.ntmps138]) ?_
 rw [run_start]
 simp only [ac_z4pg2, go_sem, contS_seq, simprocAttr]
 (repeat' (first | (refine GifP.mk (fun _ => ?_) (fun _ => ?_)) | (refine Gif.mk (fun _ => ?_) (fun _ => ?_)) | (refine (host_May _).callW (enters_of Tryz.func139 rfl rfl) _ rfl rfl ?_; rintro _ rfl; try simp only [go_sem, contS_seq, simprocAttr]))) <;> (simp only [retK, resD, retL, oneD, simprocAttr, Tryz.results138]; exact ⟨_, rfl, rfl, congrArg bln (by first | rfl | (rw [Bool.eq_iff_iff]; simp only [patMay]; (first | (simp; done) | (simp; omega) | (simp [*]; done) | (simp [*]; omega))) | (simp_all [patMay]; done) | (exfalso; omega))⟩)

def notNaN (_ : Int) : Bool := false
def intLess (a b : Int) : Bool := decide (a < b)

theorem cmp_isNaN (a : Int) : Pure Tryz.prog 119 [int a] (fun d => d = bln (notNaN a)) := by
 refine pure_of_run follows an_zkuzu Tryz.func119 rfl ok_zkuzu.1 ok_zkuzu.2 (by simp [Tryz.ntmps119]) ?_
 rw [run_start]
 simp only [ac_zkuzu, go_sem, contS_seq, simprocAttr]
 (repeat' (first | (refine GifP.mk (fun _ => ?_) (fun _ => ?_)) | (refine Gif.mk (fun _ => ?_) (fun _ => ?_)))) <;> (simp only [retK, resD, retL, oneD, simprocAttr, Tryz.results119]; exact ⟨_, rfl, rfl, congrArg bln (by first | rfl | (rw [Bool.eq_iff_iff]; simp only [notNaN]; (first | (simp; done) | (simp; omega) | (simp [*]; done) | (simp [*]; omega))) | (simp_all [notNaN]; done) | (exfalso; omega))⟩)

theorem cmp_Less (a b : Int) : Pure Tryz.prog 177 [int a, int b] (fun d => d = bln (intLess a b)) := by
 refine pure_of_run follows an_zte1c Tryz.func177 rfl ok_zte1c.1 ok_zte1c.2 (by simp [Tryz.ntmps177]) ?_
 rw [run_start]
 simp only [ac_zte1c, go_sem, contS_seq, simprocAttr]
 refine (cmp_isNaN a).callW (enters_of Tryz.func119 rfl rfl) _ rfl rfl ?_
 rintro d rfl
 simp only [go_sem, contS_seq, simprocAttr, notNaN]
 simp only [retK, resD, retL, oneD, simprocAttr, Tryz.results177]
 exact ⟨_, rfl, rfl, rfl⟩

def mayRef (r : ARef) : Bool := if r.kind = 1 then decide (r.space = ⟨#[]⟩) && dname r.name else if r.kind = 2 then decide (r.space = ⟨#[]⟩) && label r.name else okind r.kind && label r.space && dname r.name

theorem object_MayRef (r : ARef) : Pure Tryz.prog 44 [r.d] (fun d => d = bln (mayRef r)) := by
 refine pure_of_run follows an_zkdrf Tryz.func44 rfl ok_zkdrf.1 ok_zkdrf.2 (by simp [Tryz.ntmps44]) ?_
 rw [run_start]
 simp only [ac_zkdrf, go_sem, contS_seq, simprocAttr]
 (repeat' (first | (refine GifP.mk (fun _ => ?_) (fun _ => ?_)) | (refine Gif.mk (fun _ => ?_) (fun _ => ?_)) | ((first | refine (object_kind _).callW (enters_of Tryz.func95 rfl rfl) _ rfl rfl ?_ | refine (dns_Label _).callW (enters_of Tryz.func94 rfl rfl) _ rfl rfl ?_ | refine (dns_Name _).callW (enters_of Tryz.func93 rfl rfl) _ rfl rfl ?_); rintro _ rfl; try simp only [go_sem, contS_seq, simprocAttr]))) <;> (simp only [retK, resD, retL, oneD, simprocAttr, Tryz.results44]; exact ⟨_, rfl, rfl, congrArg bln (by first | rfl | (rw [Bool.eq_iff_iff]; simp only [mayRef]; (first | (simp; done) | (simp; omega) | (simp [*]; done) | (simp [*]; omega))) | (simp_all [mayRef]; done) | (exfalso; omega))⟩)

def fewVals (n : ANeed) : Bool := decide (1 ≤ n.vals.length) && decide (n.vals.length ≤ 8) && !n.vals.any (fun s => !labValue s)

theorem label_asks_1 (s : ByteArray) : Pure Tryz.prog 253 [str s] (fun d => d = bln (!labValue s)) := by
 refine pure_of_run follows an_zuzx4 Tryz.func253 rfl ok_zuzx4.1 ok_zuzx4.2 (by simp [Tryz.ntmps253]) ?_
 rw [run_start]
 simp only [ac_zuzx4, go_sem, contS_seq, simprocAttr]
 (repeat' (first | (refine GifP.mk (fun _ => ?_) (fun _ => ?_)) | (refine Gif.mk (fun _ => ?_) (fun _ => ?_)) | (refine (label_value _).callW (enters_of Tryz.func174 rfl rfl) _ rfl rfl ?_; rintro _ rfl; try simp only [go_sem, contS_seq, simprocAttr]))) <;> (simp only [retK, resD, retL, oneD, simprocAttr, Tryz.results253]; exact ⟨_, rfl, rfl, congrArg bln (by first | rfl | (rw [Bool.eq_iff_iff]; simp only [labValue]; (first | (simp; done) | (simp; omega) | (simp [*]; done) | (simp [*]; omega))) | (simp_all [labValue]; done) | (exfalso; omega))⟩)

def asksD (n : ANeed) : D :=
 if dname n.name = false then .pd (.raw .nilIface)
 else if n.kind = 1 ∧ fewVals n = true then .pd (.iface 275 true [pStr n.name, .slice (strs n.vals)])
 else if n.kind = 2 ∧ fewVals n = true then .pd (.iface 277 true [pStr n.name, .slice (strs n.vals)])
 else if n.kind = 3 ∧ n.vals.length = 0 then .pd (.iface 278 false [pStr n.name])
 else if n.kind = 4 ∧ n.vals.length = 0 then .pd (.iface 280 true [pStr n.name])
 else .pd (.raw .nilIface)

def askMay (n : ANeed) : Bool := dname n.name && ((decide (n.kind = 1) && fewVals n) || (decide (n.kind = 2) && fewVals n) || (decide (n.kind = 3) && decide (n.vals.length = 0)) || (decide (n.kind = 4) && decide (n.vals.length = 0)))

set_option maxHeartbeats 2000000 in
theorem label_asks (n : ANeed) (hv : n.vals.length ≤ 1000000) : Pure Tryz.prog 217 [n.d] (fun d => d = asksD n) := by
 refine pure_of_run follows an_zyjit Tryz.func217 rfl ok_zyjit.1 ok_zyjit.2 (by simp [Tryz.ntmps217]) ?_
 rw [run_start]
 simp only [ac_zyjit, go_sem, contS_seq, simprocAttr, rows_len]
 have key : ∀ b : Bool, fewVals n = b → ∀ d : D, (d = if dname n.name = false then .pd (.raw .nilIface)
  else if n.kind = 1 ∧ b = true then .pd (.iface 275 true [pStr n.name, .slice (strs n.vals)])
  else if n.kind = 2 ∧ b = true then .pd (.iface 277 true [pStr n.name, .slice (strs n.vals)])
  else if n.kind = 3 ∧ n.vals.length = 0 then .pd (.iface 278 false [pStr n.name])
  else if n.kind = 4 ∧ n.vals.length = 0 then .pd (.iface 280 true [pStr n.name])
  else .pd (.raw .nilIface)) → d = asksD n := fun b h d hd => by
  rw [hd]; unfold asksD; rw [h]
 refine GifP.mk (fun h1 => ?_) (fun h1 => ?_)
 ·refine GifP.mk (fun h2 => ?_) (fun h2 => ?_)
  ·refine (ContainsP_string (fun s => !labValue s) _ (enters_of Tryz.func253 rfl rfl) n.vals hv (fun s _ => label_asks_1 s)).callW (enters_of Tryz.func186 rfl rfl) _ rfl rfl ?_
   rintro d rfl
   have hf : fewVals n = !n.vals.any (fun s => !labValue s) := by
    have h3 : 1 ≤ n.vals.length := by omega
    have h4 : n.vals.length ≤ 8 := by omega
    simp [fewVals, h3, h4]
   obtain ⟨q, hq⟩ : ∃ q, n.vals.any (fun s => !labValue s) = q := ⟨_, rfl⟩
   rw [hq] at hf ⊢
   cases q
   all_goals
    have key' := key _ hf
    simp only [go_sem, contS_seq, simprocAttr, rows_len]
    (repeat' (first | (refine GifP.mk (fun _ => ?_) (fun _ => ?_)) | (refine Gif.mk (fun _ => ?_) (fun _ => ?_)) | (refine (dns_Name _).callW (enters_of Tryz.func93 rfl rfl) _ rfl rfl ?_; rintro _ rfl; try simp only [go_sem, contS_seq, simprocAttr, rows_len]))) <;> (simp only [retK, resD, retL, oneD, simprocAttr, Tryz.results217]; refine ⟨_, rfl, rfl, ?_⟩; refine key' _ ?_; clear key key'; dsimp only [D.pub]; (repeat' split) <;> first | rfl | (exfalso; omega) | (exfalso; simp_all; done) | (exfalso; simp_all; omega))
  ·have hf : fewVals n = false := by
    have h4 : ¬ n.vals.length ≤ 8 := by omega
    simp [fewVals, h4]
   have key' := key _ hf
   (repeat' (first | (refine GifP.mk (fun _ => ?_) (fun _ => ?_)) | (refine Gif.mk (fun _ => ?_) (fun _ => ?_)) | (refine (dns_Name _).callW (enters_of Tryz.func93 rfl rfl) _ rfl rfl ?_; rintro _ rfl; try simp only [go_sem, contS_seq, simprocAttr, rows_len]))) <;> (simp only [retK, resD, retL, oneD, simprocAttr, Tryz.results217]; refine ⟨_, rfl, rfl, ?_⟩; refine key' _ ?_; clear key key'; dsimp only [D.pub]; (repeat' split) <;> first | rfl | (exfalso; omega) | (exfalso; simp_all; done) | (exfalso; simp_all; omega))
 ·have hf : fewVals n = false := by
   have h4 : ¬ 1 ≤ n.vals.length := by omega
   simp [fewVals, h4]
  have key' := key _ hf
  (repeat' (first | (refine GifP.mk (fun _ => ?_) (fun _ => ?_)) | (refine Gif.mk (fun _ => ?_) (fun _ => ?_)) | (refine (dns_Name _).callW (enters_of Tryz.func93 rfl rfl) _ rfl rfl ?_; rintro _ rfl; try simp only [go_sem, contS_seq, simprocAttr, rows_len]))) <;> (simp only [retK, resD, retL, oneD, simprocAttr, Tryz.results217]; refine ⟨_, rfl, rfl, ?_⟩; refine key' _ ?_; clear key key'; dsimp only [D.pub]; (repeat' split) <;> first | rfl | (exfalso; omega) | (exfalso; simp_all; done) | (exfalso; simp_all; omega))

theorem askMay_isnil (n : ANeed) : (∃ t a cs, asksD n = .pd (.iface t a cs) ∧ askMay n = true) ∨ (asksD n = .pd (.raw .nilIface) ∧ askMay n = false) := by
 unfold asksD askMay
 repeat' split
 all_goals first
  | exact .inl ⟨_, _, _, rfl, by simp_all⟩
  | exact .inr ⟨rfl, by simp_all⟩

theorem label_Needs_1 (n : ANeed) (hv : n.vals.length ≤ 1000000) : Pure Tryz.prog 216 [n.d] (fun d => d = bln (!askMay n)) := by
 refine pure_of_run follows an_zdaaj Tryz.func216 rfl ok_zdaaj.1 ok_zdaaj.2 (by simp [Tryz.ntmps216]) ?_
 rw [run_start]
 simp only [ac_zdaaj, go_sem, contS_seq, simprocAttr, rows_len]
 refine (label_asks n hv).callW (enters_of Tryz.func217 rfl rfl) _ rfl rfl ?_
 rintro d rfl
 rcases askMay_isnil n with ⟨t, a, cs, h1, h2⟩ | ⟨h1, h2⟩
 all_goals
  rw [h1]
  simp only [go_sem, contS_seq, simprocAttr]
  simp only [retK, resD, retL, oneD, simprocAttr, Tryz.results216]
  exact ⟨_, rfl, rfl, congrArg bln (by rw [h2]; rfl)⟩

def ANeed.ok (n : ANeed) : Prop := n.vals.length ≤ 1000000

def needsMay (l : List ANeed) : Bool := decide (l.length ≤ 8) && !l.any (fun n => !askMay n)

theorem label_Needs (l : List ANeed) (hl : l.length ≤ 1000000) (hv : ∀ n ∈ l, n.ok) : Pure Tryz.prog 182 [.pd (.slice (rows ANeed.pd l))] (fun d => d = bln (needsMay l)) := by
 refine pure_of_run follows an_zlask Tryz.func182 rfl ok_zlask.1 ok_zlask.2 (by simp [Tryz.ntmps182]) ?_
 rw [run_start]
 simp only [ac_zlask, go_sem, contS_seq, simprocAttr, rows_len]
 (repeat' (first | (refine GifP.mk (fun _ => ?_) (fun _ => ?_)) | (refine Gif.mk (fun _ => ?_) (fun _ => ?_)) | (refine (ContainsP_Need (fun n => !askMay n) _ (enters_of Tryz.func216 rfl rfl) l hl (fun n hn => label_Needs_1 n (hv n hn))).callW (enters_of Tryz.func215 rfl rfl) _ rfl rfl ?_; rintro _ rfl; try simp only [go_sem, contS_seq, simprocAttr, rows_len]))) <;> (simp only [retK, resD, retL, oneD, simprocAttr, Tryz.results182]; exact ⟨_, rfl, rfl, congrArg bln (by first | rfl | (rw [Bool.eq_iff_iff]; simp only [needsMay]; (first | (simp; done) | (simp; omega) | (simp [*]; done) | (simp [*]; omega))) | (simp_all [needsMay]; done) | (exfalso; omega))⟩)

def needSame (a b : ANeed) : Bool := decide (a.kind = b.kind) && decide (a.name = b.name) && decide (a.vals = b.vals)

theorem label_Same_1 (a b : ANeed) (ha : a.ok) (hb : b.ok) : Pure Tryz.prog 203 [a.d, b.d] (fun d => d = bln (needSame a b)) := by
 refine pure_of_run follows an_zvpxe Tryz.func203 rfl ok_zvpxe.1 ok_zvpxe.2 (by simp [Tryz.ntmps203]) ?_
 rw [run_start]
 simp only [ac_zvpxe, go_sem, contS_seq, simprocAttr]
 (repeat' (first | (refine GifP.mk (fun _ => ?_) (fun _ => ?_)) | (refine Gif.mk (fun _ => ?_) (fun _ => ?_)) | (refine (Equal_string a.vals b.vals ha hb).callW (enters_of Tryz.func101 rfl rfl) _ rfl rfl ?_; rintro _ rfl; try simp only [go_sem, contS_seq, simprocAttr]))) <;> (simp only [retK, resD, retL, oneD, simprocAttr, Tryz.results203]; exact ⟨_, rfl, rfl, congrArg bln (by first | rfl | (rw [Bool.eq_iff_iff]; simp only [needSame]; (first | (simp; done) | (simp; omega) | (simp [*]; done) | (simp [*]; omega))) | (simp_all [needSame]; done) | (exfalso; omega))⟩)

theorem label_Same (l m : List ANeed) (hl : l.length ≤ 1000000) (hm : m.length ≤ 1000000) (h1 : ∀ n ∈ l, n.ok) (h2 : ∀ n ∈ m, n.ok) : Pure Tryz.prog 152 [.pd (.slice (rows ANeed.pd l)), .pd (.slice (rows ANeed.pd m))] (fun d => d = bln (eqf needSame l m)) := by
 refine pure_of_run follows an_zx2gm Tryz.func152 rfl ok_zx2gm.1 ok_zx2gm.2 (by simp [Tryz.ntmps152]) ?_
 rw [run_start]
 simp only [ac_zx2gm, go_sem, contS_seq, simprocAttr]
 (repeat' (first | (refine GifP.mk (fun _ => ?_) (fun _ => ?_)) | (refine Gif.mk (fun _ => ?_) (fun _ => ?_)) | (refine (EqualFunc_Need needSame _ (enters_of Tryz.func203 rfl rfl) l m hl hm (fun x hx y hy => label_Same_1 x y (h1 x hx) (h2 y hy))).callW (enters_of Tryz.func202 rfl rfl) _ rfl rfl ?_; rintro _ rfl; try simp only [go_sem, contS_seq, simprocAttr]))) <;> (simp only [retK, resD, retL, oneD, simprocAttr, Tryz.results152]; exact ⟨_, rfl, rfl, congrArg bln (by first | rfl | (rw [Bool.eq_iff_iff]; simp only [id]; (first | (simp; done) | (simp; omega) | (simp [*]; done) | (simp [*]; omega))) | (simp_all [id]; done) | (exfalso; omega))⟩)


def valOct (b : UInt8) : Bool := decide (32 ≤ b.toNat) && decide (b.toNat ≤ 126)

def fvalue (s : ByteArray) : Bool := s.data.toList.all valOct && decide (s.size ≤ 40) && decide (trim s = s)

theorem pairs_Value (s : ByteArray) (hs : s.size ≤ 1000000) : Pure Tryz.prog 226 [str s] (fun d => d = bln (fvalue s)) := by
 refine pure_of_run follows an_z4wze Tryz.func226 rfl ok_z4wze.1 ok_z4wze.2 (by simp [Tryz.ntmps226]) ?_
 rw [run_start]
 simp only [ac_z4wze, go_sem, contS_seq, simprocAttr, rows_len]
 refine loopS (fun k st => ∃ i : Nat, k = s.size - i ∧ i ≤ s.size ∧ (s.data.toList.drop i).all valOct = s.data.toList.all valOct ∧
  st = ⟨[(0, str s), (5, int s.size), (6, int i)], [], [], .no⟩) s.size _ (Weak.refl _ _) ⟨0, rfl, Nat.zero_le _, rfl, rfl⟩ ?_
 rintro k st ⟨i, rfl, hi, hr, rfl⟩
 by_cases hlt : i < s.size
 ·obtain ⟨b, hb, hd⟩ := byte_at hlt
  have hlt' : ((i : Int) < (s.size : Int)) = True := eq_true (by omega)
  rw [hd, List.all_cons] at hr
  have bad : valOct b = false → fvalue s = false := fun h => by
   rw [h, Bool.false_and] at hr
   simp only [fvalue, ← hr, Bool.false_and]
  have hw := i64_succ (show i < 1000000000 by omega)
  simp only [go_sem, contS_seq, simprocAttr, hlt', hb, hw]
  repeat' (first | refine GifP.mk (fun _ => ?_) (fun _ => ?_) | refine Gif.mk (fun _ => ?_) (fun _ => ?_))
  iterate 2
   ·simp only [retK, iterK, resD, retL, oneD, simprocAttr, Tryz.results226]
    exact ⟨_, rfl, rfl, congrArg bln (bad (by simp [valOct]; omega)).symm⟩
  ·have hg : valOct b = true := by simp [valOct]; omega
   rw [hg, Bool.true_and] at hr
   refine ⟨s.size - (i + 1), _, ?_, ?_, i + 1, rfl, ?_, hr, rfl⟩
   ·omega
   ·exact lessA
   ·omega
 ·have hlt' : ((i : Int) < (s.size : Int)) = False := eq_false (by omega)
  rw [byte_end hlt] at hr
  have hr' := hr.symm
  rw [List.all_nil] at hr'
  simp only [go_sem, contS_seq, simprocAttr, rows_len, hlt']
  (repeat' (first | (refine GifP.mk (fun _ => ?_) (fun _ => ?_)) | (refine Gif.mk (fun _ => ?_) (fun _ => ?_)) | (refine (strings_Trim s hs).callW (enters_of Tryz.func257 rfl rfl) _ rfl rfl ?_; rintro _ rfl; try simp only [go_sem, contS_seq, simprocAttr]))) <;> (simp only [retK, iterK, resD, retL, oneD, simprocAttr, Tryz.results226]; exact ⟨_, rfl, rfl, congrArg bln (by first | rfl | (rw [Bool.eq_iff_iff]; simp only [fvalue, hr']; (first | (simp; done) | (simp; omega) | (simp [*]; done) | (simp [*]; omega))) | (simp_all [fvalue, hr']; done) | (exfalso; omega))⟩)

def foldSame (a b : ByteArray) : Bool := decide (fold a = fold b)

theorem pairs_Same (a b : ByteArray) (ha : a.size ≤ 1000000) (hb : b.size ≤ 1000000) : Pure Tryz.prog 231 [str a, str b] (fun d => d = bln (foldSame a b)) := by
 refine pure_of_run follows an_zrrew Tryz.func231 rfl ok_zrrew.1 ok_zrrew.2 (by simp [Tryz.ntmps231]) ?_
 rw [run_start]
 simp only [ac_zrrew, go_sem, contS_seq, simprocAttr]
 (repeat' (first | (refine GifP.mk (fun _ => ?_) (fun _ => ?_)) | (refine Gif.mk (fun _ => ?_) (fun _ => ?_)) | ((first | refine (dns_Fold a ha).callW (enters_of Tryz.func263 rfl rfl) _ rfl rfl ?_ | refine (dns_Fold b hb).callW (enters_of Tryz.func263 rfl rfl) _ rfl rfl ?_); rintro _ rfl; try simp only [go_sem, contS_seq, simprocAttr]))) <;> (simp only [retK, resD, retL, oneD, simprocAttr, Tryz.results231]; exact ⟨_, rfl, rfl, congrArg bln (by first | rfl | (rw [Bool.eq_iff_iff]; simp only [foldSame]; (first | (simp; done) | (simp; omega) | (simp [*]; done) | (simp [*]; omega))) | (simp_all [foldSame]; done) | (exfalso; omega))⟩)

def APair.ok (p : APair) : Prop := p.name.size ≤ 1000000 ∧ p.val.size ≤ 1000000
def AFilter.ok (f : AFilter) : Prop := f.name.size ≤ 1000000 ∧ f.val.size ≤ 1000000
structure AMatch.ok (m : AMatch) : Prop where
 hl : m.head.length ≤ 1000000
 ql : m.query.length ≤ 1000000
 h : ∀ p ∈ m.head, p.ok
 q : ∀ p ∈ m.query, p.ok

def pairOdd (p : APair) : Bool := !token p.name || !fvalue p.val

theorem rule_May_1 (p : APair) (h : p.ok) : Pure Tryz.prog 224 [p.d] (fun d => d = bln (pairOdd p)) := by
 refine pure_of_run follows an_zqrzx Tryz.func224 rfl ok_zqrzx.1 ok_zqrzx.2 (by simp [Tryz.ntmps224]) ?_
 rw [run_start]
 simp only [ac_zqrzx, go_sem, contS_seq, simprocAttr]
 (repeat' (first | (refine GifP.mk (fun _ => ?_) (fun _ => ?_)) | (refine Gif.mk (fun _ => ?_) (fun _ => ?_)) | ((first | refine (pairs_Token p.name h.1).callW (enters_of Tryz.func225 rfl rfl) _ rfl rfl ?_ | refine (pairs_Value p.val h.2).callW (enters_of Tryz.func226 rfl rfl) _ rfl rfl ?_); rintro _ rfl; try simp only [go_sem, contS_seq, simprocAttr]))) <;> (simp only [retK, resD, retL, oneD, simprocAttr, Tryz.results224]; exact ⟨_, rfl, rfl, congrArg bln (by first | rfl | (rw [Bool.eq_iff_iff]; simp only [pairOdd]; (first | (simp; done) | (simp; omega) | (simp [*]; done) | (simp [*]; omega))) | (simp_all [pairOdd]; done) | (exfalso; omega))⟩)

theorem rule_May_2 (a b : ByteArray) : Pure Tryz.prog 233 [str a, str b] (fun d => d = bln (strSame a b)) := by
 refine pure_of_run follows an_zwio7 Tryz.func233 rfl ok_zwio7.1 ok_zwio7.2 (by simp [Tryz.ntmps233]) ?_
 rw [run_start]
 simp only [ac_zwio7, go_sem, contS_seq, simprocAttr]
 (repeat' (first | (refine GifP.mk (fun _ => ?_) (fun _ => ?_)) | (refine Gif.mk (fun _ => ?_) (fun _ => ?_)))) <;> (simp only [retK, resD, retL, oneD, simprocAttr, Tryz.results233]; exact ⟨_, rfl, rfl, congrArg bln (by first | rfl | (rw [Bool.eq_iff_iff]; simp only [strSame]; (first | (simp; done) | (simp; omega) | (simp [*]; done) | (simp [*]; omega))) | (simp_all [strSame]; done) | (exfalso; omega))⟩)

theorem rule_twice_1 (q : ByteArray → ByteArray → Bool) (f : FuncId) (he : Enters Tryz.prog f) (x y : APair) (hp : Pure Tryz.prog f [str y.name, str x.name] (fun d => d = bln (q y.name x.name))) :
 PureB Tryz.prog 262 [y.d, .ptr 1000001 0, .ptr 1000002 0] [(1000001, [.fn f []]), (1000002, [str x.name, str x.val])] (fun d => d = bln (q y.name x.name)) := by
 refine pureB_of_run follows an_zpw6o Tryz.func262 rfl ok_zpw6o.1 ok_zpw6o.2 (by simp [Tryz.ntmps262]) ?_
 rw [run_start]
 simp only [ac_zpw6o, go_sem, contS_seq, simprocAttr]
 refine hp.callW he _ rfl rfl ?_
 rintro d rfl
 simp only [go_sem, contS_seq, simprocAttr]
 simp only [retK, resD, retL, oneD, simprocAttr, Tryz.results262]
 exact ⟨_, rfl, rfl, rfl⟩

def pairTwice (q : ByteArray → ByteArray → Bool) (l : List APair) : Bool := twice (fun x y => q y.name x.name) l

theorem rule_twice (q : ByteArray → ByteArray → Bool) (f : FuncId) (he : Enters Tryz.prog f) (l : List APair) (hl : l.length ≤ 1000000) (hp : ∀ x ∈ l, ∀ y ∈ l, Pure Tryz.prog f [str y.name, str x.name] (fun d => d = bln (q y.name x.name))) :
 Pure Tryz.prog 230 [.pd (.slice (rows APair.pd l)), .fn f []] (fun d => d = bln (pairTwice q l)) := by
 refine pure_of_run follows an_z6for Tryz.func230 rfl ok_z6for.1 ok_z6for.2 (by simp [Tryz.ntmps230]) ?_
 rw [run_start]
 simp only [ac_z6for, go_sem, contS_seq, simprocAttr, rows_len]
 refine loopS (fun k st => ∃ i : Nat, k = l.length - i ∧ i ≤ l.length ∧ twiceFrom (fun x y : APair => q y.name x.name) l k i = pairTwice q l ∧
  st = ⟨[(0, .pd (.slice (rows APair.pd l))), (3, .ptr 3 0), (7, .pd (.slice (rows APair.pd l))), (8, int l.length), (9, int i)], [(3, [.fn f []])], [], .no⟩) l.length _ (Weak.refl _ _) ⟨0, rfl, Nat.zero_le _, rfl, rfl⟩ ?_
 rintro k st ⟨i, rfl, hi, hr, rfl⟩
 by_cases hlt : i < l.length
 ·obtain ⟨x, hx⟩ := at_lt hlt
  have hlt' : ((i : Int) < (l.length : Int)) = True := eq_true (by omega)
  have hle : (i ≤ l.length) = True := eq_true (by omega)
  have hw := i64_succ (show i < 1000000000 by omega)
  have hmx := List.mem_of_getElem? hx
  obtain ⟨m, hm⟩ : ∃ m, l.length - i = m + 1 := ⟨l.length - i - 1, by omega⟩
  rw [hm, twiceFrom, hx] at hr
  have hrows : rowsOK 2 (rows APair.pd l) = True := rowsOK_rows (f := APair.pd) (n := 2) (fun _ => rfl) l
  have htk : (rows APair.pd l).take i = rows APair.pd (l.take i) := by simp [rows, List.map_take]
  simp only [go_sem, contS_seq, simprocAttr, hlt', rows_get hx, rows_len, hrows, hle, htk]
  refine (ContainsFunc_Pair (fun y => q y.name x.name) 262 (enters_of Tryz.func262 rfl rfl) [(1000001, 0), (1000002, 0)] [(1000001, [.fn f []]), (1000002, [str x.name, str x.val])] (Cl.of rfl rfl rfl rfl rfl) (l.take i) (by simp; omega)
   (fun y hy => rule_twice_1 q f he x y (hp x hmx y (List.mem_of_mem_take hy)))).callW (enters_of Tryz.func229 rfl rfl) _ [(3, 1000001), (6, 1000002)] rfl rfl rfl ?_
  rintro d rfl
  simp only [go_sem, contS_seq, simprocAttr, hw]
  refine Gif.mk (fun h => ?_) (fun h => ?_)
  ·simp only [h, Bool.true_or] at hr
   simp only [retK, resD, retL, oneD, simprocAttr, Tryz.results230]
   exact ⟨_, rfl, rfl, congrArg bln hr⟩
  ·simp only [h, Bool.false_or] at hr
   refine ⟨m, _, ?_, ?_, i + 1, ?_, ?_, hr, rfl⟩
   ·omega
   ·exact lessA
   ·omega
   ·omega
 ·have hlt' : ((i : Int) < (l.length : Int)) = False := eq_false (by omega)
  rw [show l.length - i = 0 by omega, twiceFrom] at hr
  simp only [go_sem, contS_seq, simprocAttr, rows_len, hlt']
  simp only [retK, resD, retL, oneD, simprocAttr, Tryz.results230]
  exact ⟨_, rfl, rfl, congrArg bln hr⟩

def matchMay (m : AMatch) : Bool :=
 pathMay m.pkind m.pval && (decide (m.method = ⟨#[]⟩) || method m.method) && decide (m.head.length ≤ 8) && !m.head.any pairOdd && !pairTwice foldSame m.head && decide (m.query.length ≤ 8) && queryMay m.query && !pairTwice strSame m.query

set_option maxHeartbeats 1000000 in
theorem rule_May (m : AMatch) (h : m.ok) : Pure Tryz.prog 194 [m.d] (fun d => d = bln (matchMay m)) := by
 refine pure_of_run follows an_zi87h Tryz.func194 rfl ok_zi87h.1 ok_zi87h.2 (by simp [Tryz.ntmps194]) ?_
 rw [run_start]
 simp only [ac_zi87h, go_sem, contS_seq, simprocAttr, rows_len]
 (repeat' (first | (refine GifP.mk (fun _ => ?_) (fun _ => ?_)) | (refine Gif.mk (fun _ => ?_) (fun _ => ?_)) | ((first | refine (path_May _ _).callW (enters_of Tryz.func227 rfl rfl) _ rfl rfl ?_ | refine (rule_Method _).callW (enters_of Tryz.func228 rfl rfl) _ rfl rfl ?_ | refine (ContainsP_Pair pairOdd _ (enters_of Tryz.func224 rfl rfl) m.head h.hl (fun p hp => rule_May_1 p (h.h p hp))).callW (enters_of Tryz.func229 rfl rfl) _ rfl rfl ?_ | refine (rule_twice foldSame _ (enters_of Tryz.func231 rfl rfl) m.head h.hl (fun x hx y hy => pairs_Same _ _ (h.h y hy).1 (h.h x hx).1)).callW (enters_of Tryz.func230 rfl rfl) _ rfl rfl ?_ | refine (rule_twice strSame _ (enters_of Tryz.func233 rfl rfl) m.query h.ql (fun x hx y hy => rule_May_2 _ _)).callW (enters_of Tryz.func230 rfl rfl) _ rfl rfl ?_ | refine (query_May m.query h.ql).callW (enters_of Tryz.func232 rfl rfl) _ rfl rfl ?_); rintro _ rfl; try simp only [go_sem, contS_seq, simprocAttr, rows_len]))) <;> (simp only [retK, resD, retL, oneD, simprocAttr, Tryz.results194]; exact ⟨_, rfl, rfl, congrArg bln (by first | rfl | (rw [Bool.eq_iff_iff]; simp only [matchMay]; (first | (simp; done) | (simp; omega) | (simp [*]; done) | (simp [*]; omega))) | (simp_all [matchMay]; done) | (exfalso; omega))⟩)

def matchSame (a b : AMatch) : Bool := decide (a.pkind = b.pkind) && decide (a.pval = b.pval) && decide (a.method = b.method) && decide (a.head = b.head) && decide (a.query = b.query)

theorem rule_Same (a b : AMatch) (ha : a.ok) (hb : b.ok) : Pure Tryz.prog 154 [a.d, b.d] (fun d => d = bln (matchSame a b)) := by
 refine pure_of_run follows an_zb37x Tryz.func154 rfl ok_zb37x.1 ok_zb37x.2 (by simp [Tryz.ntmps154]) ?_
 rw [run_start]
 simp only [ac_zb37x, go_sem, contS_seq, simprocAttr, eqVs, eqV]
 (repeat' (first | (refine GifP.mk (fun _ => ?_) (fun _ => ?_)) | (refine Gif.mk (fun _ => ?_) (fun _ => ?_)) | ((first | refine (Equal_Pair a.head b.head ha.hl hb.hl).callW (enters_of Tryz.func99 rfl rfl) _ rfl rfl ?_ | refine (Equal_Pair a.query b.query ha.ql hb.ql).callW (enters_of Tryz.func99 rfl rfl) _ rfl rfl ?_); rintro _ rfl; try simp only [go_sem, contS_seq, simprocAttr, eqVs, eqV]))) <;> (simp only [retK, resD, retL, oneD, simprocAttr, Tryz.results154]; exact ⟨_, rfl, rfl, congrArg bln (by first | rfl | (rw [Bool.eq_iff_iff]; simp only [matchSame]; (first | (simp; done) | (simp; omega) | (simp [*]; done) | (simp [*]; omega))) | (simp_all [matchSame]; done) | (exfalso; omega))⟩)




def fturner (f : AFilter) : Bool := decide (f.kind = 4) || decide (f.kind = 5)

theorem filter_turner (f : AFilter) : Pure Tryz.prog 235 [f.d] (fun d => d = bln (fturner f)) := by
 refine pure_of_run follows an_zm6be Tryz.func235 rfl ok_zm6be.1 ok_zm6be.2 (by simp [Tryz.ntmps235]) ?_
 rw [run_start]
 simp only [ac_zm6be, go_sem, contS_seq, simprocAttr]
 (repeat' (first | (refine GifP.mk (fun _ => ?_) (fun _ => ?_)) | (refine Gif.mk (fun _ => ?_) (fun _ => ?_)))) <;> (simp only [retK, resD, retL, oneD, simprocAttr, Tryz.results235]; exact ⟨_, rfl, rfl, congrArg bln (by first | rfl | (rw [Bool.eq_iff_iff]; simp only [fturner]; (first | (simp; done) | (simp; omega) | (simp [*]; done) | (simp [*]; omega))) | (simp_all [fturner]; done) | (exfalso; omega))⟩)

def fturns (f : AFilter) : Bool :=
 !(!decide (f.host = ⟨#[]⟩) && !dname f.host) && (if f.path = ⟨#[]⟩ then !f.whole else if f.whole = true then pathIs f.path else pathMay 2 f.path)

theorem filter_turns (f : AFilter) : Pure Tryz.prog 264 [f.d] (fun d => d = bln (fturns f)) := by
 refine pure_of_run follows an_z3d8y Tryz.func264 rfl ok_z3d8y.1 ok_z3d8y.2 (by simp [Tryz.ntmps264]) ?_
 rw [run_start]
 simp only [ac_z3d8y, go_sem, contS_seq, simprocAttr]
 (repeat' (first | (refine GifP.mk (fun _ => ?_) (fun _ => ?_)) | (refine Gif.mk (fun _ => ?_) (fun _ => ?_)) | ((first | refine (dns_Name _).callW (enters_of Tryz.func93 rfl rfl) _ rfl rfl ?_ | refine (path_Is _).callW (enters_of Tryz.func258 rfl rfl) _ rfl rfl ?_ | refine (path_May _ _).callW (enters_of Tryz.func227 rfl rfl) _ rfl rfl ?_); rintro _ rfl; try simp only [go_sem, contS_seq, simprocAttr]))) <;> (simp only [retK, resD, retL, oneD, simprocAttr, Tryz.results264]; exact ⟨_, rfl, rfl, congrArg bln (by first | rfl | (rw [Bool.eq_iff_iff]; simp only [fturns]; (first | (simp; done) | (simp; omega) | (simp [*]; done) | (simp [*]; omega))) | (simp_all [fturns]; done) | (exfalso; omega))⟩)

def fzero (n v h p t w c : Bool) (f : AFilter) : Bool :=
 (n || decide (f.name = ⟨#[]⟩)) && (v || decide (f.val = ⟨#[]⟩)) && (h || decide (f.host = ⟨#[]⟩)) && (p || decide (f.port = 0)) && (t || decide (f.path = ⟨#[]⟩)) && (w || !f.whole) && (c || decide (f.code = 0))

def filterMay (f : AFilter) : Bool :=
 if f.kind = 1 ∨ f.kind = 2 then fzero true true false false false false false f && token f.name && fvalue f.val
 else if f.kind = 3 then fzero true false false false false false false f && token f.name
 else if f.kind = 4 then decide (f.name = ⟨#[]⟩) && decide (f.val = ⟨#[]⟩) && fturns f && decide (0 ≤ f.port) && decide (f.port ≤ 65535) && (decide (f.code = 301) || decide (f.code = 302))
 else if f.kind = 5 then fzero false false true false true true false f && fturns f && (!decide (f.host = ⟨#[]⟩) || !decide (f.path = ⟨#[]⟩))
 else false

theorem beq_self_true {b : Bool} : (b == b) = true := by cases b <;> rfl

set_option maxHeartbeats 1000000 in
theorem filter_May (f : AFilter) (h : f.ok) : Pure Tryz.prog 236 [f.d] (fun d => d = bln (filterMay f)) := by
 refine pure_of_run follows an_zhj59 Tryz.func236 rfl ok_zhj59.1 ok_zhj59.2 (by simp [Tryz.ntmps236]) ?_
 rw [run_start]
 simp only [ac_zhj59, go_sem, contS_seq, simprocAttr, eqVs, eqV, beq_self_true]
 (repeat' (first | (refine GifP.mk (fun _ => ?_) (fun _ => ?_)) | (refine Gif.mk (fun _ => ?_) (fun _ => ?_)) | ((first | refine (pairs_Token f.name h.1).callW (enters_of Tryz.func225 rfl rfl) _ rfl rfl ?_ | refine (pairs_Value f.val h.2).callW (enters_of Tryz.func226 rfl rfl) _ rfl rfl ?_ | refine (filter_turns f).callW (enters_of Tryz.func264 rfl rfl) _ rfl rfl ?_); rintro _ rfl; try simp only [go_sem, contS_seq, simprocAttr, eqVs, eqV, beq_self_true]))) <;> (simp only [retK, resD, retL, oneD, simprocAttr, Tryz.results236]; exact ⟨_, rfl, rfl, congrArg bln (by first | rfl | (rw [Bool.eq_iff_iff]; simp only [filterMay, fzero]; (first | (simp; done) | (simp; omega) | (simp [*]; done) | (simp [*]; omega))) | (simp_all [filterMay, fzero]; done) | (exfalso; omega))⟩)

def likeF (f x : AFilter) : Bool := (fturner x && fturner f) || (decide (x.kind = f.kind) && foldSame x.name f.name)

abbrev AFilter.ds (f : AFilter) : List D := [int f.kind, str f.name, str f.val, str f.host, int f.port, str f.path, bln f.whole, int f.code]

theorem filter_All_1 (f x : AFilter) (hf : f.ok) (hx : x.ok) : PureB Tryz.prog 234 [x.d, .ptr 1000001 0] [(1000001, f.ds)] (fun d => d = bln (likeF f x)) := by
 refine pureB_of_run follows an_z38ed Tryz.func234 rfl ok_z38ed.1 ok_z38ed.2 (by simp [Tryz.ntmps234]) ?_
 rw [run_start]
 simp only [ac_z38ed, go_sem, contS_seq, simprocAttr]
 (repeat' (first | (refine GifP.mk (fun _ => ?_) (fun _ => ?_)) | (refine Gif.mk (fun _ => ?_) (fun _ => ?_)) | ((first | refine (filter_turner x).callW (enters_of Tryz.func235 rfl rfl) _ rfl rfl ?_ | refine (filter_turner f).callW (enters_of Tryz.func235 rfl rfl) _ rfl rfl ?_ | refine (pairs_Same _ _ hx.1 hf.1).callW (enters_of Tryz.func231 rfl rfl) _ rfl rfl ?_); rintro _ rfl; try simp only [go_sem, contS_seq, simprocAttr]))) <;> (simp only [retK, resD, retL, oneD, simprocAttr, Tryz.results234]; exact ⟨_, rfl, rfl, congrArg bln (by first | rfl | (rw [Bool.eq_iff_iff]; simp only [likeF]; (first | (simp; done) | (simp; omega) | (simp [*]; done) | (simp [*]; omega))) | (simp_all [likeF]; done) | (exfalso; omega))⟩)

def filtersFrom (l : List AFilter) : Nat → Nat → Bool
 | 0, _ => true
 | k + 1, i => (match l[i]? with
   | some f => filterMay f && !(l.take i).any (likeF f)
   | none => true) && filtersFrom l k (i + 1)

def filtersAll (l : List AFilter) : Bool := filtersFrom l l.length 0 && decide (l.length ≤ 8)

theorem filter_All (l : List AFilter) (hl : l.length ≤ 1000000) (ho : ∀ f ∈ l, f.ok) : Pure Tryz.prog 195 [.pd (.slice (rows AFilter.pd l))] (fun d => d = bln (filtersAll l)) := by
 refine pure_of_run follows an_zhmnj Tryz.func195 rfl ok_zhmnj.1 ok_zhmnj.2 (by simp [Tryz.ntmps195]) ?_
 rw [run_start]
 simp only [ac_zhmnj, go_sem, contS_seq, simprocAttr, rows_len]
 refine loopS (fun k st => ∃ i : Nat, k = l.length - i ∧ i ≤ l.length ∧ filtersFrom l k i = filtersFrom l l.length 0 ∧
  st = ⟨[(0, .pd (.slice (rows AFilter.pd l))), (6, .pd (.slice (rows AFilter.pd l))), (7, int l.length), (8, int i)], [], [], .no⟩) l.length _ (Weak.refl _ _) ⟨0, rfl, Nat.zero_le _, rfl, rfl⟩ ?_
 rintro k st ⟨i, rfl, hi, hr, rfl⟩
 by_cases hlt : i < l.length
 ·obtain ⟨x, hx⟩ := at_lt hlt
  have hlt' : ((i : Int) < (l.length : Int)) = True := eq_true (by omega)
  have hle : (i ≤ l.length) = True := eq_true (by omega)
  have hw := i64_succ (show i < 1000000000 by omega)
  have hmx := List.mem_of_getElem? hx
  obtain ⟨m, hm⟩ : ∃ m, l.length - i = m + 1 := ⟨l.length - i - 1, by omega⟩
  rw [hm, filtersFrom, hx] at hr
  have hrows : rowsOK 8 (rows AFilter.pd l) = True := rowsOK_rows (f := AFilter.pd) (n := 8) (fun _ => rfl) l
  have htk : (rows AFilter.pd l).take i = rows AFilter.pd (l.take i) := by simp [rows, List.map_take]
  have bad : filtersFrom l l.length 0 = false → filtersAll l = false := fun h => by simp [filtersAll, h]
  simp only [go_sem, contS_seq, simprocAttr, hlt', rows_get hx, rows_len, hrows, hle, htk]
  refine (filter_May x (ho x hmx)).callW (enters_of Tryz.func236 rfl rfl) _ rfl rfl ?_
  rintro d rfl
  simp only [go_sem, contS_seq, simprocAttr, hrows, hle, htk, rows_len]
  refine Gif.mk (fun h => ?_) (fun h => ?_)
  ·refine (ContainsFunc_Filter (likeF x) 234 (enters_of Tryz.func234 rfl rfl) [(1000001, 0)] [(1000001, x.ds)] (Cl.of rfl rfl rfl rfl rfl) (l.take i) (by simp; omega)
    (fun y hy => filter_All_1 x y (ho x hmx) (ho y (List.mem_of_mem_take hy)))).callW (enters_of Tryz.func237 rfl rfl) _ [(4, 1000001)] rfl rfl rfl ?_
   rintro d rfl
   simp only [go_sem, contS_seq, simprocAttr, hw]
   refine Gif.mk (fun h2 => ?_) (fun h2 => ?_)
   ·simp only [h, h2, Bool.not_true, Bool.and_false, Bool.false_and] at hr
    simp only [retK, resD, retL, oneD, simprocAttr, Tryz.results195]
    exact ⟨_, rfl, rfl, congrArg bln (bad hr.symm).symm⟩
   ·simp only [h, h2, Bool.not_false, Bool.and_true, Bool.true_and] at hr
    refine ⟨m, _, ?_, ?_, i + 1, ?_, ?_, hr, rfl⟩
    ·omega
    ·exact lessA
    ·omega
    ·omega
  ·simp only [h, Bool.false_and] at hr
   simp only [retK, resD, retL, oneD, simprocAttr, Tryz.results195]
   exact ⟨_, rfl, rfl, congrArg bln (bad hr.symm).symm⟩
 ·have hlt' : ((i : Int) < (l.length : Int)) = False := eq_false (by omega)
  rw [show l.length - i = 0 by omega, filtersFrom] at hr
  simp only [go_sem, contS_seq, simprocAttr, rows_len, hlt']
  repeat' (first | refine GifP.mk (fun _ => ?_) (fun _ => ?_) | refine Gif.mk (fun _ => ?_) (fun _ => ?_))
  all_goals
   simp only [retK, resD, retL, oneD, simprocAttr, Tryz.results195]
   exact ⟨_, rfl, rfl, congrArg bln (by first | rfl | (rw [Bool.eq_iff_iff]; simp only [filtersAll, ← hr]; (first | (simp; done) | (simp; omega) | (simp [*]; done) | (simp [*]; omega))) | (simp_all [filtersAll, ← hr]; done) | (exfalso; omega))⟩

def listenerMay (l : AListener) : Bool :=
 (if l.tls = true then decide (l.cert.kind = 4) && labValue l.cert.space && dname l.cert.name else decide (l.cert.kind = 0) && decide (l.cert.space = ⟨#[]⟩) && decide (l.cert.name = ⟨#[]⟩)) &&
 label l.name && oport l.port && hostMay l.host && decide (0 ≤ l.from_) && decide (l.from_ ≤ 2) && needsMay l.needs && (decide (l.from_ = 2) || decide (l.needs.length = 0))

structure AListener.ok (l : AListener) : Prop where
 nl : l.needs.length ≤ 1000000
 n : ∀ x ∈ l.needs, x.ok

set_option maxHeartbeats 1000000 in
theorem object_listener (l : AListener) (h : l.ok) : Pure Tryz.prog 132 [l.d] (fun d => d = bln (listenerMay l)) := by
 refine pure_of_run follows an_z5xl6 Tryz.func132 rfl ok_z5xl6.1 ok_z5xl6.2 (by simp [Tryz.ntmps132]) ?_
 rw [run_start]
 simp only [ac_z5xl6, go_sem, contS_seq, simprocAttr, rows_len, eqVs, eqV]
 (repeat' (first | (refine GifP.mk (fun _ => ?_) (fun _ => ?_)) | (refine Gif.mk (fun _ => ?_) (fun _ => ?_)) | ((first | refine (object_near _).callW (enters_of Tryz.func181 rfl rfl) _ rfl rfl ?_ | refine (dns_Name _).callW (enters_of Tryz.func93 rfl rfl) _ rfl rfl ?_ | refine (dns_Label _).callW (enters_of Tryz.func94 rfl rfl) _ rfl rfl ?_ | refine (object_port _).callW (enters_of Tryz.func126 rfl rfl) _ rfl rfl ?_ | refine (host_May _).callW (enters_of Tryz.func139 rfl rfl) _ rfl rfl ?_ | refine (label_Needs l.needs h.nl h.n).callW (enters_of Tryz.func182 rfl rfl) _ rfl rfl ?_); rintro _ rfl; try simp only [go_sem, contS_seq, simprocAttr, rows_len, eqVs, eqV]))) <;> (simp only [retK, resD, retL, oneD, simprocAttr, Tryz.results132]; exact ⟨_, rfl, rfl, congrArg bln (by first | rfl | (rw [Bool.eq_iff_iff]; simp only [listenerMay]; (first | (simp; done) | (simp; omega) | (simp [*]; done) | (simp [*]; omega))) | (simp_all [listenerMay]; done) | (exfalso; omega))⟩)

structure ARule.ok (r : ARule) : Prop where
 ml : r.matches_.length ≤ 1000000
 fl : r.filters.length ≤ 1000000
 bl : r.backends.length ≤ 1000000
 m : ∀ x ∈ r.matches_, x.ok
 f : ∀ x ∈ r.filters, x.ok

def ruleMay (r : ARule) : Bool := every matchMay r.matches_ 4 && filtersAll r.filters && every backendMay r.backends 4

theorem object_ruled (r : ARule) (h : r.ok) : Pure Tryz.prog 144 [r.d] (fun d => d = bln (ruleMay r)) := by
 refine pure_of_run follows an_zjms9 Tryz.func144 rfl ok_zjms9.1 ok_zjms9.2 (by simp [Tryz.ntmps144]) ?_
 rw [run_start]
 simp only [ac_zjms9, go_sem, contS_seq, simprocAttr]
 (repeat' (first | (refine GifP.mk (fun _ => ?_) (fun _ => ?_)) | (refine Gif.mk (fun _ => ?_) (fun _ => ?_)) | ((first | refine (every_Match matchMay _ (enters_of Tryz.func194 rfl rfl) r.matches_ h.ml 4 (fun x hx => rule_May x (h.m x hx))).callW (enters_of Tryz.func193 rfl rfl) _ rfl rfl ?_ | refine (filter_All r.filters h.fl h.f).callW (enters_of Tryz.func195 rfl rfl) _ rfl rfl ?_ | refine (every_Backend backendMay _ (enters_of Tryz.func197 rfl rfl) r.backends h.bl 4 (fun x _ => object_backend x)).callW (enters_of Tryz.func196 rfl rfl) _ rfl rfl ?_); rintro _ rfl; try simp only [go_sem, contS_seq, simprocAttr]))) <;> (simp only [retK, resD, retL, oneD, simprocAttr, Tryz.results144]; exact ⟨_, rfl, rfl, congrArg bln (by first | rfl | (rw [Bool.eq_iff_iff]; simp only [ruleMay]; (first | (simp; done) | (simp; omega) | (simp [*]; done) | (simp [*]; omega))) | (simp_all [ruleMay]; done) | (exfalso; omega))⟩)

def listenerSame (a b : AListener) : Bool :=
 decide (a.name = b.name) && decide (a.port = b.port) && (a.tls == b.tls) && decide (a.host = b.host) && decide (a.cert = b.cert) && decide (a.from_ = b.from_) && eqf needSame a.needs b.needs

theorem object_sameListener (a b : AListener) (ha : a.ok) (hb : b.ok) : Pure Tryz.prog 105 [a.d, b.d] (fun d => d = bln (listenerSame a b)) := by
 refine pure_of_run follows an_z1fwi Tryz.func105 rfl ok_z1fwi.1 ok_z1fwi.2 (by simp [Tryz.ntmps105]) ?_
 rw [run_start]
 simp only [ac_z1fwi, go_sem, contS_seq, simprocAttr, eqVs, eqV, eq_Ref]
 (repeat' (first | (refine GifP.mk (fun _ => ?_) (fun _ => ?_)) | (refine Gif.mk (fun _ => ?_) (fun _ => ?_)) | (refine (label_Same a.needs b.needs ha.nl hb.nl ha.n hb.n).callW (enters_of Tryz.func152 rfl rfl) _ rfl rfl ?_; rintro _ rfl; try simp only [go_sem, contS_seq, simprocAttr, eqVs, eqV, eq_Ref]))) <;> (simp only [retK, resD, retL, oneD, simprocAttr, Tryz.results105]; exact ⟨_, rfl, rfl, congrArg bln (by first | rfl | (rw [Bool.eq_iff_iff]; simp only [listenerSame]; (first | (simp; done) | (simp; omega) | (simp [*]; done) | (simp [*]; omega))) | (simp_all [listenerSame]; done) | (exfalso; omega))⟩)

def ruleSame (a b : ARule) : Bool := eqf matchSame a.matches_ b.matches_ && decide (a.filters = b.filters) && decide (a.backends = b.backends)

theorem object_sameRule (a b : ARule) (ha : a.ok) (hb : b.ok) : Pure Tryz.prog 107 [a.d, b.d] (fun d => d = bln (ruleSame a b)) := by
 refine pure_of_run follows an_z30xg Tryz.func107 rfl ok_z30xg.1 ok_z30xg.2 (by simp [Tryz.ntmps107]) ?_
 rw [run_start]
 simp only [ac_z30xg, go_sem, contS_seq, simprocAttr]
 (repeat' (first | (refine GifP.mk (fun _ => ?_) (fun _ => ?_)) | (refine Gif.mk (fun _ => ?_) (fun _ => ?_)) | ((first | refine (EqualFunc_Match matchSame _ (enters_of Tryz.func154 rfl rfl) a.matches_ b.matches_ ha.ml hb.ml (fun x hx y hy => rule_Same x y (ha.m x hx) (hb.m y hy))).callW (enters_of Tryz.func153 rfl rfl) _ rfl rfl ?_ | refine (Equal_Filter a.filters b.filters ha.fl hb.fl).callW (enters_of Tryz.func155 rfl rfl) _ rfl rfl ?_ | refine (Equal_Backend a.backends b.backends ha.bl hb.bl).callW (enters_of Tryz.func156 rfl rfl) _ rfl rfl ?_); rintro _ rfl; try simp only [go_sem, contS_seq, simprocAttr]))) <;> (simp only [retK, resD, retL, oneD, simprocAttr, Tryz.results107]; exact ⟨_, rfl, rfl, congrArg bln (by first | rfl | (rw [Bool.eq_iff_iff]; simp only [ruleSame]; (first | (simp; done) | (simp; omega) | (simp [*]; done) | (simp [*]; omega))) | (simp_all [ruleSame]; done) | (exfalso; omega))⟩)


def labelsFrom (l : List APair) : Nat → Nat → Bool
 | 0, _ => true
 | k + 1, i => (match l[i]? with
   | some p => dname p.name && labValue p.val && (decide (i = 0) || (match l[i - 1]? with | some q => Op.bytesLess q.name.toList p.name.toList | none => false))
   | none => true) && labelsFrom l k (i + 1)

def labelsMay (l : List APair) : Bool := labelsFrom l l.length 0 && decide (l.length ≤ 8)

set_option maxHeartbeats 1000000 in
theorem label_May (l : List APair) (hl : l.length ≤ 1000000) : Pure Tryz.prog 124 [.pd (.slice (rows APair.pd l))] (fun d => d = bln (labelsMay l)) := by
 refine pure_of_run follows an_z2iq3 Tryz.func124 rfl ok_z2iq3.1 ok_z2iq3.2 (by simp [Tryz.ntmps124]) ?_
 rw [run_start]
 simp only [ac_z2iq3, go_sem, contS_seq, simprocAttr, rows_len]
 refine loopS (fun k st => ∃ i : Nat, k = l.length - i ∧ i ≤ l.length ∧ labelsFrom l k i = labelsFrom l l.length 0 ∧
  st = ⟨[(0, .pd (.slice (rows APair.pd l))), (5, .pd (.slice (rows APair.pd l))), (6, int l.length), (7, int i)], [], [], .no⟩) l.length _ (Weak.refl _ _) ⟨0, rfl, Nat.zero_le _, rfl, rfl⟩ ?_
 rintro k st ⟨i, rfl, hi, hr, rfl⟩
 by_cases hlt : i < l.length
 ·obtain ⟨x, hx⟩ := at_lt hlt
  have hlt' : ((i : Int) < (l.length : Int)) = True := eq_true (by omega)
  have hw := i64_succ (show i < 1000000000 by omega)
  obtain ⟨m, hm⟩ : ∃ m, l.length - i = m + 1 := ⟨l.length - i - 1, by omega⟩
  rw [hm, labelsFrom, hx] at hr
  have bad : labelsFrom l l.length 0 = false → labelsMay l = false := fun h => by simp [labelsMay, h]
  have good : ∀ st, Weak Tryz.prog st ⟨[(0, .pd (.slice (rows APair.pd l))), (5, .pd (.slice (rows APair.pd l))), (6, int l.length), (7, int (i + 1 : Nat))], [], [], .no⟩ → labelsFrom l m (i + 1) = labelsFrom l l.length 0 →
   Round Tryz.prog (fun k st => ∃ i : Nat, k = l.length - i ∧ i ≤ l.length ∧ labelsFrom l k i = labelsFrom l l.length 0 ∧
    st = ⟨[(0, .pd (.slice (rows APair.pd l))), (5, .pd (.slice (rows APair.pd l))), (6, int l.length), (7, int i)], [], [], .no⟩) (l.length - i) st := fun st hst hr =>
   ⟨m, _, by omega, hst, i + 1, by omega, by omega, hr, rfl⟩
  simp (maxSteps := 2000000) only [go_sem, contS_seq, simprocAttr, go_sem, hlt', rows_get hx, rows_len]
  refine (dns_Name x.name).callX (enters_of Tryz.func93 rfl rfl) _ rfl rfl ?_
  rintro d rfl
  simp (maxSteps := 2000000) only [go_sem, contS_seq, simprocAttr, go_sem, rows_len]
  refine Gif.mk (fun h1 => ?_) (fun h1 => ?_)
  ·refine (label_value x.val).callX (enters_of Tryz.func174 rfl rfl) _ rfl rfl ?_
   rintro d rfl
   by_cases hi0 : 0 < i
   ·obtain ⟨q, hq⟩ := at_lt (show i - 1 < l.length by omega)
    have h0 : ((0 : Int) < (i : Int)) = True := eq_true (by omega)
    have hw1 : IntKind.i64.wrap ((i : Int) - 1) = ((i - 1 : Nat) : Int) := by rw [IntWalk.i64_in _ (by omega)]; omega
    simp (maxSteps := 2000000) only [go_sem, contS_seq, simprocAttr, go_sem, rows_len, h0, hw1, rows_get hq, hw]
    refine Gif.mk (fun h2 => ?_) (fun h2 => ?_)
    ·refine Gif.mk (fun h3 => ?_) (fun h3 => ?_)
     ·refine good _ (lessA) ?_
      simpa [h1, h2, h3, hq] using hr
     ·simp only [retK, resD, retL, oneD, simprocAttr, Tryz.results124]
      refine ⟨_, rfl, rfl, congrArg bln (bad ?_).symm⟩
      rw [← hr]; simp [h1, h2, h3, hq]; omega
    ·simp only [retK, resD, retL, oneD, simprocAttr, Tryz.results124]
     refine ⟨_, rfl, rfl, congrArg bln (bad ?_).symm⟩
     rw [← hr]; simp [h1, h2]
   ·have h0 : ((0 : Int) < (i : Int)) = False := eq_false (by omega)
    simp (maxSteps := 2000000) only [go_sem, contS_seq, simprocAttr, go_sem, rows_len, h0, hw]
    refine Gif.mk (fun h2 => ?_) (fun h2 => ?_)
    ·refine good _ (lessA) ?_
     simpa [h1, h2, show i = 0 by omega] using hr
    ·simp only [retK, resD, retL, oneD, simprocAttr, Tryz.results124]
     refine ⟨_, rfl, rfl, congrArg bln (bad ?_).symm⟩
     rw [← hr]; simp [h1, h2]
  ·simp only [retK, resD, retL, oneD, simprocAttr, Tryz.results124]
   refine ⟨_, rfl, rfl, congrArg bln (bad ?_).symm⟩
   rw [← hr]; simp [h1]
 ·have hlt' : ((i : Int) < (l.length : Int)) = False := eq_false (by omega)
  rw [show l.length - i = 0 by omega, labelsFrom] at hr
  simp only [go_sem, contS_seq, simprocAttr, rows_len, hlt']
  repeat' (first | refine GifP.mk (fun _ => ?_) (fun _ => ?_) | refine Gif.mk (fun _ => ?_) (fun _ => ?_))
  all_goals
   simp only [retK, resD, retL, oneD, simprocAttr, Tryz.results124]
   exact ⟨_, rfl, rfl, congrArg bln (by first | rfl | (rw [Bool.eq_iff_iff]; simp only [labelsMay, ← hr]; (first | (simp; done) | (simp; omega) | (simp [*]; done) | (simp [*]; omega))) | (simp_all [labelsMay, ← hr]; done) | (exfalso; omega))⟩

def sortFrom (l : List Int) : Nat → Bool
 | 0 => true
 | i + 1 => (match l[i + 1]?, l[i]? with
   | some a, some b => !intLess a b
   | _, _ => true) && sortFrom l i

def sortedInts (l : List Int) : Bool := sortFrom l (l.length - 1)

theorem slices_IsSorted_int (l : List Int) (hl : l.length ≤ 1000000) : Pure Tryz.prog 127 [.pd (.slice (ints l))] (fun d => d = bln (sortedInts l)) := by
 refine pure_of_run follows an_zhfyj Tryz.func127 rfl ok_zhfyj.1 ok_zhfyj.2 (by simp [Tryz.ntmps127]) ?_
 rw [run_start]
 have hw0 : IntKind.i64.wrap ((l.length : Int) - 1) = (l.length : Int) - 1 := IntWalk.i64_in _ (by omega)
 simp only [ac_zhfyj, go_sem, contS_seq, simprocAttr, go_sem, rows_len, hw0]
 refine loopS (fun k st => ∃ i : Int, k = i.toNat ∧ -1 ≤ i ∧ i < (l.length : Int) ∧ sortFrom l i.toNat = sortedInts l ∧
  st = ⟨[(0, .pd (.slice (ints l))), (3, int i)], [], [], .no⟩) ((l.length : Int) - 1).toNat _ (Weak.refl _ _) ⟨(l.length : Int) - 1, rfl, by omega, by omega, by
   rw [sortedInts]; congr 1; omega, rfl⟩ ?_
 rintro k st ⟨i, rfl, hi, hi2, hr, rfl⟩
 by_cases hlt : 0 < i
 ·obtain ⟨j, rfl⟩ : ∃ j : Nat, i = (j + 1 : Nat) := ⟨(i - 1).toNat, by omega⟩
  obtain ⟨x, hx⟩ := at_lt (show j + 1 < l.length by omega)
  obtain ⟨y, hy⟩ := at_lt (show j < l.length by omega)
  have hlt' : ((0 : Int) < ((j + 1 : Nat) : Int)) = True := eq_true (by omega)
  have hw : IntKind.i64.wrap (((j + 1 : Nat) : Int) - 1) = (j : Int) := by rw [IntWalk.i64_in _ (by omega)]; omega
  rw [Int.toNat_natCast, sortFrom, hx, hy] at hr
  simp only [go_sem, contS_seq, simprocAttr, go_sem, hlt', rows_get hx, rows_get hy, hw]
  refine (cmp_Less x y).callX (enters_of Tryz.func177 rfl rfl) _ rfl rfl ?_
  rintro d rfl
  simp only [go_sem, contS_seq, simprocAttr, go_sem, hw]
  refine Gif.mk (fun h => ?_) (fun h => ?_)
  ·simp only [h, Bool.not_true, Bool.false_and] at hr
   simp only [retK, resD, retL, oneD, simprocAttr, Tryz.results127]
   exact ⟨_, rfl, rfl, congrArg bln hr⟩
  ·simp only [h, Bool.not_false, Bool.true_and] at hr
   refine ⟨j, _, ?_, ?_, (j : Int), by simp, by omega, by omega, by simpa using hr, rfl⟩
   ·omega
   ·exact lessA
 ·have hlt' : ((0 : Int) < i) = False := eq_false hlt
  rw [show i.toNat = 0 by omega, sortFrom] at hr
  simp only [go_sem, contS_seq, simprocAttr, go_sem, hlt']
  simp only [retK, resD, retL, oneD, simprocAttr, Tryz.results127]
  exact ⟨_, rfl, rfl, congrArg bln hr⟩

structure AObj.ok (o : AObj) : Prop where
 la : o.labels.length ≤ 1000000
 po : o.ports.length ≤ 1000000
 li : o.listeners.length ≤ 1000000
 pa : o.parents.length ≤ 1000000
 ho : o.hosts.length ≤ 1000000
 ru : o.rules.length ≤ 1000000
 fr : o.from_.length ≤ 1000000
 to : o.to_.length ≤ 1000000
 lis : ∀ x ∈ o.listeners, x.ok
 rus : ∀ x ∈ o.rules, x.ok

abbrev AObj.ds (o : AObj) : List D := [int o.ref.kind, str o.ref.space, str o.ref.name, bln o.good, .pd (.slice (rows APair.pd o.labels)), .pd (.slice (ints o.ports)), str o.cls, .pd (.slice (rows AListener.pd o.listeners)),
 .pd (.slice (rows AParent.pd o.parents)), .pd (.slice (strs o.hosts)), .pd (.slice (rows ARule.pd o.rules)), .pd (.slice (rows ASide.pd o.from_)), .pd (.slice (rows ASide.pd o.to_))]


def objSame (a b : AObj) : Bool :=
 decide (a.ref = b.ref) && (a.good == b.good) && decide (a.cls = b.cls) && decide (a.labels = b.labels) && decide (a.ports = b.ports) && decide (a.hosts = b.hosts) && decide (a.parents = b.parents) && decide (a.from_ = b.from_) && decide (a.to_ = b.to_) &&
 eqf listenerSame a.listeners b.listeners && eqf ruleSame a.rules b.rules

set_option maxHeartbeats 1000000 in
theorem object_Same (a b : AObj) (ha : a.ok) (hb : b.ok) : Pure Tryz.prog 53 [a.d, b.d] (fun d => d = bln (objSame a b)) := by
 refine pure_of_run follows an_zhbvt Tryz.func53 rfl ok_zhbvt.1 ok_zhbvt.2 (by simp [Tryz.ntmps53]) ?_
 rw [run_start]
 simp only [ac_zhbvt, go_sem, contS_seq, simprocAttr, eqVs, eqV, eq_Ref]
 (repeat' (first | (refine GifP.mk (fun _ => ?_) (fun _ => ?_)) | (refine Gif.mk (fun _ => ?_) (fun _ => ?_)) | ((first | refine (Equal_Pair a.labels b.labels ha.la hb.la).callW (enters_of Tryz.func99 rfl rfl) _ rfl rfl ?_ | refine (Equal_int a.ports b.ports ha.po hb.po).callW (enters_of Tryz.func100 rfl rfl) _ rfl rfl ?_ | refine (Equal_string a.hosts b.hosts ha.ho hb.ho).callW (enters_of Tryz.func101 rfl rfl) _ rfl rfl ?_ | refine (Equal_Parent a.parents b.parents ha.pa hb.pa).callW (enters_of Tryz.func102 rfl rfl) _ rfl rfl ?_ | refine (Equal_Side a.from_ b.from_ ha.fr hb.fr).callW (enters_of Tryz.func103 rfl rfl) _ rfl rfl ?_ | refine (Equal_Side a.to_ b.to_ ha.to hb.to).callW (enters_of Tryz.func103 rfl rfl) _ rfl rfl ?_ | refine (EqualFunc_Listener listenerSame _ (enters_of Tryz.func105 rfl rfl) a.listeners b.listeners ha.li hb.li (fun x hx y hy => object_sameListener x y (ha.lis x hx) (hb.lis y hy))).callW (enters_of Tryz.func104 rfl rfl) _ rfl rfl ?_ | refine (EqualFunc_Rule ruleSame _ (enters_of Tryz.func107 rfl rfl) a.rules b.rules ha.ru hb.ru (fun x hx y hy => object_sameRule x y (ha.rus x hx) (hb.rus y hy))).callW (enters_of Tryz.func106 rfl rfl) _ rfl rfl ?_); rintro _ rfl; try simp only [go_sem, contS_seq, simprocAttr, eqVs, eqV, eq_Ref]))) <;> (simp only [retK, resD, retL, oneD, simprocAttr, Tryz.results53]; exact ⟨_, rfl, rfl, congrArg bln (by first | rfl | (rw [Bool.eq_iff_iff]; simp only [objSame]; (first | (simp; done) | (simp; omega) | (simp [*]; done) | (simp [*]; omega))) | (simp_all [objSame]; done) | (exfalso; omega))⟩)


theorem lessL_total : ∀ x y : List UInt8, (Op.bytesLess x y || decide (x = y)) = !Op.bytesLess y x
 | [], [] => rfl
 | [], b :: y => rfl
 | a :: x, [] => rfl
 | a :: x, b :: y => by
   have ih := lessL_total x y
   simp only [Op.bytesLess]
   by_cases h1 : a < b
   ·have h2 : ¬ b < a := fun h => by have := UInt8.lt_iff_toNat_lt.1 h; have := UInt8.lt_iff_toNat_lt.1 h1; omega
    have h3 : (b == a) = false := by
     rw [beq_eq_false_iff_ne]
     rintro rfl
     exact h2 h1
    simp [h1, h2, h3]
   ·by_cases h2 : b < a
    ·have h3 : (a == b) = false := by
      rw [beq_eq_false_iff_ne]
      rintro rfl
      exact h1 h2
     have h4 : ¬ a = b := by simpa using h3
     simp [h1, h2, h3, h4]
    ·have h3 : a = b := UInt8.toNat_inj.1 (by
      have := mt UInt8.lt_iff_toNat_lt.2 h1
      have := mt UInt8.lt_iff_toNat_lt.2 h2
      omega)
     subst h3
     simpa [h1] using ih

theorem less_total (a b : ByteArray) : (Op.bytesLess a.toList b.toList || decide (a = b)) = !Op.bytesLess b.toList a.toList := by
 rw [← lessL_total]
 congr 1
 rw [Bool.eq_iff_iff, decide_eq_true_eq, decide_eq_true_eq]
 constructor
 ·rintro rfl; rfl
 ·intro h
  have := bytes_eq a b
  rw [h] at this
  simpa using this


def wide (p : ByteArray) : Bool := hasPrefix p ⟨#[42, 46]⟩





theorem thing_class (o : AObj) : Full Tryz.prog 87 [.ptr 500001 0] [(500001, o.ds)] true (fun d bs => d = bln true ∧ bs = [(500001,
 [int o.ref.kind, str o.ref.space, str o.ref.name, bln false, .pd (.slice (rows APair.pd o.labels)), .pd (.slice (ints o.ports)), str o.cls, .pd (.slice (rows AListener.pd o.listeners)),
  .pd (.slice (rows AParent.pd o.parents)), .pd (.slice (strs o.hosts)), .pd (.slice (rows ARule.pd o.rules)), .pd (.slice (rows ASide.pd o.from_)), .pd (.slice (rows ASide.pd o.to_))])]) := by
 refine full_of_run follows an_zk71m Tryz.func87 rfl ok_zk71m.1 ok_zk71m.2 (by simp [Tryz.ntmps87]) (by simp [Tryz.ntmps87]) (.inl rfl) ?_
 rw [run_start]
 simp only [ac_zk71m, go_sem, contS_seq, simprocAttr]
 simp only [retK, fullK, resD, retL, oneD, simprocAttr, Tryz.results87]
 exact ⟨_, _, rfl, by simp [lessL, lk], rfl, rfl⟩

theorem thing_space (o : AObj) (h : o.ok) : Full Tryz.prog 88 [.ptr 500001 0] [(500001, o.ds)] true (fun d bs => d = bln (labelsMay o.labels) ∧ bs = [(500001,
 [int o.ref.kind, str o.ref.space, str o.ref.name, bln o.good, .nils, .pd (.slice (ints o.ports)), str o.cls, .pd (.slice (rows AListener.pd o.listeners)),
  .pd (.slice (rows AParent.pd o.parents)), .pd (.slice (strs o.hosts)), .pd (.slice (rows ARule.pd o.rules)), .pd (.slice (rows ASide.pd o.from_)), .pd (.slice (rows ASide.pd o.to_))])]) := by
 refine full_of_run follows an_zag3z Tryz.func88 rfl ok_zag3z.1 ok_zag3z.2 (by simp [Tryz.ntmps88]) (by simp [Tryz.ntmps88]) (.inl rfl) ?_
 rw [run_start]
 simp only [ac_zag3z, go_sem, contS_seq, simprocAttr]
 refine (label_May o.labels h.la).callW (enters_of Tryz.func124 rfl rfl) _ rfl rfl ?_
 rintro d rfl
 simp only [go_sem, contS_seq, simprocAttr]
 simp only [retK, fullK, resD, retL, oneD, simprocAttr, Tryz.results88]
 exact ⟨_, _, rfl, by simp [lessL, lk], rfl, rfl⟩

def serviceMay (l : List Int) : Bool := decide (0 < l.length) && every oport l 8 && sortedInts l && !twice intSame l

theorem thing_service (o : AObj) (h : o.ok) : Full Tryz.prog 89 [.ptr 500001 0] [(500001, o.ds)] true (fun d bs => d = bln (serviceMay o.ports) ∧ bs = [(500001,
 [int o.ref.kind, str o.ref.space, str o.ref.name, bln o.good, .pd (.slice (rows APair.pd o.labels)), .nils, str o.cls, .pd (.slice (rows AListener.pd o.listeners)),
  .pd (.slice (rows AParent.pd o.parents)), .pd (.slice (strs o.hosts)), .pd (.slice (rows ARule.pd o.rules)), .pd (.slice (rows ASide.pd o.from_)), .pd (.slice (rows ASide.pd o.to_))])]) := by
 refine full_of_run follows an_zxlfl Tryz.func89 rfl ok_zxlfl.1 ok_zxlfl.2 (by simp [Tryz.ntmps89]) (by simp [Tryz.ntmps89]) (.inl rfl) ?_
 rw [run_start]
 simp only [ac_zxlfl, go_sem, contS_seq, simprocAttr, rows_len]
 (repeat' (first | (refine GifP.mk (fun _ => ?_) (fun _ => ?_)) | (refine Gif.mk (fun _ => ?_) (fun _ => ?_)) | ((first | refine (every_int oport _ (enters_of Tryz.func126 rfl rfl) o.ports h.po 8 (fun x _ => object_port x)).callW (enters_of Tryz.func125 rfl rfl) _ rfl rfl ?_ | refine (slices_IsSorted_int o.ports h.po).callW (enters_of Tryz.func127 rfl rfl) _ rfl rfl ?_ | refine (twice_int intSame _ (enters_of Tryz.func129 rfl rfl) o.ports h.po (fun x _ y _ => thing_service_1 x y)).callW (enters_of Tryz.func128 rfl rfl) _ rfl rfl ?_); rintro _ rfl; try simp only [go_sem, contS_seq, simprocAttr]))) <;> (simp only [retK, fullK, resD, retL, oneD, simprocAttr, Tryz.results89]; exact ⟨_, _, rfl, by simp [lessL, lk], congrArg bln (by first | rfl | (rw [Bool.eq_iff_iff]; simp only [serviceMay]; (first | (simp; done) | (simp; omega) | (simp [*]; done) | (simp [*]; omega))) | (simp_all [serviceMay]; done) | (exfalso; omega)), rfl⟩)

def gatewayMay (s : ByteArray) (l : List AListener) : Bool := dname s && decide (0 < l.length) && every listenerMay l 8 && !twice lisName l

theorem thing_gateway (o : AObj) (h : o.ok) : Full Tryz.prog 90 [.ptr 500001 0] [(500001, o.ds)] true (fun d bs => d = bln (gatewayMay o.cls o.listeners) ∧ bs = [(500001,
 [int o.ref.kind, str o.ref.space, str o.ref.name, bln o.good, .pd (.slice (rows APair.pd o.labels)), .pd (.slice (ints o.ports)), str ⟨#[]⟩, .nils,
  .pd (.slice (rows AParent.pd o.parents)), .pd (.slice (strs o.hosts)), .pd (.slice (rows ARule.pd o.rules)), .pd (.slice (rows ASide.pd o.from_)), .pd (.slice (rows ASide.pd o.to_))])]) := by
 refine full_of_run follows an_zqquk Tryz.func90 rfl ok_zqquk.1 ok_zqquk.2 (by simp [Tryz.ntmps90]) (by simp [Tryz.ntmps90]) (.inl rfl) ?_
 rw [run_start]
 simp only [ac_zqquk, go_sem, contS_seq, simprocAttr, go_sem, rows_len]
 (repeat' (first | (refine GifP.mk (fun _ => ?_) (fun _ => ?_)) | (refine Gif.mk (fun _ => ?_) (fun _ => ?_)) | ((first | refine (dns_Name _).callW (enters_of Tryz.func93 rfl rfl) _ rfl rfl ?_ | refine (every_Listener listenerMay _ (enters_of Tryz.func132 rfl rfl) o.listeners h.li 8 (fun x hx => object_listener x (h.lis x hx))).callW (enters_of Tryz.func131 rfl rfl) _ rfl rfl ?_ | refine (twice_Listener lisName _ (enters_of Tryz.func130 rfl rfl) o.listeners h.li (fun x _ y _ => thing_gateway_1 x y)).callW (enters_of Tryz.func133 rfl rfl) _ rfl rfl ?_); rintro _ rfl; try simp only [go_sem, contS_seq, simprocAttr, rows_len]))) <;> (simp only [retK, fullK, resD, retL, oneD, simprocAttr, Tryz.results90]; exact ⟨_, _, rfl, by simp [lessL, lk], congrArg bln (by first | rfl | (rw [Bool.eq_iff_iff]; simp only [gatewayMay]; (first | (simp; done) | (simp; omega) | (simp [*]; done) | (simp [*]; omega))) | (simp_all [gatewayMay]; done) | (exfalso; omega)), rfl⟩)

def routeMay (ps : List AParent) (hs : List ByteArray) (rs : List ARule) : Bool :=
 !(twice parSame ps || twice strSame hs) && every parentMay ps 4 && every patMay hs 4 && every ruleMay rs 6

theorem thing_route (o : AObj) (h : o.ok) : Full Tryz.prog 91 [.ptr 500001 0] [(500001, o.ds)] true (fun d bs => d = bln (routeMay o.parents o.hosts o.rules) ∧ bs = [(500001,
 [int o.ref.kind, str o.ref.space, str o.ref.name, bln o.good, .pd (.slice (rows APair.pd o.labels)), .pd (.slice (ints o.ports)), str o.cls, .pd (.slice (rows AListener.pd o.listeners)),
  .nils, .nils, .nils, .pd (.slice (rows ASide.pd o.from_)), .pd (.slice (rows ASide.pd o.to_))])]) := by
 refine full_of_run follows an_ztpho Tryz.func91 rfl ok_ztpho.1 ok_ztpho.2 (by simp [Tryz.ntmps91]) (by simp [Tryz.ntmps91]) (.inl rfl) ?_
 rw [run_start]
 simp (maxSteps := 5000000) only [ac_ztpho, go_sem, contS_seq, simprocAttr, go_sem, rows_len]
 (repeat' (first | (refine GifP.mk (fun _ => ?_) (fun _ => ?_)) | (refine Gif.mk (fun _ => ?_) (fun _ => ?_)) | ((first | refine (twice_Parent parSame _ (enters_of Tryz.func135 rfl rfl) o.parents h.pa (fun x _ y _ => thing_route_1 x y)).callW (enters_of Tryz.func134 rfl rfl) _ rfl rfl ?_ | refine (twice_string strSame _ (enters_of Tryz.func137 rfl rfl) o.hosts h.ho (fun x _ y _ => thing_route_2 x y)).callW (enters_of Tryz.func136 rfl rfl) _ rfl rfl ?_ | refine (every_Parent parentMay _ (enters_of Tryz.func141 rfl rfl) o.parents h.pa 4 (fun x _ => object_parent x)).callW (enters_of Tryz.func140 rfl rfl) _ rfl rfl ?_ | refine (every_string patMay _ (enters_of Tryz.func138 rfl rfl) o.hosts h.ho 4 (fun x _ => thing_route_3 x)).callW (enters_of Tryz.func142 rfl rfl) _ rfl rfl ?_ | refine (every_Rule ruleMay _ (enters_of Tryz.func144 rfl rfl) o.rules h.ru 6 (fun x hx => object_ruled x (h.rus x hx))).callW (enters_of Tryz.func143 rfl rfl) _ rfl rfl ?_); rintro _ rfl; try simp only [go_sem, contS_seq, simprocAttr, rows_len]))) <;> (simp only [retK, fullK, resD, retL, oneD, simprocAttr, Tryz.results91]; exact ⟨_, _, rfl, by simp [lessL, lk], congrArg bln (by first | rfl | (rw [Bool.eq_iff_iff]; simp only [routeMay]; (first | (simp; done) | (simp; omega) | (simp [*]; done) | (simp [*]; omega))) | (simp_all [routeMay]; done) | (exfalso; omega)), rfl⟩)

def grantMay (f t : List ASide) : Bool := decide (0 < f.length) && decide (0 < t.length) && every sideFrom f 4 && every sideTo t 4

theorem thing_grant (o : AObj) (h : o.ok) : Full Tryz.prog 92 [.ptr 500001 0] [(500001, o.ds)] true (fun d bs => d = bln (grantMay o.from_ o.to_) ∧ bs = [(500001,
 [int o.ref.kind, str o.ref.space, str o.ref.name, bln o.good, .pd (.slice (rows APair.pd o.labels)), .pd (.slice (ints o.ports)), str o.cls, .pd (.slice (rows AListener.pd o.listeners)),
  .pd (.slice (rows AParent.pd o.parents)), .pd (.slice (strs o.hosts)), .pd (.slice (rows ARule.pd o.rules)), .nils, .nils])]) := by
 refine full_of_run follows an_zlbax Tryz.func92 rfl ok_zlbax.1 ok_zlbax.2 (by simp [Tryz.ntmps92]) (by simp [Tryz.ntmps92]) (.inl rfl) ?_
 rw [run_start]
 simp only [ac_zlbax, go_sem, contS_seq, simprocAttr, go_sem, rows_len]
 (repeat' (first | (refine GifP.mk (fun _ => ?_) (fun _ => ?_)) | (refine Gif.mk (fun _ => ?_) (fun _ => ?_)) | ((first | refine (every_Side sideFrom _ (enters_of Tryz.func145 rfl rfl) o.from_ h.fr 4 (fun x _ => thing_grant_1 x)).callW (enters_of Tryz.func147 rfl rfl) _ rfl rfl ?_ | refine (every_Side sideTo _ (enters_of Tryz.func146 rfl rfl) o.to_ h.to 4 (fun x _ => thing_grant_2 x)).callW (enters_of Tryz.func147 rfl rfl) _ rfl rfl ?_); rintro _ rfl; try simp only [go_sem, contS_seq, simprocAttr, rows_len]))) <;> (simp only [retK, fullK, resD, retL, oneD, simprocAttr, Tryz.results92]; exact ⟨_, _, rfl, by simp [lessL, lk], congrArg bln (by first | rfl | (rw [Bool.eq_iff_iff]; simp only [grantMay]; (first | (simp; done) | (simp; omega) | (simp [*]; done) | (simp [*]; omega))) | (simp_all [grantMay]; done) | (exfalso; omega)), rfl⟩)


def AObj.zero (r : ARef) : AObj := ⟨r, false, [], [], ⟨#[]⟩, [], [], [], [], [], []⟩

theorem AObj.zero_ok (r : ARef) : (AObj.zero r).ok := ⟨by simp [AObj.zero], by simp [AObj.zero], by simp [AObj.zero], by simp [AObj.zero], by simp [AObj.zero], by simp [AObj.zero], by simp [AObj.zero], by simp [AObj.zero], by simp [AObj.zero], by simp [AObj.zero]⟩

def AObj.strip (o : AObj) : AObj :=
 if o.ref.kind = 1 ∨ o.ref.kind = 4 then { o with good := false }
 else if o.ref.kind = 2 then { o with labels := [] }
 else if o.ref.kind = 3 then { o with ports := [] }
 else if o.ref.kind = 5 then { o with listeners := [], cls := ⟨#[]⟩ }
 else if o.ref.kind = 6 then { o with parents := [], hosts := [], rules := [] }
 else { o with from_ := [], to_ := [] }

def kindMay (o : AObj) : Bool :=
 if o.ref.kind = 1 ∨ o.ref.kind = 4 then true
 else if o.ref.kind = 2 then labelsMay o.labels
 else if o.ref.kind = 3 then serviceMay o.ports
 else if o.ref.kind = 5 then gatewayMay o.cls o.listeners
 else if o.ref.kind = 6 then routeMay o.parents o.hosts o.rules
 else grantMay o.from_ o.to_

def objMay (o : AObj) : Bool := mayRef o.ref && kindMay o && objSame o.strip (AObj.zero o.ref)

theorem mayRef_kind {r : ARef} (h : mayRef r = true) : r.kind = 1 ∨ r.kind = 2 ∨ r.kind = 3 ∨ r.kind = 4 ∨ r.kind = 5 ∨ r.kind = 6 ∨ r.kind = 7 := by
 unfold mayRef at h
 split at h
 ·omega
 ·split at h
  ·omega
  ·simp [okind] at h; omega

theorem strip_ok {o s : AObj} (h : o.ok) (h1 : s.labels = o.labels ∨ s.labels = []) (h2 : s.ports = o.ports ∨ s.ports = []) (h3 : s.listeners = o.listeners ∨ s.listeners = []) (h4 : s.parents = o.parents ∨ s.parents = []) (h5 : s.hosts = o.hosts ∨ s.hosts = [])
 (h6 : s.rules = o.rules ∨ s.rules = []) (h7 : s.from_ = o.from_ ∨ s.from_ = []) (h8 : s.to_ = o.to_ ∨ s.to_ = []) : s.ok where
 la := by rcases h1 with e | e <;> rw [e] <;> first | exact h.la | simp
 po := by rcases h2 with e | e <;> rw [e] <;> first | exact h.po | simp
 li := by rcases h3 with e | e <;> rw [e] <;> first | exact h.li | simp
 pa := by rcases h4 with e | e <;> rw [e] <;> first | exact h.pa | simp
 ho := by rcases h5 with e | e <;> rw [e] <;> first | exact h.ho | simp
 ru := by rcases h6 with e | e <;> rw [e] <;> first | exact h.ru | simp
 fr := by rcases h7 with e | e <;> rw [e] <;> first | exact h.fr | simp
 to := by rcases h8 with e | e <;> rw [e] <;> first | exact h.to | simp
 lis := by rcases h3 with e | e <;> rw [e] <;> first | exact h.lis | simp
 rus := by rcases h6 with e | e <;> rw [e] <;> first | exact h.rus | simp

set_option maxHeartbeats 4000000 in
theorem object_May (o : AObj) (h : o.ok) : Pure Tryz.prog 42 [o.d] (fun d => d = bln (objMay o)) := by
 refine pure_of_run follows an_zfwje Tryz.func42 rfl ok_zfwje.1 ok_zfwje.2 (by simp [Tryz.ntmps42]) ?_
 rw [run_start]
 simp (maxSteps := 5000000) only [ac_zfwje, go_sem, contS_seq, simprocAttr, go_sem]
 refine (object_MayRef o.ref).callX (enters_of Tryz.func44 rfl rfl) _ rfl rfl ?_
 rintro d rfl
 by_cases hm : mayRef o.ref = true
 ·have stop : kindMay o = false → objMay o = false := fun e => by simp [objMay, e]
  have go : ∀ s : AObj, o.strip = s → kindMay o = true → objMay o = objSame s (AObj.zero o.ref) := fun s e1 e2 => by simp [objMay, hm, e1, e2]
  rcases mayRef_kind hm with hk | hk | hk | hk | hk | hk | hk
  ·obtain ⟨⟨kd, sp, nm⟩, gd, la, po, cl, li, pa, ho, ru, fr, to⟩ := o
   simp only at hk
   subst hk
   simp (maxSteps := 5000000) only [go_sem, contS_seq, simprocAttr, go_sem, hm]
   refine (thing_class ⟨⟨1, sp, nm⟩, gd, la, po, cl, li, pa, ho, ru, fr, to⟩).callW (enters_of Tryz.func87 rfl rfl) _ false [(9, 500001)] [] [] [] rfl rfl rfl ?_
   rintro d bs ⟨rfl, rfl⟩
   simp (maxSteps := 5000000) only [go_sem, contS_seq, simprocAttr, go_sem]
   have hs : (⟨⟨1, sp, nm⟩, gd, la, po, cl, li, pa, ho, ru, fr, to⟩ : AObj).strip = { (⟨⟨1, sp, nm⟩, gd, la, po, cl, li, pa, ho, ru, fr, to⟩ : AObj) with good := false } := by simp [AObj.strip]
   have hkm : kindMay (⟨⟨1, sp, nm⟩, gd, la, po, cl, li, pa, ho, ru, fr, to⟩ : AObj) = true := by simp [kindMay]
   refine (object_Same ({ (⟨⟨1, sp, nm⟩, gd, la, po, cl, li, pa, ho, ru, fr, to⟩ : AObj) with good := false } : AObj) (AObj.zero ⟨1, sp, nm⟩) (strip_ok h (by simp) (by simp) (by simp) (by simp) (by simp) (by simp) (by simp) (by simp)) (AObj.zero_ok ⟨1, sp, nm⟩)).callX (enters_of Tryz.func53 rfl rfl) _ rfl rfl ?_
   rintro d rfl
   simp (maxSteps := 5000000) only [go_sem, contS_seq, simprocAttr, go_sem]
   simp only [retK, resD, retL, oneD, simprocAttr, Tryz.results42]
   exact ⟨_, rfl, rfl, congrArg bln (go _ hs (by rw [hkm])).symm⟩
  ·obtain ⟨⟨kd, sp, nm⟩, gd, la, po, cl, li, pa, ho, ru, fr, to⟩ := o
   simp only at hk
   subst hk
   simp (maxSteps := 5000000) only [go_sem, contS_seq, simprocAttr, go_sem, hm]
   refine (thing_space ⟨⟨2, sp, nm⟩, gd, la, po, cl, li, pa, ho, ru, fr, to⟩ h).callW (enters_of Tryz.func88 rfl rfl) _ false [(9, 500001)] [] [] [] rfl rfl rfl ?_
   rintro d bs ⟨rfl, rfl⟩
   simp (maxSteps := 5000000) only [go_sem, contS_seq, simprocAttr, go_sem]
   have hs : (⟨⟨2, sp, nm⟩, gd, la, po, cl, li, pa, ho, ru, fr, to⟩ : AObj).strip = { (⟨⟨2, sp, nm⟩, gd, la, po, cl, li, pa, ho, ru, fr, to⟩ : AObj) with labels := [] } := by simp [AObj.strip]
   have hkm : kindMay (⟨⟨2, sp, nm⟩, gd, la, po, cl, li, pa, ho, ru, fr, to⟩ : AObj) = labelsMay la := by simp [kindMay]
   refine Gif.mk (fun h1 => ?_) (fun h1 => ?_)
   ·refine (object_Same ({ (⟨⟨2, sp, nm⟩, gd, la, po, cl, li, pa, ho, ru, fr, to⟩ : AObj) with labels := [] } : AObj) (AObj.zero ⟨2, sp, nm⟩) (strip_ok h (by simp) (by simp) (by simp) (by simp) (by simp) (by simp) (by simp) (by simp)) (AObj.zero_ok ⟨2, sp, nm⟩)).callX (enters_of Tryz.func53 rfl rfl) _ rfl rfl ?_
    rintro d rfl
    simp (maxSteps := 5000000) only [go_sem, contS_seq, simprocAttr, go_sem]
    simp only [retK, resD, retL, oneD, simprocAttr, Tryz.results42]
    exact ⟨_, rfl, rfl, congrArg bln (go _ hs (by rw [hkm]; exact h1)).symm⟩
   ·simp only [retK, resD, retL, oneD, simprocAttr, Tryz.results42]
    exact ⟨_, rfl, rfl, congrArg bln (stop (by rw [hkm]; exact h1)).symm⟩
  ·obtain ⟨⟨kd, sp, nm⟩, gd, la, po, cl, li, pa, ho, ru, fr, to⟩ := o
   simp only at hk
   subst hk
   simp (maxSteps := 5000000) only [go_sem, contS_seq, simprocAttr, go_sem, hm]
   refine (thing_service ⟨⟨3, sp, nm⟩, gd, la, po, cl, li, pa, ho, ru, fr, to⟩ h).callW (enters_of Tryz.func89 rfl rfl) _ false [(9, 500001)] [] [] [] rfl rfl rfl ?_
   rintro d bs ⟨rfl, rfl⟩
   simp (maxSteps := 5000000) only [go_sem, contS_seq, simprocAttr, go_sem]
   have hs : (⟨⟨3, sp, nm⟩, gd, la, po, cl, li, pa, ho, ru, fr, to⟩ : AObj).strip = { (⟨⟨3, sp, nm⟩, gd, la, po, cl, li, pa, ho, ru, fr, to⟩ : AObj) with ports := [] } := by simp [AObj.strip]
   have hkm : kindMay (⟨⟨3, sp, nm⟩, gd, la, po, cl, li, pa, ho, ru, fr, to⟩ : AObj) = serviceMay po := by simp [kindMay]
   refine Gif.mk (fun h1 => ?_) (fun h1 => ?_)
   ·refine (object_Same ({ (⟨⟨3, sp, nm⟩, gd, la, po, cl, li, pa, ho, ru, fr, to⟩ : AObj) with ports := [] } : AObj) (AObj.zero ⟨3, sp, nm⟩) (strip_ok h (by simp) (by simp) (by simp) (by simp) (by simp) (by simp) (by simp) (by simp)) (AObj.zero_ok ⟨3, sp, nm⟩)).callX (enters_of Tryz.func53 rfl rfl) _ rfl rfl ?_
    rintro d rfl
    simp (maxSteps := 5000000) only [go_sem, contS_seq, simprocAttr, go_sem]
    simp only [retK, resD, retL, oneD, simprocAttr, Tryz.results42]
    exact ⟨_, rfl, rfl, congrArg bln (go _ hs (by rw [hkm]; exact h1)).symm⟩
   ·simp only [retK, resD, retL, oneD, simprocAttr, Tryz.results42]
    exact ⟨_, rfl, rfl, congrArg bln (stop (by rw [hkm]; exact h1)).symm⟩
  ·obtain ⟨⟨kd, sp, nm⟩, gd, la, po, cl, li, pa, ho, ru, fr, to⟩ := o
   simp only at hk
   subst hk
   simp (maxSteps := 5000000) only [go_sem, contS_seq, simprocAttr, go_sem, hm]
   refine (thing_class ⟨⟨4, sp, nm⟩, gd, la, po, cl, li, pa, ho, ru, fr, to⟩).callW (enters_of Tryz.func87 rfl rfl) _ false [(9, 500001)] [] [] [] rfl rfl rfl ?_
   rintro d bs ⟨rfl, rfl⟩
   simp (maxSteps := 5000000) only [go_sem, contS_seq, simprocAttr, go_sem]
   have hs : (⟨⟨4, sp, nm⟩, gd, la, po, cl, li, pa, ho, ru, fr, to⟩ : AObj).strip = { (⟨⟨4, sp, nm⟩, gd, la, po, cl, li, pa, ho, ru, fr, to⟩ : AObj) with good := false } := by simp [AObj.strip]
   have hkm : kindMay (⟨⟨4, sp, nm⟩, gd, la, po, cl, li, pa, ho, ru, fr, to⟩ : AObj) = true := by simp [kindMay]
   refine (object_Same ({ (⟨⟨4, sp, nm⟩, gd, la, po, cl, li, pa, ho, ru, fr, to⟩ : AObj) with good := false } : AObj) (AObj.zero ⟨4, sp, nm⟩) (strip_ok h (by simp) (by simp) (by simp) (by simp) (by simp) (by simp) (by simp) (by simp)) (AObj.zero_ok ⟨4, sp, nm⟩)).callX (enters_of Tryz.func53 rfl rfl) _ rfl rfl ?_
   rintro d rfl
   simp (maxSteps := 5000000) only [go_sem, contS_seq, simprocAttr, go_sem]
   simp only [retK, resD, retL, oneD, simprocAttr, Tryz.results42]
   exact ⟨_, rfl, rfl, congrArg bln (go _ hs (by rw [hkm])).symm⟩
  ·obtain ⟨⟨kd, sp, nm⟩, gd, la, po, cl, li, pa, ho, ru, fr, to⟩ := o
   simp only at hk
   subst hk
   simp (maxSteps := 5000000) only [go_sem, contS_seq, simprocAttr, go_sem, hm]
   refine (thing_gateway ⟨⟨5, sp, nm⟩, gd, la, po, cl, li, pa, ho, ru, fr, to⟩ h).callW (enters_of Tryz.func90 rfl rfl) _ false [(9, 500001)] [] [] [] rfl rfl rfl ?_
   rintro d bs ⟨rfl, rfl⟩
   simp (maxSteps := 5000000) only [go_sem, contS_seq, simprocAttr, go_sem]
   have hs : (⟨⟨5, sp, nm⟩, gd, la, po, cl, li, pa, ho, ru, fr, to⟩ : AObj).strip = { (⟨⟨5, sp, nm⟩, gd, la, po, cl, li, pa, ho, ru, fr, to⟩ : AObj) with listeners := [], cls := ⟨#[]⟩ } := by simp [AObj.strip]
   have hkm : kindMay (⟨⟨5, sp, nm⟩, gd, la, po, cl, li, pa, ho, ru, fr, to⟩ : AObj) = gatewayMay cl li := by simp [kindMay]
   refine Gif.mk (fun h1 => ?_) (fun h1 => ?_)
   ·refine (object_Same ({ (⟨⟨5, sp, nm⟩, gd, la, po, cl, li, pa, ho, ru, fr, to⟩ : AObj) with listeners := [], cls := ⟨#[]⟩ } : AObj) (AObj.zero ⟨5, sp, nm⟩) (strip_ok h (by simp) (by simp) (by simp) (by simp) (by simp) (by simp) (by simp) (by simp)) (AObj.zero_ok ⟨5, sp, nm⟩)).callX (enters_of Tryz.func53 rfl rfl) _ rfl rfl ?_
    rintro d rfl
    simp (maxSteps := 5000000) only [go_sem, contS_seq, simprocAttr, go_sem]
    simp only [retK, resD, retL, oneD, simprocAttr, Tryz.results42]
    exact ⟨_, rfl, rfl, congrArg bln (go _ hs (by rw [hkm]; exact h1)).symm⟩
   ·simp only [retK, resD, retL, oneD, simprocAttr, Tryz.results42]
    exact ⟨_, rfl, rfl, congrArg bln (stop (by rw [hkm]; exact h1)).symm⟩
  ·obtain ⟨⟨kd, sp, nm⟩, gd, la, po, cl, li, pa, ho, ru, fr, to⟩ := o
   simp only at hk
   subst hk
   simp (maxSteps := 5000000) only [go_sem, contS_seq, simprocAttr, go_sem, hm]
   refine (thing_route ⟨⟨6, sp, nm⟩, gd, la, po, cl, li, pa, ho, ru, fr, to⟩ h).callW (enters_of Tryz.func91 rfl rfl) _ false [(9, 500001)] [] [] [] rfl rfl rfl ?_
   rintro d bs ⟨rfl, rfl⟩
   simp (maxSteps := 5000000) only [go_sem, contS_seq, simprocAttr, go_sem]
   have hs : (⟨⟨6, sp, nm⟩, gd, la, po, cl, li, pa, ho, ru, fr, to⟩ : AObj).strip = { (⟨⟨6, sp, nm⟩, gd, la, po, cl, li, pa, ho, ru, fr, to⟩ : AObj) with parents := [], hosts := [], rules := [] } := by simp [AObj.strip]
   have hkm : kindMay (⟨⟨6, sp, nm⟩, gd, la, po, cl, li, pa, ho, ru, fr, to⟩ : AObj) = routeMay pa ho ru := by simp [kindMay]
   refine Gif.mk (fun h1 => ?_) (fun h1 => ?_)
   ·refine (object_Same ({ (⟨⟨6, sp, nm⟩, gd, la, po, cl, li, pa, ho, ru, fr, to⟩ : AObj) with parents := [], hosts := [], rules := [] } : AObj) (AObj.zero ⟨6, sp, nm⟩) (strip_ok h (by simp) (by simp) (by simp) (by simp) (by simp) (by simp) (by simp) (by simp)) (AObj.zero_ok ⟨6, sp, nm⟩)).callX (enters_of Tryz.func53 rfl rfl) _ rfl rfl ?_
    rintro d rfl
    simp (maxSteps := 5000000) only [go_sem, contS_seq, simprocAttr, go_sem]
    simp only [retK, resD, retL, oneD, simprocAttr, Tryz.results42]
    exact ⟨_, rfl, rfl, congrArg bln (go _ hs (by rw [hkm]; exact h1)).symm⟩
   ·simp only [retK, resD, retL, oneD, simprocAttr, Tryz.results42]
    exact ⟨_, rfl, rfl, congrArg bln (stop (by rw [hkm]; exact h1)).symm⟩
  ·obtain ⟨⟨kd, sp, nm⟩, gd, la, po, cl, li, pa, ho, ru, fr, to⟩ := o
   simp only at hk
   subst hk
   simp (maxSteps := 5000000) only [go_sem, contS_seq, simprocAttr, go_sem, hm]
   refine (thing_grant ⟨⟨7, sp, nm⟩, gd, la, po, cl, li, pa, ho, ru, fr, to⟩ h).callW (enters_of Tryz.func92 rfl rfl) _ false [(9, 500001)] [] [] [] rfl rfl rfl ?_
   rintro d bs ⟨rfl, rfl⟩
   simp (maxSteps := 5000000) only [go_sem, contS_seq, simprocAttr, go_sem]
   have hs : (⟨⟨7, sp, nm⟩, gd, la, po, cl, li, pa, ho, ru, fr, to⟩ : AObj).strip = { (⟨⟨7, sp, nm⟩, gd, la, po, cl, li, pa, ho, ru, fr, to⟩ : AObj) with from_ := [], to_ := [] } := by simp [AObj.strip]
   have hkm : kindMay (⟨⟨7, sp, nm⟩, gd, la, po, cl, li, pa, ho, ru, fr, to⟩ : AObj) = grantMay fr to := by simp [kindMay]
   refine Gif.mk (fun h1 => ?_) (fun h1 => ?_)
   ·refine (object_Same ({ (⟨⟨7, sp, nm⟩, gd, la, po, cl, li, pa, ho, ru, fr, to⟩ : AObj) with from_ := [], to_ := [] } : AObj) (AObj.zero ⟨7, sp, nm⟩) (strip_ok h (by simp) (by simp) (by simp) (by simp) (by simp) (by simp) (by simp) (by simp)) (AObj.zero_ok ⟨7, sp, nm⟩)).callX (enters_of Tryz.func53 rfl rfl) _ rfl rfl ?_
    rintro d rfl
    simp (maxSteps := 5000000) only [go_sem, contS_seq, simprocAttr, go_sem]
    simp only [retK, resD, retL, oneD, simprocAttr, Tryz.results42]
    exact ⟨_, rfl, rfl, congrArg bln (go _ hs (by rw [hkm]; exact h1)).symm⟩
   ·simp only [retK, resD, retL, oneD, simprocAttr, Tryz.results42]
    exact ⟨_, rfl, rfl, congrArg bln (stop (by rw [hkm]; exact h1)).symm⟩
 ·have hm' : mayRef o.ref = false := by simpa using hm
  simp (maxSteps := 5000000) only [go_sem, contS_seq, simprocAttr, go_sem, hm']
  simp only [retK, resD, retL, oneD, simprocAttr, Tryz.results42]
  exact ⟨_, rfl, rfl, congrArg bln (by simp [objMay, hm'])⟩


def few (s : ByteArray) : ByteArray := if s.size ≤ 100 then s else s.extract 0 100

set_option maxRecDepth 100000 in
theorem law1_Few (s : ByteArray) : Pure Tryz.prog 48 [str s] (fun d => d = str (few s)) := by
 refine pure_of_run follows an_zba9k Tryz.func48 rfl ok_zba9k.1 ok_zba9k.2 (by simp [Tryz.ntmps48]) ?_
 rw [run_start]
 by_cases h : 100 < s.size
 ·have h1 : (100 : Int) < (s.size : Int) := by omega
  have h2 : 100 ≤ s.size := by omega
  simp only [ac_zba9k, go_sem, contS_seq, simprocAttr, h1, h2]
  simp only [retK, resD, retL, oneD, simprocAttr, Tryz.results48]
  exact ⟨_, rfl, rfl, by simp [few, show ¬ s.size ≤ 100 by omega, D.pub]⟩
 ·have h1 : ¬ (100 : Int) < (s.size : Int) := by omega
  simp only [ac_zba9k, go_sem, contS_seq, simprocAttr, h1]
  simp only [retK, resD, retL, oneD, simprocAttr, Tryz.results48]
  exact ⟨_, rfl, rfl, by simp [few, show s.size ≤ 100 by omega, D.pub]⟩

def fewRef (r : ARef) : ARef := ⟨r.kind, few r.space, few r.name⟩

set_option maxRecDepth 100000 in
theorem law9_FewRef (r : ARef) : Pure Tryz.prog 18 [r.d] (fun d => d = (fewRef r).d) := by
 refine pure_of_run follows an_zn42u Tryz.func18 rfl ok_zn42u.1 ok_zn42u.2 (by simp [Tryz.ntmps18]) ?_
 rw [run_start]
 simp only [ac_zn42u, go_sem, contS_seq, simprocAttr, go_sem]
 refine (law1_Few r.space).callX (enters_of Tryz.func48 rfl rfl) _ rfl rfl ?_
 rintro d rfl
 simp only [go_sem, contS_seq, simprocAttr, go_sem]
 refine (law1_Few r.name).callX (enters_of Tryz.func48 rfl rfl) _ rfl rfl ?_
 rintro d rfl
 simp only [go_sem, contS_seq, simprocAttr, go_sem]
 simp only [retK, resD, resA, AOp.ex, St.ev, retL, oneD, simprocAttr, ret_zn42u]
 exact ⟨_, rfl, rfl, rfl⟩


theorem Reps.tell {g : Gh} {w : World} {d : D} : ∀ {ds : List D} {vs : List Value} (_ : Reps g w ds vs) (i : Nat) (_ : ∀ v, vs[i]? = some v → Rep g w d v), Reps g w (ds.set i d) vs
 | [], _, h, _, _ => by simpa using h
 | e :: ds, _, h, i, hd => by
   simp only [Reps] at h
   obtain ⟨v, vs', rfl, hv, hs⟩ := h
   cases i with
   | zero => exact ⟨v, vs', rfl, hd v rfl, hs⟩
   | succ i => exact ⟨v, vs', rfl, hv, Reps.tell hs i (fun u hu => hd u (by simpa using hu))⟩

theorem SR.tellB {C : Ctx} {st : St} {g : Gh} {a : Act} {w : World} (h : SR C st g a w) {n : Nat} {ds ds' : List D} (hn : lk st.bs n = some ds) (hd : ∀ vs, Reps g w ds vs → Reps g w ds' vs) : SR C { st with bs := (n, ds') :: st.bs } g a w := by
 have m := h.mem
 refine ⟨h.defers, h.size, h.rep, { m with bxs := fun k es hk => ?_ }, h.x, h.fix⟩
 simp only [lk] at hk
 split at hk
 ·rename_i hkn
  subst hkn
  cases hk
  obtain ⟨b, cs, t, h1, h2, h3⟩ := m.bxs _ ds hn
  exact ⟨b, cs, t, h1, h2, hd _ h3⟩
 ·exact m.bxs k es hk

theorem purges_at : ∀ (t : Nat) (ds : List D) (i : Nat), ds[i]? = some .nils → (D.purges t ds)[i]? = some .nils
 | _, [], _, h => by simp at h
 | t, d :: ds, 0, h => by
   simp only [List.getElem?_cons_zero, Option.some.injEq] at h
   subst h
   simp [D.purges, D.purge]
 | t, d :: ds, i + 1, h => by
   simp only [List.getElem?_cons_succ] at h
   simpa [D.purges] using purges_at t ds i h

theorem lk_purge {st : St} {t n : Nat} {ds : List D} (h : lk st.bs n = some ds) : lk (st.purge t).bs n = some (D.purges t ds) := by
 simp only [St.purge]
 rw [lk_map (fun ds => D.purges t ds) st.bs n, h]; rfl

theorem Weak.ownB0 {P : Program} {st : St} (n i t : Nat) (e : TypeId) {ti : TypeInfo} (hi : P.info? e = some ti) (hpos : 0 < ti.size) {ds : List D} (h : lk st.bs n = some ds) (hn : ds[i]? = some .nils) :
 Weak P st { st.purge t with bs := (n, (D.purges t ds).set i (.own e ti.size [] t)) :: (st.purge t).bs } := by
 intro C g a w hP hs
 subst hP
 have h1 := hs.purge t
 obtain ⟨h2, _⟩ := SR.owned h1 t (by simp) (grownBy_same w none) _ h1.x (fun k e => by cases e) (fun _ h => h) (fun k e => by cases e) e ti hi hpos (.slice none 0 0) 0 [] (World.ownsRow_nil _ _ _ _) (fun b hb => by cases hb) (fun b o _ hb => by cases hb)
 refine ⟨_, h2.tellB (lk_purge h) fun vs hv => ?_⟩
 refine hv.tell i fun v hvi => ?_
 obtain ⟨u, hu, hr⟩ := hv.get i _ (purges_at t ds i hn)
 rw [hvi] at hu
 cases hu
 simp only [Rep] at hr
 rw [hr]
 simp only [Rep]
 exact ⟨.empty _ _, by simp, by simp⟩

theorem Weak.ownB {P : Program} {st st' : St} (n i t : Nat) (e : TypeId) (sz : Nat) (hi : (P.info? e).map (·.size) = some sz) (hpos : 0 < sz) {ds : List D} (h : lk st.bs n = some ds) (hn : ds[i]? = some .nils)
 (hf : lessL st'.fr (st.purge t).fr) (hb : lessL st'.bs ((n, (D.purges t ds).set i (.own e sz [] t)) :: (st.purge t).bs)) (hm : lessL st'.ms st.ms) (hh : st'.hs = st.hs) : Weak P st st' := by
 obtain ⟨ti, h1, rfl⟩ := Option.map_eq_some_iff.1 hi
 exact (Weak.ownB0 n i t e h1 hpos h hn).trans (Weak.less hf hb hm hh)

theorem run_cut {P : Program} {x y : AC} {st s1 : St} {S : List Fr} {K : Exit → St → Prop} (h1 : ∀ K' : Exit → St → Prop, K' .normal s1 → run P x st (contS P [] K')) (h2 : run P y s1 (contS P S K)) : run P (.seq x y) st (contS P S K) := by
 rw [run_seq]; exact h1 (contS P (.seq y :: S) K) h2

theorem few_size (s : ByteArray) : (few s).size ≤ 100 := by
 unfold few
 split
 ·assumption
 ·simp [ByteArray.size_extract]; omega

theorem law3_Few (k : Int) (v : ByteArray) : Pure Tryz.prog 108 [.agg [int k, str v]] (fun d => d = .agg [int k, str (few v)]) := by
 refine pure_of_run follows an_zyx20 Tryz.func108 rfl ok_zyx20.1 ok_zyx20.2 (by simp [Tryz.ntmps108]) ?_
 rw [run_start]
 simp only [ac_zyx20, go_sem, contS_seq, simprocAttr]
 refine (law1_Few v).callW (enters_of Tryz.func48 rfl rfl) _ rfl rfl ?_
 rintro d rfl
 simp only [go_sem, contS_seq, simprocAttr]
 simp only [retK, resD, resA, AOp.ex, St.ev, retL, oneD, simprocAttr, ret_zyx20]
 exact ⟨_, rfl, rfl, rfl⟩

def fewPair (p : APair) : APair := ⟨few p.name, few p.val⟩
def fewPairs (l : List APair) : List APair := (l.take 31).map fewPair

theorem fewPair_ok (p : APair) : (fewPair p).ok := ⟨by have := few_size p.name; simp [fewPair]; omega, by have := few_size p.val; simp [fewPair]; omega⟩

theorem few_step {α β : Type} {f : β → List PD} {g : α → β} {l : List α} {i : Nat} {x : α} (h : l[i]? = some x) : rows f ((l.take i).map g) ++ [f (g x)] = rows f ((l.take (i + 1)).map g) := by
 rw [take_at h, List.map_append]; exact rows_one _ (g x)

theorem few_len {α β : Type} {f : β → List PD} {g : α → β} {l : List α} {i n : Nat} (h : i ≤ n) : (rows f ((l.take i).map g)).length ≤ n := by simp [rows]; omega

theorem few_end {α β : Type} {g : α → β} {l : List α} {i n : Nat} (h : i ≤ n) (hl : i ≤ l.length) (he : ¬ (i < l.length ∧ i < n)) : (l.take i).map g = (l.take n).map g := by
 rcases Nat.lt_or_ge i n with h6 | h6
 ·rw [List.take_of_length_le (by omega), List.take_of_length_le (by omega)]
 ·rw [show i = n by omega]

theorem law5_Few (l : List APair) : Pure Tryz.prog 55 [.pd (.slice (rows APair.pd l))] (fun d => d = .pd (.slice (rows APair.pd (fewPairs l)))) := by
 refine pure_of_run follows an_ztgmw Tryz.func55 rfl ok_ztgmw.1 ok_ztgmw.2 (by simp [Tryz.ntmps55]) ?_
 rw [run_start]
 simp only [ac_ztgmw, go_sem, contS_seq, simprocAttr, rows_len]
 refine loopS (fun k st => ∃ i : Nat, k = 31 - i ∧ i ≤ 31 ∧ i ≤ l.length ∧
  st = ⟨[(0, .pd (.slice (rows APair.pd l))), (3, .own 166 2 (rows APair.pd ((l.take i).map fewPair)) 30), (4, int i)], [], [], .no⟩) 31 _
  ?_ ⟨0, rfl, by omega, by omega, rfl⟩ ?_
 ·exact Weak.own1 3 30 166 2 (by kernel_rfl) (by decide) rfl (by simp [lessL, lk, St.purge, St.put, D.purge, rows]) (by simp [lessL, lk, St.purge, D.purges, D.purge]) (by simp [lessL]) rfl
 rintro k st ⟨i, rfl, hi6, hi, rfl⟩
 have hw := i64_succ (show i < 1000000000 by omega)
 by_cases hlt : i < l.length ∧ i < 31
 ·obtain ⟨x, hx⟩ := at_lt hlt.1
  have h1 : ((i : Int) < (l.length : Int)) = True := eq_true (by omega)
  have h2 : ((i : Int) < 31) = True := eq_true (by omega)
  simp only [go_sem, contS_seq, simprocAttr, go_sem, rows_len, rows_get hx, h1, h2]
  refine (law1_Few x.name).callX (enters_of Tryz.func48 rfl rfl) _ rfl rfl ?_
  rintro d rfl
  simp only [go_sem, contS_seq, simprocAttr, go_sem, rows_len, rows_get hx]
  refine (law1_Few x.val).callX (enters_of Tryz.func48 rfl rfl) _ rfl rfl ?_
  rintro d rfl
  simp only [go_sem, contS_seq, simprocAttr, go_sem, hw]
  have hl := few_len (f := APair.pd) (g := fewPair) (l := l) hi6
  have hl2 := hl
  rw [rows_len] at hl2
  have e1 : rows APair.pd ((l.take i).map fewPair) ++ [[PD.raw (Value.string (few x.name)), PD.raw (Value.string (few x.val))]] = rows APair.pd ((l.take (i + 1)).map fewPair) := few_step hx
  rw [e1]
  refine ⟨by simp, by unfold maxLen; omega, by omega, 31 - (i + 1), _, by omega, ?_, i + 1, rfl, by omega, by omega, rfl⟩
  exact lessA
 ·have h3 := few_end (g := fewPair) hi6 hi hlt
  rw [h3]
  by_cases h1 : i < l.length
  ·have h1' : ((i : Int) < (l.length : Int)) = True := eq_true (by omega)
   have h2 : ((i : Int) < 31) = False := eq_false (by omega)
   simp only [go_sem, contS_seq, simprocAttr, go_sem, rows_len, h1', h2]
   simp only [retK, resD, retL, oneD, simprocAttr, Tryz.results55]
   exact ⟨_, rfl, rfl, rfl⟩
  ·have h1' : ((i : Int) < (l.length : Int)) = False := eq_false (by omega)
   simp only [go_sem, contS_seq, simprocAttr, go_sem, rows_len, h1']
   simp only [retK, resD, retL, oneD, simprocAttr, Tryz.results55]
   exact ⟨_, rfl, rfl, rfl⟩

def fewFilter (f : AFilter) : AFilter := { f with name := few f.name, val := few f.val, host := few f.host, path := few f.path }
def fewFilters (l : List AFilter) : List AFilter := (l.take 9).map fewFilter
def fewSide (s : ASide) : ASide := ⟨s.kind, few s.space, few s.name⟩
def fewSides (l : List ASide) : List ASide := (l.take 5).map fewSide

theorem law7_Few (l : List AFilter) : Pure Tryz.prog 58 [.pd (.slice (rows AFilter.pd l))] (fun d => d = .pd (.slice (rows AFilter.pd (fewFilters l)))) := by
 refine pure_of_run follows an_z9moo Tryz.func58 rfl ok_z9moo.1 ok_z9moo.2 (by simp [Tryz.ntmps58]) ?_
 rw [run_start]
 simp only [ac_z9moo, go_sem, contS_seq, simprocAttr, rows_len]
 refine loopS (fun k st => ∃ i : Nat, k = 9 - i ∧ i ≤ 9 ∧ i ≤ l.length ∧
  st = ⟨[(0, .pd (.slice (rows AFilter.pd l))), (3, .own 176 8 (rows AFilter.pd ((l.take i).map fewFilter)) 39), (4, int i)], [], [], .no⟩) 9 _
  ?_ ⟨0, rfl, by omega, by omega, rfl⟩ ?_
 ·exact Weak.own1 3 39 176 8 (by kernel_rfl) (by decide) rfl (by simp [lessL, lk, St.purge, St.put, D.purge, rows]) (by simp [lessL, lk, St.purge, D.purges, D.purge]) (by simp [lessL]) rfl
 rintro k st ⟨i, rfl, hi6, hi, rfl⟩
 have hw := i64_succ (show i < 1000000000 by omega)
 by_cases hlt : i < l.length ∧ i < 9
 ·obtain ⟨x, hx⟩ := at_lt hlt.1
  have h1 : ((i : Int) < (l.length : Int)) = True := eq_true (by omega)
  have h2 : ((i : Int) < 9) = True := eq_true (by omega)
  simp only [go_sem, contS_seq, simprocAttr, rows_len, rows_get hx, h1, h2]
  refine (law1_Few x.name).callX (enters_of Tryz.func48 rfl rfl) _ rfl rfl ?_
  rintro d rfl
  simp only [go_sem, contS_seq, simprocAttr, rows_len, rows_get hx]
  refine (law1_Few x.val).callX (enters_of Tryz.func48 rfl rfl) _ rfl rfl ?_
  rintro d rfl
  simp only [go_sem, contS_seq, simprocAttr, rows_len, rows_get hx]
  refine (law1_Few x.host).callX (enters_of Tryz.func48 rfl rfl) _ rfl rfl ?_
  rintro d rfl
  simp only [go_sem, contS_seq, simprocAttr, rows_len, rows_get hx]
  refine (law1_Few x.path).callX (enters_of Tryz.func48 rfl rfl) _ rfl rfl ?_
  rintro d rfl
  simp only [go_sem, contS_seq, simprocAttr, rows_len, rows_get hx, hw]
  have hl := few_len (f := AFilter.pd) (g := fewFilter) (l := l) hi6
  have hl2 := hl
  rw [rows_len] at hl2
  have hl' : ((l.take i).map fewFilter).length ≤ i := by simp; omega
  have e1 : rows AFilter.pd ((l.take i).map fewFilter) ++ [[PD.raw (Value.int IntKind.i64 x.kind), PD.raw (Value.string (few x.name)), PD.raw (Value.string (few x.val)), PD.raw (Value.string (few x.host)), PD.raw (Value.int IntKind.i64 x.port), PD.raw (Value.string (few x.path)), PD.raw (Value.bool x.whole), PD.raw (Value.int IntKind.i64 x.code)]] = rows AFilter.pd ((l.take (i + 1)).map fewFilter) := few_step hx
  rw [e1]
  refine ⟨by simp, by unfold maxLen; omega, by omega, 9 - (i + 1), _, by omega, ?_, i + 1, rfl, by omega, by omega, rfl⟩
  exact lessA
 ·have h3 := few_end (g := fewFilter) hi6 hi hlt
  rw [h3]
  by_cases h1 : i < l.length
  ·have h1' : ((i : Int) < (l.length : Int)) = True := eq_true (by omega)
   have h2 : ((i : Int) < 9) = False := eq_false (by omega)
   simp only [go_sem, contS_seq, simprocAttr, rows_len, h1', h2]
   simp only [retK, resD, retL, oneD, simprocAttr, Tryz.results58]
   exact ⟨_, rfl, rfl, rfl⟩
  ·have h1' : ((i : Int) < (l.length : Int)) = False := eq_false (by omega)
   simp only [go_sem, contS_seq, simprocAttr, rows_len, h1']
   simp only [retK, resD, retL, oneD, simprocAttr, Tryz.results58]
   exact ⟨_, rfl, rfl, rfl⟩

theorem law9_sides (l : List ASide) : Pure Tryz.prog 56 [.pd (.slice (rows ASide.pd l))] (fun d => d = .pd (.slice (rows ASide.pd (fewSides l)))) := by
 refine pure_of_run follows an_zg0x2 Tryz.func56 rfl ok_zg0x2.1 ok_zg0x2.2 (by simp [Tryz.ntmps56]) ?_
 rw [run_start]
 simp only [ac_zg0x2, go_sem, contS_seq, simprocAttr, rows_len]
 refine loopS (fun k st => ∃ i : Nat, k = 5 - i ∧ i ≤ 5 ∧ i ≤ l.length ∧
  st = ⟨[(0, .pd (.slice (rows ASide.pd l))), (3, .own 142 3 (rows ASide.pd ((l.take i).map fewSide)) 35), (4, int i)], [], [], .no⟩) 5 _
  ?_ ⟨0, rfl, by omega, by omega, rfl⟩ ?_
 ·exact Weak.own1 3 35 142 3 (by kernel_rfl) (by decide) rfl (by simp [lessL, lk, St.purge, St.put, D.purge, rows]) (by simp [lessL, lk, St.purge, D.purges, D.purge]) (by simp [lessL]) rfl
 rintro k st ⟨i, rfl, hi6, hi, rfl⟩
 have hw := i64_succ (show i < 1000000000 by omega)
 by_cases hlt : i < l.length ∧ i < 5
 ·obtain ⟨x, hx⟩ := at_lt hlt.1
  have h1 : ((i : Int) < (l.length : Int)) = True := eq_true (by omega)
  have h2 : ((i : Int) < 5) = True := eq_true (by omega)
  simp only [go_sem, contS_seq, simprocAttr, rows_len, rows_get hx, h1, h2]
  refine (law1_Few x.space).callX (enters_of Tryz.func48 rfl rfl) _ rfl rfl ?_
  rintro d rfl
  simp only [go_sem, contS_seq, simprocAttr, rows_len, rows_get hx]
  refine (law1_Few x.name).callX (enters_of Tryz.func48 rfl rfl) _ rfl rfl ?_
  rintro d rfl
  simp only [go_sem, contS_seq, simprocAttr, rows_len, rows_get hx, hw]
  have hl := few_len (f := ASide.pd) (g := fewSide) (l := l) hi6
  have hl2 := hl
  rw [rows_len] at hl2
  have hl' : ((l.take i).map fewSide).length ≤ i := by simp; omega
  have e1 : rows ASide.pd ((l.take i).map fewSide) ++ [[PD.raw (Value.int IntKind.i64 x.kind), PD.raw (Value.string (few x.space)), PD.raw (Value.string (few x.name))]] = rows ASide.pd ((l.take (i + 1)).map fewSide) := few_step hx
  rw [e1]
  refine ⟨by simp, by unfold maxLen; omega, by omega, 5 - (i + 1), _, by omega, ?_, i + 1, rfl, by omega, by omega, rfl⟩
  exact lessA
 ·have h3 := few_end (g := fewSide) hi6 hi hlt
  rw [h3]
  by_cases h1 : i < l.length
  ·have h1' : ((i : Int) < (l.length : Int)) = True := eq_true (by omega)
   have h2 : ((i : Int) < 5) = False := eq_false (by omega)
   simp only [go_sem, contS_seq, simprocAttr, rows_len, h1', h2]
   simp only [retK, resD, retL, oneD, simprocAttr, Tryz.results56]
   exact ⟨_, rfl, rfl, rfl⟩
  ·have h1' : ((i : Int) < (l.length : Int)) = False := eq_false (by omega)
   simp only [go_sem, contS_seq, simprocAttr, rows_len, h1']
   simp only [retK, resD, retL, oneD, simprocAttr, Tryz.results56]
   exact ⟨_, rfl, rfl, rfl⟩

def fewMatch (m : AMatch) : AMatch := ⟨m.pkind, few m.pval, few m.method, fewPairs m.head, fewPairs m.query⟩

theorem law6_Few (m : AMatch) : Pure Tryz.prog 59 [m.d] (fun d => d = (fewMatch m).d) := by
 refine pure_of_run follows an_zt3fs Tryz.func59 rfl ok_zt3fs.1 ok_zt3fs.2 (by simp [Tryz.ntmps59]) ?_
 rw [run_start]
 simp only [ac_zt3fs, go_sem, contS_seq, simprocAttr]
 refine (law3_Few m.pkind m.pval).callX (enters_of Tryz.func108 rfl rfl) _ rfl rfl ?_
 rintro d rfl
 simp only [go_sem, contS_seq, simprocAttr]
 refine (law1_Few m.method).callX (enters_of Tryz.func48 rfl rfl) _ rfl rfl ?_
 rintro d rfl
 simp only [go_sem, contS_seq, simprocAttr]
 refine (law5_Few m.head).callX (enters_of Tryz.func55 rfl rfl) _ rfl rfl ?_
 rintro d rfl
 simp only [go_sem, contS_seq, simprocAttr]
 refine (law5_Few m.query).callX (enters_of Tryz.func55 rfl rfl) _ rfl rfl ?_
 rintro d rfl
 simp only [go_sem, contS_seq, simprocAttr]
 simp only [retK, resD, resA, AOp.ex, St.ev, retL, oneD, simprocAttr, ret_zt3fs]
 exact ⟨_, rfl, rfl, rfl⟩

def fewNeed (n : ANeed) : ANeed := ⟨n.kind, few n.name, (n.vals.take 9).map few⟩
def fewNeeds (l : List ANeed) : List ANeed := (l.take 9).map fewNeed

theorem law8_Few (l : List ANeed) : Pure Tryz.prog 57 [.pd (.slice (rows ANeed.pd l))] (fun d => d = .pd (.slice (rows ANeed.pd (fewNeeds l)))) := by
 refine pure_of_run follows an_zpih5 Tryz.func57 rfl ok_zpih5.1 ok_zpih5.2 (by simp [Tryz.ntmps57]) ?_
 rw [run_start]
 simp only [ac_zpih5, go_sem, contS_seq, simprocAttr, rows_len]
 refine loopS (fun k st => ∃ i : Nat, k = 9 - i ∧ i ≤ 9 ∧ i ≤ l.length ∧
  st = ⟨[(0, .pd (.slice (rows ANeed.pd l))), (3, .own 174 3 (rows ANeed.pd ((l.take i).map fewNeed)) 60), (4, int i)], [], [], .no⟩) 9 _
  ?_ ⟨0, rfl, by omega, by omega, rfl⟩ ?_
 ·exact Weak.own1 3 60 174 3 (by kernel_rfl) (by decide) rfl (by simp [lessL, lk, St.purge, St.put, D.purge, rows]) (by simp [lessL, lk, St.purge, D.purges, D.purge]) (by simp [lessL]) rfl
 rintro k st ⟨i, rfl, hi6, hi, rfl⟩
 have hw := i64_succ (show i < 1000000000 by omega)
 by_cases hlt : i < l.length ∧ i < 9
 ·obtain ⟨x, hx⟩ := at_lt hlt.1
  have h1 : ((i : Int) < (l.length : Int)) = True := eq_true (by omega)
  have h2 : ((i : Int) < 9) = True := eq_true (by omega)
  apply run_cut
  ·intro K' hK
   simp only [go_sem, contS_seq, simprocAttr, rows_len, h1, h2]
   exact hK
  apply run_cut
  ·intro K' hK
   rw [run_block]
   apply run_cut
   ·intro K'' hK'
    simp only [go_sem, contS_seq, simprocAttr, rows_len, rows_get hx]
    repeat' (first | exact hK' | (refine (law1_Few x.name).callX (enters_of Tryz.func48 rfl rfl) _ rfl rfl ?_; rintro _ rfl; simp only [go_sem, contS_seq, simprocAttr, rows_len, rows_get hx]) | refine And.intro ?_ ?_)
   simp only [go_sem, contS_seq, simprocAttr]
   refine loopS (fun k st => ∃ j : Nat, k = 9 - j ∧ j ≤ 9 ∧ j ≤ x.vals.length ∧
    st = ⟨[(0, .pd (.slice (rows ANeed.pd l))), (3, .own 174 3 (rows ANeed.pd ((l.take i).map fewNeed)) 60), (4, int i), (5, .ptr 5 0), (6, int j)],
     [(5, [int x.kind, str (few x.name), .own 9 1 (strs ((x.vals.take j).map few)) 55])], [], .no⟩) 9 _
    ?_ ⟨0, rfl, by omega, by omega, rfl⟩ ?_
   ·exact Weak.ownB 5 2 55 9 1 (by kernel_rfl) (by decide) rfl rfl (by simp [lessL, lk, St.purge, D.purge, rows]) (by simp [lessL, lk, St.purge, D.purges, D.purge, rows]) (by simp [lessL]) rfl
   rintro k st ⟨j, rfl, hj6, hj, rfl⟩
   have hwj := i64_succ (show j < 1000000000 by omega)
   by_cases hltj : j < x.vals.length ∧ j < 9
   ·obtain ⟨v, hv⟩ := at_lt hltj.1
    have h1' : ((j : Int) < (x.vals.length : Int)) = True := eq_true (by omega)
    have h2' : ((j : Int) < 9) = True := eq_true (by omega)
    simp only [go_sem, contS_seq, simprocAttr, rows_len, rows_get hx, rows_get hv, h1', h2']
    refine (law1_Few v).callX (enters_of Tryz.func48 rfl rfl) _ rfl rfl ?_
    rintro d rfl
    simp only [go_sem, contS_seq, simprocAttr, rows_get hx, rows_get hv, hwj]
    have e1 : strs ((x.vals.take j).map few) ++ [[PD.raw (Value.string (few v))]] = strs ((x.vals.take (j + 1)).map few) := few_step hv
    have hl : (strs ((x.vals.take j).map few)).length ≤ 9 := few_len hj6
    have hl2 := hl
    rw [rows_len] at hl2
    rw [e1]
    refine ⟨by simp, by unfold maxLen; omega, by omega, 9 - (j + 1), _, by omega, ?_, j + 1, rfl, by omega, by omega, rfl⟩
    exact lessA
   ·have h3 := few_end (g := few) hj6 hj hltj
    rw [h3]
    have hl' : ((l.take i).map fewNeed).length ≤ i := by simp; omega
    have e1 : rows ANeed.pd ((l.take i).map fewNeed) ++ [[pInt x.kind, pStr (few x.name), .slice (strs ((x.vals.take 9).map few))]] = rows ANeed.pd ((l.take (i + 1)).map fewNeed) := few_step hx
    by_cases h1 : j < x.vals.length
    ·have h1' : ((j : Int) < (x.vals.length : Int)) = True := eq_true (by omega)
     have h2' : ((j : Int) < 9) = False := eq_false (by omega)
     simp only [go_sem, contS_seq, simprocAttr, rows_get hx, rows_len, h1', h2']
     refine ⟨by simp, by unfold maxLen; omega, by omega, ?_⟩
     rw [e1]
     exact hK
    ·have h1' : ((j : Int) < (x.vals.length : Int)) = False := eq_false (by omega)
     simp only [go_sem, contS_seq, simprocAttr, rows_get hx, rows_len, h1']
     refine ⟨by simp, by unfold maxLen; omega, by omega, ?_⟩
     rw [e1]
     exact hK
  simp only [go_sem, contS_seq, simprocAttr, hw]
  refine ⟨9 - (i + 1), _, by omega, ?_, i + 1, rfl, by omega, by omega, rfl⟩
  exact lessA
 ·have h3 := few_end (g := fewNeed) hi6 hi hlt
  rw [h3]
  by_cases h1 : i < l.length
  ·have h1' : ((i : Int) < (l.length : Int)) = True := eq_true (by omega)
   have h2 : ((i : Int) < 9) = False := eq_false (by omega)
   simp only [go_sem, contS_seq, simprocAttr, rows_len, h1', h2]
   simp only [retK, resD, retL, oneD, simprocAttr, Tryz.results57]
   exact ⟨_, rfl, rfl, rfl⟩
  ·have h1' : ((i : Int) < (l.length : Int)) = False := eq_false (by omega)
   simp only [go_sem, contS_seq, simprocAttr, rows_len, h1']
   simp only [retK, resD, retL, oneD, simprocAttr, Tryz.results57]
   exact ⟨_, rfl, rfl, rfl⟩


theorem run_cutJ {P : Program} {x y : AC} {st : St} {S : List Fr} {K : Exit → St → Prop} (J : St → Prop) (h1 : ∀ K' : Exit → St → Prop, (∀ s, J s → K' .normal s) → run P x st (contS P [] K')) (h2 : ∀ s, J s → run P y s (contS P S K)) : run P (.seq x y) st (contS P S K) := by
 rw [run_seq]; exact h1 (contS P (.seq y :: S) K) h2

def fewListener (l : AListener) : AListener := ⟨few l.name, l.port, l.tls, few l.host, fewRef l.cert, l.from_, fewNeeds l.needs⟩
def fewParent (p : AParent) : AParent := ⟨few p.space, few p.name, few p.section_, p.port⟩
def fewBackend (b : ABackend) : ABackend := ⟨fewRef b.ref, b.port, b.weight⟩
def fewRule (r : ARule) : ARule := ⟨(r.matches_.take 5).map fewMatch, fewFilters r.filters, (r.backends.take 5).map fewBackend⟩
def fewObj (o : AObj) : AObj := ⟨fewRef o.ref, o.good, fewPairs o.labels, o.ports.take 9, few o.cls, (o.listeners.take 9).map fewListener, (o.parents.take 5).map fewParent, (o.hosts.take 5).map few, (o.rules.take 7).map fewRule, fewSides o.from_, fewSides o.to_⟩

set_option maxHeartbeats 4000000 in
theorem law9_Few (o : AObj) : Pure Tryz.prog 28 [o.d] (fun d => d = (fewObj o).d) := by
 refine pure_of_run follows an_z8s55 Tryz.func28 rfl ok_z8s55.1 ok_z8s55.2 (by simp [Tryz.ntmps28]) ?_
 rw [run_start]
 simp only [ac_z8s55]
 apply run_cut
 ·intro K' hK
  simp only [go_sem, contS_seq, simprocAttr]
  exact hK
 apply run_cut
 ·intro K' hK
  simp only [go_sem, contS_seq, simprocAttr]
  repeat' (first | exact hK | (refine (law9_FewRef o.ref).callX (enters_of Tryz.func18 rfl rfl) _ rfl rfl ?_; rintro _ rfl; simp only [go_sem, contS_seq, simprocAttr]) | (refine (law5_Few o.labels).callX (enters_of Tryz.func55 rfl rfl) _ rfl rfl ?_; rintro _ rfl; simp only [go_sem, contS_seq, simprocAttr]) | (refine (law1_Few o.cls).callX (enters_of Tryz.func48 rfl rfl) _ rfl rfl ?_; rintro _ rfl; simp only [go_sem, contS_seq, simprocAttr]) | (refine (law9_sides o.from_).callX (enters_of Tryz.func56 rfl rfl) _ rfl rfl ?_; rintro _ rfl; simp only [go_sem, contS_seq, simprocAttr]) | (refine (law9_sides o.to_).callX (enters_of Tryz.func56 rfl rfl) _ rfl rfl ?_; rintro _ rfl; simp only [go_sem, contS_seq, simprocAttr]) | refine And.intro ?_ ?_)
 refine run_cutJ (fun s => ∃ i : Nat, s = ⟨[(41, bln false), (1, .ptr 1 0), (2, .ptr 2 0), (3, .ptr 3 0), (4, int i), (41, bln false)], [(1, [int o.ref.kind, str o.ref.space, str o.ref.name, bln o.good, .pd (.slice (rows APair.pd o.labels)), .pd (.slice (ints o.ports)), str o.cls, .pd (.slice (rows AListener.pd o.listeners)), .pd (.slice (rows AParent.pd o.parents)), .pd (.slice (strs o.hosts)), .pd (.slice (rows ARule.pd o.rules)), .pd (.slice (rows ASide.pd o.from_)), .pd (.slice (rows ASide.pd o.to_))]), (2, [int 0, str ⟨#[]⟩, str ⟨#[]⟩, bln false, .nils, .nils, str ⟨#[]⟩, .nils, .nils, .nils, .nils, .nils, .nils]), (3, [int (fewRef o.ref).kind, str (fewRef o.ref).space, str (fewRef o.ref).name, bln o.good, .pd (.slice (rows APair.pd (fewPairs o.labels))), .own 3 1 (rows cInt ((o.ports.take 9).map id)) 52, str (few o.cls), .nils, .nils, .nils, .nils, .pd (.slice (rows ASide.pd (fewSides o.from_))), .pd (.slice (rows ASide.pd (fewSides o.to_)))])], [], .no⟩) ?_ ?_
 ·intro K' hK
  simp only [go_sem, contS_seq, simprocAttr, rows_len]
  refine loopS (fun k st => ∃ i : Nat, k = 9 - i ∧ i ≤ 9 ∧ i ≤ o.ports.length ∧
   st = ⟨[(1, .ptr 1 0), (2, .ptr 2 0), (3, .ptr 3 0), (4, int i)], [(1, [int o.ref.kind, str o.ref.space, str o.ref.name, bln o.good, .pd (.slice (rows APair.pd o.labels)), .pd (.slice (ints o.ports)), str o.cls, .pd (.slice (rows AListener.pd o.listeners)), .pd (.slice (rows AParent.pd o.parents)), .pd (.slice (strs o.hosts)), .pd (.slice (rows ARule.pd o.rules)), .pd (.slice (rows ASide.pd o.from_)), .pd (.slice (rows ASide.pd o.to_))]), (2, [int 0, str ⟨#[]⟩, str ⟨#[]⟩, bln false, .nils, .nils, str ⟨#[]⟩, .nils, .nils, .nils, .nils, .nils, .nils]), (3, [int (fewRef o.ref).kind, str (fewRef o.ref).space, str (fewRef o.ref).name, bln o.good, .pd (.slice (rows APair.pd (fewPairs o.labels))), .own 3 1 (rows cInt ((o.ports.take i).map id)) 52, str (few o.cls), .nils, .nils, .nils, .nils, .pd (.slice (rows ASide.pd (fewSides o.from_))), .pd (.slice (rows ASide.pd (fewSides o.to_)))])], [], .no⟩) 9 _
   ?_ ⟨0, rfl, by omega, by omega, rfl⟩ ?_
  ·exact Weak.ownB 3 5 52 3 1 (by kernel_rfl) (by decide) rfl rfl (by simp [lessL, lk, St.purge, D.purge, rows]) (by simp [lessL, lk, St.purge, D.purges, D.purge, rows]) (by simp [lessL]) rfl
  rintro k st ⟨i, rfl, hi6, hi, rfl⟩
  have hw := i64_succ (show i < 1000000000 by omega)
  by_cases hlt : i < o.ports.length ∧ i < 9
  ·obtain ⟨x, hx⟩ := at_lt hlt.1
   have h1 : ((i : Int) < (o.ports.length : Int)) = True := eq_true (by omega)
   have h2 : ((i : Int) < 9) = True := eq_true (by omega)
   have hl' : ((o.ports.take i).map id).length ≤ i := by simp; omega
   have e1 : rows cInt ((o.ports.take i).map id) ++ [[PD.raw (Value.int IntKind.i64 x)]] = rows cInt ((o.ports.take (i + 1)).map id) := few_step hx
   simp only [go_sem, contS_seq, simprocAttr, rows_len, rows_get hx, h1, h2]
   simp only [go_sem, contS_seq, simprocAttr, hw, e1]
   refine ⟨by simp, by unfold maxLen; omega, by omega, 9 - (i + 1), _, by omega, ?_, i + 1, rfl, by omega, by omega, rfl⟩
   exact lessA
  ·have h3 := few_end (g := id) hi6 hi hlt
   rw [h3]
   by_cases h1 : i < o.ports.length
   ·have h1' : ((i : Int) < (o.ports.length : Int)) = True := eq_true (by omega)
    have h2 : ((i : Int) < 9) = False := eq_false (by omega)
    simp only [go_sem, contS_seq, simprocAttr, rows_len, h1', h2]
    exact hK _ ⟨i, rfl⟩
   ·have h1' : ((i : Int) < (o.ports.length : Int)) = False := eq_false (by omega)
    simp only [go_sem, contS_seq, simprocAttr, rows_len, h1']
    exact hK _ ⟨i, rfl⟩
 rintro s ⟨_, rfl⟩
 refine run_cutJ (fun s => ∃ i : Nat, s = ⟨[(62, bln false), (1, .ptr 1 0), (2, .ptr 2 0), (3, .ptr 3 0), (5, int i), (62, bln false)], [(1, [int o.ref.kind, str o.ref.space, str o.ref.name, bln o.good, .pd (.slice (rows APair.pd o.labels)), .pd (.slice (ints o.ports)), str o.cls, .pd (.slice (rows AListener.pd o.listeners)), .pd (.slice (rows AParent.pd o.parents)), .pd (.slice (strs o.hosts)), .pd (.slice (rows ARule.pd o.rules)), .pd (.slice (rows ASide.pd o.from_)), .pd (.slice (rows ASide.pd o.to_))]), (2, [int 0, str ⟨#[]⟩, str ⟨#[]⟩, bln false, .nils, .nils, str ⟨#[]⟩, .nils, .nils, .nils, .nils, .nils, .nils]), (3, [int (fewRef o.ref).kind, str (fewRef o.ref).space, str (fewRef o.ref).name, bln o.good, .pd (.slice (rows APair.pd (fewPairs o.labels))), .own 3 1 (rows cInt ((o.ports.take 9).map id)) 52, str (few o.cls), .own 122 9 (rows AListener.pd ((o.listeners.take 9).map fewListener)) 92, .nils, .nils, .nils, .pd (.slice (rows ASide.pd (fewSides o.from_))), .pd (.slice (rows ASide.pd (fewSides o.to_)))])], [], .no⟩) ?_ ?_
 ·intro K' hK
  simp only [go_sem, contS_seq, simprocAttr, rows_len]
  refine loopS (fun k st => ∃ i : Nat, k = 9 - i ∧ i ≤ 9 ∧ i ≤ o.listeners.length ∧
   st = ⟨[(1, .ptr 1 0), (2, .ptr 2 0), (3, .ptr 3 0), (5, int i)], [(1, [int o.ref.kind, str o.ref.space, str o.ref.name, bln o.good, .pd (.slice (rows APair.pd o.labels)), .pd (.slice (ints o.ports)), str o.cls, .pd (.slice (rows AListener.pd o.listeners)), .pd (.slice (rows AParent.pd o.parents)), .pd (.slice (strs o.hosts)), .pd (.slice (rows ARule.pd o.rules)), .pd (.slice (rows ASide.pd o.from_)), .pd (.slice (rows ASide.pd o.to_))]), (2, [int 0, str ⟨#[]⟩, str ⟨#[]⟩, bln false, .nils, .nils, str ⟨#[]⟩, .nils, .nils, .nils, .nils, .nils, .nils]), (3, [int (fewRef o.ref).kind, str (fewRef o.ref).space, str (fewRef o.ref).name, bln o.good, .pd (.slice (rows APair.pd (fewPairs o.labels))), .own 3 1 (rows cInt ((o.ports.take 9).map id)) 52, str (few o.cls), .own 122 9 (rows AListener.pd ((o.listeners.take i).map fewListener)) 92, .nils, .nils, .nils, .pd (.slice (rows ASide.pd (fewSides o.from_))), .pd (.slice (rows ASide.pd (fewSides o.to_)))])], [], .no⟩) 9 _
   ?_ ⟨0, rfl, by omega, by omega, rfl⟩ ?_
  ·exact Weak.ownB 3 7 92 122 9 (by kernel_rfl) (by decide) rfl rfl (by simp [lessL, lk, St.purge, D.purge, rows]) (by simp [lessL, lk, St.purge, D.purges, D.purge, rows]) (by simp [lessL]) rfl
  rintro k st ⟨i, rfl, hi6, hi, rfl⟩
  have hw := i64_succ (show i < 1000000000 by omega)
  by_cases hlt : i < o.listeners.length ∧ i < 9
  ·obtain ⟨x, hx⟩ := at_lt hlt.1
   have h1 : ((i : Int) < (o.listeners.length : Int)) = True := eq_true (by omega)
   have h2 : ((i : Int) < 9) = True := eq_true (by omega)
   have hl' : ((o.listeners.take i).map fewListener).length ≤ i := by simp; omega
   have e1 : rows AListener.pd ((o.listeners.take i).map fewListener) ++ [[PD.raw (Value.string (few x.name)), PD.raw (Value.int IntKind.i64 x.port), PD.raw (Value.bool x.tls), PD.raw (Value.string (few x.host)), PD.raw (Value.int IntKind.i64 (fewRef x.cert).kind), PD.raw (Value.string ((fewRef x.cert).space)), PD.raw (Value.string ((fewRef x.cert).name)), PD.raw (Value.int IntKind.i64 x.from_), PD.slice (rows ANeed.pd (fewNeeds x.needs))]] = rows AListener.pd ((o.listeners.take (i + 1)).map fewListener) := few_step hx
   simp only [go_sem, contS_seq, simprocAttr, rows_len, rows_get hx, h1, h2]
   repeat' (first | (refine (law1_Few x.name).callX (enters_of Tryz.func48 rfl rfl) _ rfl rfl ?_; rintro _ rfl; simp only [go_sem, contS_seq, simprocAttr, rows_len, rows_get hx]) | (refine (law1_Few x.host).callX (enters_of Tryz.func48 rfl rfl) _ rfl rfl ?_; rintro _ rfl; simp only [go_sem, contS_seq, simprocAttr, rows_len, rows_get hx]) | (refine (law9_FewRef x.cert).callX (enters_of Tryz.func18 rfl rfl) _ rfl rfl ?_; rintro _ rfl; simp only [go_sem, contS_seq, simprocAttr, rows_len, rows_get hx]) | (refine (law8_Few x.needs).callX (enters_of Tryz.func57 rfl rfl) _ rfl rfl ?_; rintro _ rfl; simp only [go_sem, contS_seq, simprocAttr, rows_len, rows_get hx]))
   simp only [go_sem, contS_seq, simprocAttr, hw, e1]
   refine ⟨by simp, by unfold maxLen; omega, by omega, 9 - (i + 1), _, by omega, ?_, i + 1, rfl, by omega, by omega, rfl⟩
   exact lessA
  ·have h3 := few_end (g := fewListener) hi6 hi hlt
   rw [h3]
   by_cases h1 : i < o.listeners.length
   ·have h1' : ((i : Int) < (o.listeners.length : Int)) = True := eq_true (by omega)
    have h2 : ((i : Int) < 9) = False := eq_false (by omega)
    simp only [go_sem, contS_seq, simprocAttr, rows_len, h1', h2]
    exact hK _ ⟨i, rfl⟩
   ·have h1' : ((i : Int) < (o.listeners.length : Int)) = False := eq_false (by omega)
    simp only [go_sem, contS_seq, simprocAttr, rows_len, h1']
    exact hK _ ⟨i, rfl⟩
 rintro s ⟨_, rfl⟩
 refine run_cutJ (fun s => ∃ i : Nat, s = ⟨[(102, bln false), (1, .ptr 1 0), (2, .ptr 2 0), (3, .ptr 3 0), (7, int i), (102, bln false)], [(1, [int o.ref.kind, str o.ref.space, str o.ref.name, bln o.good, .pd (.slice (rows APair.pd o.labels)), .pd (.slice (ints o.ports)), str o.cls, .pd (.slice (rows AListener.pd o.listeners)), .pd (.slice (rows AParent.pd o.parents)), .pd (.slice (strs o.hosts)), .pd (.slice (rows ARule.pd o.rules)), .pd (.slice (rows ASide.pd o.from_)), .pd (.slice (rows ASide.pd o.to_))]), (2, [int 0, str ⟨#[]⟩, str ⟨#[]⟩, bln false, .nils, .nils, str ⟨#[]⟩, .nils, .nils, .nils, .nils, .nils, .nils]), (3, [int (fewRef o.ref).kind, str (fewRef o.ref).space, str (fewRef o.ref).name, bln o.good, .pd (.slice (rows APair.pd (fewPairs o.labels))), .own 3 1 (rows cInt ((o.ports.take 9).map id)) 52, str (few o.cls), .own 122 9 (rows AListener.pd ((o.listeners.take 9).map fewListener)) 92, .own 99 4 (rows AParent.pd ((o.parents.take 5).map fewParent)) 125, .nils, .nils, .pd (.slice (rows ASide.pd (fewSides o.from_))), .pd (.slice (rows ASide.pd (fewSides o.to_)))])], [], .no⟩) ?_ ?_
 ·intro K' hK
  simp only [go_sem, contS_seq, simprocAttr, rows_len]
  refine loopS (fun k st => ∃ i : Nat, k = 5 - i ∧ i ≤ 5 ∧ i ≤ o.parents.length ∧
   st = ⟨[(1, .ptr 1 0), (2, .ptr 2 0), (3, .ptr 3 0), (7, int i)], [(1, [int o.ref.kind, str o.ref.space, str o.ref.name, bln o.good, .pd (.slice (rows APair.pd o.labels)), .pd (.slice (ints o.ports)), str o.cls, .pd (.slice (rows AListener.pd o.listeners)), .pd (.slice (rows AParent.pd o.parents)), .pd (.slice (strs o.hosts)), .pd (.slice (rows ARule.pd o.rules)), .pd (.slice (rows ASide.pd o.from_)), .pd (.slice (rows ASide.pd o.to_))]), (2, [int 0, str ⟨#[]⟩, str ⟨#[]⟩, bln false, .nils, .nils, str ⟨#[]⟩, .nils, .nils, .nils, .nils, .nils, .nils]), (3, [int (fewRef o.ref).kind, str (fewRef o.ref).space, str (fewRef o.ref).name, bln o.good, .pd (.slice (rows APair.pd (fewPairs o.labels))), .own 3 1 (rows cInt ((o.ports.take 9).map id)) 52, str (few o.cls), .own 122 9 (rows AListener.pd ((o.listeners.take 9).map fewListener)) 92, .own 99 4 (rows AParent.pd ((o.parents.take i).map fewParent)) 125, .nils, .nils, .pd (.slice (rows ASide.pd (fewSides o.from_))), .pd (.slice (rows ASide.pd (fewSides o.to_)))])], [], .no⟩) 5 _
   ?_ ⟨0, rfl, by omega, by omega, rfl⟩ ?_
  ·exact Weak.ownB 3 8 125 99 4 (by kernel_rfl) (by decide) rfl rfl (by simp [lessL, lk, St.purge, D.purge, rows]) (by simp [lessL, lk, St.purge, D.purges, D.purge, rows]) (by simp [lessL]) rfl
  rintro k st ⟨i, rfl, hi6, hi, rfl⟩
  have hw := i64_succ (show i < 1000000000 by omega)
  by_cases hlt : i < o.parents.length ∧ i < 5
  ·obtain ⟨x, hx⟩ := at_lt hlt.1
   have h1 : ((i : Int) < (o.parents.length : Int)) = True := eq_true (by omega)
   have h2 : ((i : Int) < 5) = True := eq_true (by omega)
   have hl' : ((o.parents.take i).map fewParent).length ≤ i := by simp; omega
   have e1 : rows AParent.pd ((o.parents.take i).map fewParent) ++ [[PD.raw (Value.string (few x.space)), PD.raw (Value.string (few x.name)), PD.raw (Value.string (few x.section_)), PD.raw (Value.int IntKind.i64 x.port)]] = rows AParent.pd ((o.parents.take (i + 1)).map fewParent) := few_step hx
   simp only [go_sem, contS_seq, simprocAttr, rows_len, rows_get hx, h1, h2]
   repeat' (first | (refine (law1_Few x.space).callX (enters_of Tryz.func48 rfl rfl) _ rfl rfl ?_; rintro _ rfl; simp only [go_sem, contS_seq, simprocAttr, rows_len, rows_get hx]) | (refine (law1_Few x.name).callX (enters_of Tryz.func48 rfl rfl) _ rfl rfl ?_; rintro _ rfl; simp only [go_sem, contS_seq, simprocAttr, rows_len, rows_get hx]) | (refine (law1_Few x.section_).callX (enters_of Tryz.func48 rfl rfl) _ rfl rfl ?_; rintro _ rfl; simp only [go_sem, contS_seq, simprocAttr, rows_len, rows_get hx]))
   simp only [go_sem, contS_seq, simprocAttr, hw, e1]
   refine ⟨by simp, by unfold maxLen; omega, by omega, 5 - (i + 1), _, by omega, ?_, i + 1, rfl, by omega, by omega, rfl⟩
   exact lessA
  ·have h3 := few_end (g := fewParent) hi6 hi hlt
   rw [h3]
   by_cases h1 : i < o.parents.length
   ·have h1' : ((i : Int) < (o.parents.length : Int)) = True := eq_true (by omega)
    have h2 : ((i : Int) < 5) = False := eq_false (by omega)
    simp only [go_sem, contS_seq, simprocAttr, rows_len, h1', h2]
    exact hK _ ⟨i, rfl⟩
   ·have h1' : ((i : Int) < (o.parents.length : Int)) = False := eq_false (by omega)
    simp only [go_sem, contS_seq, simprocAttr, rows_len, h1']
    exact hK _ ⟨i, rfl⟩
 rintro s ⟨_, rfl⟩
 refine run_cutJ (fun s => ∃ i : Nat, s = ⟨[(135, bln false), (1, .ptr 1 0), (2, .ptr 2 0), (3, .ptr 3 0), (9, int i), (135, bln false)], [(1, [int o.ref.kind, str o.ref.space, str o.ref.name, bln o.good, .pd (.slice (rows APair.pd o.labels)), .pd (.slice (ints o.ports)), str o.cls, .pd (.slice (rows AListener.pd o.listeners)), .pd (.slice (rows AParent.pd o.parents)), .pd (.slice (strs o.hosts)), .pd (.slice (rows ARule.pd o.rules)), .pd (.slice (rows ASide.pd o.from_)), .pd (.slice (rows ASide.pd o.to_))]), (2, [int 0, str ⟨#[]⟩, str ⟨#[]⟩, bln false, .nils, .nils, str ⟨#[]⟩, .nils, .nils, .nils, .nils, .nils, .nils]), (3, [int (fewRef o.ref).kind, str (fewRef o.ref).space, str (fewRef o.ref).name, bln o.good, .pd (.slice (rows APair.pd (fewPairs o.labels))), .own 3 1 (rows cInt ((o.ports.take 9).map id)) 52, str (few o.cls), .own 122 9 (rows AListener.pd ((o.listeners.take 9).map fewListener)) 92, .own 99 4 (rows AParent.pd ((o.parents.take 5).map fewParent)) 125, .own 9 1 (rows cStr ((o.hosts.take 5).map few)) 147, .nils, .pd (.slice (rows ASide.pd (fewSides o.from_))), .pd (.slice (rows ASide.pd (fewSides o.to_)))])], [], .no⟩) ?_ ?_
 ·intro K' hK
  simp only [go_sem, contS_seq, simprocAttr, rows_len]
  refine loopS (fun k st => ∃ i : Nat, k = 5 - i ∧ i ≤ 5 ∧ i ≤ o.hosts.length ∧
   st = ⟨[(1, .ptr 1 0), (2, .ptr 2 0), (3, .ptr 3 0), (9, int i)], [(1, [int o.ref.kind, str o.ref.space, str o.ref.name, bln o.good, .pd (.slice (rows APair.pd o.labels)), .pd (.slice (ints o.ports)), str o.cls, .pd (.slice (rows AListener.pd o.listeners)), .pd (.slice (rows AParent.pd o.parents)), .pd (.slice (strs o.hosts)), .pd (.slice (rows ARule.pd o.rules)), .pd (.slice (rows ASide.pd o.from_)), .pd (.slice (rows ASide.pd o.to_))]), (2, [int 0, str ⟨#[]⟩, str ⟨#[]⟩, bln false, .nils, .nils, str ⟨#[]⟩, .nils, .nils, .nils, .nils, .nils, .nils]), (3, [int (fewRef o.ref).kind, str (fewRef o.ref).space, str (fewRef o.ref).name, bln o.good, .pd (.slice (rows APair.pd (fewPairs o.labels))), .own 3 1 (rows cInt ((o.ports.take 9).map id)) 52, str (few o.cls), .own 122 9 (rows AListener.pd ((o.listeners.take 9).map fewListener)) 92, .own 99 4 (rows AParent.pd ((o.parents.take 5).map fewParent)) 125, .own 9 1 (rows cStr ((o.hosts.take i).map few)) 147, .nils, .pd (.slice (rows ASide.pd (fewSides o.from_))), .pd (.slice (rows ASide.pd (fewSides o.to_)))])], [], .no⟩) 5 _
   ?_ ⟨0, rfl, by omega, by omega, rfl⟩ ?_
  ·exact Weak.ownB 3 9 147 9 1 (by kernel_rfl) (by decide) rfl rfl (by simp [lessL, lk, St.purge, D.purge, rows]) (by simp [lessL, lk, St.purge, D.purges, D.purge, rows]) (by simp [lessL]) rfl
  rintro k st ⟨i, rfl, hi6, hi, rfl⟩
  have hw := i64_succ (show i < 1000000000 by omega)
  by_cases hlt : i < o.hosts.length ∧ i < 5
  ·obtain ⟨x, hx⟩ := at_lt hlt.1
   have h1 : ((i : Int) < (o.hosts.length : Int)) = True := eq_true (by omega)
   have h2 : ((i : Int) < 5) = True := eq_true (by omega)
   have hl' : ((o.hosts.take i).map few).length ≤ i := by simp; omega
   have e1 : rows cStr ((o.hosts.take i).map few) ++ [[PD.raw (Value.string (few x))]] = rows cStr ((o.hosts.take (i + 1)).map few) := few_step hx
   simp only [go_sem, contS_seq, simprocAttr, rows_len, rows_get hx, h1, h2]
   repeat' (first | (refine (law1_Few x).callX (enters_of Tryz.func48 rfl rfl) _ rfl rfl ?_; rintro _ rfl; simp only [go_sem, contS_seq, simprocAttr, rows_len, rows_get hx]))
   simp only [go_sem, contS_seq, simprocAttr, hw, e1]
   refine ⟨by simp, by unfold maxLen; omega, by omega, 5 - (i + 1), _, by omega, ?_, i + 1, rfl, by omega, by omega, rfl⟩
   exact lessA
  ·have h3 := few_end (g := few) hi6 hi hlt
   rw [h3]
   by_cases h1 : i < o.hosts.length
   ·have h1' : ((i : Int) < (o.hosts.length : Int)) = True := eq_true (by omega)
    have h2 : ((i : Int) < 5) = False := eq_false (by omega)
    simp only [go_sem, contS_seq, simprocAttr, rows_len, h1', h2]
    exact hK _ ⟨i, rfl⟩
   ·have h1' : ((i : Int) < (o.hosts.length : Int)) = False := eq_false (by omega)
    simp only [go_sem, contS_seq, simprocAttr, rows_len, h1']
    exact hK _ ⟨i, rfl⟩
 rintro s ⟨_, rfl⟩
 refine run_cutJ (fun s => ∃ i : Nat, s = ⟨[(157, bln false), (1, .ptr 1 0), (2, .ptr 2 0), (3, .ptr 3 0), (10, int i), (157, bln false)], [(1, [int o.ref.kind, str o.ref.space, str o.ref.name, bln o.good, .pd (.slice (rows APair.pd o.labels)), .pd (.slice (ints o.ports)), str o.cls, .pd (.slice (rows AListener.pd o.listeners)), .pd (.slice (rows AParent.pd o.parents)), .pd (.slice (strs o.hosts)), .pd (.slice (rows ARule.pd o.rules)), .pd (.slice (rows ASide.pd o.from_)), .pd (.slice (rows ASide.pd o.to_))]), (2, [int 0, str ⟨#[]⟩, str ⟨#[]⟩, bln false, .nils, .nils, str ⟨#[]⟩, .nils, .nils, .nils, .nils, .nils, .nils]), (3, [int (fewRef o.ref).kind, str (fewRef o.ref).space, str (fewRef o.ref).name, bln o.good, .pd (.slice (rows APair.pd (fewPairs o.labels))), .own 3 1 (rows cInt ((o.ports.take 9).map id)) 52, str (few o.cls), .own 122 9 (rows AListener.pd ((o.listeners.take 9).map fewListener)) 92, .own 99 4 (rows AParent.pd ((o.parents.take 5).map fewParent)) 125, .own 9 1 (rows cStr ((o.hosts.take 5).map few)) 147, .own 104 3 (rows ARule.pd ((o.rules.take 7).map fewRule)) 239, .pd (.slice (rows ASide.pd (fewSides o.from_))), .pd (.slice (rows ASide.pd (fewSides o.to_)))])], [], .no⟩) ?_ ?_
 ·intro K' hK
  simp only [go_sem, contS_seq, simprocAttr, rows_len]
  refine loopS (fun k st => ∃ i : Nat, k = 7 - i ∧ i ≤ 7 ∧ i ≤ o.rules.length ∧
   st = ⟨[(1, .ptr 1 0), (2, .ptr 2 0), (3, .ptr 3 0), (10, int i)], [(1, [int o.ref.kind, str o.ref.space, str o.ref.name, bln o.good, .pd (.slice (rows APair.pd o.labels)), .pd (.slice (ints o.ports)), str o.cls, .pd (.slice (rows AListener.pd o.listeners)), .pd (.slice (rows AParent.pd o.parents)), .pd (.slice (strs o.hosts)), .pd (.slice (rows ARule.pd o.rules)), .pd (.slice (rows ASide.pd o.from_)), .pd (.slice (rows ASide.pd o.to_))]), (2, [int 0, str ⟨#[]⟩, str ⟨#[]⟩, bln false, .nils, .nils, str ⟨#[]⟩, .nils, .nils, .nils, .nils, .nils, .nils]), (3, [int (fewRef o.ref).kind, str (fewRef o.ref).space, str (fewRef o.ref).name, bln o.good, .pd (.slice (rows APair.pd (fewPairs o.labels))), .own 3 1 (rows cInt ((o.ports.take 9).map id)) 52, str (few o.cls), .own 122 9 (rows AListener.pd ((o.listeners.take 9).map fewListener)) 92, .own 99 4 (rows AParent.pd ((o.parents.take 5).map fewParent)) 125, .own 9 1 (rows cStr ((o.hosts.take 5).map few)) 147, .own 104 3 (rows ARule.pd ((o.rules.take i).map fewRule)) 239, .pd (.slice (rows ASide.pd (fewSides o.from_))), .pd (.slice (rows ASide.pd (fewSides o.to_)))])], [], .no⟩) 7 _
   ?_ ⟨0, rfl, by omega, by omega, rfl⟩ ?_
  ·exact Weak.ownB 3 10 239 104 3 (by kernel_rfl) (by decide) rfl rfl (by simp [lessL, lk, St.purge, D.purge, rows]) (by simp [lessL, lk, St.purge, D.purges, D.purge, rows]) (by simp [lessL]) rfl
  rintro k st ⟨i, rfl, hi6, hi, rfl⟩
  have hw := i64_succ (show i < 1000000000 by omega)
  by_cases hlt : i < o.rules.length ∧ i < 7
  ·obtain ⟨x, hx⟩ := at_lt hlt.1
   have h1 : ((i : Int) < (o.rules.length : Int)) = True := eq_true (by omega)
   have h2 : ((i : Int) < 7) = True := eq_true (by omega)
   have hl' : ((o.rules.take i).map fewRule).length ≤ i := by simp; omega
   have e1 : rows ARule.pd ((o.rules.take i).map fewRule) ++ [[PD.slice (rows AMatch.pd ((x.matches_.take 5).map fewMatch)), PD.slice (rows AFilter.pd (fewFilters x.filters)), PD.slice (rows ABackend.pd ((x.backends.take 5).map fewBackend))]] = rows ARule.pd ((o.rules.take (i + 1)).map fewRule) := few_step hx
   apply run_cut
   ·intro K' hK
    simp only [go_sem, contS_seq, simprocAttr, rows_len, h1, h2]
    exact hK
   apply run_cut
   ·intro K' hK
    rw [run_block]
    apply run_cut
    ·intro K' hK
     simp only [go_sem, contS_seq, simprocAttr, rows_len, rows_get hx]
     refine (law7_Few x.filters).callW (enters_of Tryz.func58 rfl rfl) _ rfl rfl ?_
     rintro _ rfl
     simp only [go_sem, contS_seq, simprocAttr]
     exact hK
    refine run_cutJ (fun s => ∃ j : Nat, s = ⟨[(180, bln false), (1, .ptr 1 0), (2, .ptr 2 0), (3, .ptr 3 0), (10, int i), (11, .ptr 11 0), (12, int j), (180, bln false)], [(1, [int o.ref.kind, str o.ref.space, str o.ref.name, bln o.good, .pd (.slice (rows APair.pd o.labels)), .pd (.slice (ints o.ports)), str o.cls, .pd (.slice (rows AListener.pd o.listeners)), .pd (.slice (rows AParent.pd o.parents)), .pd (.slice (strs o.hosts)), .pd (.slice (rows ARule.pd o.rules)), .pd (.slice (rows ASide.pd o.from_)), .pd (.slice (rows ASide.pd o.to_))]), (2, [int 0, str ⟨#[]⟩, str ⟨#[]⟩, bln false, .nils, .nils, str ⟨#[]⟩, .nils, .nils, .nils, .nils, .nils, .nils]), (3, [int (fewRef o.ref).kind, str (fewRef o.ref).space, str (fewRef o.ref).name, bln o.good, .pd (.slice (rows APair.pd (fewPairs o.labels))), .own 3 1 (rows cInt ((o.ports.take 9).map id)) 52, str (few o.cls), .own 122 9 (rows AListener.pd ((o.listeners.take 9).map fewListener)) 92, .own 99 4 (rows AParent.pd ((o.parents.take 5).map fewParent)) 125, .own 9 1 (rows cStr ((o.hosts.take 5).map few)) 147, .own 104 3 (rows ARule.pd ((o.rules.take i).map fewRule)) 239, .pd (.slice (rows ASide.pd (fewSides o.from_))), .pd (.slice (rows ASide.pd (fewSides o.to_)))]), (11, [.own 128 5 (rows AMatch.pd ((x.matches_.take 5).map fewMatch)) 196, .pd (.slice (rows AFilter.pd (fewFilters x.filters))), .nils])], [], .no⟩) ?_ ?_
    ·intro K' hK
     simp only [go_sem, contS_seq, simprocAttr, rows_len, rows_get hx]
     refine loopS (fun k st => ∃ j : Nat, k = 5 - j ∧ j ≤ 5 ∧ j ≤ x.matches_.length ∧
      st = ⟨[(1, .ptr 1 0), (2, .ptr 2 0), (3, .ptr 3 0), (10, int i), (11, .ptr 11 0), (12, int j)], [(1, [int o.ref.kind, str o.ref.space, str o.ref.name, bln o.good, .pd (.slice (rows APair.pd o.labels)), .pd (.slice (ints o.ports)), str o.cls, .pd (.slice (rows AListener.pd o.listeners)), .pd (.slice (rows AParent.pd o.parents)), .pd (.slice (strs o.hosts)), .pd (.slice (rows ARule.pd o.rules)), .pd (.slice (rows ASide.pd o.from_)), .pd (.slice (rows ASide.pd o.to_))]), (2, [int 0, str ⟨#[]⟩, str ⟨#[]⟩, bln false, .nils, .nils, str ⟨#[]⟩, .nils, .nils, .nils, .nils, .nils, .nils]), (3, [int (fewRef o.ref).kind, str (fewRef o.ref).space, str (fewRef o.ref).name, bln o.good, .pd (.slice (rows APair.pd (fewPairs o.labels))), .own 3 1 (rows cInt ((o.ports.take 9).map id)) 52, str (few o.cls), .own 122 9 (rows AListener.pd ((o.listeners.take 9).map fewListener)) 92, .own 99 4 (rows AParent.pd ((o.parents.take 5).map fewParent)) 125, .own 9 1 (rows cStr ((o.hosts.take 5).map few)) 147, .own 104 3 (rows ARule.pd ((o.rules.take i).map fewRule)) 239, .pd (.slice (rows ASide.pd (fewSides o.from_))), .pd (.slice (rows ASide.pd (fewSides o.to_)))]), (11, [.own 128 5 (rows AMatch.pd ((x.matches_.take j).map fewMatch)) 196, .pd (.slice (rows AFilter.pd (fewFilters x.filters))), .nils])], [], .no⟩) 5 _
      ?_ ⟨0, rfl, by omega, by omega, rfl⟩ ?_
     ·exact Weak.ownB 11 0 196 128 5 (by kernel_rfl) (by decide) rfl rfl (by simp [lessL, lk, St.purge, D.purge, rows]) (by simp [lessL, lk, St.purge, D.purges, D.purge, rows]) (by simp [lessL]) rfl
     rintro k st ⟨j, rfl, hj6, hj, rfl⟩
     have hwj := i64_succ (show j < 1000000000 by omega)
     by_cases hltj : j < x.matches_.length ∧ j < 5
     ·obtain ⟨y, hy⟩ := at_lt hltj.1
      have h1' : ((j : Int) < (x.matches_.length : Int)) = True := eq_true (by omega)
      have h2' : ((j : Int) < 5) = True := eq_true (by omega)
      have hlj : ((x.matches_.take j).map fewMatch).length ≤ j := by simp; omega
      have e2 : rows AMatch.pd ((x.matches_.take j).map fewMatch) ++ [[PD.raw (Value.int IntKind.i64 (fewMatch y).pkind), PD.raw (Value.string (fewMatch y).pval), PD.raw (Value.string (fewMatch y).method), PD.slice (rows APair.pd (fewMatch y).head), PD.slice (rows APair.pd (fewMatch y).query)]] = rows AMatch.pd ((x.matches_.take (j + 1)).map fewMatch) := few_step hy
      simp only [go_sem, contS_seq, simprocAttr, rows_len, rows_get hx, rows_get hy, h1', h2']
      repeat' (first | (refine (law6_Few y).callX (enters_of Tryz.func59 rfl rfl) _ rfl rfl ?_; rintro _ rfl; simp only [go_sem, contS_seq, simprocAttr, rows_len, rows_get hx, rows_get hy]))
      simp only [go_sem, contS_seq, simprocAttr, hwj, e2]
      refine ⟨by simp, by unfold maxLen; omega, by omega, 5 - (j + 1), _, by omega, ?_, j + 1, rfl, by omega, by omega, rfl⟩
      exact lessA
     ·have h3 := few_end (g := fewMatch) hj6 hj hltj
      rw [h3]
      by_cases h1 : j < x.matches_.length
      ·have h1' : ((j : Int) < (x.matches_.length : Int)) = True := eq_true (by omega)
       have h2 : ((j : Int) < 5) = False := eq_false (by omega)
       simp only [go_sem, contS_seq, simprocAttr, rows_len, rows_get hx, h1', h2]
       exact hK _ ⟨j, rfl⟩
      ·have h1' : ((j : Int) < (x.matches_.length : Int)) = False := eq_false (by omega)
       simp only [go_sem, contS_seq, simprocAttr, rows_len, rows_get hx, h1']
       exact hK _ ⟨j, rfl⟩
    rintro s ⟨_, rfl⟩
    refine run_cutJ (fun s => ∃ j : Nat, s = ⟨[(210, bln false), (1, .ptr 1 0), (2, .ptr 2 0), (3, .ptr 3 0), (10, int i), (11, .ptr 11 0), (13, int j), (210, bln false)], [(1, [int o.ref.kind, str o.ref.space, str o.ref.name, bln o.good, .pd (.slice (rows APair.pd o.labels)), .pd (.slice (ints o.ports)), str o.cls, .pd (.slice (rows AListener.pd o.listeners)), .pd (.slice (rows AParent.pd o.parents)), .pd (.slice (strs o.hosts)), .pd (.slice (rows ARule.pd o.rules)), .pd (.slice (rows ASide.pd o.from_)), .pd (.slice (rows ASide.pd o.to_))]), (2, [int 0, str ⟨#[]⟩, str ⟨#[]⟩, bln false, .nils, .nils, str ⟨#[]⟩, .nils, .nils, .nils, .nils, .nils, .nils]), (3, [int (fewRef o.ref).kind, str (fewRef o.ref).space, str (fewRef o.ref).name, bln o.good, .pd (.slice (rows APair.pd (fewPairs o.labels))), .own 3 1 (rows cInt ((o.ports.take 9).map id)) 52, str (few o.cls), .own 122 9 (rows AListener.pd ((o.listeners.take 9).map fewListener)) 92, .own 99 4 (rows AParent.pd ((o.parents.take 5).map fewParent)) 125, .own 9 1 (rows cStr ((o.hosts.take 5).map few)) 147, .own 104 3 (rows ARule.pd ((o.rules.take i).map fewRule)) 239, .pd (.slice (rows ASide.pd (fewSides o.from_))), .pd (.slice (rows ASide.pd (fewSides o.to_)))]), (11, [.own 128 5 (rows AMatch.pd ((x.matches_.take 5).map fewMatch)) 196, .pd (.slice (rows AFilter.pd (fewFilters x.filters))), .own 106 5 (rows ABackend.pd ((x.backends.take 5).map fewBackend)) 233])], [], .no⟩) ?_ ?_
    ·intro K' hK
     simp only [go_sem, contS_seq, simprocAttr, rows_len, rows_get hx]
     refine loopS (fun k st => ∃ j : Nat, k = 5 - j ∧ j ≤ 5 ∧ j ≤ x.backends.length ∧
      st = ⟨[(1, .ptr 1 0), (2, .ptr 2 0), (3, .ptr 3 0), (10, int i), (11, .ptr 11 0), (13, int j)], [(1, [int o.ref.kind, str o.ref.space, str o.ref.name, bln o.good, .pd (.slice (rows APair.pd o.labels)), .pd (.slice (ints o.ports)), str o.cls, .pd (.slice (rows AListener.pd o.listeners)), .pd (.slice (rows AParent.pd o.parents)), .pd (.slice (strs o.hosts)), .pd (.slice (rows ARule.pd o.rules)), .pd (.slice (rows ASide.pd o.from_)), .pd (.slice (rows ASide.pd o.to_))]), (2, [int 0, str ⟨#[]⟩, str ⟨#[]⟩, bln false, .nils, .nils, str ⟨#[]⟩, .nils, .nils, .nils, .nils, .nils, .nils]), (3, [int (fewRef o.ref).kind, str (fewRef o.ref).space, str (fewRef o.ref).name, bln o.good, .pd (.slice (rows APair.pd (fewPairs o.labels))), .own 3 1 (rows cInt ((o.ports.take 9).map id)) 52, str (few o.cls), .own 122 9 (rows AListener.pd ((o.listeners.take 9).map fewListener)) 92, .own 99 4 (rows AParent.pd ((o.parents.take 5).map fewParent)) 125, .own 9 1 (rows cStr ((o.hosts.take 5).map few)) 147, .own 104 3 (rows ARule.pd ((o.rules.take i).map fewRule)) 239, .pd (.slice (rows ASide.pd (fewSides o.from_))), .pd (.slice (rows ASide.pd (fewSides o.to_)))]), (11, [.own 128 5 (rows AMatch.pd ((x.matches_.take 5).map fewMatch)) 196, .pd (.slice (rows AFilter.pd (fewFilters x.filters))), .own 106 5 (rows ABackend.pd ((x.backends.take j).map fewBackend)) 233])], [], .no⟩) 5 _
      ?_ ⟨0, rfl, by omega, by omega, rfl⟩ ?_
     ·exact Weak.ownB 11 2 233 106 5 (by kernel_rfl) (by decide) rfl rfl (by simp [lessL, lk, St.purge, D.purge, rows]) (by simp [lessL, lk, St.purge, D.purges, D.purge, rows]) (by simp [lessL]) rfl
     rintro k st ⟨j, rfl, hj6, hj, rfl⟩
     have hwj := i64_succ (show j < 1000000000 by omega)
     by_cases hltj : j < x.backends.length ∧ j < 5
     ·obtain ⟨y, hy⟩ := at_lt hltj.1
      have h1' : ((j : Int) < (x.backends.length : Int)) = True := eq_true (by omega)
      have h2' : ((j : Int) < 5) = True := eq_true (by omega)
      have hlj : ((x.backends.take j).map fewBackend).length ≤ j := by simp; omega
      have e2 : rows ABackend.pd ((x.backends.take j).map fewBackend) ++ [[PD.raw (Value.int IntKind.i64 (fewRef y.ref).kind), PD.raw (Value.string (fewRef y.ref).space), PD.raw (Value.string (fewRef y.ref).name), PD.raw (Value.int IntKind.i64 y.port), PD.raw (Value.int IntKind.i64 y.weight)]] = rows ABackend.pd ((x.backends.take (j + 1)).map fewBackend) := few_step hy
      simp only [go_sem, contS_seq, simprocAttr, rows_len, rows_get hx, rows_get hy, h1', h2']
      repeat' (first | (refine (law9_FewRef y.ref).callX (enters_of Tryz.func18 rfl rfl) _ rfl rfl ?_; rintro _ rfl; simp only [go_sem, contS_seq, simprocAttr, rows_len, rows_get hx, rows_get hy]))
      simp only [go_sem, contS_seq, simprocAttr, hwj, e2]
      refine ⟨by simp, by unfold maxLen; omega, by omega, 5 - (j + 1), _, by omega, ?_, j + 1, rfl, by omega, by omega, rfl⟩
      exact lessA
     ·have h3 := few_end (g := fewBackend) hj6 hj hltj
      rw [h3]
      by_cases h1 : j < x.backends.length
      ·have h1' : ((j : Int) < (x.backends.length : Int)) = True := eq_true (by omega)
       have h2 : ((j : Int) < 5) = False := eq_false (by omega)
       simp only [go_sem, contS_seq, simprocAttr, rows_len, rows_get hx, h1', h2]
       exact hK _ ⟨j, rfl⟩
      ·have h1' : ((j : Int) < (x.backends.length : Int)) = False := eq_false (by omega)
       simp only [go_sem, contS_seq, simprocAttr, rows_len, rows_get hx, h1']
       exact hK _ ⟨j, rfl⟩
    rintro s ⟨_, rfl⟩
    simp only [go_sem, contS_seq, simprocAttr, rows_len, e1]
    refine ⟨by simp, by unfold maxLen; omega, by omega, ?_⟩
    exact hK
   simp only [go_sem, contS_seq, simprocAttr, hw]
   refine ⟨7 - (i + 1), _, by omega, ?_, i + 1, rfl, by omega, by omega, rfl⟩
   exact lessA
  ·have h3 := few_end (g := fewRule) hi6 hi hlt
   rw [h3]
   by_cases h1 : i < o.rules.length
   ·have h1' : ((i : Int) < (o.rules.length : Int)) = True := eq_true (by omega)
    have h2 : ((i : Int) < 7) = False := eq_false (by omega)
    simp only [go_sem, contS_seq, simprocAttr, rows_len, h1', h2]
    exact hK _ ⟨i, rfl⟩
   ·have h1' : ((i : Int) < (o.rules.length : Int)) = False := eq_false (by omega)
    simp only [go_sem, contS_seq, simprocAttr, rows_len, h1']
    exact hK _ ⟨i, rfl⟩
 rintro s ⟨_, rfl⟩
 simp only [go_sem, contS_seq, simprocAttr]
 simp only [retK, resD, resA, AOp.ex, St.ev, retL, oneD, simprocAttr, ret_z8s55, List.map_id]
 exact ⟨_, rfl, rfl, rfl⟩


theorem take_map_mem {α β : Type} {g : α → β} {l : List α} {n : Nat} {y : β} (h : y ∈ (l.take n).map g) : ∃ x, x ∈ l ∧ g x = y := by
 obtain ⟨x, hx, rfl⟩ := List.mem_map.1 h
 exact ⟨x, List.mem_of_mem_take hx, rfl⟩

theorem fewPairs_ok {l : List APair} : ∀ p ∈ fewPairs l, p.ok := fun p hp => by
 obtain ⟨x, _, rfl⟩ := take_map_mem hp
 exact fewPair_ok x

theorem fewPairs_len (l : List APair) : (fewPairs l).length ≤ 1000000 := by simp [fewPairs]; omega

theorem fewMatch_ok (m : AMatch) : (fewMatch m).ok := ⟨fewPairs_len _, fewPairs_len _, fewPairs_ok, fewPairs_ok⟩

theorem fewFilter_ok (f : AFilter) : (fewFilter f).ok := ⟨by have := few_size f.name; simp [fewFilter]; omega, by have := few_size f.val; simp [fewFilter]; omega⟩

theorem fewNeed_ok (n : ANeed) : (fewNeed n).ok := by simp [ANeed.ok, fewNeed]; omega

theorem fewListener_ok (l : AListener) : (fewListener l).ok := ⟨by simp [fewListener, fewNeeds]; omega, fun x hx => by
 obtain ⟨y, _, rfl⟩ := take_map_mem hx
 exact fewNeed_ok y⟩

theorem fewRule_ok (r : ARule) : (fewRule r).ok := ⟨by simp [fewRule]; omega, by simp [fewRule, fewFilters]; omega, by simp [fewRule]; omega, fun x hx => by
 obtain ⟨y, _, rfl⟩ := take_map_mem hx
 exact fewMatch_ok y, fun x hx => by
 obtain ⟨y, _, rfl⟩ := take_map_mem hx
 exact fewFilter_ok y⟩

theorem fewObj_ok (o : AObj) : (fewObj o).ok where
 la := fewPairs_len _
 po := by simp [fewObj]; omega
 li := by simp [fewObj]; omega
 pa := by simp [fewObj]; omega
 ho := by simp [fewObj]; omega
 ru := by simp [fewObj]; omega
 fr := by simp [fewObj, fewSides]; omega
 to := by simp [fewObj, fewSides]; omega
 lis := fun x hx => by
  obtain ⟨y, _, rfl⟩ := take_map_mem hx
  exact fewListener_ok y
 rus := fun x hx => by
  obtain ⟨y, _, rfl⟩ := take_map_mem hx
  exact fewRule_ok y


theorem res_no {p : Prop} [Decidable p] (h : ¬p) : bln false = bln (decide p) := by rw [decide_eq_false h]
theorem res_yes {p : Prop} [Decidable p] (h : p) : bln true = bln (decide p) := by rw [decide_eq_true h]
theorem take_step {α : Type} {l m : List α} {i : Nat} {x y : α} (h : l.take i = m.take i) (hx : l[i]? = some x) (hy : m[i]? = some y) (e : x = y) : l.take (i + 1) = m.take (i + 1) := by
 rw [take_at hx, take_at hy, h, e]
theorem take_end {α : Type} {l m : List α} {i : Nat} (h : l.take i = m.take i) (hl : l.length = m.length) (hi : ¬ i < l.length) : l = m := by
 rwa [List.take_of_length_le (by omega), List.take_of_length_le (by omega)] at h

set_option maxHeartbeats 2000000 in
theorem ref1_Same (a b : List ByteArray) (ha : a.length ≤ 1000000) : Pure Tryz.prog 73 [.pd (.slice (rows cStr a)), .pd (.slice (rows cStr b))] (fun d => d = bln (decide (a = b))) := by
 refine pure_of_run follows an_zjxe8 Tryz.func73 rfl ok_zjxe8.1 ok_zjxe8.2 (by simp [Tryz.ntmps73]) ?_
 rw [run_start]
 simp only [ac_zjxe8, go_sem, contS_seq, simprocAttr, rows_len]
 refine GifP.mk (fun hl => ?_) (fun hl => ?_)
 rotate_left
 ·simp only [retK, resD, retL, oneD, simprocAttr, Tryz.results73]
  exact ⟨_, rfl, rfl, res_no (fun e => hl (by rw [e]))⟩
 have hL : a.length = b.length := by omega
 refine loopS (fun k st => ∃ i : Nat, k = a.length - i ∧ i ≤ a.length ∧ a.take i = b.take i ∧ st = ⟨[(0, .pd (.slice (rows cStr a))), (1, .pd (.slice (rows cStr b))), (5, int i)], [], [], .no⟩) a.length _ ?_ ⟨0, rfl, by omega, rfl, rfl⟩ ?_
 ·exact lessA
 rintro k st ⟨i, rfl, hi, hT, rfl⟩
 have hw := i64_succ (show i < 1000000000 by omega)
 by_cases hlt : i < a.length
 ·obtain ⟨x, hx⟩ := at_lt hlt
  obtain ⟨y, hy⟩ := at_lt (show i < b.length by omega)
  have h1 : ((i : Int) < (a.length : Int)) = True := eq_true (by omega)
  simp only [go_sem, contS_seq, simprocAttr, rows_len, rows_get hx, rows_get hy, h1, hw]
  ·repeat' (first | refine GifP.mk (fun _ => ?_) (fun _ => ?_) | refine Gif.mk (fun _ => ?_) (fun _ => ?_) | refine And.intro ?_ ?_)
   all_goals first
    | (refine ⟨a.length - (i + 1), _, by omega, ?_, i + 1, rfl, by omega, take_step hT hx hy (by first | assumption | (cases x; cases y; simp_all)), rfl⟩; exact lessA)
    | (simp only [retK, resD, retL, oneD, simprocAttr, Tryz.results73]; exact ⟨_, rfl, rfl, res_no (fun e => by subst e; have hxy := Option.some.inj (hx.symm.trans hy); subst hxy; first | contradiction | simp_all)⟩)
 have h1 : ((i : Int) < (a.length : Int)) = False := eq_false (by omega)
 have hE := take_end hT (by omega) hlt
 clear hT hi hw
 simp only [go_sem, contS_seq, simprocAttr, rows_len, h1]
 clear h1 hlt i
 simp only [retK, resD, retL, oneD, simprocAttr, Tryz.results73]
 exact ⟨_, rfl, rfl, res_yes hE⟩

set_option maxHeartbeats 2000000 in
theorem ref4_Same (a b : List APair) (ha : a.length ≤ 1000000) : Pure Tryz.prog 72 [.pd (.slice (rows APair.pd a)), .pd (.slice (rows APair.pd b))] (fun d => d = bln (decide (a = b))) := by
 refine pure_of_run follows an_zk76r Tryz.func72 rfl ok_zk76r.1 ok_zk76r.2 (by simp [Tryz.ntmps72]) ?_
 rw [run_start]
 simp only [ac_zk76r, go_sem, contS_seq, simprocAttr, rows_len]
 refine GifP.mk (fun hl => ?_) (fun hl => ?_)
 rotate_left
 ·simp only [retK, resD, retL, oneD, simprocAttr, Tryz.results72]
  exact ⟨_, rfl, rfl, res_no (fun e => hl (by rw [e]))⟩
 have hL : a.length = b.length := by omega
 refine loopS (fun k st => ∃ i : Nat, k = a.length - i ∧ i ≤ a.length ∧ a.take i = b.take i ∧ st = ⟨[(0, .pd (.slice (rows APair.pd a))), (1, .pd (.slice (rows APair.pd b))), (5, int i)], [], [], .no⟩) a.length _ ?_ ⟨0, rfl, by omega, rfl, rfl⟩ ?_
 ·exact lessA
 rintro k st ⟨i, rfl, hi, hT, rfl⟩
 have hw := i64_succ (show i < 1000000000 by omega)
 by_cases hlt : i < a.length
 ·obtain ⟨x, hx⟩ := at_lt hlt
  obtain ⟨y, hy⟩ := at_lt (show i < b.length by omega)
  have h1 : ((i : Int) < (a.length : Int)) = True := eq_true (by omega)
  simp only [go_sem, contS_seq, simprocAttr, rows_len, rows_get hx, rows_get hy, h1, hw, eqVs, eqV, eq_Pair]
  ·repeat' (first | refine GifP.mk (fun _ => ?_) (fun _ => ?_) | refine Gif.mk (fun _ => ?_) (fun _ => ?_) | refine And.intro ?_ ?_)
   all_goals first
    | (refine ⟨a.length - (i + 1), _, by omega, ?_, i + 1, rfl, by omega, take_step hT hx hy (by first | assumption | (cases x; cases y; simp_all)), rfl⟩; exact lessA)
    | (simp only [retK, resD, retL, oneD, simprocAttr, Tryz.results72]; exact ⟨_, rfl, rfl, res_no (fun e => by subst e; have hxy := Option.some.inj (hx.symm.trans hy); subst hxy; first | contradiction | simp_all)⟩)
 have h1 : ((i : Int) < (a.length : Int)) = False := eq_false (by omega)
 have hE := take_end hT (by omega) hlt
 clear hT hi hw
 simp only [go_sem, contS_seq, simprocAttr, rows_len, h1]
 clear h1 hlt i
 simp only [retK, resD, retL, oneD, simprocAttr, Tryz.results72]
 exact ⟨_, rfl, rfl, res_yes hE⟩

set_option maxHeartbeats 2000000 in
theorem ref8_Same (a b : List ANeed) (ha : a.length ≤ 1000000) (hb : ∀ x ∈ a, x.vals.length ≤ 1000000) : Pure Tryz.prog 74 [.pd (.slice (rows ANeed.pd a)), .pd (.slice (rows ANeed.pd b))] (fun d => d = bln (decide (a = b))) := by
 refine pure_of_run follows an_zgrh4 Tryz.func74 rfl ok_zgrh4.1 ok_zgrh4.2 (by simp [Tryz.ntmps74]) ?_
 rw [run_start]
 simp only [ac_zgrh4, go_sem, contS_seq, simprocAttr, rows_len]
 refine GifP.mk (fun hl => ?_) (fun hl => ?_)
 rotate_left
 ·simp only [retK, resD, retL, oneD, simprocAttr, Tryz.results74]
  exact ⟨_, rfl, rfl, res_no (fun e => hl (by rw [e]))⟩
 have hL : a.length = b.length := by omega
 refine loopS (fun k st => ∃ i : Nat, k = a.length - i ∧ i ≤ a.length ∧ a.take i = b.take i ∧ st = ⟨[(0, .pd (.slice (rows ANeed.pd a))), (1, .pd (.slice (rows ANeed.pd b))), (5, int i)], [], [], .no⟩) a.length _ ?_ ⟨0, rfl, by omega, rfl, rfl⟩ ?_
 ·exact lessA
 rintro k st ⟨i, rfl, hi, hT, rfl⟩
 have hw := i64_succ (show i < 1000000000 by omega)
 by_cases hlt : i < a.length
 ·obtain ⟨x, hx⟩ := at_lt hlt
  obtain ⟨y, hy⟩ := at_lt (show i < b.length by omega)
  have h1 : ((i : Int) < (a.length : Int)) = True := eq_true (by omega)
  simp only [go_sem, contS_seq, simprocAttr, rows_len, rows_get hx, rows_get hy, h1, hw]
  ·repeat' (first | refine GifP.mk (fun _ => ?_) (fun _ => ?_) | refine Gif.mk (fun _ => ?_) (fun _ => ?_) | (refine (ref1_Same x.vals y.vals (hb x (List.mem_of_getElem? hx))).callX (enters_of Tryz.func73 rfl rfl) _ rfl rfl ?_; rintro _ rfl; simp only [go_sem, contS_seq, simprocAttr, rows_len, rows_get hx, rows_get hy, hw]) | refine And.intro ?_ ?_)
   all_goals first
    | (refine ⟨a.length - (i + 1), _, by omega, ?_, i + 1, rfl, by omega, take_step hT hx hy (by first | assumption | (cases x; cases y; simp_all)), rfl⟩; exact lessA)
    | (simp only [retK, resD, retL, oneD, simprocAttr, Tryz.results74]; exact ⟨_, rfl, rfl, res_no (fun e => by subst e; have hxy := Option.some.inj (hx.symm.trans hy); subst hxy; first | contradiction | simp_all)⟩)
 have h1 : ((i : Int) < (a.length : Int)) = False := eq_false (by omega)
 have hE := take_end hT (by omega) hlt
 clear hT hi hw
 simp only [go_sem, contS_seq, simprocAttr, rows_len, h1]
 clear h1 hlt i
 simp only [retK, resD, retL, oneD, simprocAttr, Tryz.results74]
 exact ⟨_, rfl, rfl, res_yes hE⟩

theorem ref6_Same (a b : AMatch) (h1 : a.head.length ≤ 1000000) (h2 : a.query.length ≤ 1000000) : Pure Tryz.prog 117 [.agg [int a.pkind, str a.pval, str a.method, .pd (.slice (rows APair.pd a.head)), .pd (.slice (rows APair.pd a.query))], .agg [int b.pkind, str b.pval, str b.method, .pd (.slice (rows APair.pd b.head)), .pd (.slice (rows APair.pd b.query))]] (fun d => d = bln (decide (a = b))) := by
 refine pure_of_run follows an_zlug8 Tryz.func117 rfl ok_zlug8.1 ok_zlug8.2 (by simp [Tryz.ntmps117]) ?_
 rw [run_start]
 simp only [ac_zlug8, go_sem, contS_seq, simprocAttr, eqVs, eqV]
 (repeat' (first | (refine GifP.mk (fun _ => ?_) (fun _ => ?_)) | (refine Gif.mk (fun _ => ?_) (fun _ => ?_)) | ((first | refine (ref4_Same a.head b.head h1).callW (enters_of Tryz.func72 rfl rfl) _ rfl rfl ?_ | refine (ref4_Same a.query b.query h2).callW (enters_of Tryz.func72 rfl rfl) _ rfl rfl ?_); rintro _ rfl; try simp only [go_sem, contS_seq, simprocAttr, eqVs, eqV]))) <;> (simp only [retK, resD, retL, oneD, simprocAttr, Tryz.results117]; exact ⟨_, rfl, rfl, congrArg bln (by cases a; cases b; rw [Bool.eq_iff_iff]; simp_all)⟩)

set_option maxHeartbeats 2000000 in
theorem ref9_SameRule (a b : ARule) (h1 : a.matches_.length ≤ 1000000) (h2 : a.filters.length ≤ 1000000) (h3 : a.backends.length ≤ 1000000) (h4 : ∀ m ∈ a.matches_, m.head.length ≤ 1000000 ∧ m.query.length ≤ 1000000) :
 Pure Tryz.prog 75 [.agg [.pd (.slice (rows AMatch.pd a.matches_)), .pd (.slice (rows AFilter.pd a.filters)), .pd (.slice (rows ABackend.pd a.backends))], .agg [.pd (.slice (rows AMatch.pd b.matches_)), .pd (.slice (rows AFilter.pd b.filters)), .pd (.slice (rows ABackend.pd b.backends))]] (fun d => d = bln (decide (a = b))) := by
 refine pure_of_run follows an_zt6t3 Tryz.func75 rfl ok_zt6t3.1 ok_zt6t3.2 (by simp [Tryz.ntmps75]) ?_
 rw [run_start]
 simp only [ac_zt6t3, go_sem, contS_seq, simprocAttr, rows_len]
 repeat' (refine GifP.mk (fun _ => ?_) (fun _ => ?_))
 all_goals first
  | (simp only [retK, resD, retL, oneD, simprocAttr, Tryz.results75]; exact ⟨_, rfl, rfl, res_no (fun e => by subst e; contradiction)⟩)
  | skip
 refine loopS (fun k st => ∃ i : Nat, k = a.matches_.length - i ∧ i ≤ a.matches_.length ∧ a.matches_.take i = b.matches_.take i ∧ st = ⟨[(2, .ptr 2 0), (3, .ptr 3 0), (5, int i)], [(2, [.pd (.slice (rows AMatch.pd a.matches_)), .pd (.slice (rows AFilter.pd a.filters)), .pd (.slice (rows ABackend.pd a.backends))]), (3, [.pd (.slice (rows AMatch.pd b.matches_)), .pd (.slice (rows AFilter.pd b.filters)), .pd (.slice (rows ABackend.pd b.backends))])], [], .no⟩) a.matches_.length _ ?_ ⟨0, rfl, by omega, rfl, rfl⟩ ?_
 ·exact lessA
 rintro k st ⟨i, rfl, hi, hT, rfl⟩
 have hw := i64_succ (show i < 1000000000 by omega)
 by_cases hlt : i < a.matches_.length
 ·obtain ⟨x, hx⟩ := at_lt hlt
  obtain ⟨y, hy⟩ := at_lt (show i < b.matches_.length by omega)
  have h1 : ((i : Int) < (a.matches_.length : Int)) = True := eq_true (by omega)
  simp only [go_sem, contS_seq, simprocAttr, rows_len, rows_get hx, rows_get hy, h1, hw]
  ·repeat' (first | refine GifP.mk (fun _ => ?_) (fun _ => ?_) | refine Gif.mk (fun _ => ?_) (fun _ => ?_) | (refine (ref6_Same x y (h4 x (List.mem_of_getElem? hx)).1 (h4 x (List.mem_of_getElem? hx)).2).callX (enters_of Tryz.func117 rfl rfl) _ rfl rfl ?_; rintro _ rfl; simp only [go_sem, contS_seq, simprocAttr, rows_len, rows_get hx, rows_get hy, hw]) | refine And.intro ?_ ?_)
   all_goals first
    | (refine ⟨a.matches_.length - (i + 1), _, by omega, ?_, i + 1, rfl, by omega, take_step hT hx hy (by first | assumption | (cases x; cases y; simp_all)), rfl⟩; exact lessA)
    | (simp only [retK, resD, retL, oneD, simprocAttr, Tryz.results75]; exact ⟨_, rfl, rfl, res_no (fun e => by subst e; have hxy := Option.some.inj (hx.symm.trans hy); subst hxy; first | contradiction | simp_all)⟩)
 have h1 : ((i : Int) < (a.matches_.length : Int)) = False := eq_false (by omega)
 have hM := take_end hT (by omega) hlt
 clear hT hi hw
 simp only [go_sem, contS_seq, simprocAttr, rows_len, h1]
 clear h1 hlt i
 refine loopS (fun k st => ∃ i : Nat, k = a.filters.length - i ∧ i ≤ a.filters.length ∧ a.filters.take i = b.filters.take i ∧ st = ⟨[(2, .ptr 2 0), (3, .ptr 3 0), (6, int i)], [(2, [.pd (.slice (rows AMatch.pd a.matches_)), .pd (.slice (rows AFilter.pd a.filters)), .pd (.slice (rows ABackend.pd a.backends))]), (3, [.pd (.slice (rows AMatch.pd b.matches_)), .pd (.slice (rows AFilter.pd b.filters)), .pd (.slice (rows ABackend.pd b.backends))])], [], .no⟩) a.filters.length _ ?_ ⟨0, rfl, by omega, rfl, rfl⟩ ?_
 ·exact lessA
 rintro k st ⟨i, rfl, hi, hT, rfl⟩
 have hw := i64_succ (show i < 1000000000 by omega)
 by_cases hlt : i < a.filters.length
 ·obtain ⟨x, hx⟩ := at_lt hlt
  obtain ⟨y, hy⟩ := at_lt (show i < b.filters.length by omega)
  have h1 : ((i : Int) < (a.filters.length : Int)) = True := eq_true (by omega)
  simp only [go_sem, contS_seq, simprocAttr, rows_len, rows_get hx, rows_get hy, h1, hw, eqVs, eqV, eq_Filter]
  ·repeat' (first | refine GifP.mk (fun _ => ?_) (fun _ => ?_) | refine Gif.mk (fun _ => ?_) (fun _ => ?_) | refine And.intro ?_ ?_)
   all_goals first
    | (refine ⟨a.filters.length - (i + 1), _, by omega, ?_, i + 1, rfl, by omega, take_step hT hx hy (by first | assumption | (cases x; cases y; simp_all)), rfl⟩; exact lessA)
    | (simp only [retK, resD, retL, oneD, simprocAttr, Tryz.results75]; exact ⟨_, rfl, rfl, res_no (fun e => by subst e; have hxy := Option.some.inj (hx.symm.trans hy); subst hxy; first | contradiction | simp_all)⟩)
 have h1 : ((i : Int) < (a.filters.length : Int)) = False := eq_false (by omega)
 have hF := take_end hT (by omega) hlt
 clear hT hi hw
 simp only [go_sem, contS_seq, simprocAttr, rows_len, h1]
 clear h1 hlt i
 refine loopS (fun k st => ∃ i : Nat, k = a.backends.length - i ∧ i ≤ a.backends.length ∧ a.backends.take i = b.backends.take i ∧ st = ⟨[(2, .ptr 2 0), (3, .ptr 3 0), (7, int i)], [(2, [.pd (.slice (rows AMatch.pd a.matches_)), .pd (.slice (rows AFilter.pd a.filters)), .pd (.slice (rows ABackend.pd a.backends))]), (3, [.pd (.slice (rows AMatch.pd b.matches_)), .pd (.slice (rows AFilter.pd b.filters)), .pd (.slice (rows ABackend.pd b.backends))])], [], .no⟩) a.backends.length _ ?_ ⟨0, rfl, by omega, rfl, rfl⟩ ?_
 ·exact lessA
 rintro k st ⟨i, rfl, hi, hT, rfl⟩
 have hw := i64_succ (show i < 1000000000 by omega)
 by_cases hlt : i < a.backends.length
 ·obtain ⟨x, hx⟩ := at_lt hlt
  obtain ⟨y, hy⟩ := at_lt (show i < b.backends.length by omega)
  have h1 : ((i : Int) < (a.backends.length : Int)) = True := eq_true (by omega)
  simp only [go_sem, contS_seq, simprocAttr, rows_len, rows_get hx, rows_get hy, h1, hw, eqVs, eqV, eq_Backend]
  ·repeat' (first | refine GifP.mk (fun _ => ?_) (fun _ => ?_) | refine Gif.mk (fun _ => ?_) (fun _ => ?_) | refine And.intro ?_ ?_)
   all_goals first
    | (refine ⟨a.backends.length - (i + 1), _, by omega, ?_, i + 1, rfl, by omega, take_step hT hx hy (by first | assumption | (cases x; cases y; simp_all)), rfl⟩; exact lessA)
    | (simp only [retK, resD, retL, oneD, simprocAttr, Tryz.results75]; exact ⟨_, rfl, rfl, res_no (fun e => by subst e; have hxy := Option.some.inj (hx.symm.trans hy); subst hxy; first | contradiction | simp_all)⟩)
 have h1 : ((i : Int) < (a.backends.length : Int)) = False := eq_false (by omega)
 have hB := take_end hT (by omega) hlt
 clear hT hi hw
 simp only [go_sem, contS_seq, simprocAttr, rows_len, h1]
 clear h1 hlt i
 simp only [retK, resD, retL, oneD, simprocAttr, Tryz.results75]
 exact ⟨_, rfl, rfl, res_yes (by cases a; cases b; simp_all)⟩

set_option maxHeartbeats 8000000 in
theorem ref9_Same (a b : AObj) (ha : a.ok) : Pure Tryz.prog 35 [a.d, b.d] (fun d => d = bln (decide (a = b))) := by
 have hla := ha.la
 have hpo := ha.po
 have hli := ha.li
 have hpa := ha.pa
 have hho := ha.ho
 have hru := ha.ru
 have hfr := ha.fr
 have hto := ha.to
 refine pure_of_run follows an_zwcd Tryz.func35 rfl ok_zwcd.1 ok_zwcd.2 (by simp [Tryz.ntmps35]) ?_
 rw [run_start]
 simp only [ac_zwcd, go_sem, contS_seq, simprocAttr, rows_len, eqVs, eqV, eq_Ref]
 repeat' (first | refine GifP.mk (fun _ => ?_) (fun _ => ?_) | refine Gif.mk (fun _ => ?_) (fun _ => ?_) | (refine (ref4_Same a.labels b.labels hla).callW (enters_of Tryz.func72 rfl rfl) _ rfl rfl ?_; rintro _ rfl; simp only [go_sem, contS_seq, simprocAttr, rows_len]) | (refine (ref1_Same a.hosts b.hosts hho).callW (enters_of Tryz.func73 rfl rfl) _ rfl rfl ?_; rintro _ rfl; simp only [go_sem, contS_seq, simprocAttr, rows_len]))
 all_goals first
  | (simp only [retK, resD, retL, oneD, simprocAttr, Tryz.results35]; exact ⟨_, rfl, rfl, res_no (fun e => by subst e; first | contradiction | simp_all)⟩)
  | skip
 refine loopS (fun k st => ∃ i : Nat, k = a.ports.length - i ∧ i ≤ a.ports.length ∧ a.ports.take i = b.ports.take i ∧ st = ⟨[(2, .ptr 2 0), (3, .ptr 3 0), (5, int i)], [(2, a.ds), (3, b.ds)], [], .no⟩) a.ports.length _ ?_ ⟨0, rfl, by omega, rfl, rfl⟩ ?_
 ·exact lessA
 rintro k st ⟨i, rfl, hi, hT, rfl⟩
 have hw := i64_succ (show i < 1000000000 by omega)
 by_cases hlt : i < a.ports.length
 ·obtain ⟨x, hx⟩ := at_lt hlt
  obtain ⟨y, hy⟩ := at_lt (show i < b.ports.length by omega)
  have h1 : ((i : Int) < (a.ports.length : Int)) = True := eq_true (by omega)
  simp only [go_sem, contS_seq, simprocAttr, rows_len, rows_get hx, rows_get hy, h1, hw]
  ·repeat' (first | refine GifP.mk (fun _ => ?_) (fun _ => ?_) | refine Gif.mk (fun _ => ?_) (fun _ => ?_) | refine And.intro ?_ ?_)
   all_goals first
    | (refine ⟨a.ports.length - (i + 1), _, by omega, ?_, i + 1, rfl, by omega, take_step hT hx hy (by first | assumption | (cases x; cases y; simp_all)), rfl⟩; exact lessA)
    | (simp only [retK, resD, retL, oneD, simprocAttr, Tryz.results35]; exact ⟨_, rfl, rfl, res_no (fun e => by subst e; have hxy := Option.some.inj (hx.symm.trans hy); subst hxy; first | contradiction | simp_all)⟩)
 have h1 : ((i : Int) < (a.ports.length : Int)) = False := eq_false (by omega)
 have hE1 := take_end hT (by omega) hlt
 clear hT hi hw
 simp only [go_sem, contS_seq, simprocAttr, rows_len, h1]
 clear h1 hlt i
 refine loopS (fun k st => ∃ i : Nat, k = a.listeners.length - i ∧ i ≤ a.listeners.length ∧ a.listeners.take i = b.listeners.take i ∧ st = ⟨[(2, .ptr 2 0), (3, .ptr 3 0), (6, int i)], [(2, a.ds), (3, b.ds)], [], .no⟩) a.listeners.length _ ?_ ⟨0, rfl, by omega, rfl, rfl⟩ ?_
 ·exact lessA
 rintro k st ⟨i, rfl, hi, hT, rfl⟩
 have hw := i64_succ (show i < 1000000000 by omega)
 by_cases hlt : i < a.listeners.length
 ·obtain ⟨x, hx⟩ := at_lt hlt
  obtain ⟨y, hy⟩ := at_lt (show i < b.listeners.length by omega)
  have h1 : ((i : Int) < (a.listeners.length : Int)) = True := eq_true (by omega)
  simp only [go_sem, contS_seq, simprocAttr, rows_len, rows_get hx, rows_get hy, h1, hw, eqVs, eqV, eq_Ref]
  ·repeat' (first | refine GifP.mk (fun _ => ?_) (fun _ => ?_) | refine Gif.mk (fun _ => ?_) (fun _ => ?_) | (refine (ref8_Same x.needs y.needs (ha.lis x (List.mem_of_getElem? hx)).nl (fun n hn => ((ha.lis x (List.mem_of_getElem? hx)).n n hn))).callW (enters_of Tryz.func74 rfl rfl) _ rfl rfl ?_; rintro _ rfl; simp only [go_sem, contS_seq, simprocAttr, rows_len, rows_get hx, rows_get hy, hw, eqVs, eqV, eq_Ref]) | refine And.intro ?_ ?_)
   all_goals first
    | (refine ⟨a.listeners.length - (i + 1), _, by omega, ?_, i + 1, rfl, by omega, take_step hT hx hy (by first | assumption | (cases x; cases y; simp_all)), rfl⟩; exact lessA)
    | (simp only [retK, resD, retL, oneD, simprocAttr, Tryz.results35]; exact ⟨_, rfl, rfl, res_no (fun e => by subst e; have hxy := Option.some.inj (hx.symm.trans hy); subst hxy; first | contradiction | simp_all)⟩)
 have h1 : ((i : Int) < (a.listeners.length : Int)) = False := eq_false (by omega)
 have hE2 := take_end hT (by omega) hlt
 clear hT hi hw
 simp only [go_sem, contS_seq, simprocAttr, rows_len, h1]
 clear h1 hlt i
 refine loopS (fun k st => ∃ i : Nat, k = a.parents.length - i ∧ i ≤ a.parents.length ∧ a.parents.take i = b.parents.take i ∧ st = ⟨[(2, .ptr 2 0), (3, .ptr 3 0), (9, int i)], [(2, a.ds), (3, b.ds)], [], .no⟩) a.parents.length _ ?_ ⟨0, rfl, by omega, rfl, rfl⟩ ?_
 ·exact lessA
 rintro k st ⟨i, rfl, hi, hT, rfl⟩
 have hw := i64_succ (show i < 1000000000 by omega)
 by_cases hlt : i < a.parents.length
 ·obtain ⟨x, hx⟩ := at_lt hlt
  obtain ⟨y, hy⟩ := at_lt (show i < b.parents.length by omega)
  have h1 : ((i : Int) < (a.parents.length : Int)) = True := eq_true (by omega)
  simp only [go_sem, contS_seq, simprocAttr, rows_len, rows_get hx, rows_get hy, h1, hw, eqVs, eqV, eq_Parent]
  ·repeat' (first | refine GifP.mk (fun _ => ?_) (fun _ => ?_) | refine Gif.mk (fun _ => ?_) (fun _ => ?_) | refine And.intro ?_ ?_)
   all_goals first
    | (refine ⟨a.parents.length - (i + 1), _, by omega, ?_, i + 1, rfl, by omega, take_step hT hx hy (by first | assumption | (cases x; cases y; simp_all)), rfl⟩; exact lessA)
    | (simp only [retK, resD, retL, oneD, simprocAttr, Tryz.results35]; exact ⟨_, rfl, rfl, res_no (fun e => by subst e; have hxy := Option.some.inj (hx.symm.trans hy); subst hxy; first | contradiction | simp_all)⟩)
 have h1 : ((i : Int) < (a.parents.length : Int)) = False := eq_false (by omega)
 have hE3 := take_end hT (by omega) hlt
 clear hT hi hw
 simp only [go_sem, contS_seq, simprocAttr, rows_len, h1]
 clear h1 hlt i
 refine loopS (fun k st => ∃ i : Nat, k = a.from_.length - i ∧ i ≤ a.from_.length ∧ a.from_.take i = b.from_.take i ∧ st = ⟨[(2, .ptr 2 0), (3, .ptr 3 0), (10, int i)], [(2, a.ds), (3, b.ds)], [], .no⟩) a.from_.length _ ?_ ⟨0, rfl, by omega, rfl, rfl⟩ ?_
 ·exact lessA
 rintro k st ⟨i, rfl, hi, hT, rfl⟩
 have hw := i64_succ (show i < 1000000000 by omega)
 by_cases hlt : i < a.from_.length
 ·obtain ⟨x, hx⟩ := at_lt hlt
  obtain ⟨y, hy⟩ := at_lt (show i < b.from_.length by omega)
  have h1 : ((i : Int) < (a.from_.length : Int)) = True := eq_true (by omega)
  simp only [go_sem, contS_seq, simprocAttr, rows_len, rows_get hx, rows_get hy, h1, hw, eqVs, eqV, eq_Side]
  ·repeat' (first | refine GifP.mk (fun _ => ?_) (fun _ => ?_) | refine Gif.mk (fun _ => ?_) (fun _ => ?_) | refine And.intro ?_ ?_)
   all_goals first
    | (refine ⟨a.from_.length - (i + 1), _, by omega, ?_, i + 1, rfl, by omega, take_step hT hx hy (by first | assumption | (cases x; cases y; simp_all)), rfl⟩; exact lessA)
    | (simp only [retK, resD, retL, oneD, simprocAttr, Tryz.results35]; exact ⟨_, rfl, rfl, res_no (fun e => by subst e; have hxy := Option.some.inj (hx.symm.trans hy); subst hxy; first | contradiction | simp_all)⟩)
 have h1 : ((i : Int) < (a.from_.length : Int)) = False := eq_false (by omega)
 have hE4 := take_end hT (by omega) hlt
 clear hT hi hw
 simp only [go_sem, contS_seq, simprocAttr, rows_len, h1]
 clear h1 hlt i
 refine loopS (fun k st => ∃ i : Nat, k = a.to_.length - i ∧ i ≤ a.to_.length ∧ a.to_.take i = b.to_.take i ∧ st = ⟨[(2, .ptr 2 0), (3, .ptr 3 0), (11, int i)], [(2, a.ds), (3, b.ds)], [], .no⟩) a.to_.length _ ?_ ⟨0, rfl, by omega, rfl, rfl⟩ ?_
 ·exact lessA
 rintro k st ⟨i, rfl, hi, hT, rfl⟩
 have hw := i64_succ (show i < 1000000000 by omega)
 by_cases hlt : i < a.to_.length
 ·obtain ⟨x, hx⟩ := at_lt hlt
  obtain ⟨y, hy⟩ := at_lt (show i < b.to_.length by omega)
  have h1 : ((i : Int) < (a.to_.length : Int)) = True := eq_true (by omega)
  simp only [go_sem, contS_seq, simprocAttr, rows_len, rows_get hx, rows_get hy, h1, hw, eqVs, eqV, eq_Side]
  ·repeat' (first | refine GifP.mk (fun _ => ?_) (fun _ => ?_) | refine Gif.mk (fun _ => ?_) (fun _ => ?_) | refine And.intro ?_ ?_)
   all_goals first
    | (refine ⟨a.to_.length - (i + 1), _, by omega, ?_, i + 1, rfl, by omega, take_step hT hx hy (by first | assumption | (cases x; cases y; simp_all)), rfl⟩; exact lessA)
    | (simp only [retK, resD, retL, oneD, simprocAttr, Tryz.results35]; exact ⟨_, rfl, rfl, res_no (fun e => by subst e; have hxy := Option.some.inj (hx.symm.trans hy); subst hxy; first | contradiction | simp_all)⟩)
 have h1 : ((i : Int) < (a.to_.length : Int)) = False := eq_false (by omega)
 have hE5 := take_end hT (by omega) hlt
 clear hT hi hw
 simp only [go_sem, contS_seq, simprocAttr, rows_len, h1]
 clear h1 hlt i
 refine loopS (fun k st => ∃ i : Nat, k = a.rules.length - i ∧ i ≤ a.rules.length ∧ a.rules.take i = b.rules.take i ∧ st = ⟨[(2, .ptr 2 0), (3, .ptr 3 0), (12, int i)], [(2, a.ds), (3, b.ds)], [], .no⟩) a.rules.length _ ?_ ⟨0, rfl, by omega, rfl, rfl⟩ ?_
 ·exact lessA
 rintro k st ⟨i, rfl, hi, hT, rfl⟩
 have hw := i64_succ (show i < 1000000000 by omega)
 by_cases hlt : i < a.rules.length
 ·obtain ⟨x, hx⟩ := at_lt hlt
  obtain ⟨y, hy⟩ := at_lt (show i < b.rules.length by omega)
  have h1 : ((i : Int) < (a.rules.length : Int)) = True := eq_true (by omega)
  simp only [go_sem, contS_seq, simprocAttr, rows_len, rows_get hx, rows_get hy, h1, hw]
  ·repeat' (first | refine GifP.mk (fun _ => ?_) (fun _ => ?_) | refine Gif.mk (fun _ => ?_) (fun _ => ?_) | (refine (ref9_SameRule x y (ha.rus x (List.mem_of_getElem? hx)).ml (ha.rus x (List.mem_of_getElem? hx)).fl (ha.rus x (List.mem_of_getElem? hx)).bl (fun m hm => ⟨((ha.rus x (List.mem_of_getElem? hx)).m m hm).hl, ((ha.rus x (List.mem_of_getElem? hx)).m m hm).ql⟩)).callX (enters_of Tryz.func75 rfl rfl) _ rfl rfl ?_; rintro _ rfl; simp only [go_sem, contS_seq, simprocAttr, rows_len, rows_get hx, rows_get hy, hw]) | refine And.intro ?_ ?_)
   all_goals first
    | (refine ⟨a.rules.length - (i + 1), _, by omega, ?_, i + 1, rfl, by omega, take_step hT hx hy (by first | assumption | (cases x; cases y; simp_all)), rfl⟩; exact lessA)
    | (simp only [retK, resD, retL, oneD, simprocAttr, Tryz.results35]; exact ⟨_, rfl, rfl, res_no (fun e => by subst e; have hxy := Option.some.inj (hx.symm.trans hy); subst hxy; first | contradiction | simp_all)⟩)
 have h1 : ((i : Int) < (a.rules.length : Int)) = False := eq_false (by omega)
 have hE6 := take_end hT (by omega) hlt
 clear hT hi hw
 simp only [go_sem, contS_seq, simprocAttr, rows_len, h1]
 clear h1 hlt i
 simp only [retK, resD, retL, oneD, simprocAttr, Tryz.results35]
 exact ⟨_, rfl, rfl, res_yes (by cases a; cases b; simp_all)⟩

end Go.Proofs.YtjgpdjakehoofaaGreatDoor


