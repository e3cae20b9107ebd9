/- Texts of the prover's, joined: O1. -/
import Derived.Test.YtcnhcamimcpinaaGreatDoorVG6

namespace Go.Proofs.YtcnhcamimcpinaaGreatDoor
open Go Go.RowKit
set_option linter.unusedSimpArgs false
set_option linter.unusedVariables false
set_option maxRecDepth 100000

def isR (o : AObj) : Bool := decide (o.ref.kind = 6)
def notR (o : AObj) : Bool := !decide (o.ref.kind = 6)

theorem fewObj_pa (o : AObj) : (fewObj o).parents.length ≤ 1000 := by
 simp only [fewObj, List.length_map, List.length_take]
 omega

theorem fewObjs_pa {l : List AObj} : ∀ o ∈ fewObjs l, o.parents.length ≤ 1000 := fun o ho => by
 obtain ⟨x, _, rfl⟩ := List.mem_map.1 ho
 exact fewObj_pa x

set_option maxHeartbeats 8000000 in
theorem law_AttachSums (l : List AObj) (r : AObj) : Pure Tryz.prog 8 [.pd (.slice (rows AObj.pd l)), r.d] (fun d => d = bln true) := by
 refine pure_of_run follows an_zm3nd Tryz.func8 rfl ok_zm3nd.1 ok_zm3nd.2 (by simp [Tryz.ntmps8]) ?_
 rw [run_start]
 simp only [ac_zm3nd, go_sem, contS_seq, simprocAttr]
 refine (law11_Some l).callX (enters_of Tryz.func9 rfl rfl) _ rfl rfl ?_
 rintro _ rfl
 simp only [go_sem, contS_seq, simprocAttr]
 refine (law9_Few r).callX (enters_of Tryz.func10 rfl rfl) _ rfl rfl ?_
 rintro _ rfl
 have hos : (fewObjs l).length ≤ 1000 := Nat.le_trans (fewObjs_len l) (by omega)
 have ho := fewObjs_ok (l := l)
 have hp := fewObjs_pa (l := l)
 have hr := fewObj_ok r
 have hrp := fewObj_pa r
 generalize fewObjs l = os at hos ho hp ⊢
 generalize fewObj r = r at hr hrp ⊢
 by_cases h6 : r.ref.kind = 6
 case neg =>
  have h6' := eq_false h6
  simp only [go_sem, contS_seq, simprocAttr, h6']
  refine awake13.callW (enters_of Tryz.func16 rfl rfl) _ rfl rfl ?_
  rintro _ rfl
  simp only [go_sem, contS_seq, simprocAttr]
  simp only [retK, resD, retL, oneD, simprocAttr, Tryz.results8]
  exact ⟨_, rfl, rfl, rfl⟩
 have h6' := eq_true h6
 simp only [go_sem, contS_seq, simprocAttr, h6']
 refine (attach_All os (by omega) ho r hr hrp).callW (enters_of Tryz.func14 rfl rfl) _ rfl rfl ?_
 rintro _ rfl
 simp only [go_sem, contS_seq, simprocAttr, rows_len]
 have e1 : (∀ q ∈ rows AObj.pd os, q.length = 13) = True := eq_true (rows_row (f := AObj.pd) (n := 13) (fun _ => rfl) _)
 have e2 : (os.length ≤ maxLen) = True := eq_true (by unfold maxLen; omega)
 have e3 : (os.length * 256 ≤ 140737488355328) = True := eq_true (by omega)
 have e5 : (os.length + 1 ≤ maxLen) = True := eq_true (by unfold maxLen; omega)
 have e6 : ((os.length + 1) * 256 ≤ 140737488355328) = True := eq_true (by omega)
 simp only [e1, e2, e3, e5, e6, List.mem_singleton, forall_eq, List.length_cons, List.length_nil, Nat.reduceAdd, true_and, and_self]
 have hwl : (os ++ [r]).length = os.length + 1 := by simp
 have hwo : ∀ o ∈ os ++ [r], o.ok := fun o h => by rcases List.mem_append.1 h with h | h; exact ho o h; rw [List.mem_singleton.1 h]; exact hr
 have hwp : ∀ o ∈ os ++ [r], o.parents.length ≤ 1000 := fun o h => by rcases List.mem_append.1 h with h | h; exact hp o h; rw [List.mem_singleton.1 h]; exact hrp
 have hbl : (os.filter notR).length ≤ 1000 := Nat.le_trans (List.length_filter_le _ _) hos
 have hbo : ∀ o ∈ os.filter notR, o.ok := fun o h => ho o (List.mem_filter.1 h).1
 have hbp : ∀ o ∈ os.filter notR, o.parents.length ≤ 1000 := fun o h => hp o (List.mem_filter.1 h).1
 have hbn : ∀ o ∈ os.filter notR, o.ref.kind ≠ 6 := fun o h => by have := (List.mem_filter.1 h).2; simpa [notR] using this
 have hsl := attAll_len os r hrp
 have c1 := attach_Count os (by omega) ho hp
 have c2 := attach_Count (os ++ [r]) (by omega) hwo hwp
 have c3 := attach_Count (os.filter notR) (by omega) hbo hbp
 have p1 := fun s (hs : s ∈ attAll labelsAll os r) => count_more labelsAll h6 hs
 have p2 := fun (g : ARef) (n : ByteArray) => count_routes labelsAll os g n
 have p3 := fun (g : ARef) (n : ByteArray) => count_bare labelsAll hbn g n
 have hro : (os.countP fun o => decide (o.ref.kind = 6)) = os.countP isR := rfl
 simp only [hro] at p2
 have hrow : rows AObj.pd os ++ [AObj.pd r] = rows AObj.pd (os ++ [r]) := rows_one _ _
 generalize attAll labelsAll os r = spots at hsl p1 ⊢
 generalize os ++ [r] = ws at hwl c2 p1 hrow ⊢
 refine loopS (fun k st => ∃ i : Nat, k = os.length - i ∧ i ≤ os.length ∧
  st = ⟨[(0, .pd (.slice (rows AObj.pd os))), (5, .pd (.slice (rows ASpot.pd spots))), (6, .own 33 13 (rows AObj.pd ws) 31), (7, .own 33 13 (rows AObj.pd ((os.take i).filter notR)) 53), (8, int ((os.take i).countP isR)), (9, int i)], [], [], .no⟩) os.length _ ?_ ⟨0, rfl, by omega, rfl⟩ ?_
 ·rw [← hrow]
  exact Weak.own1 7 53 33 13 (by kernel_rfl) (by decide) rfl (by simp [lessL, lk, St.purge, St.put, D.purge, rows]) (by simp [lessL, lk, St.purge, D.purges, D.purge]) (by simp [lessL]) rfl
 rintro k st ⟨i, rfl, hi, rfl⟩
 have hw := i64_succ (show i < 1000000000 by omega)
 by_cases hlt : i < os.length
 ·obtain ⟨x, hx⟩ := at_lt hlt
  have h1 : ((i : Int) < (os.length : Int)) = True := eq_true (by omega)
  have f1 := filter_step (p := notR) hx
  have f2 := countP_take (p := isR) hx
  have l1 : ((os.take i).filter notR).length ≤ i := Nat.le_trans (List.length_filter_le _ _) (by simp; omega)
  have l2 : (os.take i).countP isR ≤ i := Nat.le_trans (List.countP_le_length) (by simp; omega)
  by_cases k6 : x.ref.kind = 6
  ·have q6 := eq_true k6
   rw [if_neg (by simp [notR, k6]), List.append_nil] at f1
   rw [if_pos (by simp [isR, k6])] at f2
   have hw2 := i64_succ (show (os.take i).countP isR < 1000000000 by omega)
   simp only [go_sem, contS_seq, simprocAttr, rows_len, rows_get hx, h1, q6, hw, hw2]
   rw [← f1, ← f2]
   refine ⟨os.length - (i + 1), _, by omega, ?_, i + 1, rfl, by omega, rfl⟩
   exact lessA
  ·have q6 := eq_false k6
   rw [if_pos (by simp [notR, k6])] at f1
   rw [if_neg (by simp [isR, k6])] at f2
   replace f2 : (os.take (i + 1)).countP isR = (os.take i).countP isR := f2
   simp only [go_sem, contS_seq, simprocAttr, rows_len, rows_get hx, h1, q6, hw]
   rw [rows_one _ x, ← f1, ← f2]
   refine ⟨by simp, by unfold maxLen; omega, by omega, os.length - (i + 1), _, by omega, ?_, i + 1, rfl, by omega, rfl⟩
   exact lessA
 have h1 : ((i : Int) < (os.length : Int)) = False := eq_false (by omega)
 rw [List.take_of_length_le (by omega)]
 clear hw hi hlt
 simp only [go_sem, contS_seq, simprocAttr, rows_len, h1]
 clear h1 i
 refine loopS (fun k st => ∃ i : Nat, k = spots.length - i ∧ i ≤ spots.length ∧
  st = ⟨[(0, .pd (.slice (rows AObj.pd os))), (5, .pd (.slice (rows ASpot.pd spots))), (6, .pd (.slice (rows AObj.pd ws))), (7, .pd (.slice (rows AObj.pd (os.filter notR)))), (8, int (os.countP isR)), (10, int i)], [], [], .no⟩) spots.length _ ?_ ⟨0, rfl, by omega, rfl⟩ ?_
 ·refine Weak.trans (s2 := ⟨[(0, .pd (.slice (rows AObj.pd os))), (5, .pd (.slice (rows ASpot.pd spots))), (6, .pd (.slice (rows AObj.pd ws))), (7, .own 33 13 (rows AObj.pd (os.filter notR)) 53), (8, int (os.countP isR)), (10, int (0 : Nat))], [], [], .no⟩) ?_ ?_
  ·exact Weak.purge 31 (by simp [lessL, lk, St.purge, D.purge]) (by simp [lessL]) (by simp [lessL]) rfl
  ·exact Weak.purge 53 (by simp [lessL, lk, St.purge, D.purge]) (by simp [lessL]) (by simp [lessL]) rfl
 rintro k st ⟨i, rfl, hi, rfl⟩
 have hw := i64_succ (show i < 1000000000 by omega)
 by_cases hlt : i < spots.length
 ·obtain ⟨s, hs⟩ := at_lt hlt
  have h1 : ((i : Int) < (spots.length : Int)) = True := eq_true (by omega)
  have hcl := List.countP_le_length (p := isR) (l := os)
  have b1 := p2 s.gateway s.listener
  have d1 := c1 s.gateway s.listener
  have d2 := c2 s.gateway s.listener
  have d3 := c3 s.gateway s.listener
  rw [p3] at d3
  rw [p1 s (List.mem_of_getElem? hs)] at d2
  generalize attCount labelsAll os s.gateway s.listener = n at b1 d1 d2
  have hwn := i64_succ (show n < 1000000000 by omega)
  have t1 : ((n : Int) < 0) = False := eq_false (by omega)
  have t2 : (((os.countP isR : Nat) : Int) < (n : Int)) = False := eq_false (by omega)
  simp only [go_sem, contS_seq, simprocAttr, rows_len, rows_get hs, h1]
  refine d1.callW (enters_of Tryz.func22 rfl rfl) _ rfl rfl ?_
  rintro _ rfl
  simp only [go_sem, contS_seq, simprocAttr, t1, t2]
  refine d2.callW (enters_of Tryz.func22 rfl rfl) _ rfl rfl ?_
  rintro _ rfl
  simp only [go_sem, contS_seq, simprocAttr, hwn]
  refine d3.callW (enters_of Tryz.func22 rfl rfl) _ rfl rfl ?_
  rintro _ rfl
  simp only [go_sem, contS_seq, simprocAttr, hw]
  refine ⟨spots.length - (i + 1), _, by omega, ?_, i + 1, rfl, by omega, rfl⟩
  exact lessA
 ·have h1 : ((i : Int) < (spots.length : Int)) = False := eq_false (by omega)
  simp only [go_sem, contS_seq, simprocAttr, rows_len, h1]
  refine awake13.callW (enters_of Tryz.func16 rfl rfl) _ rfl rfl ?_
  rintro _ rfl
  simp only [go_sem, contS_seq, simprocAttr]
  simp only [retK, resD, retL, oneD, simprocAttr, Tryz.results8]
  exact ⟨_, rfl, rfl, rfl⟩

end Go.Proofs.YtcnhcamimcpinaaGreatDoor


