/- Texts of the prover's, joined: QG. -/
import Derived.Test.YtbjaopoipkphnaaGreatDoorWQ6

namespace Go.Proofs.YtbjaopoipkphnaaGreatDoor
open Go Go.RowKit
set_option linter.unusedSimpArgs false
set_option linter.unusedVariables false
set_option maxRecDepth 100000

theorem beq_tt9 (b : Bool) : (b == b) = true := by cases b <;> rfl
theorem okl_rules {o : AObj} (h : o.ok) (k : Nat) : ({ o with rules := cutAt o.rules k } : AObj).ok :=
 ⟨h.la, h.po, h.li, h.pa, h.ho, Nat.le_trans (cutAt_sub _ _).length_le h.ru, h.fr, h.to, h.lis, fun x hx => h.rus x ((cutAt_sub _ _).subset hx)⟩
theorem okl_listeners {o : AObj} (h : o.ok) (k : Nat) : ({ o with listeners := cutAt o.listeners k } : AObj).ok :=
 ⟨h.la, h.po, Nat.le_trans (cutAt_sub _ _).length_le h.li, h.pa, h.ho, h.ru, h.fr, h.to, fun x hx => h.lis x ((cutAt_sub _ _).subset hx), h.rus⟩
theorem okl_ports {o : AObj} (h : o.ok) (k : Nat) : ({ o with ports := cutAt o.ports k } : AObj).ok :=
 ⟨h.la, Nat.le_trans (cutAt_sub _ _).length_le h.po, h.li, h.pa, h.ho, h.ru, h.fr, h.to, h.lis, h.rus⟩
theorem okl_cls {o : AObj} (h : o.ok) (s : ByteArray) : ({ o with cls := s } : AObj).ok := ⟨h.la, h.po, h.li, h.pa, h.ho, h.ru, h.fr, h.to, h.lis, h.rus⟩
theorem okl_hosts {o : AObj} (h : o.ok) (s : ByteArray) : ({ o with hosts := [s] } : AObj).ok := ⟨h.la, h.po, h.li, h.pa, by simp, h.ru, h.fr, h.to, h.lis, h.rus⟩

theorem rows_cut {α : Type} {f : α → List PD} (l : List α) (k : Nat) : (rows f l).take k ++ (rows f l).drop (k + 1) = rows f (cutAt l k) := by
 unfold rows cutAt
 rw [List.map_append, List.map_take, List.map_drop]

theorem len_rt {α : Type} {f : α → List PD} {n : Nat} (hf : ∀ x, (f x).length = n) (l : List α) (k : Nat) : ∀ r : List PD, r ∈ (rows f l).take k → r.length = n := fun r hr => by
 obtain ⟨x, _, rfl⟩ := List.mem_map.1 (List.mem_of_mem_take hr)
 exact hf x
theorem len_rd {α : Type} {f : α → List PD} {n : Nat} (hf : ∀ x, (f x).length = n) (l : List α) (k : Nat) : ∀ r : List PD, r ∈ (rows f l).drop k → r.length = n := fun r hr => by
 obtain ⟨x, _, rfl⟩ := List.mem_map.1 (List.mem_of_mem_drop hr)
 exact hf x
theorem len_ct {α : Type} {f : α → List PD} (l : List α) (k m : Nat) (h : l.length ≤ 1000) : ((rows f l).take k).length ≤ 1000 ∧ ((rows f l).drop m).length ≤ 1000 := by
 rw [List.length_take, List.length_drop, rows_len]
 omega

set_option maxHeartbeats 4000000 in
theorem law_ObjectLess (o : AObj) (t : Int) (ht : 0 ≤ t ∧ t < 256) : Pure Tryz.prog 6 [o.d, .pd (.raw (.int .u8 t))] (fun d => d = bln true) := by
 refine pure_of_run follows an_z7cmy Tryz.func6 rfl ok_z7cmy.1 ok_z7cmy.2 (by simp [Tryz.ntmps6]) ?_
 rw [run_start]
 simp only [ac_z7cmy, go_sem, simprocAttr]
 refine (law9_Few o).callW (enters_of Tryz.func10 rfl rfl) _ rfl rfl ?_
 rintro _ rfl
 have ho := fewObj_ok o
 have hs := fewObj_sok o
 have hf := fewObj_few o
 generalize fewObj o = o at ho hs hf ⊢
 simp only [go_sem, simprocAttr]
 refine (object_May o ho).callW (enters_of Tryz.func11 rfl rfl) _ rfl rfl ?_
 rintro _ rfl
 cases hm : objMay o
 ·simp only [go_sem, simprocAttr]
  refine (object_Refs o ho hf).callW (enters_of Tryz.func17 rfl rfl) _ rfl rfl ?_
  rintro _ rfl
  rw [refsOf_no hm]
  simp only [go_sem, simprocAttr]
  refine awake9.callW (enters_of Tryz.func15 rfl rfl) _ rfl rfl ?_
  rintro _ rfl
  simp only [go_sem, simprocAttr]
  simp only [retK, resD, retL, oneD, simprocAttr, Tryz.results6]
  exact ⟨_, rfl, rfl, rfl⟩
 have hw0 : IntKind.i64.wrap t = t := IntWalk.i64_in _ (by omega)
 have hl1 := hf.li
 have hl3 := hf.ru
 obtain ⟨tn, rfl⟩ : ∃ tn : Nat, t = tn := ⟨t.toNat, by omega⟩
 have hl5 : o.ports.length ≤ 1000 := by
  by_cases h3 : o.ref.kind = 3
  ·have := ((service_pair _).1 ((may_service hm).1 h3)).1; omega
  ·rw [(may_service hm).2 h3]; simp
 by_cases hr : 0 < o.rules.length
 ·skip
  have hr' : ((0 : Int) < (o.rules.length : Int)) = True := eq_true (by omega)
  have hk : (tn : Int).tmod (o.rules.length : Int) = ((tn % o.rules.length : Nat) : Int) := by rw [Int.tmod_eq_emod_of_nonneg (by omega)]; rfl
  have hkl : tn % o.rules.length < o.rules.length := Nat.mod_lt _ (by omega)
  generalize tn % o.rules.length = k at hk hkl
  have w1 : IntKind.i64.wrap (k : Int) = k := IntWalk.i64_in _ (by omega)
  have w2 := i64_succ (show k < 1000000000 by omega)
  have hz : ((o.rules.length : Int) = 0) = False := eq_false (by omega)
  have q1 : (k ≤ o.rules.length) = True := eq_true (by omega)
  have q2 : (k + 1 ≤ o.rules.length) = True := eq_true (by omega)
  have q3 : rowsOK 3 (rows ARule.pd o.rules) = True := rowsOK_rows (f := ARule.pd) (n := 3) (fun _ => rfl) _
  have q4 : (rows ARule.pd o.rules).take o.rules.length = rows ARule.pd o.rules := List.take_of_length_le (by rw [rows_len]; omega)
  have q5 := rows_cut (f := ARule.pd) o.rules k
  obtain ⟨q6, q7⟩ := len_ct (f := ARule.pd) o.rules k (k + 1) (by omega)
  simp only [go_sem, simprocAttr, hw0, rows_len, hk, w1, w2, hz, q1, q2, q3, q4, ↓q5, hr']
  refine ⟨len_rt (f := ARule.pd) (fun _ => rfl) _ _, by unfold maxLen; omega, by omega, len_rd (f := ARule.pd) (fun _ => rfl) _ _, by unfold maxLen; omega, by omega, ?_⟩
  refine GifP.mk (fun h6 => ?_) (fun h6 => ?_)
  ·refine (object_May { o with rules := cutAt o.rules k } (okl_rules ho k)).callW (enters_of Tryz.func11 rfl rfl) _ rfl rfl ?_
   rintro _ rfl
   rw [less_rules hm k hr]
   simp only [go_sem, simprocAttr, beq_tt9]
   refine (object_May { o with cls := ⟨#[99]⟩ } (okl_cls ho _)).callW (enters_of Tryz.func11 rfl rfl) _ rfl rfl ?_
   rintro _ rfl
   rw [odd_cls h6]
   simp only [go_sem, simprocAttr]
   refine awake9.callW (enters_of Tryz.func15 rfl rfl) _ rfl rfl ?_
   rintro _ rfl
   simp only [go_sem, simprocAttr]
   simp only [retK, resD, retL, oneD, simprocAttr, Tryz.results6]
   exact ⟨_, rfl, rfl, rfl⟩
  ·refine (object_May { o with rules := cutAt o.rules k } (okl_rules ho k)).callW (enters_of Tryz.func11 rfl rfl) _ rfl rfl ?_
   rintro _ rfl
   rw [less_rules hm k hr]
   simp only [go_sem, simprocAttr, beq_tt9]
   refine (object_May { o with hosts := [⟨#[97]⟩] } (okl_hosts ho _)).callW (enters_of Tryz.func11 rfl rfl) _ rfl rfl ?_
   rintro _ rfl
   rw [odd_hosts h6]
   simp only [go_sem, simprocAttr]
   refine awake9.callW (enters_of Tryz.func15 rfl rfl) _ rfl rfl ?_
   rintro _ rfl
   simp only [go_sem, simprocAttr]
   simp only [retK, resD, retL, oneD, simprocAttr, Tryz.results6]
   exact ⟨_, rfl, rfl, rfl⟩
 have hrn : ((0 : Int) < (o.rules.length : Int)) = False := eq_false (by omega)
 by_cases hr : 0 < o.listeners.length
 ·skip
  have hr' : ((0 : Int) < (o.listeners.length : Int)) = True := eq_true (by omega)
  have hk : (tn : Int).tmod (o.listeners.length : Int) = ((tn % o.listeners.length : Nat) : Int) := by rw [Int.tmod_eq_emod_of_nonneg (by omega)]; rfl
  have hkl : tn % o.listeners.length < o.listeners.length := Nat.mod_lt _ (by omega)
  generalize tn % o.listeners.length = k at hk hkl
  have w1 : IntKind.i64.wrap (k : Int) = k := IntWalk.i64_in _ (by omega)
  have w2 := i64_succ (show k < 1000000000 by omega)
  have hz : ((o.listeners.length : Int) = 0) = False := eq_false (by omega)
  have q1 : (k ≤ o.listeners.length) = True := eq_true (by omega)
  have q2 : (k + 1 ≤ o.listeners.length) = True := eq_true (by omega)
  have q3 : rowsOK 9 (rows AListener.pd o.listeners) = True := rowsOK_rows (f := AListener.pd) (n := 9) (fun _ => rfl) _
  have q4 : (rows AListener.pd o.listeners).take o.listeners.length = rows AListener.pd o.listeners := List.take_of_length_le (by rw [rows_len]; omega)
  have q5 := rows_cut (f := AListener.pd) o.listeners k
  obtain ⟨q6, q7⟩ := len_ct (f := AListener.pd) o.listeners k (k + 1) (by omega)
  simp only [go_sem, simprocAttr, hw0, rows_len, hk, w1, w2, hz, q1, q2, q3, q4, ↓q5, hr', hrn]
  refine ⟨len_rt (f := AListener.pd) (fun _ => rfl) _ _, by unfold maxLen; omega, by omega, len_rd (f := AListener.pd) (fun _ => rfl) _ _, by unfold maxLen; omega, by omega, ?_⟩
  refine GifP.mk (fun h6 => ?_) (fun h6 => ?_)
  ·refine (object_May { o with listeners := cutAt o.listeners k } (okl_listeners ho k)).callW (enters_of Tryz.func11 rfl rfl) _ rfl rfl ?_
   rintro _ rfl
   rw [less_listeners hm k hkl, show decide (1 < o.listeners.length) = decide ((1 : Int) < (o.listeners.length : Int)) from decide_eq_decide.2 (by omega)]
   simp only [go_sem, simprocAttr, beq_tt9]
   refine (object_May { o with cls := ⟨#[99]⟩ } (okl_cls ho _)).callW (enters_of Tryz.func11 rfl rfl) _ rfl rfl ?_
   rintro _ rfl
   rw [odd_cls h6]
   simp only [go_sem, simprocAttr]
   refine awake9.callW (enters_of Tryz.func15 rfl rfl) _ rfl rfl ?_
   rintro _ rfl
   simp only [go_sem, simprocAttr]
   simp only [retK, resD, retL, oneD, simprocAttr, Tryz.results6]
   exact ⟨_, rfl, rfl, rfl⟩
  ·refine (object_May { o with listeners := cutAt o.listeners k } (okl_listeners ho k)).callW (enters_of Tryz.func11 rfl rfl) _ rfl rfl ?_
   rintro _ rfl
   rw [less_listeners hm k hkl, show decide (1 < o.listeners.length) = decide ((1 : Int) < (o.listeners.length : Int)) from decide_eq_decide.2 (by omega)]
   simp only [go_sem, simprocAttr, beq_tt9]
   refine (object_May { o with hosts := [⟨#[97]⟩] } (okl_hosts ho _)).callW (enters_of Tryz.func11 rfl rfl) _ rfl rfl ?_
   rintro _ rfl
   rw [odd_hosts h6]
   simp only [go_sem, simprocAttr]
   refine awake9.callW (enters_of Tryz.func15 rfl rfl) _ rfl rfl ?_
   rintro _ rfl
   simp only [go_sem, simprocAttr]
   simp only [retK, resD, retL, oneD, simprocAttr, Tryz.results6]
   exact ⟨_, rfl, rfl, rfl⟩
 have hln : ((0 : Int) < (o.listeners.length : Int)) = False := eq_false (by omega)
 by_cases hr : 0 < o.ports.length
 ·skip
  have hr' : ((0 : Int) < (o.ports.length : Int)) = True := eq_true (by omega)
  have hk : (tn : Int).tmod (o.ports.length : Int) = ((tn % o.ports.length : Nat) : Int) := by rw [Int.tmod_eq_emod_of_nonneg (by omega)]; rfl
  have hkl : tn % o.ports.length < o.ports.length := Nat.mod_lt _ (by omega)
  generalize tn % o.ports.length = k at hk hkl
  have w1 : IntKind.i64.wrap (k : Int) = k := IntWalk.i64_in _ (by omega)
  have w2 := i64_succ (show k < 1000000000 by omega)
  have hz : ((o.ports.length : Int) = 0) = False := eq_false (by omega)
  have q1 : (k ≤ o.ports.length) = True := eq_true (by omega)
  have q2 : (k + 1 ≤ o.ports.length) = True := eq_true (by omega)
  have q3 : rowsOK 1 (ints o.ports) = True := rowsOK_rows (f := cInt) (n := 1) (fun _ => rfl) _
  have q4 : (ints o.ports).take o.ports.length = ints o.ports := List.take_of_length_le (by rw [rows_len]; omega)
  have q5 := rows_cut (f := cInt) o.ports k
  obtain ⟨q6, q7⟩ := len_ct (f := cInt) o.ports k (k + 1) (by omega)
  replace q6 : ((ints o.ports).take k).length ≤ 1000 := q6
  replace q7 : ((ints o.ports).drop (k + 1)).length ≤ 1000 := q7
  simp only [go_sem, simprocAttr, hw0, rows_len, hk, w1, w2, hz, q1, q2, q3, q4, ↓q5, hr', hrn, hln]
  refine ⟨len_rt (f := cInt) (fun _ => rfl) _ _, by unfold maxLen; omega, by omega, len_rd (f := cInt) (fun _ => rfl) _ _, by unfold maxLen; omega, by omega, ?_⟩
  refine GifP.mk (fun h6 => ?_) (fun h6 => ?_)
  ·refine (object_May { o with ports := cutAt o.ports k } (okl_ports ho k)).callW (enters_of Tryz.func11 rfl rfl) _ rfl rfl ?_
   rintro _ rfl
   rw [less_ports hm k hkl, show decide (1 < o.ports.length) = decide ((1 : Int) < (o.ports.length : Int)) from decide_eq_decide.2 (by omega)]
   simp only [go_sem, simprocAttr, beq_tt9]
   refine (object_May { o with cls := ⟨#[99]⟩ } (okl_cls ho _)).callW (enters_of Tryz.func11 rfl rfl) _ rfl rfl ?_
   rintro _ rfl
   rw [odd_cls h6]
   simp only [go_sem, simprocAttr]
   refine awake9.callW (enters_of Tryz.func15 rfl rfl) _ rfl rfl ?_
   rintro _ rfl
   simp only [go_sem, simprocAttr]
   simp only [retK, resD, retL, oneD, simprocAttr, Tryz.results6]
   exact ⟨_, rfl, rfl, rfl⟩
  ·refine (object_May { o with ports := cutAt o.ports k } (okl_ports ho k)).callW (enters_of Tryz.func11 rfl rfl) _ rfl rfl ?_
   rintro _ rfl
   rw [less_ports hm k hkl, show decide (1 < o.ports.length) = decide ((1 : Int) < (o.ports.length : Int)) from decide_eq_decide.2 (by omega)]
   simp only [go_sem, simprocAttr, beq_tt9]
   refine (object_May { o with hosts := [⟨#[97]⟩] } (okl_hosts ho _)).callW (enters_of Tryz.func11 rfl rfl) _ rfl rfl ?_
   rintro _ rfl
   rw [odd_hosts h6]
   simp only [go_sem, simprocAttr]
   refine awake9.callW (enters_of Tryz.func15 rfl rfl) _ rfl rfl ?_
   rintro _ rfl
   simp only [go_sem, simprocAttr]
   simp only [retK, resD, retL, oneD, simprocAttr, Tryz.results6]
   exact ⟨_, rfl, rfl, rfl⟩
 have hpn : ((0 : Int) < (o.ports.length : Int)) = False := eq_false (by omega)
 simp only [go_sem, simprocAttr, hw0, rows_len, hrn, hln, hpn]
 refine GifP.mk (fun h6 => ?_) (fun h6 => ?_)
 ·refine (object_May o (ho)).callW (enters_of Tryz.func11 rfl rfl) _ rfl rfl ?_
  rintro _ rfl
  rw [hm]
  simp only [go_sem, simprocAttr, beq_tt9]
  refine (object_May { o with cls := ⟨#[99]⟩ } (okl_cls ho _)).callW (enters_of Tryz.func11 rfl rfl) _ rfl rfl ?_
  rintro _ rfl
  rw [odd_cls h6]
  simp only [go_sem, simprocAttr]
  refine awake9.callW (enters_of Tryz.func15 rfl rfl) _ rfl rfl ?_
  rintro _ rfl
  simp only [go_sem, simprocAttr]
  simp only [retK, resD, retL, oneD, simprocAttr, Tryz.results6]
  exact ⟨_, rfl, rfl, rfl⟩
 ·refine (object_May o (ho)).callW (enters_of Tryz.func11 rfl rfl) _ rfl rfl ?_
  rintro _ rfl
  rw [hm]
  simp only [go_sem, simprocAttr, beq_tt9]
  refine (object_May { o with hosts := [⟨#[97]⟩] } (okl_hosts ho _)).callW (enters_of Tryz.func11 rfl rfl) _ rfl rfl ?_
  rintro _ rfl
  rw [odd_hosts h6]
  simp only [go_sem, simprocAttr]
  refine awake9.callW (enters_of Tryz.func15 rfl rfl) _ rfl rfl ?_
  rintro _ rfl
  simp only [go_sem, simprocAttr]
  simp only [retK, resD, retL, oneD, simprocAttr, Tryz.results6]
  exact ⟨_, rfl, rfl, rfl⟩

end Go.Proofs.YtbjaopoipkphnaaGreatDoor


