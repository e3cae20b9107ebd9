/- Texts of the prover's, joined: O0 N8 N9 O1 O2. -/
import Derived.Test.YtcnhcamimcpinaaGreatDoorVH6

namespace Go.Proofs.YtcnhcamimcpinaaGreatDoor
open Go Go.RowKit
set_option linter.unusedSimpArgs false
set_option linter.unusedVariables false
set_option maxRecDepth 100000

deriving instance DecidableEq for ASpot

set_option maxHeartbeats 2000000 in
theorem ref13_Same (a b : List ASpot) (ha : a.length ≤ 1000000) (hb : ∀ x ∈ a, x.hosts.length ≤ 1000000) : Pure Tryz.prog 13 [.pd (.slice (rows ASpot.pd a)), .pd (.slice (rows ASpot.pd b))] (fun d => d = bln (decide (a = b))) := by
 refine pure_of_run follows an_z7khb Tryz.func13 rfl ok_z7khb.1 ok_z7khb.2 (by simp [Tryz.ntmps13]) ?_
 rw [run_start]
 simp only [ac_z7khb, go_sem, contS_seq, simprocAttr, rows_len]
 refine GifP.mk (fun hl => ?_) (fun hl => ?_)
 rotate_left
 ·simp only [retK, resD, retL, oneD, simprocAttr, Tryz.results13]
  exact ⟨_, rfl, rfl, res_no (fun e => hl (by rw [e]))⟩
 have hL : a.length = b.length := by omega
 refine loopS (fun k st => ∃ i : Nat, k = a.length - i ∧ i ≤ a.length ∧ a.take i = b.take i ∧ st = ⟨[(0, .pd (.slice (rows ASpot.pd a))), (1, .pd (.slice (rows ASpot.pd b))), (5, int i)], [], [], .no⟩) a.length _ ?_ ⟨0, rfl, by omega, rfl, rfl⟩ ?_
 ·exact lessA
 rintro k st ⟨i, rfl, hi, hT, rfl⟩
 have hw := i64_succ (show i < 1000000000 by omega)
 by_cases hlt : i < a.length
 ·obtain ⟨x, hx⟩ := at_lt hlt
  obtain ⟨y, hy⟩ := at_lt (show i < b.length by omega)
  have h1 : ((i : Int) < (a.length : Int)) = True := eq_true (by omega)
  simp only [go_sem, contS_seq, simprocAttr, rows_len, rows_get hx, rows_get hy, h1, hw, eqVs, eqV, eq_Ref]
  ·repeat' (first | refine GifP.mk (fun _ => ?_) (fun _ => ?_) | refine Gif.mk (fun _ => ?_) (fun _ => ?_) | (refine (ref1_Same x.hosts y.hosts (hb x (List.mem_of_getElem? hx))).callX (enters_of Tryz.func40 rfl rfl) _ rfl rfl ?_; rintro _ rfl; simp only [go_sem, contS_seq, simprocAttr, rows_len, rows_get hx, rows_get hy, hw, eqVs, eqV, eq_Ref]) | refine And.intro ?_ ?_)
   all_goals first
    | (refine ⟨a.length - (i + 1), _, by omega, ?_, i + 1, rfl, by omega, take_step hT hx hy (by first | assumption | (cases x; cases y; simp_all)), rfl⟩; exact lessA)
    | (simp only [retK, resD, retL, oneD, simprocAttr, Tryz.results13]; exact ⟨_, rfl, rfl, res_no (fun e => by subst e; have hxy := Option.some.inj (hx.symm.trans hy); subst hxy; first | contradiction | simp_all)⟩)
 have h1 : ((i : Int) < (a.length : Int)) = False := eq_false (by omega)
 have hE := take_end hT (by omega) hlt
 clear hT hi hw
 simp only [go_sem, contS_seq, simprocAttr, rows_len, h1]
 clear h1 hlt i
 simp only [retK, resD, retL, oneD, simprocAttr, Tryz.results13]
 exact ⟨_, rfl, rfl, res_yes hE⟩

theorem spots_short {os : List AObj} {r : AObj} (hr : r.ok) : ∀ s ∈ attAll labelsAll os r, s.hosts.length ≤ 1000000 := fun s hs => by
 obtain ⟨g, x, _, _, _, _, _, h, _⟩ := spot_from labelsAll hs
 rw [h]
 have h1 := meetFold_len x.host (someHosts r.hosts) []
 have h2 : (someHosts r.hosts).length ≤ 1000000 := by
  unfold someHosts
  split
  ·simp
  ·exact hr.ho
 unfold meets
 rw [List.length_nil] at h1
 omega


theorem attAll_len (os : List AObj) (r : AObj) (hn : r.parents.length ≤ 1000) : (attAll labelsAll os r).length ≤ 8000 := by
 have h1 := allUpto_len os r 8 (attAt_few os r) r.parents.length
 unfold attAll
 omega


abbrev tA : ByteArray := ⟨#[97]⟩
abbrev tC : ByteArray := ⟨#[99]⟩
abbrev tR : ByteArray := ⟨#[114]⟩
abbrev tZ : ByteArray := ⟨#[122]⟩
abbrev tWeb : ByteArray := ⟨#[119, 101, 98]⟩
abbrev tApp : ByteArray := ⟨#[97, 112, 112]⟩
abbrev tGw : ByteArray := ⟨#[103, 119]⟩
abbrev tAT : ByteArray := ⟨#[97, 46, 116, 101, 115, 116]⟩
abbrev tBX : ByteArray := ⟨#[98, 46, 120]⟩
abbrev tST : ByteArray := ⟨#[42, 46, 116, 101, 115, 116]⟩
abbrev eL : List AObj := [⟨⟨1, ⟨#[]⟩, tC⟩, true, [], [], ⟨#[]⟩, [], [], [], [], [], []⟩, ⟨⟨5, tWeb, tGw⟩, false, [], [], tC, [⟨tA, 80, false, ⟨#[]⟩, ⟨0, ⟨#[]⟩, ⟨#[]⟩⟩, 0, []⟩], [], [], [], [], []⟩]
abbrev eR : AObj := ⟨⟨6, tApp, tR⟩, false, [], [], ⟨#[]⟩, [], [⟨tWeb, tGw, ⟨#[]⟩, 0⟩, ⟨tWeb, tGw, tZ, 0⟩], [], [], [], []⟩

theorem eR_ok : eR.ok := by constructor <;> simp
theorem eL_oks : ∀ o ∈ eL, o.ok := fun o h => by
 rcases List.mem_cons.1 h with rfl | h
 ·constructor <;> simp
 ·rw [List.mem_singleton.1 h]
  constructor <;> simp
  constructor <;> simp

theorem e_at0 : (attAt labelsAll eL eR 0).2 = (noSpace, true) := by decide +kernel
theorem e_at1 : (attAt labelsAll eL eR 1).2 = (noParent, true) := by decide +kernel
theorem e_m1 : meets tST [tAT, tBX] = [tAT] := by decide +kernel
theorem e_m2 : meets tAT [] = [tAT] := by decide +kernel

theorem awake13 : Pure Tryz.prog 16 [] (fun d => d = bln true) := by
 have c1 := attach_At eL (by simp) eL_oks eR eR_ok 0
 unfold attD at c1
 rw [e_at0] at c1
 have c2 := attach_At eL (by simp) eL_oks eR eR_ok 1
 unfold attD at c2
 rw [e_at1] at c2
 have c3 := attach_Meet tST [tAT, tBX] (by simp)
 rw [e_m1] at c3
 have c4 := attach_Meet tAT [] (by simp)
 rw [e_m2] at c4
 have c5 := ref1_Same [tAT] [tAT] (by simp)
 rw [decide_eq_true rfl] at c5
 generalize rows ASpot.pd (attAt labelsAll eL eR 0).1 = s1 at c1
 generalize rows ASpot.pd (attAt labelsAll eL eR 1).1 = s2 at c2
 unfold noSpace at c1
 unfold noParent at c2
 refine pure_of_run follows an_z11cc Tryz.func16 rfl ok_z11cc.1 ok_z11cc.2 (by simp [Tryz.ntmps16]) ?_
 rw [run_start]
 simp only [ac_z11cc, go_sem, contS_seq, simprocAttr]
 refine c1.callW (enters_of Tryz.func11 rfl rfl) _ rfl rfl ?_
 rintro _ rfl
 simp only [go_sem, contS_seq, simprocAttr]
 refine c2.callW (enters_of Tryz.func11 rfl rfl) _ rfl rfl ?_
 rintro _ rfl
 simp only [go_sem, contS_seq, simprocAttr]
 refine c3.callW (enters_of Tryz.func34 rfl rfl) _ rfl rfl ?_
 rintro _ rfl
 simp only [go_sem, contS_seq, simprocAttr]
 refine c5.callW (enters_of Tryz.func40 rfl rfl) _ rfl rfl ?_
 rintro _ rfl
 simp only [go_sem, contS_seq, simprocAttr]
 refine c4.callW (enters_of Tryz.func34 rfl rfl) _ rfl rfl ?_
 rintro _ rfl
 simp only [go_sem, contS_seq, simprocAttr]
 refine c5.callW (enters_of Tryz.func40 rfl rfl) _ rfl rfl ?_
 rintro _ rfl
 simp only [go_sem, contS_seq, simprocAttr]
 simp only [retK, resD, retL, oneD, simprocAttr, Tryz.results16]
 exact ⟨_, rfl, rfl, rfl⟩


theorem fewObj_pa (o : AObj) : (fewObj o).parents.length ≤ 1000 := by
 simp only [fewObj, List.length_map, List.length_take]
 omega


def askedK (o : AObj) : Bool := decide (o.ref.kind = 1) || decide (o.ref.kind = 2) || decide (o.ref.kind = 5)

set_option maxHeartbeats 8000000 in
theorem law_AttachOthers (l : List AObj) (r m : AObj) : Pure Tryz.prog 6 [.pd (.slice (rows AObj.pd l)), r.d, m.d] (fun d => d = bln true) := by
 refine pure_of_run follows an_zeo8k Tryz.func6 rfl ok_zeo8k.1 ok_zeo8k.2 (by simp [Tryz.ntmps6]) ?_
 rw [run_start]
 simp only [ac_zeo8k, go_sem, contS_seq, simprocAttr]
 refine (law11_Some l).callX (enters_of Tryz.func9 rfl rfl) _ rfl rfl ?_
 rintro _ rfl
 simp only [go_sem, contS_seq, simprocAttr]
 refine (law9_Few r).callX (enters_of Tryz.func10 rfl rfl) _ rfl rfl ?_
 rintro _ rfl
 simp only [go_sem, contS_seq, simprocAttr]
 refine (law9_Few m).callX (enters_of Tryz.func10 rfl rfl) _ rfl rfl ?_
 rintro _ rfl
 have hos : (fewObjs l).length ≤ 1000 := Nat.le_trans (fewObjs_len l) (by omega)
 have ho := fewObjs_ok (l := l)
 have hr := fewObj_ok r
 have hrp := fewObj_pa r
 have hm := fewObj_ok m
 generalize fewObjs l = os at hos ho ⊢
 generalize fewObj r = r at hr hrp ⊢
 generalize fewObj m = m at hm ⊢
 have hfl : (os.filter askedK).length ≤ 1000 := Nat.le_trans (List.length_filter_le _ _) hos
 have c1 := attach_All (os.filter askedK) (by omega) (fun o h => ho o (List.mem_filter.1 h).1) r hr hrp
 rw [attAll_like labelsAll (like_few (fun o h => by simp only [askedK, Bool.or_eq_true, decide_eq_true_eq]; omega))] at c1
 have c2 := attach_All os (by omega) ho r hr hrp
 have hwo : ∀ o ∈ os ++ [m], o.ok := fun o h => by rcases List.mem_append.1 h with h | h; exact ho o h; rw [List.mem_singleton.1 h]; exact hm
 have c3 := attach_All (os ++ [m]) (by simp; omega) hwo r hr hrp
 have hlk : ¬ (m.ref.kind = 1 ∨ m.ref.kind = 2) → (r.parents.any fun p => decide (p.name = m.ref.name)) = false → attAll labelsAll (os ++ [m]) r = attAll labelsAll os r := fun h1 h2 =>
  attAll_like labelsAll (like_more (fun e => h1 (.inl e)) (fun e => h1 (.inr e)) (fun p hp e => by
   rw [List.any_eq_false] at h2
   exact h2 p hp (decide_eq_true e)))
 have c4 := ref13_Same (attAll labelsAll os r) (attAll labelsAll os r) (by have := attAll_len os r hrp; omega) (spots_short hr)
 rw [decide_eq_true rfl] at c4
 generalize attAll labelsAll os r = S at c1 c2 c4 hlk
 generalize attAll labelsAll (os ++ [m]) r = T at c3 hlk
 simp only [go_sem, contS_seq, simprocAttr]
 refine loopS (fun k st => ∃ i : Nat, k = os.length - i ∧ i ≤ os.length ∧
  st = ⟨[(0, .pd (.slice (rows AObj.pd os))), (4, .ptr 4 0), (5, .ptr 5 0), (7, .own 33 13 (rows AObj.pd ((os.take i).filter askedK)) 47), (8, int i)], [(4, r.ds), (5, m.ds)], [], .no⟩) os.length _ ?_ ⟨0, rfl, by omega, rfl⟩ ?_
 ·exact Weak.own1 7 47 33 13 (by kernel_rfl) (by decide) rfl (by simp [lessL, lk, St.purge, St.put, D.purge, rows]) (by simp [lessL, lk, St.purge, D.purges, D.purge]) (by simp [lessL]) rfl
 rintro k st ⟨i, rfl, hi, rfl⟩
 have hw := i64_succ (show i < 1000000000 by omega)
 by_cases hlt : i < os.length
 ·obtain ⟨x, hx⟩ := at_lt hlt
  have h1 : ((i : Int) < (os.length : Int)) = True := eq_true (by omega)
  have f1 := filter_step (p := askedK) hx
  have l1 : ((os.take i).filter askedK).length ≤ i := Nat.le_trans (List.length_filter_le _ _) (by simp; omega)
  by_cases hk : x.ref.kind = 1 ∨ x.ref.kind = 2 ∨ x.ref.kind = 5
  ·rw [if_pos (by simp only [askedK, Bool.or_eq_true, decide_eq_true_eq]; omega)] at f1
   simp only [go_sem, contS_seq, simprocAttr, rows_len, rows_get hx, h1, hw]
   repeat' (first | refine GifP.mk (fun _ => ?_) (fun _ => ?_) | refine Gif.mk (fun _ => ?_) (fun _ => ?_))
   all_goals first
    | (exfalso; omega)
    | (rw [rows_one _ x, ← f1]
       refine ⟨by simp, by unfold maxLen; omega, by omega, os.length - (i + 1), _, by omega, ?_, i + 1, rfl, by omega, rfl⟩
       exact lessA)
  ·rw [if_neg (by simp only [askedK, Bool.or_eq_true, decide_eq_true_eq]; omega), List.append_nil] at f1
   simp only [go_sem, contS_seq, simprocAttr, rows_len, rows_get hx, h1, hw]
   repeat' (first | refine GifP.mk (fun _ => ?_) (fun _ => ?_) | refine Gif.mk (fun _ => ?_) (fun _ => ?_))
   all_goals first
    | (exfalso; omega)
    | (rw [← f1]
       refine ⟨os.length - (i + 1), _, by omega, ?_, i + 1, rfl, by omega, rfl⟩
       exact lessA)
 have h1 : ((i : Int) < (os.length : Int)) = False := eq_false (by omega)
 rw [List.take_of_length_le (by omega)]
 clear hw hi hlt
 simp only [go_sem, contS_seq, simprocAttr, rows_len, h1]
 refine c1.callX (enters_of Tryz.func14 rfl rfl) _ rfl rfl ?_
 rintro _ rfl
 simp only [go_sem, contS_seq, simprocAttr]
 refine c2.callX (enters_of Tryz.func14 rfl rfl) _ rfl rfl ?_
 rintro _ rfl
 simp only [go_sem, contS_seq, simprocAttr]
 refine c4.callX (enters_of Tryz.func13 rfl rfl) _ rfl rfl ?_
 rintro _ rfl
 simp only [go_sem, contS_seq, simprocAttr]
 refine loopS (fun k st => ∃ i : Nat, k = os.length - i ∧ i ≤ os.length ∧
  st = ⟨[(0, .pd (.slice (rows AObj.pd os))), (4, .ptr 4 0), (5, .ptr 5 0), (10, int i)], [(4, r.ds), (5, m.ds)], [], .no⟩) os.length _ ?_ ⟨0, rfl, by omega, rfl⟩ ?_
 ·exact lessA
 rintro k st ⟨i, rfl, hi, rfl⟩
 have hw := i64_succ (show i < 1000000000 by omega)
 by_cases hlt : i < os.length
 ·obtain ⟨x, hx⟩ := at_lt hlt
  have h1 : ((i : Int) < (os.length : Int)) = True := eq_true (by omega)
  simp only [go_sem, contS_seq, simprocAttr, rows_len, rows_get hx, h1, hw, eqVs, eqV, eq_Ref]
  refine GifP.mk (fun _ => ?_) (fun _ => ?_)
  ·refine awake13.callW (enters_of Tryz.func16 rfl rfl) _ rfl rfl ?_
   rintro _ rfl
   simp only [go_sem, contS_seq, simprocAttr]
   simp only [retK, resD, retL, oneD, simprocAttr, Tryz.results6]
   exact ⟨_, rfl, rfl, rfl⟩
  ·refine ⟨os.length - (i + 1), _, by omega, ?_, i + 1, rfl, by omega, rfl⟩
   exact lessA
 have h1 : ((i : Int) < (os.length : Int)) = False := eq_false (by omega)
 clear hw hi hlt
 have hpa := hr.pa
 by_cases hA : m.ref.kind = 1 ∨ m.ref.kind = 2
 ·rcases hA with hA | hA
  case' inl =>
   have q1 := eq_true hA
   simp only [go_sem, contS_seq, simprocAttr, rows_len, h1, q1]
  case' inr =>
   have q1 : (m.ref.kind = 1) = False := eq_false (by omega)
   have q2 := eq_true hA
   simp only [go_sem, contS_seq, simprocAttr, rows_len, h1, q1, q2]
  all_goals
   refine loopS (fun k st => ∃ i : Nat, k = r.parents.length - i ∧ i ≤ r.parents.length ∧
    st = ⟨[(0, .pd (.slice (rows AObj.pd os))), (4, .ptr 4 0), (5, .ptr 5 0), (11, bln true), (12, int i)], [(4, r.ds), (5, m.ds)], [], .no⟩) r.parents.length _ ?_ ⟨0, rfl, by omega, rfl⟩ ?_
   ·exact lessA
   rintro k st ⟨i, rfl, hi, rfl⟩
   have hw := i64_succ (show i < 1000000000 by omega)
   by_cases hlt : i < r.parents.length
   ·have h1 : ((i : Int) < (r.parents.length : Int)) = True := eq_true (by omega)
    simp only [go_sem, contS_seq, simprocAttr, rows_len, h1, hw]
    refine ⟨r.parents.length - (i + 1), _, by omega, ?_, i + 1, rfl, by omega, rfl⟩
    exact lessA
   ·have h1 : ((i : Int) < (r.parents.length : Int)) = False := eq_false (by omega)
    simp only [go_sem, contS_seq, simprocAttr, rows_len, h1]
    repeat' (with_reducible refine And.intro ?_ ?_)
    all_goals
     refine awake13.callX (enters_of Tryz.func16 rfl rfl) _ rfl rfl ?_
     rintro _ rfl
     simp only [go_sem, contS_seq, simprocAttr]
     simp only [retK, resD, retL, oneD, simprocAttr, Tryz.results6]
     exact ⟨_, rfl, rfl, rfl⟩
 have q1 : (m.ref.kind = 1) = False := eq_false (by omega)
 have q2 : (m.ref.kind = 2) = False := eq_false (by omega)
 simp only [go_sem, contS_seq, simprocAttr, rows_len, h1, q1, q2]
 refine loopS (fun k st => ∃ (i : Nat) (b : Bool), k = r.parents.length - i ∧ i ≤ r.parents.length ∧ b = ((r.parents.take i).any fun p => decide (p.name = m.ref.name)) ∧
  st = ⟨[(0, .pd (.slice (rows AObj.pd os))), (4, .ptr 4 0), (5, .ptr 5 0), (11, bln b), (12, int i)], [(4, r.ds), (5, m.ds)], [], .no⟩) r.parents.length _ ?_ ⟨0, false, rfl, by omega, rfl, rfl⟩ ?_
 ·exact lessA
 rintro k st ⟨i, b, rfl, hi, hb, rfl⟩
 have hw := i64_succ (show i < 1000000000 by omega)
 by_cases hlt : i < r.parents.length
 ·obtain ⟨x, hx⟩ := at_lt hlt
  have h1 : ((i : Int) < (r.parents.length : Int)) = True := eq_true (by omega)
  have hst : ((r.parents.take (i + 1)).any fun p => decide (p.name = m.ref.name)) = (b || decide (x.name = m.ref.name)) := by
   rw [take_at hx, List.any_append, ← hb]
   simp
  cases b
  ·simp only [go_sem, contS_seq, simprocAttr, rows_len, rows_get hx, h1, hw]
   refine ⟨r.parents.length - (i + 1), _, by omega, ?_, i + 1, decide (x.name = m.ref.name), rfl, by omega, by rw [hst]; rfl, rfl⟩
   exact lessA
  ·simp only [go_sem, contS_seq, simprocAttr, rows_len, rows_get hx, h1, hw]
   refine ⟨r.parents.length - (i + 1), _, by omega, ?_, i + 1, true, rfl, by omega, by rw [hst]; rfl, rfl⟩
   exact lessA
 have h1 : ((i : Int) < (r.parents.length : Int)) = False := eq_false (by omega)
 rw [List.take_of_length_le (by omega)] at hb
 cases b
 rotate_left
 ·simp only [go_sem, contS_seq, simprocAttr, rows_len, h1]
  repeat' (with_reducible refine And.intro ?_ ?_)
  all_goals
   refine awake13.callX (enters_of Tryz.func16 rfl rfl) _ rfl rfl ?_
   rintro _ rfl
   simp only [go_sem, contS_seq, simprocAttr]
   simp only [retK, resD, retL, oneD, simprocAttr, Tryz.results6]
   exact ⟨_, rfl, rfl, rfl⟩
 have e1 : (∀ q ∈ rows AObj.pd os, q.length = 13) = True := eq_true (rows_row (f := AObj.pd) (n := 13) (fun _ => rfl) _)
 have e2 : (os.length ≤ maxLen) = True := eq_true (by unfold maxLen; omega)
 have e3 : (os.length * 256 ≤ 140737488355328) = True := eq_true (by omega)
 have e5 : (os.length + 1 ≤ maxLen) = True := eq_true (by unfold maxLen; omega)
 have e6 : ((os.length + 1) * 256 ≤ 140737488355328) = True := eq_true (by omega)
 have hrow : rows AObj.pd os ++ [AObj.pd m] = rows AObj.pd (os ++ [m]) := rows_one _ _
 rw [hlk hA hb.symm, ← hrow] at c3
 simp only [go_sem, contS_seq, simprocAttr, rows_len, h1]
 simp only [e1, e2, e3, e5, e6, List.mem_singleton, forall_eq, List.length_cons, List.length_nil, Nat.reduceAdd, true_and, and_self]
 all_goals
  repeat' (with_reducible refine And.intro ?_ ?_)
 all_goals
  refine c3.callX (enters_of Tryz.func14 rfl rfl) _ rfl rfl ?_
  rintro _ rfl
  simp only [go_sem, contS_seq, simprocAttr]
  refine c2.callX (enters_of Tryz.func14 rfl rfl) _ rfl rfl ?_
  rintro _ rfl
  simp only [go_sem, contS_seq, simprocAttr]
  refine c4.callX (enters_of Tryz.func13 rfl rfl) _ rfl rfl ?_
  rintro _ rfl
  simp only [go_sem, contS_seq, simprocAttr]
  refine awake13.callX (enters_of Tryz.func16 rfl rfl) _ rfl rfl ?_
  rintro _ rfl
  simp only [go_sem, contS_seq, simprocAttr]
  simp only [retK, resD, retL, oneD, simprocAttr, Tryz.results6]
  exact ⟨_, rfl, rfl, rfl⟩

end Go.Proofs.YtcnhcamimcpinaaGreatDoor


