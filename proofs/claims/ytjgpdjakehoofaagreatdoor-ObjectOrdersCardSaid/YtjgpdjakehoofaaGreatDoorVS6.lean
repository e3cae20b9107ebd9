/- Texts of the prover's, joined: F8 F9 FC JB J3 J4 J8 J9 FB FA E7 FF FH FL J1 J5 Q0 W0 W1 R7 BV Q1 Q2 Q3 Q4 Q5 Q6 Q7 L3. -/
import Derived.Test.YtjgpdjakehoofaaGreatDoorVS5
import Derived.Shelf.SlSortCmp.InsertionK
import Derived.Lib.Small
import Derived.Deep.LoopGhost
import Derived.StillTailTactics
import Derived.Shelf.SlSortCmp.NoneTotal
import Derived.Lib.SlicesCompact
import Derived.Deep.QuietTactic
import Derived.BigQuiet
import Derived.Shelf.SlicesQ.Reverse

namespace Go.Proofs.YtjgpdjakehoofaaGreatDoor
open Go Go.RowKit
set_option linter.unusedSimpArgs false
set_option linter.unusedVariables false
set_option maxRecDepth 100000

def fturner (f : AFilter) : Bool := decide (f.kind = 4) || decide (f.kind = 5)

theorem filter_turner (f : AFilter) : Pure Tryz.prog 235 [f.d] (fun d => d = bln (fturner f)) := by
 refine pure_of_run follows an_zm6be Tryz.func235 rfl ok_zm6be.1 ok_zm6be.2 (by simp [Tryz.ntmps235]) ?_
 rw [run_start]
 simp only [ac_zm6be, go_sem, simprocAttr]
 (repeat' (first | (refine GifP.mk (fun _ => ?_) (fun _ => ?_)) | (refine Gif.mk (fun _ => ?_) (fun _ => ?_)))) <;> (simp only [retK, resD, retL, oneD, simprocAttr, Tryz.results235]; exact ⟨_, rfl, rfl, congrArg bln (by first | rfl | (rw [Bool.eq_iff_iff]; simp only [fturner]; (first | (simp; done) | (simp; omega) | (simp [*]; done) | (simp [*]; omega))) | (simp_all [fturner]; done) | (exfalso; omega))⟩)

def fturns (f : AFilter) : Bool :=
 !(!decide (f.host = ⟨#[]⟩) && !dname f.host) && (if f.path = ⟨#[]⟩ then !f.whole else if f.whole = true then pathIs f.path else pathMay 2 f.path)

theorem filter_turns (f : AFilter) : Pure Tryz.prog 264 [f.d] (fun d => d = bln (fturns f)) := by
 refine pure_of_run follows an_z3d8y Tryz.func264 rfl ok_z3d8y.1 ok_z3d8y.2 (by simp [Tryz.ntmps264]) ?_
 rw [run_start]
 simp only [ac_z3d8y, go_sem, simprocAttr]
 (repeat' (first | (refine GifP.mk (fun _ => ?_) (fun _ => ?_)) | (refine Gif.mk (fun _ => ?_) (fun _ => ?_)) | ((first | refine (dns_Name _).callW (enters_of Tryz.func93 rfl rfl) _ rfl rfl ?_ | refine (path_Is _).callW (enters_of Tryz.func258 rfl rfl) _ rfl rfl ?_ | refine (path_May _ _).callW (enters_of Tryz.func227 rfl rfl) _ rfl rfl ?_); rintro _ rfl; try simp only [go_sem, simprocAttr]))) <;> (simp only [retK, resD, retL, oneD, simprocAttr, Tryz.results264]; exact ⟨_, rfl, rfl, congrArg bln (by first | rfl | (rw [Bool.eq_iff_iff]; simp only [fturns]; (first | (simp; done) | (simp; omega) | (simp [*]; done) | (simp [*]; omega))) | (simp_all [fturns]; done) | (exfalso; omega))⟩)

def fzero (n v h p t w c : Bool) (f : AFilter) : Bool :=
 (n || decide (f.name = ⟨#[]⟩)) && (v || decide (f.val = ⟨#[]⟩)) && (h || decide (f.host = ⟨#[]⟩)) && (p || decide (f.port = 0)) && (t || decide (f.path = ⟨#[]⟩)) && (w || !f.whole) && (c || decide (f.code = 0))

def filterMay (f : AFilter) : Bool :=
 if f.kind = 1 ∨ f.kind = 2 then fzero true true false false false false false f && token f.name && fvalue f.val
 else if f.kind = 3 then fzero true false false false false false false f && token f.name
 else if f.kind = 4 then decide (f.name = ⟨#[]⟩) && decide (f.val = ⟨#[]⟩) && fturns f && decide (0 ≤ f.port) && decide (f.port ≤ 65535) && (decide (f.code = 301) || decide (f.code = 302))
 else if f.kind = 5 then fzero false false true false true true false f && fturns f && (!decide (f.host = ⟨#[]⟩) || !decide (f.path = ⟨#[]⟩))
 else false

theorem beq_self_true {b : Bool} : (b == b) = true := by cases b <;> rfl

set_option maxHeartbeats 1000000 in
theorem filter_May (f : AFilter) (h : f.ok) : Pure Tryz.prog 236 [f.d] (fun d => d = bln (filterMay f)) := by
 refine pure_of_run follows an_zhj59 Tryz.func236 rfl ok_zhj59.1 ok_zhj59.2 (by simp [Tryz.ntmps236]) ?_
 rw [run_start]
 simp only [ac_zhj59, go_sem, simprocAttr, eqVs, eqV, beq_self_true]
 (repeat' (first | (refine GifP.mk (fun _ => ?_) (fun _ => ?_)) | (refine Gif.mk (fun _ => ?_) (fun _ => ?_)) | ((first | refine (pairs_Token f.name h.1).callW (enters_of Tryz.func225 rfl rfl) _ rfl rfl ?_ | refine (pairs_Value f.val h.2).callW (enters_of Tryz.func226 rfl rfl) _ rfl rfl ?_ | refine (filter_turns f).callW (enters_of Tryz.func264 rfl rfl) _ rfl rfl ?_); rintro _ rfl; try simp only [go_sem, simprocAttr, eqVs, eqV, beq_self_true]))) <;> (simp only [retK, resD, retL, oneD, simprocAttr, Tryz.results236]; exact ⟨_, rfl, rfl, congrArg bln (by first | rfl | (rw [Bool.eq_iff_iff]; simp only [filterMay, fzero]; (first | (simp; done) | (simp; omega) | (simp [*]; done) | (simp [*]; omega))) | (simp_all [filterMay, fzero]; done) | (exfalso; omega))⟩)

def likeF (f x : AFilter) : Bool := (fturner x && fturner f) || (decide (x.kind = f.kind) && foldSame x.name f.name)

abbrev AFilter.ds (f : AFilter) : List D := [int f.kind, str f.name, str f.val, str f.host, int f.port, str f.path, bln f.whole, int f.code]

theorem filter_All_1 (f x : AFilter) (hf : f.ok) (hx : x.ok) : PureB Tryz.prog 234 [x.d, .ptr 1000001 0] [(1000001, f.ds)] (fun d => d = bln (likeF f x)) := by
 refine pureB_of_run follows an_z38ed Tryz.func234 rfl ok_z38ed.1 ok_z38ed.2 (by simp [Tryz.ntmps234]) ?_
 rw [run_start]
 simp only [ac_z38ed, go_sem, simprocAttr]
 (repeat' (first | (refine GifP.mk (fun _ => ?_) (fun _ => ?_)) | (refine Gif.mk (fun _ => ?_) (fun _ => ?_)) | ((first | refine (filter_turner x).callW (enters_of Tryz.func235 rfl rfl) _ rfl rfl ?_ | refine (filter_turner f).callW (enters_of Tryz.func235 rfl rfl) _ rfl rfl ?_ | refine (pairs_Same _ _ hx.1 hf.1).callW (enters_of Tryz.func231 rfl rfl) _ rfl rfl ?_); rintro _ rfl; try simp only [go_sem, simprocAttr]))) <;> (simp only [retK, resD, retL, oneD, simprocAttr, Tryz.results234]; exact ⟨_, rfl, rfl, congrArg bln (by first | rfl | (rw [Bool.eq_iff_iff]; simp only [likeF]; (first | (simp; done) | (simp; omega) | (simp [*]; done) | (simp [*]; omega))) | (simp_all [likeF]; done) | (exfalso; omega))⟩)

def filtersFrom (l : List AFilter) : Nat → Nat → Bool
 | 0, _ => true
 | k + 1, i => (match l[i]? with
   | some f => filterMay f && !(l.take i).any (likeF f)
   | none => true) && filtersFrom l k (i + 1)

def filtersAll (l : List AFilter) : Bool := filtersFrom l l.length 0 && decide (l.length ≤ 8)

theorem filter_All (l : List AFilter) (hl : l.length ≤ 1000000) (ho : ∀ f ∈ l, f.ok) : Pure Tryz.prog 195 [.pd (.slice (rows AFilter.pd l))] (fun d => d = bln (filtersAll l)) := by
 refine pure_of_run follows an_zhmnj Tryz.func195 rfl ok_zhmnj.1 ok_zhmnj.2 (by simp [Tryz.ntmps195]) ?_
 rw [run_start]
 simp only [ac_zhmnj, go_sem, simprocAttr]
 refine loopS (fun k st => ∃ i : Nat, k = l.length - i ∧ i ≤ l.length ∧ filtersFrom l k i = filtersFrom l l.length 0 ∧
  st = ⟨[(0, .pd (.slice (rows AFilter.pd l))), (6, .pd (.slice (rows AFilter.pd l))), (7, int l.length), (8, int i)], [], [], .no⟩) l.length _ (Weak.refl _ _) ⟨0, rfl, Nat.zero_le _, rfl, rfl⟩ ?_
 rintro k st ⟨i, rfl, hi, hr, rfl⟩
 by_cases hlt : i < l.length
 ·obtain ⟨x, hx⟩ := at_lt hlt
  have hlt' : ((i : Int) < (l.length : Int)) = True := eq_true (by omega)
  have hle : (i ≤ l.length) = True := eq_true (by omega)
  have hw := i64_succ (show i < 1000000000 by omega)
  have hmx := List.mem_of_getElem? hx
  obtain ⟨m, hm⟩ : ∃ m, l.length - i = m + 1 := ⟨l.length - i - 1, by omega⟩
  rw [hm, filtersFrom, hx] at hr
  have hrows : rowsOK 8 (rows AFilter.pd l) = True := rowsOK_rows (f := AFilter.pd) (n := 8) (fun _ => rfl) l
  have htk : (rows AFilter.pd l).take i = rows AFilter.pd (l.take i) := by simp [rows, List.map_take]
  have bad : filtersFrom l l.length 0 = false → filtersAll l = false := fun h => by simp [filtersAll, h]
  simp only [go_sem, simprocAttr, hlt', rows_get hx, rows_len, hrows, hle, htk]
  refine (filter_May x (ho x hmx)).callW (enters_of Tryz.func236 rfl rfl) _ rfl rfl ?_
  rintro d rfl
  simp only [go_sem, simprocAttr, hrows, hle, htk, rows_len]
  refine Gif.mk (fun h => ?_) (fun h => ?_)
  ·refine (ContainsFunc_Filter (likeF x) 234 (enters_of Tryz.func234 rfl rfl) [(1000001, 0)] [(1000001, x.ds)] (Cl.of rfl rfl rfl rfl rfl) (l.take i) (by simp; omega)
    (fun y hy => filter_All_1 x y (ho x hmx) (ho y (List.mem_of_mem_take hy)))).callW (enters_of Tryz.func237 rfl rfl) _ [(4, 1000001)] rfl rfl rfl ?_
   rintro d rfl
   simp only [go_sem, simprocAttr, hw]
   refine Gif.mk (fun h2 => ?_) (fun h2 => ?_)
   ·simp only [h, h2, Bool.not_true, Bool.and_false, Bool.false_and] at hr
    simp only [retK, resD, retL, oneD, simprocAttr, Tryz.results195]
    exact ⟨_, rfl, rfl, congrArg bln (bad hr.symm).symm⟩
   ·simp only [h, h2, Bool.not_false, Bool.and_true, Bool.true_and] at hr
    refine ⟨m, _, ?_, ?_, i + 1, ?_, ?_, hr, rfl⟩
    ·omega
    ·exact lessA
    ·omega
    ·omega
  ·simp only [h, Bool.false_and] at hr
   simp only [retK, resD, retL, oneD, simprocAttr, Tryz.results195]
   exact ⟨_, rfl, rfl, congrArg bln (bad hr.symm).symm⟩
 ·have hlt' : ((i : Int) < (l.length : Int)) = False := eq_false (by omega)
  rw [show l.length - i = 0 by omega, filtersFrom] at hr
  simp only [go_sem, simprocAttr, hlt']
  repeat' (first | refine GifP.mk (fun _ => ?_) (fun _ => ?_) | refine Gif.mk (fun _ => ?_) (fun _ => ?_))
  all_goals
   simp only [retK, resD, retL, oneD, simprocAttr, Tryz.results195]
   exact ⟨_, rfl, rfl, congrArg bln (by first | rfl | (rw [Bool.eq_iff_iff]; simp only [filtersAll, ← hr]; (first | (simp; done) | (simp; omega) | (simp [*]; done) | (simp [*]; omega))) | (simp_all [filtersAll, ← hr]; done) | (exfalso; omega))⟩

def listenerMay (l : AListener) : Bool :=
 (if l.tls = true then decide (l.cert.kind = 4) && labValue l.cert.space && dname l.cert.name else decide (l.cert.kind = 0) && decide (l.cert.space = ⟨#[]⟩) && decide (l.cert.name = ⟨#[]⟩)) &&
 label l.name && oport l.port && hostMay l.host && decide (0 ≤ l.from_) && decide (l.from_ ≤ 2) && needsMay l.needs && (decide (l.from_ = 2) || decide (l.needs.length = 0))

structure AListener.ok (l : AListener) : Prop where
 nl : l.needs.length ≤ 1000000
 n : ∀ x ∈ l.needs, x.ok

set_option maxHeartbeats 1000000 in
theorem object_listener (l : AListener) (h : l.ok) : Pure Tryz.prog 132 [l.d] (fun d => d = bln (listenerMay l)) := by
 refine pure_of_run follows an_z5xl6 Tryz.func132 rfl ok_z5xl6.1 ok_z5xl6.2 (by simp [Tryz.ntmps132]) ?_
 rw [run_start]
 simp only [ac_z5xl6, go_sem, simprocAttr, eqVs, eqV]
 (repeat' (first | (refine GifP.mk (fun _ => ?_) (fun _ => ?_)) | (refine Gif.mk (fun _ => ?_) (fun _ => ?_)) | ((first | refine (object_near _).callW (enters_of Tryz.func181 rfl rfl) _ rfl rfl ?_ | refine (dns_Name _).callW (enters_of Tryz.func93 rfl rfl) _ rfl rfl ?_ | refine (dns_Label _).callW (enters_of Tryz.func94 rfl rfl) _ rfl rfl ?_ | refine (object_port _).callW (enters_of Tryz.func126 rfl rfl) _ rfl rfl ?_ | refine (host_May _).callW (enters_of Tryz.func139 rfl rfl) _ rfl rfl ?_ | refine (label_Needs l.needs h.nl h.n).callW (enters_of Tryz.func182 rfl rfl) _ rfl rfl ?_); rintro _ rfl; try simp only [go_sem, simprocAttr, eqVs, eqV]))) <;> (simp only [retK, resD, retL, oneD, simprocAttr, Tryz.results132]; exact ⟨_, rfl, rfl, congrArg bln (by first | rfl | (rw [Bool.eq_iff_iff]; simp only [listenerMay]; (first | (simp; done) | (simp; omega) | (simp [*]; done) | (simp [*]; omega))) | (simp_all [listenerMay]; done) | (exfalso; omega))⟩)

structure ARule.ok (r : ARule) : Prop where
 ml : r.matches_.length ≤ 1000000
 fl : r.filters.length ≤ 1000000
 bl : r.backends.length ≤ 1000000
 m : ∀ x ∈ r.matches_, x.ok
 f : ∀ x ∈ r.filters, x.ok

def ruleMay (r : ARule) : Bool := every matchMay r.matches_ 4 && filtersAll r.filters && every backendMay r.backends 4

theorem object_ruled (r : ARule) (h : r.ok) : Pure Tryz.prog 144 [r.d] (fun d => d = bln (ruleMay r)) := by
 refine pure_of_run follows an_zjms9 Tryz.func144 rfl ok_zjms9.1 ok_zjms9.2 (by simp [Tryz.ntmps144]) ?_
 rw [run_start]
 simp only [ac_zjms9, go_sem, simprocAttr]
 (repeat' (first | (refine GifP.mk (fun _ => ?_) (fun _ => ?_)) | (refine Gif.mk (fun _ => ?_) (fun _ => ?_)) | ((first | refine (every_Match matchMay _ (enters_of Tryz.func194 rfl rfl) r.matches_ h.ml 4 (fun x hx => rule_May x (h.m x hx))).callW (enters_of Tryz.func193 rfl rfl) _ rfl rfl ?_ | refine (filter_All r.filters h.fl h.f).callW (enters_of Tryz.func195 rfl rfl) _ rfl rfl ?_ | refine (every_Backend backendMay _ (enters_of Tryz.func197 rfl rfl) r.backends h.bl 4 (fun x _ => object_backend x)).callW (enters_of Tryz.func196 rfl rfl) _ rfl rfl ?_); rintro _ rfl; try simp only [go_sem, simprocAttr]))) <;> (simp only [retK, resD, retL, oneD, simprocAttr, Tryz.results144]; exact ⟨_, rfl, rfl, congrArg bln (by first | rfl | (rw [Bool.eq_iff_iff]; simp only [ruleMay]; (first | (simp; done) | (simp; omega) | (simp [*]; done) | (simp [*]; omega))) | (simp_all [ruleMay]; done) | (exfalso; omega))⟩)

def listenerSame (a b : AListener) : Bool :=
 decide (a.name = b.name) && decide (a.port = b.port) && (a.tls == b.tls) && decide (a.host = b.host) && decide (a.cert = b.cert) && decide (a.from_ = b.from_) && eqf needSame a.needs b.needs

theorem object_sameListener (a b : AListener) (ha : a.ok) (hb : b.ok) : Pure Tryz.prog 105 [a.d, b.d] (fun d => d = bln (listenerSame a b)) := by
 refine pure_of_run follows an_z1fwi Tryz.func105 rfl ok_z1fwi.1 ok_z1fwi.2 (by simp [Tryz.ntmps105]) ?_
 rw [run_start]
 simp only [ac_z1fwi, go_sem, simprocAttr, eqVs, eqV, eq_Ref]
 (repeat' (first | (refine GifP.mk (fun _ => ?_) (fun _ => ?_)) | (refine Gif.mk (fun _ => ?_) (fun _ => ?_)) | (refine (label_Same a.needs b.needs ha.nl hb.nl ha.n hb.n).callW (enters_of Tryz.func152 rfl rfl) _ rfl rfl ?_; rintro _ rfl; try simp only [go_sem, simprocAttr, eqVs, eqV, eq_Ref]))) <;> (simp only [retK, resD, retL, oneD, simprocAttr, Tryz.results105]; exact ⟨_, rfl, rfl, congrArg bln (by first | rfl | (rw [Bool.eq_iff_iff]; simp only [listenerSame]; (first | (simp; done) | (simp; omega) | (simp [*]; done) | (simp [*]; omega))) | (simp_all [listenerSame]; done) | (exfalso; omega))⟩)

def ruleSame (a b : ARule) : Bool := eqf matchSame a.matches_ b.matches_ && decide (a.filters = b.filters) && decide (a.backends = b.backends)

theorem object_sameRule (a b : ARule) (ha : a.ok) (hb : b.ok) : Pure Tryz.prog 107 [a.d, b.d] (fun d => d = bln (ruleSame a b)) := by
 refine pure_of_run follows an_z30xg Tryz.func107 rfl ok_z30xg.1 ok_z30xg.2 (by simp [Tryz.ntmps107]) ?_
 rw [run_start]
 simp only [ac_z30xg, go_sem, simprocAttr]
 (repeat' (first | (refine GifP.mk (fun _ => ?_) (fun _ => ?_)) | (refine Gif.mk (fun _ => ?_) (fun _ => ?_)) | ((first | refine (EqualFunc_Match matchSame _ (enters_of Tryz.func154 rfl rfl) a.matches_ b.matches_ ha.ml hb.ml (fun x hx y hy => rule_Same x y (ha.m x hx) (hb.m y hy))).callW (enters_of Tryz.func153 rfl rfl) _ rfl rfl ?_ | refine (Equal_Filter a.filters b.filters ha.fl hb.fl).callW (enters_of Tryz.func155 rfl rfl) _ rfl rfl ?_ | refine (Equal_Backend a.backends b.backends ha.bl hb.bl).callW (enters_of Tryz.func156 rfl rfl) _ rfl rfl ?_); rintro _ rfl; try simp only [go_sem, simprocAttr]))) <;> (simp only [retK, resD, retL, oneD, simprocAttr, Tryz.results107]; exact ⟨_, rfl, rfl, congrArg bln (by first | rfl | (rw [Bool.eq_iff_iff]; simp only [ruleSame]; (first | (simp; done) | (simp; omega) | (simp [*]; done) | (simp [*]; omega))) | (simp_all [ruleSame]; done) | (exfalso; omega))⟩)


def labelsFrom (l : List APair) : Nat → Nat → Bool
 | 0, _ => true
 | k + 1, i => (match l[i]? with
   | some p => dname p.name && labValue p.val && (decide (i = 0) || (match l[i - 1]? with | some q => Op.bytesLess q.name.toList p.name.toList | none => false))
   | none => true) && labelsFrom l k (i + 1)

def labelsMay (l : List APair) : Bool := labelsFrom l l.length 0 && decide (l.length ≤ 8)

set_option maxHeartbeats 1000000 in
theorem label_May (l : List APair) (hl : l.length ≤ 1000000) : Pure Tryz.prog 124 [.pd (.slice (rows APair.pd l))] (fun d => d = bln (labelsMay l)) := by
 refine pure_of_run follows an_z2iq3 Tryz.func124 rfl ok_z2iq3.1 ok_z2iq3.2 (by simp [Tryz.ntmps124]) ?_
 rw [run_start]
 simp only [ac_z2iq3, go_sem, simprocAttr]
 refine loopS (fun k st => ∃ i : Nat, k = l.length - i ∧ i ≤ l.length ∧ labelsFrom l k i = labelsFrom l l.length 0 ∧
  st = ⟨[(0, .pd (.slice (rows APair.pd l))), (5, .pd (.slice (rows APair.pd l))), (6, int l.length), (7, int i)], [], [], .no⟩) l.length _ (Weak.refl _ _) ⟨0, rfl, Nat.zero_le _, rfl, rfl⟩ ?_
 rintro k st ⟨i, rfl, hi, hr, rfl⟩
 by_cases hlt : i < l.length
 ·obtain ⟨x, hx⟩ := at_lt hlt
  have hlt' : ((i : Int) < (l.length : Int)) = True := eq_true (by omega)
  have hw := i64_succ (show i < 1000000000 by omega)
  obtain ⟨m, hm⟩ : ∃ m, l.length - i = m + 1 := ⟨l.length - i - 1, by omega⟩
  rw [hm, labelsFrom, hx] at hr
  have bad : labelsFrom l l.length 0 = false → labelsMay l = false := fun h => by simp [labelsMay, h]
  have good : ∀ st, Weak Tryz.prog st ⟨[(0, .pd (.slice (rows APair.pd l))), (5, .pd (.slice (rows APair.pd l))), (6, int l.length), (7, int (i + 1 : Nat))], [], [], .no⟩ → labelsFrom l m (i + 1) = labelsFrom l l.length 0 →
   Round Tryz.prog (fun k st => ∃ i : Nat, k = l.length - i ∧ i ≤ l.length ∧ labelsFrom l k i = labelsFrom l l.length 0 ∧
    st = ⟨[(0, .pd (.slice (rows APair.pd l))), (5, .pd (.slice (rows APair.pd l))), (6, int l.length), (7, int i)], [], [], .no⟩) (l.length - i) st := fun st hst hr =>
   ⟨m, _, by omega, hst, i + 1, by omega, by omega, hr, rfl⟩
  simp (maxSteps := 2000000) only [go_sem, simprocAttr, go_sem, hlt', rows_get hx, rows_len]
  refine (dns_Name x.name).callX (enters_of Tryz.func93 rfl rfl) _ rfl rfl ?_
  rintro d rfl
  simp (maxSteps := 2000000) only [go_sem, simprocAttr, go_sem, rows_len]
  refine Gif.mk (fun h1 => ?_) (fun h1 => ?_)
  ·refine (label_value x.val).callX (enters_of Tryz.func174 rfl rfl) _ rfl rfl ?_
   rintro d rfl
   by_cases hi0 : 0 < i
   ·obtain ⟨q, hq⟩ := at_lt (show i - 1 < l.length by omega)
    have h0 : ((0 : Int) < (i : Int)) = True := eq_true (by omega)
    have hw1 : IntKind.i64.wrap ((i : Int) - 1) = ((i - 1 : Nat) : Int) := by rw [IntWalk.i64_in _ (by omega)]; omega
    simp (maxSteps := 2000000) only [go_sem, simprocAttr, go_sem, rows_len, h0, hw1, rows_get hq, hw]
    refine Gif.mk (fun h2 => ?_) (fun h2 => ?_)
    ·refine Gif.mk (fun h3 => ?_) (fun h3 => ?_)
     ·refine good _ (lessA) ?_
      simpa [h1, h2, h3, hq] using hr
     ·simp only [retK, resD, retL, oneD, simprocAttr, Tryz.results124]
      refine ⟨_, rfl, rfl, congrArg bln (bad ?_).symm⟩
      rw [← hr]; simp [h1, h2, h3, hq]; omega
    ·simp only [retK, resD, retL, oneD, simprocAttr, Tryz.results124]
     refine ⟨_, rfl, rfl, congrArg bln (bad ?_).symm⟩
     rw [← hr]; simp [h1, h2]
   ·have h0 : ((0 : Int) < (i : Int)) = False := eq_false (by omega)
    simp (maxSteps := 2000000) only [go_sem, simprocAttr, go_sem, rows_len, h0, hw]
    refine Gif.mk (fun h2 => ?_) (fun h2 => ?_)
    ·refine good _ (lessA) ?_
     simpa [h1, h2, show i = 0 by omega] using hr
    ·simp only [retK, resD, retL, oneD, simprocAttr, Tryz.results124]
     refine ⟨_, rfl, rfl, congrArg bln (bad ?_).symm⟩
     rw [← hr]; simp [h1, h2]
  ·simp only [retK, resD, retL, oneD, simprocAttr, Tryz.results124]
   refine ⟨_, rfl, rfl, congrArg bln (bad ?_).symm⟩
   rw [← hr]; simp [h1]
 ·have hlt' : ((i : Int) < (l.length : Int)) = False := eq_false (by omega)
  rw [show l.length - i = 0 by omega, labelsFrom] at hr
  simp only [go_sem, simprocAttr, hlt']
  repeat' (first | refine GifP.mk (fun _ => ?_) (fun _ => ?_) | refine Gif.mk (fun _ => ?_) (fun _ => ?_))
  all_goals
   simp only [retK, resD, retL, oneD, simprocAttr, Tryz.results124]
   exact ⟨_, rfl, rfl, congrArg bln (by first | rfl | (rw [Bool.eq_iff_iff]; simp only [labelsMay, ← hr]; (first | (simp; done) | (simp; omega) | (simp [*]; done) | (simp [*]; omega))) | (simp_all [labelsMay, ← hr]; done) | (exfalso; omega))⟩

def sortFrom (l : List Int) : Nat → Bool
 | 0 => true
 | i + 1 => (match l[i + 1]?, l[i]? with
   | some a, some b => !intLess a b
   | _, _ => true) && sortFrom l i

def sortedInts (l : List Int) : Bool := sortFrom l (l.length - 1)

theorem slices_IsSorted_int (l : List Int) (hl : l.length ≤ 1000000) : Pure Tryz.prog 127 [.pd (.slice (ints l))] (fun d => d = bln (sortedInts l)) := by
 refine pure_of_run follows an_zhfyj Tryz.func127 rfl ok_zhfyj.1 ok_zhfyj.2 (by simp [Tryz.ntmps127]) ?_
 rw [run_start]
 have hw0 : IntKind.i64.wrap ((l.length : Int) - 1) = (l.length : Int) - 1 := IntWalk.i64_in _ (by omega)
 simp only [ac_zhfyj, go_sem, simprocAttr, go_sem, rows_len, hw0]
 refine loopS (fun k st => ∃ i : Int, k = i.toNat ∧ -1 ≤ i ∧ i < (l.length : Int) ∧ sortFrom l i.toNat = sortedInts l ∧
  st = ⟨[(0, .pd (.slice (ints l))), (3, int i)], [], [], .no⟩) ((l.length : Int) - 1).toNat _ (Weak.refl _ _) ⟨(l.length : Int) - 1, rfl, by omega, by omega, by
   rw [sortedInts]; congr 1; omega, rfl⟩ ?_
 rintro k st ⟨i, rfl, hi, hi2, hr, rfl⟩
 by_cases hlt : 0 < i
 ·obtain ⟨j, rfl⟩ : ∃ j : Nat, i = (j + 1 : Nat) := ⟨(i - 1).toNat, by omega⟩
  obtain ⟨x, hx⟩ := at_lt (show j + 1 < l.length by omega)
  obtain ⟨y, hy⟩ := at_lt (show j < l.length by omega)
  have hlt' : ((0 : Int) < ((j + 1 : Nat) : Int)) = True := eq_true (by omega)
  have hw : IntKind.i64.wrap (((j + 1 : Nat) : Int) - 1) = (j : Int) := by rw [IntWalk.i64_in _ (by omega)]; omega
  rw [Int.toNat_natCast, sortFrom, hx, hy] at hr
  simp only [go_sem, simprocAttr, go_sem, hlt', rows_get hx, rows_get hy, hw]
  refine (cmp_Less x y).callX (enters_of Tryz.func177 rfl rfl) _ rfl rfl ?_
  rintro d rfl
  simp only [go_sem, simprocAttr, go_sem, hw]
  refine Gif.mk (fun h => ?_) (fun h => ?_)
  ·simp only [h, Bool.not_true, Bool.false_and] at hr
   simp only [retK, resD, retL, oneD, simprocAttr, Tryz.results127]
   exact ⟨_, rfl, rfl, congrArg bln hr⟩
  ·simp only [h, Bool.not_false, Bool.true_and] at hr
   refine ⟨j, _, ?_, ?_, (j : Int), by simp, by omega, by omega, by simpa using hr, rfl⟩
   ·omega
   ·exact lessA
 ·have hlt' : ((0 : Int) < i) = False := eq_false hlt
  rw [show i.toNat = 0 by omega, sortFrom] at hr
  simp only [go_sem, simprocAttr, go_sem, hlt']
  simp only [retK, resD, retL, oneD, simprocAttr, Tryz.results127]
  exact ⟨_, rfl, rfl, congrArg bln hr⟩

structure AObj.ok (o : AObj) : Prop where
 la : o.labels.length ≤ 1000000
 po : o.ports.length ≤ 1000000
 li : o.listeners.length ≤ 1000000
 pa : o.parents.length ≤ 1000000
 ho : o.hosts.length ≤ 1000000
 ru : o.rules.length ≤ 1000000
 fr : o.from_.length ≤ 1000000
 to : o.to_.length ≤ 1000000
 lis : ∀ x ∈ o.listeners, x.ok
 rus : ∀ x ∈ o.rules, x.ok

abbrev AObj.ds (o : AObj) : List D := [int o.ref.kind, str o.ref.space, str o.ref.name, bln o.good, .pd (.slice (rows APair.pd o.labels)), .pd (.slice (ints o.ports)), str o.cls, .pd (.slice (rows AListener.pd o.listeners)),
 .pd (.slice (rows AParent.pd o.parents)), .pd (.slice (strs o.hosts)), .pd (.slice (rows ARule.pd o.rules)), .pd (.slice (rows ASide.pd o.from_)), .pd (.slice (rows ASide.pd o.to_))]


def objSame (a b : AObj) : Bool :=
 decide (a.ref = b.ref) && (a.good == b.good) && decide (a.cls = b.cls) && decide (a.labels = b.labels) && decide (a.ports = b.ports) && decide (a.hosts = b.hosts) && decide (a.parents = b.parents) && decide (a.from_ = b.from_) && decide (a.to_ = b.to_) &&
 eqf listenerSame a.listeners b.listeners && eqf ruleSame a.rules b.rules

set_option maxHeartbeats 1000000 in
theorem object_Same (a b : AObj) (ha : a.ok) (hb : b.ok) : Pure Tryz.prog 53 [a.d, b.d] (fun d => d = bln (objSame a b)) := by
 refine pure_of_run follows an_zhbvt Tryz.func53 rfl ok_zhbvt.1 ok_zhbvt.2 (by simp [Tryz.ntmps53]) ?_
 rw [run_start]
 simp only [ac_zhbvt, go_sem, simprocAttr, eqVs, eqV, eq_Ref]
 (repeat' (first | (refine GifP.mk (fun _ => ?_) (fun _ => ?_)) | (refine Gif.mk (fun _ => ?_) (fun _ => ?_)) | ((first | refine (Equal_Pair a.labels b.labels ha.la hb.la).callW (enters_of Tryz.func99 rfl rfl) _ rfl rfl ?_ | refine (Equal_int a.ports b.ports ha.po hb.po).callW (enters_of Tryz.func100 rfl rfl) _ rfl rfl ?_ | refine (Equal_string a.hosts b.hosts ha.ho hb.ho).callW (enters_of Tryz.func101 rfl rfl) _ rfl rfl ?_ | refine (Equal_Parent a.parents b.parents ha.pa hb.pa).callW (enters_of Tryz.func102 rfl rfl) _ rfl rfl ?_ | refine (Equal_Side a.from_ b.from_ ha.fr hb.fr).callW (enters_of Tryz.func103 rfl rfl) _ rfl rfl ?_ | refine (Equal_Side a.to_ b.to_ ha.to hb.to).callW (enters_of Tryz.func103 rfl rfl) _ rfl rfl ?_ | refine (EqualFunc_Listener listenerSame _ (enters_of Tryz.func105 rfl rfl) a.listeners b.listeners ha.li hb.li (fun x hx y hy => object_sameListener x y (ha.lis x hx) (hb.lis y hy))).callW (enters_of Tryz.func104 rfl rfl) _ rfl rfl ?_ | refine (EqualFunc_Rule ruleSame _ (enters_of Tryz.func107 rfl rfl) a.rules b.rules ha.ru hb.ru (fun x hx y hy => object_sameRule x y (ha.rus x hx) (hb.rus y hy))).callW (enters_of Tryz.func106 rfl rfl) _ rfl rfl ?_); rintro _ rfl; try simp only [go_sem, simprocAttr, eqVs, eqV, eq_Ref]))) <;> (simp only [retK, resD, retL, oneD, simprocAttr, Tryz.results53]; exact ⟨_, rfl, rfl, congrArg bln (by first | rfl | (rw [Bool.eq_iff_iff]; simp only [objSame]; (first | (simp; done) | (simp; omega) | (simp [*]; done) | (simp [*]; omega))) | (simp_all [objSame]; done) | (exfalso; omega))⟩)


theorem lessL_total : ∀ x y : List UInt8, (Op.bytesLess x y || decide (x = y)) = !Op.bytesLess y x
 | [], [] => rfl
 | [], b :: y => rfl
 | a :: x, [] => rfl
 | a :: x, b :: y => by
   have ih := lessL_total x y
   simp only [Op.bytesLess]
   by_cases h1 : a < b
   ·have h2 : ¬ b < a := fun h => by have := UInt8.lt_iff_toNat_lt.1 h; have := UInt8.lt_iff_toNat_lt.1 h1; omega
    have h3 : (b == a) = false := by
     rw [beq_eq_false_iff_ne]
     rintro rfl
     exact h2 h1
    simp [h1, h2, h3]
   ·by_cases h2 : b < a
    ·have h3 : (a == b) = false := by
      rw [beq_eq_false_iff_ne]
      rintro rfl
      exact h1 h2
     have h4 : ¬ a = b := by simpa using h3
     simp [h1, h2, h3, h4]
    ·have h3 : a = b := UInt8.toNat_inj.1 (by
      have := mt UInt8.lt_iff_toNat_lt.2 h1
      have := mt UInt8.lt_iff_toNat_lt.2 h2
      omega)
     subst h3
     simpa [h1] using ih

theorem less_total (a b : ByteArray) : (Op.bytesLess a.toList b.toList || decide (a = b)) = !Op.bytesLess b.toList a.toList := by
 rw [← lessL_total]
 congr 1
 rw [Bool.eq_iff_iff, decide_eq_true_eq, decide_eq_true_eq]
 constructor
 ·rintro rfl; rfl
 ·intro h
  have := bytes_eq a b
  rw [h] at this
  simpa using this


def wide (p : ByteArray) : Bool := hasPrefix p ⟨#[42, 46]⟩





theorem thing_class (o : AObj) : Full Tryz.prog 87 [.ptr 500001 0] [(500001, o.ds)] true (fun d bs => d = bln true ∧ bs = [(500001,
 [int o.ref.kind, str o.ref.space, str o.ref.name, bln false, .pd (.slice (rows APair.pd o.labels)), .pd (.slice (ints o.ports)), str o.cls, .pd (.slice (rows AListener.pd o.listeners)),
  .pd (.slice (rows AParent.pd o.parents)), .pd (.slice (strs o.hosts)), .pd (.slice (rows ARule.pd o.rules)), .pd (.slice (rows ASide.pd o.from_)), .pd (.slice (rows ASide.pd o.to_))])]) := by
 refine full_of_run follows an_zk71m Tryz.func87 rfl ok_zk71m.1 ok_zk71m.2 (by simp [Tryz.ntmps87]) (by simp [Tryz.ntmps87]) (.inl rfl) ?_
 rw [run_start]
 simp only [ac_zk71m, go_sem, simprocAttr]
 simp only [retK, fullK, resD, retL, oneD, simprocAttr, Tryz.results87]
 exact ⟨_, _, rfl, by simp [lessL, lk], rfl, rfl⟩

theorem thing_space (o : AObj) (h : o.ok) : Full Tryz.prog 88 [.ptr 500001 0] [(500001, o.ds)] true (fun d bs => d = bln (labelsMay o.labels) ∧ bs = [(500001,
 [int o.ref.kind, str o.ref.space, str o.ref.name, bln o.good, .nils, .pd (.slice (ints o.ports)), str o.cls, .pd (.slice (rows AListener.pd o.listeners)),
  .pd (.slice (rows AParent.pd o.parents)), .pd (.slice (strs o.hosts)), .pd (.slice (rows ARule.pd o.rules)), .pd (.slice (rows ASide.pd o.from_)), .pd (.slice (rows ASide.pd o.to_))])]) := by
 refine full_of_run follows an_zag3z Tryz.func88 rfl ok_zag3z.1 ok_zag3z.2 (by simp [Tryz.ntmps88]) (by simp [Tryz.ntmps88]) (.inl rfl) ?_
 rw [run_start]
 simp only [ac_zag3z, go_sem, simprocAttr]
 refine (label_May o.labels h.la).callW (enters_of Tryz.func124 rfl rfl) _ rfl rfl ?_
 rintro d rfl
 simp only [go_sem, simprocAttr]
 simp only [retK, fullK, resD, retL, oneD, simprocAttr, Tryz.results88]
 exact ⟨_, _, rfl, by simp [lessL, lk], rfl, rfl⟩

def serviceMay (l : List Int) : Bool := decide (0 < l.length) && every oport l 8 && sortedInts l && !twice intSame l

theorem thing_service (o : AObj) (h : o.ok) : Full Tryz.prog 89 [.ptr 500001 0] [(500001, o.ds)] true (fun d bs => d = bln (serviceMay o.ports) ∧ bs = [(500001,
 [int o.ref.kind, str o.ref.space, str o.ref.name, bln o.good, .pd (.slice (rows APair.pd o.labels)), .nils, str o.cls, .pd (.slice (rows AListener.pd o.listeners)),
  .pd (.slice (rows AParent.pd o.parents)), .pd (.slice (strs o.hosts)), .pd (.slice (rows ARule.pd o.rules)), .pd (.slice (rows ASide.pd o.from_)), .pd (.slice (rows ASide.pd o.to_))])]) := by
 refine full_of_run follows an_zxlfl Tryz.func89 rfl ok_zxlfl.1 ok_zxlfl.2 (by simp [Tryz.ntmps89]) (by simp [Tryz.ntmps89]) (.inl rfl) ?_
 rw [run_start]
 simp only [ac_zxlfl, go_sem, simprocAttr]
 (repeat' (first | (refine GifP.mk (fun _ => ?_) (fun _ => ?_)) | (refine Gif.mk (fun _ => ?_) (fun _ => ?_)) | ((first | refine (every_int oport _ (enters_of Tryz.func126 rfl rfl) o.ports h.po 8 (fun x _ => object_port x)).callW (enters_of Tryz.func125 rfl rfl) _ rfl rfl ?_ | refine (slices_IsSorted_int o.ports h.po).callW (enters_of Tryz.func127 rfl rfl) _ rfl rfl ?_ | refine (twice_int intSame _ (enters_of Tryz.func129 rfl rfl) o.ports h.po (fun x _ y _ => thing_service_1 x y)).callW (enters_of Tryz.func128 rfl rfl) _ rfl rfl ?_); rintro _ rfl; try simp only [go_sem, simprocAttr]))) <;> (simp only [retK, fullK, resD, retL, oneD, simprocAttr, Tryz.results89]; exact ⟨_, _, rfl, by simp [lessL, lk], congrArg bln (by first | rfl | (rw [Bool.eq_iff_iff]; simp only [serviceMay]; (first | (simp; done) | (simp; omega) | (simp [*]; done) | (simp [*]; omega))) | (simp_all [serviceMay]; done) | (exfalso; omega)), rfl⟩)

def gatewayMay (s : ByteArray) (l : List AListener) : Bool := dname s && decide (0 < l.length) && every listenerMay l 8 && !twice lisName l

theorem thing_gateway (o : AObj) (h : o.ok) : Full Tryz.prog 90 [.ptr 500001 0] [(500001, o.ds)] true (fun d bs => d = bln (gatewayMay o.cls o.listeners) ∧ bs = [(500001,
 [int o.ref.kind, str o.ref.space, str o.ref.name, bln o.good, .pd (.slice (rows APair.pd o.labels)), .pd (.slice (ints o.ports)), str ⟨#[]⟩, .nils,
  .pd (.slice (rows AParent.pd o.parents)), .pd (.slice (strs o.hosts)), .pd (.slice (rows ARule.pd o.rules)), .pd (.slice (rows ASide.pd o.from_)), .pd (.slice (rows ASide.pd o.to_))])]) := by
 refine full_of_run follows an_zqquk Tryz.func90 rfl ok_zqquk.1 ok_zqquk.2 (by simp [Tryz.ntmps90]) (by simp [Tryz.ntmps90]) (.inl rfl) ?_
 rw [run_start]
 simp only [ac_zqquk, go_sem, simprocAttr, go_sem, rows_len]
 (repeat' (first | (refine GifP.mk (fun _ => ?_) (fun _ => ?_)) | (refine Gif.mk (fun _ => ?_) (fun _ => ?_)) | ((first | refine (dns_Name _).callW (enters_of Tryz.func93 rfl rfl) _ rfl rfl ?_ | refine (every_Listener listenerMay _ (enters_of Tryz.func132 rfl rfl) o.listeners h.li 8 (fun x hx => object_listener x (h.lis x hx))).callW (enters_of Tryz.func131 rfl rfl) _ rfl rfl ?_ | refine (twice_Listener lisName _ (enters_of Tryz.func130 rfl rfl) o.listeners h.li (fun x _ y _ => thing_gateway_1 x y)).callW (enters_of Tryz.func133 rfl rfl) _ rfl rfl ?_); rintro _ rfl; try simp only [go_sem, simprocAttr]))) <;> (simp only [retK, fullK, resD, retL, oneD, simprocAttr, Tryz.results90]; exact ⟨_, _, rfl, by simp [lessL, lk], congrArg bln (by first | rfl | (rw [Bool.eq_iff_iff]; simp only [gatewayMay]; (first | (simp; done) | (simp; omega) | (simp [*]; done) | (simp [*]; omega))) | (simp_all [gatewayMay]; done) | (exfalso; omega)), rfl⟩)

def routeMay (ps : List AParent) (hs : List ByteArray) (rs : List ARule) : Bool :=
 !(twice parSame ps || twice strSame hs) && every parentMay ps 4 && every patMay hs 4 && every ruleMay rs 6

theorem thing_route (o : AObj) (h : o.ok) : Full Tryz.prog 91 [.ptr 500001 0] [(500001, o.ds)] true (fun d bs => d = bln (routeMay o.parents o.hosts o.rules) ∧ bs = [(500001,
 [int o.ref.kind, str o.ref.space, str o.ref.name, bln o.good, .pd (.slice (rows APair.pd o.labels)), .pd (.slice (ints o.ports)), str o.cls, .pd (.slice (rows AListener.pd o.listeners)),
  .nils, .nils, .nils, .pd (.slice (rows ASide.pd o.from_)), .pd (.slice (rows ASide.pd o.to_))])]) := by
 refine full_of_run follows an_ztpho Tryz.func91 rfl ok_ztpho.1 ok_ztpho.2 (by simp [Tryz.ntmps91]) (by simp [Tryz.ntmps91]) (.inl rfl) ?_
 rw [run_start]
 simp (maxSteps := 5000000) only [ac_ztpho, go_sem, simprocAttr, go_sem, rows_len]
 (repeat' (first | (refine GifP.mk (fun _ => ?_) (fun _ => ?_)) | (refine Gif.mk (fun _ => ?_) (fun _ => ?_)) | ((first | refine (twice_Parent parSame _ (enters_of Tryz.func135 rfl rfl) o.parents h.pa (fun x _ y _ => thing_route_1 x y)).callW (enters_of Tryz.func134 rfl rfl) _ rfl rfl ?_ | refine (twice_string strSame _ (enters_of Tryz.func137 rfl rfl) o.hosts h.ho (fun x _ y _ => thing_route_2 x y)).callW (enters_of Tryz.func136 rfl rfl) _ rfl rfl ?_ | refine (every_Parent parentMay _ (enters_of Tryz.func141 rfl rfl) o.parents h.pa 4 (fun x _ => object_parent x)).callW (enters_of Tryz.func140 rfl rfl) _ rfl rfl ?_ | refine (every_string patMay _ (enters_of Tryz.func138 rfl rfl) o.hosts h.ho 4 (fun x _ => thing_route_3 x)).callW (enters_of Tryz.func142 rfl rfl) _ rfl rfl ?_ | refine (every_Rule ruleMay _ (enters_of Tryz.func144 rfl rfl) o.rules h.ru 6 (fun x hx => object_ruled x (h.rus x hx))).callW (enters_of Tryz.func143 rfl rfl) _ rfl rfl ?_); rintro _ rfl; try simp only [go_sem, simprocAttr]))) <;> (simp only [retK, fullK, resD, retL, oneD, simprocAttr, Tryz.results91]; exact ⟨_, _, rfl, by simp [lessL, lk], congrArg bln (by first | rfl | (rw [Bool.eq_iff_iff]; simp only [routeMay]; (first | (simp; done) | (simp; omega) | (simp [*]; done) | (simp [*]; omega))) | (simp_all [routeMay]; done) | (exfalso; omega)), rfl⟩)

def grantMay (f t : List ASide) : Bool := decide (0 < f.length) && decide (0 < t.length) && every sideFrom f 4 && every sideTo t 4

theorem thing_grant (o : AObj) (h : o.ok) : Full Tryz.prog 92 [.ptr 500001 0] [(500001, o.ds)] true (fun d bs => d = bln (grantMay o.from_ o.to_) ∧ bs = [(500001,
 [int o.ref.kind, str o.ref.space, str o.ref.name, bln o.good, .pd (.slice (rows APair.pd o.labels)), .pd (.slice (ints o.ports)), str o.cls, .pd (.slice (rows AListener.pd o.listeners)),
  .pd (.slice (rows AParent.pd o.parents)), .pd (.slice (strs o.hosts)), .pd (.slice (rows ARule.pd o.rules)), .nils, .nils])]) := by
 refine full_of_run follows an_zlbax Tryz.func92 rfl ok_zlbax.1 ok_zlbax.2 (by simp [Tryz.ntmps92]) (by simp [Tryz.ntmps92]) (.inl rfl) ?_
 rw [run_start]
 simp only [ac_zlbax, go_sem, simprocAttr, go_sem, rows_len]
 (repeat' (first | (refine GifP.mk (fun _ => ?_) (fun _ => ?_)) | (refine Gif.mk (fun _ => ?_) (fun _ => ?_)) | ((first | refine (every_Side sideFrom _ (enters_of Tryz.func145 rfl rfl) o.from_ h.fr 4 (fun x _ => thing_grant_1 x)).callW (enters_of Tryz.func147 rfl rfl) _ rfl rfl ?_ | refine (every_Side sideTo _ (enters_of Tryz.func146 rfl rfl) o.to_ h.to 4 (fun x _ => thing_grant_2 x)).callW (enters_of Tryz.func147 rfl rfl) _ rfl rfl ?_); rintro _ rfl; try simp only [go_sem, simprocAttr]))) <;> (simp only [retK, fullK, resD, retL, oneD, simprocAttr, Tryz.results92]; exact ⟨_, _, rfl, by simp [lessL, lk], congrArg bln (by first | rfl | (rw [Bool.eq_iff_iff]; simp only [grantMay]; (first | (simp; done) | (simp; omega) | (simp [*]; done) | (simp [*]; omega))) | (simp_all [grantMay]; done) | (exfalso; omega)), rfl⟩)


def AObj.zero (r : ARef) : AObj := ⟨r, false, [], [], ⟨#[]⟩, [], [], [], [], [], []⟩

theorem AObj.zero_ok (r : ARef) : (AObj.zero r).ok := ⟨by simp [AObj.zero], by simp [AObj.zero], by simp [AObj.zero], by simp [AObj.zero], by simp [AObj.zero], by simp [AObj.zero], by simp [AObj.zero], by simp [AObj.zero], by simp [AObj.zero], by simp [AObj.zero]⟩

def AObj.strip (o : AObj) : AObj :=
 if o.ref.kind = 1 ∨ o.ref.kind = 4 then { o with good := false }
 else if o.ref.kind = 2 then { o with labels := [] }
 else if o.ref.kind = 3 then { o with ports := [] }
 else if o.ref.kind = 5 then { o with listeners := [], cls := ⟨#[]⟩ }
 else if o.ref.kind = 6 then { o with parents := [], hosts := [], rules := [] }
 else { o with from_ := [], to_ := [] }

def kindMay (o : AObj) : Bool :=
 if o.ref.kind = 1 ∨ o.ref.kind = 4 then true
 else if o.ref.kind = 2 then labelsMay o.labels
 else if o.ref.kind = 3 then serviceMay o.ports
 else if o.ref.kind = 5 then gatewayMay o.cls o.listeners
 else if o.ref.kind = 6 then routeMay o.parents o.hosts o.rules
 else grantMay o.from_ o.to_

def objMay (o : AObj) : Bool := mayRef o.ref && kindMay o && objSame o.strip (AObj.zero o.ref)

theorem mayRef_kind {r : ARef} (h : mayRef r = true) : r.kind = 1 ∨ r.kind = 2 ∨ r.kind = 3 ∨ r.kind = 4 ∨ r.kind = 5 ∨ r.kind = 6 ∨ r.kind = 7 := by
 unfold mayRef at h
 split at h
 ·omega
 ·split at h
  ·omega
  ·simp [okind] at h; omega

theorem strip_ok {o s : AObj} (h : o.ok) (h1 : s.labels = o.labels ∨ s.labels = []) (h2 : s.ports = o.ports ∨ s.ports = []) (h3 : s.listeners = o.listeners ∨ s.listeners = []) (h4 : s.parents = o.parents ∨ s.parents = []) (h5 : s.hosts = o.hosts ∨ s.hosts = [])
 (h6 : s.rules = o.rules ∨ s.rules = []) (h7 : s.from_ = o.from_ ∨ s.from_ = []) (h8 : s.to_ = o.to_ ∨ s.to_ = []) : s.ok where
 la := by rcases h1 with e | e <;> rw [e] <;> first | exact h.la | simp
 po := by rcases h2 with e | e <;> rw [e] <;> first | exact h.po | simp
 li := by rcases h3 with e | e <;> rw [e] <;> first | exact h.li | simp
 pa := by rcases h4 with e | e <;> rw [e] <;> first | exact h.pa | simp
 ho := by rcases h5 with e | e <;> rw [e] <;> first | exact h.ho | simp
 ru := by rcases h6 with e | e <;> rw [e] <;> first | exact h.ru | simp
 fr := by rcases h7 with e | e <;> rw [e] <;> first | exact h.fr | simp
 to := by rcases h8 with e | e <;> rw [e] <;> first | exact h.to | simp
 lis := by rcases h3 with e | e <;> rw [e] <;> first | exact h.lis | simp
 rus := by rcases h6 with e | e <;> rw [e] <;> first | exact h.rus | simp

set_option maxHeartbeats 4000000 in
theorem object_May (o : AObj) (h : o.ok) : Pure Tryz.prog 42 [o.d] (fun d => d = bln (objMay o)) := by
 refine pure_of_run follows an_zfwje Tryz.func42 rfl ok_zfwje.1 ok_zfwje.2 (by simp [Tryz.ntmps42]) ?_
 rw [run_start]
 simp (maxSteps := 5000000) only [ac_zfwje, go_sem, simprocAttr, go_sem]
 refine (object_MayRef o.ref).callX (enters_of Tryz.func44 rfl rfl) _ rfl rfl ?_
 rintro d rfl
 by_cases hm : mayRef o.ref = true
 ·have stop : kindMay o = false → objMay o = false := fun e => by simp [objMay, e]
  have go : ∀ s : AObj, o.strip = s → kindMay o = true → objMay o = objSame s (AObj.zero o.ref) := fun s e1 e2 => by simp [objMay, hm, e1, e2]
  rcases mayRef_kind hm with hk | hk | hk | hk | hk | hk | hk
  ·obtain ⟨⟨kd, sp, nm⟩, gd, la, po, cl, li, pa, ho, ru, fr, to⟩ := o
   simp only at hk
   subst hk
   simp (maxSteps := 5000000) only [go_sem, simprocAttr, go_sem, hm]
   refine (thing_class ⟨⟨1, sp, nm⟩, gd, la, po, cl, li, pa, ho, ru, fr, to⟩).callW (enters_of Tryz.func87 rfl rfl) _ false [(9, 500001)] [] [] [] rfl rfl rfl ?_
   rintro d bs ⟨rfl, rfl⟩
   simp (maxSteps := 5000000) only [go_sem, simprocAttr, go_sem]
   have hs : (⟨⟨1, sp, nm⟩, gd, la, po, cl, li, pa, ho, ru, fr, to⟩ : AObj).strip = { (⟨⟨1, sp, nm⟩, gd, la, po, cl, li, pa, ho, ru, fr, to⟩ : AObj) with good := false } := by simp [AObj.strip]
   have hkm : kindMay (⟨⟨1, sp, nm⟩, gd, la, po, cl, li, pa, ho, ru, fr, to⟩ : AObj) = true := by simp [kindMay]
   refine (object_Same ({ (⟨⟨1, sp, nm⟩, gd, la, po, cl, li, pa, ho, ru, fr, to⟩ : AObj) with good := false } : AObj) (AObj.zero ⟨1, sp, nm⟩) (strip_ok h (by simp) (by simp) (by simp) (by simp) (by simp) (by simp) (by simp) (by simp)) (AObj.zero_ok ⟨1, sp, nm⟩)).callX (enters_of Tryz.func53 rfl rfl) _ rfl rfl ?_
   rintro d rfl
   simp (maxSteps := 5000000) only [go_sem, simprocAttr, go_sem]
   simp only [retK, resD, retL, oneD, simprocAttr, Tryz.results42]
   exact ⟨_, rfl, rfl, congrArg bln (go _ hs (by rw [hkm])).symm⟩
  ·obtain ⟨⟨kd, sp, nm⟩, gd, la, po, cl, li, pa, ho, ru, fr, to⟩ := o
   simp only at hk
   subst hk
   simp (maxSteps := 5000000) only [go_sem, simprocAttr, go_sem, hm]
   refine (thing_space ⟨⟨2, sp, nm⟩, gd, la, po, cl, li, pa, ho, ru, fr, to⟩ h).callW (enters_of Tryz.func88 rfl rfl) _ false [(9, 500001)] [] [] [] rfl rfl rfl ?_
   rintro d bs ⟨rfl, rfl⟩
   simp (maxSteps := 5000000) only [go_sem, simprocAttr, go_sem]
   have hs : (⟨⟨2, sp, nm⟩, gd, la, po, cl, li, pa, ho, ru, fr, to⟩ : AObj).strip = { (⟨⟨2, sp, nm⟩, gd, la, po, cl, li, pa, ho, ru, fr, to⟩ : AObj) with labels := [] } := by simp [AObj.strip]
   have hkm : kindMay (⟨⟨2, sp, nm⟩, gd, la, po, cl, li, pa, ho, ru, fr, to⟩ : AObj) = labelsMay la := by simp [kindMay]
   refine Gif.mk (fun h1 => ?_) (fun h1 => ?_)
   ·refine (object_Same ({ (⟨⟨2, sp, nm⟩, gd, la, po, cl, li, pa, ho, ru, fr, to⟩ : AObj) with labels := [] } : AObj) (AObj.zero ⟨2, sp, nm⟩) (strip_ok h (by simp) (by simp) (by simp) (by simp) (by simp) (by simp) (by simp) (by simp)) (AObj.zero_ok ⟨2, sp, nm⟩)).callX (enters_of Tryz.func53 rfl rfl) _ rfl rfl ?_
    rintro d rfl
    simp (maxSteps := 5000000) only [go_sem, simprocAttr, go_sem]
    simp only [retK, resD, retL, oneD, simprocAttr, Tryz.results42]
    exact ⟨_, rfl, rfl, congrArg bln (go _ hs (by rw [hkm]; exact h1)).symm⟩
   ·simp only [retK, resD, retL, oneD, simprocAttr, Tryz.results42]
    exact ⟨_, rfl, rfl, congrArg bln (stop (by rw [hkm]; exact h1)).symm⟩
  ·obtain ⟨⟨kd, sp, nm⟩, gd, la, po, cl, li, pa, ho, ru, fr, to⟩ := o
   simp only at hk
   subst hk
   simp (maxSteps := 5000000) only [go_sem, simprocAttr, go_sem, hm]
   refine (thing_service ⟨⟨3, sp, nm⟩, gd, la, po, cl, li, pa, ho, ru, fr, to⟩ h).callW (enters_of Tryz.func89 rfl rfl) _ false [(9, 500001)] [] [] [] rfl rfl rfl ?_
   rintro d bs ⟨rfl, rfl⟩
   simp (maxSteps := 5000000) only [go_sem, simprocAttr, go_sem]
   have hs : (⟨⟨3, sp, nm⟩, gd, la, po, cl, li, pa, ho, ru, fr, to⟩ : AObj).strip = { (⟨⟨3, sp, nm⟩, gd, la, po, cl, li, pa, ho, ru, fr, to⟩ : AObj) with ports := [] } := by simp [AObj.strip]
   have hkm : kindMay (⟨⟨3, sp, nm⟩, gd, la, po, cl, li, pa, ho, ru, fr, to⟩ : AObj) = serviceMay po := by simp [kindMay]
   refine Gif.mk (fun h1 => ?_) (fun h1 => ?_)
   ·refine (object_Same ({ (⟨⟨3, sp, nm⟩, gd, la, po, cl, li, pa, ho, ru, fr, to⟩ : AObj) with ports := [] } : AObj) (AObj.zero ⟨3, sp, nm⟩) (strip_ok h (by simp) (by simp) (by simp) (by simp) (by simp) (by simp) (by simp) (by simp)) (AObj.zero_ok ⟨3, sp, nm⟩)).callX (enters_of Tryz.func53 rfl rfl) _ rfl rfl ?_
    rintro d rfl
    simp (maxSteps := 5000000) only [go_sem, simprocAttr, go_sem]
    simp only [retK, resD, retL, oneD, simprocAttr, Tryz.results42]
    exact ⟨_, rfl, rfl, congrArg bln (go _ hs (by rw [hkm]; exact h1)).symm⟩
   ·simp only [retK, resD, retL, oneD, simprocAttr, Tryz.results42]
    exact ⟨_, rfl, rfl, congrArg bln (stop (by rw [hkm]; exact h1)).symm⟩
  ·obtain ⟨⟨kd, sp, nm⟩, gd, la, po, cl, li, pa, ho, ru, fr, to⟩ := o
   simp only at hk
   subst hk
   simp (maxSteps := 5000000) only [go_sem, simprocAttr, go_sem, hm]
   refine (thing_class ⟨⟨4, sp, nm⟩, gd, la, po, cl, li, pa, ho, ru, fr, to⟩).callW (enters_of Tryz.func87 rfl rfl) _ false [(9, 500001)] [] [] [] rfl rfl rfl ?_
   rintro d bs ⟨rfl, rfl⟩
   simp (maxSteps := 5000000) only [go_sem, simprocAttr, go_sem]
   have hs : (⟨⟨4, sp, nm⟩, gd, la, po, cl, li, pa, ho, ru, fr, to⟩ : AObj).strip = { (⟨⟨4, sp, nm⟩, gd, la, po, cl, li, pa, ho, ru, fr, to⟩ : AObj) with good := false } := by simp [AObj.strip]
   have hkm : kindMay (⟨⟨4, sp, nm⟩, gd, la, po, cl, li, pa, ho, ru, fr, to⟩ : AObj) = true := by simp [kindMay]
   refine (object_Same ({ (⟨⟨4, sp, nm⟩, gd, la, po, cl, li, pa, ho, ru, fr, to⟩ : AObj) with good := false } : AObj) (AObj.zero ⟨4, sp, nm⟩) (strip_ok h (by simp) (by simp) (by simp) (by simp) (by simp) (by simp) (by simp) (by simp)) (AObj.zero_ok ⟨4, sp, nm⟩)).callX (enters_of Tryz.func53 rfl rfl) _ rfl rfl ?_
   rintro d rfl
   simp (maxSteps := 5000000) only [go_sem, simprocAttr, go_sem]
   simp only [retK, resD, retL, oneD, simprocAttr, Tryz.results42]
   exact ⟨_, rfl, rfl, congrArg bln (go _ hs (by rw [hkm])).symm⟩
  ·obtain ⟨⟨kd, sp, nm⟩, gd, la, po, cl, li, pa, ho, ru, fr, to⟩ := o
   simp only at hk
   subst hk
   simp (maxSteps := 5000000) only [go_sem, simprocAttr, go_sem, hm]
   refine (thing_gateway ⟨⟨5, sp, nm⟩, gd, la, po, cl, li, pa, ho, ru, fr, to⟩ h).callW (enters_of Tryz.func90 rfl rfl) _ false [(9, 500001)] [] [] [] rfl rfl rfl ?_
   rintro d bs ⟨rfl, rfl⟩
   simp (maxSteps := 5000000) only [go_sem, simprocAttr, go_sem]
   have hs : (⟨⟨5, sp, nm⟩, gd, la, po, cl, li, pa, ho, ru, fr, to⟩ : AObj).strip = { (⟨⟨5, sp, nm⟩, gd, la, po, cl, li, pa, ho, ru, fr, to⟩ : AObj) with listeners := [], cls := ⟨#[]⟩ } := by simp [AObj.strip]
   have hkm : kindMay (⟨⟨5, sp, nm⟩, gd, la, po, cl, li, pa, ho, ru, fr, to⟩ : AObj) = gatewayMay cl li := by simp [kindMay]
   refine Gif.mk (fun h1 => ?_) (fun h1 => ?_)
   ·refine (object_Same ({ (⟨⟨5, sp, nm⟩, gd, la, po, cl, li, pa, ho, ru, fr, to⟩ : AObj) with listeners := [], cls := ⟨#[]⟩ } : AObj) (AObj.zero ⟨5, sp, nm⟩) (strip_ok h (by simp) (by simp) (by simp) (by simp) (by simp) (by simp) (by simp) (by simp)) (AObj.zero_ok ⟨5, sp, nm⟩)).callX (enters_of Tryz.func53 rfl rfl) _ rfl rfl ?_
    rintro d rfl
    simp (maxSteps := 5000000) only [go_sem, simprocAttr, go_sem]
    simp only [retK, resD, retL, oneD, simprocAttr, Tryz.results42]
    exact ⟨_, rfl, rfl, congrArg bln (go _ hs (by rw [hkm]; exact h1)).symm⟩
   ·simp only [retK, resD, retL, oneD, simprocAttr, Tryz.results42]
    exact ⟨_, rfl, rfl, congrArg bln (stop (by rw [hkm]; exact h1)).symm⟩
  ·obtain ⟨⟨kd, sp, nm⟩, gd, la, po, cl, li, pa, ho, ru, fr, to⟩ := o
   simp only at hk
   subst hk
   simp (maxSteps := 5000000) only [go_sem, simprocAttr, go_sem, hm]
   refine (thing_route ⟨⟨6, sp, nm⟩, gd, la, po, cl, li, pa, ho, ru, fr, to⟩ h).callW (enters_of Tryz.func91 rfl rfl) _ false [(9, 500001)] [] [] [] rfl rfl rfl ?_
   rintro d bs ⟨rfl, rfl⟩
   simp (maxSteps := 5000000) only [go_sem, simprocAttr, go_sem]
   have hs : (⟨⟨6, sp, nm⟩, gd, la, po, cl, li, pa, ho, ru, fr, to⟩ : AObj).strip = { (⟨⟨6, sp, nm⟩, gd, la, po, cl, li, pa, ho, ru, fr, to⟩ : AObj) with parents := [], hosts := [], rules := [] } := by simp [AObj.strip]
   have hkm : kindMay (⟨⟨6, sp, nm⟩, gd, la, po, cl, li, pa, ho, ru, fr, to⟩ : AObj) = routeMay pa ho ru := by simp [kindMay]
   refine Gif.mk (fun h1 => ?_) (fun h1 => ?_)
   ·refine (object_Same ({ (⟨⟨6, sp, nm⟩, gd, la, po, cl, li, pa, ho, ru, fr, to⟩ : AObj) with parents := [], hosts := [], rules := [] } : AObj) (AObj.zero ⟨6, sp, nm⟩) (strip_ok h (by simp) (by simp) (by simp) (by simp) (by simp) (by simp) (by simp) (by simp)) (AObj.zero_ok ⟨6, sp, nm⟩)).callX (enters_of Tryz.func53 rfl rfl) _ rfl rfl ?_
    rintro d rfl
    simp (maxSteps := 5000000) only [go_sem, simprocAttr, go_sem]
    simp only [retK, resD, retL, oneD, simprocAttr, Tryz.results42]
    exact ⟨_, rfl, rfl, congrArg bln (go _ hs (by rw [hkm]; exact h1)).symm⟩
   ·simp only [retK, resD, retL, oneD, simprocAttr, Tryz.results42]
    exact ⟨_, rfl, rfl, congrArg bln (stop (by rw [hkm]; exact h1)).symm⟩
  ·obtain ⟨⟨kd, sp, nm⟩, gd, la, po, cl, li, pa, ho, ru, fr, to⟩ := o
   simp only at hk
   subst hk
   simp (maxSteps := 5000000) only [go_sem, simprocAttr, go_sem, hm]
   refine (thing_grant ⟨⟨7, sp, nm⟩, gd, la, po, cl, li, pa, ho, ru, fr, to⟩ h).callW (enters_of Tryz.func92 rfl rfl) _ false [(9, 500001)] [] [] [] rfl rfl rfl ?_
   rintro d bs ⟨rfl, rfl⟩
   simp (maxSteps := 5000000) only [go_sem, simprocAttr, go_sem]
   have hs : (⟨⟨7, sp, nm⟩, gd, la, po, cl, li, pa, ho, ru, fr, to⟩ : AObj).strip = { (⟨⟨7, sp, nm⟩, gd, la, po, cl, li, pa, ho, ru, fr, to⟩ : AObj) with from_ := [], to_ := [] } := by simp [AObj.strip]
   have hkm : kindMay (⟨⟨7, sp, nm⟩, gd, la, po, cl, li, pa, ho, ru, fr, to⟩ : AObj) = grantMay fr to := by simp [kindMay]
   refine Gif.mk (fun h1 => ?_) (fun h1 => ?_)
   ·refine (object_Same ({ (⟨⟨7, sp, nm⟩, gd, la, po, cl, li, pa, ho, ru, fr, to⟩ : AObj) with from_ := [], to_ := [] } : AObj) (AObj.zero ⟨7, sp, nm⟩) (strip_ok h (by simp) (by simp) (by simp) (by simp) (by simp) (by simp) (by simp) (by simp)) (AObj.zero_ok ⟨7, sp, nm⟩)).callX (enters_of Tryz.func53 rfl rfl) _ rfl rfl ?_
    rintro d rfl
    simp (maxSteps := 5000000) only [go_sem, simprocAttr, go_sem]
    simp only [retK, resD, retL, oneD, simprocAttr, Tryz.results42]
    exact ⟨_, rfl, rfl, congrArg bln (go _ hs (by rw [hkm]; exact h1)).symm⟩
   ·simp only [retK, resD, retL, oneD, simprocAttr, Tryz.results42]
    exact ⟨_, rfl, rfl, congrArg bln (stop (by rw [hkm]; exact h1)).symm⟩
 ·have hm' : mayRef o.ref = false := by simpa using hm
  simp (maxSteps := 5000000) only [go_sem, simprocAttr, go_sem, hm']
  simp only [retK, resD, retL, oneD, simprocAttr, Tryz.results42]
  exact ⟨_, rfl, rfl, congrArg bln (by simp [objMay, hm'])⟩


def few (s : ByteArray) : ByteArray := if s.size ≤ 100 then s else s.extract 0 100

set_option maxRecDepth 100000 in
theorem law1_Few (s : ByteArray) : Pure Tryz.prog 48 [str s] (fun d => d = str (few s)) := by
 refine pure_of_run follows an_zba9k Tryz.func48 rfl ok_zba9k.1 ok_zba9k.2 (by simp [Tryz.ntmps48]) ?_
 rw [run_start]
 by_cases h : 100 < s.size
 ·have h1 : (100 : Int) < (s.size : Int) := by omega
  have h2 : 100 ≤ s.size := by omega
  simp only [ac_zba9k, go_sem, simprocAttr, h1, h2]
  simp only [retK, resD, retL, oneD, simprocAttr, Tryz.results48]
  exact ⟨_, rfl, rfl, by simp [few, show ¬ s.size ≤ 100 by omega, D.pub]⟩
 ·have h1 : ¬ (100 : Int) < (s.size : Int) := by omega
  simp only [ac_zba9k, go_sem, simprocAttr, h1]
  simp only [retK, resD, retL, oneD, simprocAttr, Tryz.results48]
  exact ⟨_, rfl, rfl, by simp [few, show s.size ≤ 100 by omega, D.pub]⟩

def fewRef (r : ARef) : ARef := ⟨r.kind, few r.space, few r.name⟩

set_option maxRecDepth 100000 in
theorem law9_FewRef (r : ARef) : Pure Tryz.prog 18 [r.d] (fun d => d = (fewRef r).d) := by
 refine pure_of_run follows an_zn42u Tryz.func18 rfl ok_zn42u.1 ok_zn42u.2 (by simp [Tryz.ntmps18]) ?_
 rw [run_start]
 simp only [ac_zn42u, go_sem, simprocAttr, go_sem]
 refine (law1_Few r.space).callX (enters_of Tryz.func48 rfl rfl) _ rfl rfl ?_
 rintro d rfl
 simp only [go_sem, simprocAttr, go_sem]
 refine (law1_Few r.name).callX (enters_of Tryz.func48 rfl rfl) _ rfl rfl ?_
 rintro d rfl
 simp only [go_sem, simprocAttr, go_sem]
 simp only [retK, resD, resA, AOp.ex, St.ev, retL, oneD, simprocAttr, ret_zn42u]
 exact ⟨_, rfl, rfl, rfl⟩


theorem Reps.tell {g : Gh} {w : World} {d : D} : ∀ {ds : List D} {vs : List Value} (_ : Reps g w ds vs) (i : Nat) (_ : ∀ v, vs[i]? = some v → Rep g w d v), Reps g w (ds.set i d) vs
 | [], _, h, _, _ => by simpa using h
 | e :: ds, _, h, i, hd => by
   simp only [Reps] at h
   obtain ⟨v, vs', rfl, hv, hs⟩ := h
   cases i with
   | zero => exact ⟨v, vs', rfl, hd v rfl, hs⟩
   | succ i => exact ⟨v, vs', rfl, hv, Reps.tell hs i (fun u hu => hd u (by simpa using hu))⟩

theorem SR.tellB {C : Ctx} {st : St} {g : Gh} {a : Act} {w : World} (h : SR C st g a w) {n : Nat} {ds ds' : List D} (hn : lk st.bs n = some ds) (hd : ∀ vs, Reps g w ds vs → Reps g w ds' vs) : SR C { st with bs := (n, ds') :: st.bs } g a w := by
 have m := h.mem
 refine ⟨h.defers, h.size, h.rep, { m with bxs := fun k es hk => ?_ }, h.x, h.fix⟩
 simp only [lk] at hk
 split at hk
 ·rename_i hkn
  subst hkn
  cases hk
  obtain ⟨b, cs, t, h1, h2, h3⟩ := m.bxs _ ds hn
  exact ⟨b, cs, t, h1, h2, hd _ h3⟩
 ·exact m.bxs k es hk

theorem purges_at : ∀ (t : Nat) (ds : List D) (i : Nat), ds[i]? = some .nils → (D.purges t ds)[i]? = some .nils
 | _, [], _, h => by simp at h
 | t, d :: ds, 0, h => by
   simp only [List.getElem?_cons_zero, Option.some.injEq] at h
   subst h
   simp [D.purges, D.purge]
 | t, d :: ds, i + 1, h => by
   simp only [List.getElem?_cons_succ] at h
   simpa [D.purges] using purges_at t ds i h

theorem lk_purge {st : St} {t n : Nat} {ds : List D} (h : lk st.bs n = some ds) : lk (st.purge t).bs n = some (D.purges t ds) := by
 simp only [St.purge]
 rw [lk_map (fun ds => D.purges t ds) st.bs n, h]; rfl

theorem Weak.ownB0 {P : Program} {st : St} (n i t : Nat) (e : TypeId) {ti : TypeInfo} (hi : P.info? e = some ti) (hpos : 0 < ti.size) {ds : List D} (h : lk st.bs n = some ds) (hn : ds[i]? = some .nils) :
 Weak P st { st.purge t with bs := (n, (D.purges t ds).set i (.own e ti.size [] t)) :: (st.purge t).bs } := by
 intro C g a w hP hs
 subst hP
 have h1 := hs.purge t
 obtain ⟨h2, _⟩ := SR.owned h1 t (by simp) (grownBy_same w none) _ h1.x (fun k e => by cases e) (fun _ h => h) (fun k e => by cases e) e ti hi hpos (.slice none 0 0) 0 [] (World.ownsRow_nil _ _ _ _) (fun b hb => by cases hb) (fun b o _ hb => by cases hb)
 refine ⟨_, h2.tellB (lk_purge h) fun vs hv => ?_⟩
 refine hv.tell i fun v hvi => ?_
 obtain ⟨u, hu, hr⟩ := hv.get i _ (purges_at t ds i hn)
 rw [hvi] at hu
 cases hu
 simp only [Rep] at hr
 rw [hr]
 simp only [Rep]
 exact ⟨.empty _ _, by simp, by simp⟩

theorem Weak.ownB {P : Program} {st st' : St} (n i t : Nat) (e : TypeId) (sz : Nat) (hi : (P.info? e).map (·.size) = some sz) (hpos : 0 < sz) {ds : List D} (h : lk st.bs n = some ds) (hn : ds[i]? = some .nils)
 (hf : lessL st'.fr (st.purge t).fr) (hb : lessL st'.bs ((n, (D.purges t ds).set i (.own e sz [] t)) :: (st.purge t).bs)) (hm : lessL st'.ms st.ms) (hh : st'.hs = st.hs) : Weak P st st' := by
 obtain ⟨ti, h1, rfl⟩ := Option.map_eq_some_iff.1 hi
 exact (Weak.ownB0 n i t e h1 hpos h hn).trans (Weak.less hf hb hm hh)

theorem run_cut {P : Program} {x y : AC} {st s1 : St} {S : List Fr} {K : Exit → St → Prop} (h1 : ∀ K' : Exit → St → Prop, K' .normal s1 → run P x st (contS P [] K')) (h2 : run P y s1 (contS P S K)) : run P (.seq x y) st (contS P S K) := by
 rw [run_seq]; exact h1 (contS P (.seq y :: S) K) h2

theorem few_size (s : ByteArray) : (few s).size ≤ 100 := by
 unfold few
 split
 ·assumption
 ·simp [ByteArray.size_extract]; omega

theorem law3_Few (k : Int) (v : ByteArray) : Pure Tryz.prog 108 [.agg [int k, str v]] (fun d => d = .agg [int k, str (few v)]) := by
 refine pure_of_run follows an_zyx20 Tryz.func108 rfl ok_zyx20.1 ok_zyx20.2 (by simp [Tryz.ntmps108]) ?_
 rw [run_start]
 simp only [ac_zyx20, go_sem, simprocAttr]
 refine (law1_Few v).callW (enters_of Tryz.func48 rfl rfl) _ rfl rfl ?_
 rintro d rfl
 simp only [go_sem, simprocAttr]
 simp only [retK, resD, resA, AOp.ex, St.ev, retL, oneD, simprocAttr, ret_zyx20]
 exact ⟨_, rfl, rfl, rfl⟩

def fewPair (p : APair) : APair := ⟨few p.name, few p.val⟩
def fewPairs (l : List APair) : List APair := (l.take 31).map fewPair

theorem fewPair_ok (p : APair) : (fewPair p).ok := ⟨by have := few_size p.name; simp [fewPair]; omega, by have := few_size p.val; simp [fewPair]; omega⟩

theorem few_step {α β : Type} {f : β → List PD} {g : α → β} {l : List α} {i : Nat} {x : α} (h : l[i]? = some x) : rows f ((l.take i).map g) ++ [f (g x)] = rows f ((l.take (i + 1)).map g) := by
 rw [take_at h, List.map_append]; exact rows_one _ (g x)

theorem few_len {α β : Type} {f : β → List PD} {g : α → β} {l : List α} {i n : Nat} (h : i ≤ n) : (rows f ((l.take i).map g)).length ≤ n := by simp [rows]; omega

theorem few_end {α β : Type} {g : α → β} {l : List α} {i n : Nat} (h : i ≤ n) (hl : i ≤ l.length) (he : ¬ (i < l.length ∧ i < n)) : (l.take i).map g = (l.take n).map g := by
 rcases Nat.lt_or_ge i n with h6 | h6
 ·rw [List.take_of_length_le (by omega), List.take_of_length_le (by omega)]
 ·rw [show i = n by omega]

theorem law5_Few (l : List APair) : Pure Tryz.prog 55 [.pd (.slice (rows APair.pd l))] (fun d => d = .pd (.slice (rows APair.pd (fewPairs l)))) := by
 refine pure_of_run follows an_ztgmw Tryz.func55 rfl ok_ztgmw.1 ok_ztgmw.2 (by simp [Tryz.ntmps55]) ?_
 rw [run_start]
 simp only [ac_ztgmw, go_sem, simprocAttr]
 refine loopS (fun k st => ∃ i : Nat, k = 31 - i ∧ i ≤ 31 ∧ i ≤ l.length ∧
  st = ⟨[(0, .pd (.slice (rows APair.pd l))), (3, .own 166 2 (rows APair.pd ((l.take i).map fewPair)) 30), (4, int i)], [], [], .no⟩) 31 _
  ?_ ⟨0, rfl, by omega, by omega, rfl⟩ ?_
 ·exact Weak.own1 3 30 166 2 (by kernel_rfl) (by decide) rfl (by simp [lessL, lk, St.purge, St.put, D.purge, rows]) (by simp [lessL, lk, St.purge, D.purges, D.purge]) (by simp [lessL]) rfl
 rintro k st ⟨i, rfl, hi6, hi, rfl⟩
 have hw := i64_succ (show i < 1000000000 by omega)
 by_cases hlt : i < l.length ∧ i < 31
 ·obtain ⟨x, hx⟩ := at_lt hlt.1
  have h1 : ((i : Int) < (l.length : Int)) = True := eq_true (by omega)
  have h2 : ((i : Int) < 31) = True := eq_true (by omega)
  simp only [go_sem, simprocAttr, go_sem, rows_len, rows_get hx, h1, h2]
  refine (law1_Few x.name).callX (enters_of Tryz.func48 rfl rfl) _ rfl rfl ?_
  rintro d rfl
  simp only [go_sem, simprocAttr, go_sem, rows_len, rows_get hx]
  refine (law1_Few x.val).callX (enters_of Tryz.func48 rfl rfl) _ rfl rfl ?_
  rintro d rfl
  simp only [go_sem, simprocAttr, go_sem, hw]
  have hl := few_len (f := APair.pd) (g := fewPair) (l := l) hi6
  have hl2 := hl
  rw [rows_len] at hl2
  have e1 : rows APair.pd ((l.take i).map fewPair) ++ [[PD.raw (Value.string (few x.name)), PD.raw (Value.string (few x.val))]] = rows APair.pd ((l.take (i + 1)).map fewPair) := few_step hx
  rw [e1]
  refine ⟨by simp, by unfold maxLen; omega, by omega, 31 - (i + 1), _, by omega, ?_, i + 1, rfl, by omega, by omega, rfl⟩
  exact lessA
 ·have h3 := few_end (g := fewPair) hi6 hi hlt
  rw [h3]
  by_cases h1 : i < l.length
  ·have h1' : ((i : Int) < (l.length : Int)) = True := eq_true (by omega)
   have h2 : ((i : Int) < 31) = False := eq_false (by omega)
   simp only [go_sem, simprocAttr, go_sem, rows_len, h1', h2]
   simp only [retK, resD, retL, oneD, simprocAttr, Tryz.results55]
   exact ⟨_, rfl, rfl, rfl⟩
  ·have h1' : ((i : Int) < (l.length : Int)) = False := eq_false (by omega)
   simp only [go_sem, simprocAttr, go_sem, rows_len, h1']
   simp only [retK, resD, retL, oneD, simprocAttr, Tryz.results55]
   exact ⟨_, rfl, rfl, rfl⟩

def fewFilter (f : AFilter) : AFilter := { f with name := few f.name, val := few f.val, host := few f.host, path := few f.path }
def fewFilters (l : List AFilter) : List AFilter := (l.take 9).map fewFilter
def fewSide (s : ASide) : ASide := ⟨s.kind, few s.space, few s.name⟩
def fewSides (l : List ASide) : List ASide := (l.take 5).map fewSide

theorem law7_Few (l : List AFilter) : Pure Tryz.prog 58 [.pd (.slice (rows AFilter.pd l))] (fun d => d = .pd (.slice (rows AFilter.pd (fewFilters l)))) := by
 refine pure_of_run follows an_z9moo Tryz.func58 rfl ok_z9moo.1 ok_z9moo.2 (by simp [Tryz.ntmps58]) ?_
 rw [run_start]
 simp only [ac_z9moo, go_sem, simprocAttr]
 refine loopS (fun k st => ∃ i : Nat, k = 9 - i ∧ i ≤ 9 ∧ i ≤ l.length ∧
  st = ⟨[(0, .pd (.slice (rows AFilter.pd l))), (3, .own 176 8 (rows AFilter.pd ((l.take i).map fewFilter)) 39), (4, int i)], [], [], .no⟩) 9 _
  ?_ ⟨0, rfl, by omega, by omega, rfl⟩ ?_
 ·exact Weak.own1 3 39 176 8 (by kernel_rfl) (by decide) rfl (by simp [lessL, lk, St.purge, St.put, D.purge, rows]) (by simp [lessL, lk, St.purge, D.purges, D.purge]) (by simp [lessL]) rfl
 rintro k st ⟨i, rfl, hi6, hi, rfl⟩
 have hw := i64_succ (show i < 1000000000 by omega)
 by_cases hlt : i < l.length ∧ i < 9
 ·obtain ⟨x, hx⟩ := at_lt hlt.1
  have h1 : ((i : Int) < (l.length : Int)) = True := eq_true (by omega)
  have h2 : ((i : Int) < 9) = True := eq_true (by omega)
  simp only [go_sem, simprocAttr, rows_get hx, h1, h2]
  refine (law1_Few x.name).callX (enters_of Tryz.func48 rfl rfl) _ rfl rfl ?_
  rintro d rfl
  simp only [go_sem, simprocAttr, rows_get hx]
  refine (law1_Few x.val).callX (enters_of Tryz.func48 rfl rfl) _ rfl rfl ?_
  rintro d rfl
  simp only [go_sem, simprocAttr, rows_get hx]
  refine (law1_Few x.host).callX (enters_of Tryz.func48 rfl rfl) _ rfl rfl ?_
  rintro d rfl
  simp only [go_sem, simprocAttr, rows_get hx]
  refine (law1_Few x.path).callX (enters_of Tryz.func48 rfl rfl) _ rfl rfl ?_
  rintro d rfl
  simp only [go_sem, simprocAttr, rows_get hx, hw]
  have hl := few_len (f := AFilter.pd) (g := fewFilter) (l := l) hi6
  have hl2 := hl
  rw [rows_len] at hl2
  have hl' : ((l.take i).map fewFilter).length ≤ i := by simp; omega
  have e1 : rows AFilter.pd ((l.take i).map fewFilter) ++ [[PD.raw (Value.int IntKind.i64 x.kind), PD.raw (Value.string (few x.name)), PD.raw (Value.string (few x.val)), PD.raw (Value.string (few x.host)), PD.raw (Value.int IntKind.i64 x.port), PD.raw (Value.string (few x.path)), PD.raw (Value.bool x.whole), PD.raw (Value.int IntKind.i64 x.code)]] = rows AFilter.pd ((l.take (i + 1)).map fewFilter) := few_step hx
  rw [e1]
  refine ⟨by simp, by unfold maxLen; omega, by omega, 9 - (i + 1), _, by omega, ?_, i + 1, rfl, by omega, by omega, rfl⟩
  exact lessA
 ·have h3 := few_end (g := fewFilter) hi6 hi hlt
  rw [h3]
  by_cases h1 : i < l.length
  ·have h1' : ((i : Int) < (l.length : Int)) = True := eq_true (by omega)
   have h2 : ((i : Int) < 9) = False := eq_false (by omega)
   simp only [go_sem, simprocAttr, h1', h2]
   simp only [retK, resD, retL, oneD, simprocAttr, Tryz.results58]
   exact ⟨_, rfl, rfl, rfl⟩
  ·have h1' : ((i : Int) < (l.length : Int)) = False := eq_false (by omega)
   simp only [go_sem, simprocAttr, h1']
   simp only [retK, resD, retL, oneD, simprocAttr, Tryz.results58]
   exact ⟨_, rfl, rfl, rfl⟩

theorem law9_sides (l : List ASide) : Pure Tryz.prog 56 [.pd (.slice (rows ASide.pd l))] (fun d => d = .pd (.slice (rows ASide.pd (fewSides l)))) := by
 refine pure_of_run follows an_zg0x2 Tryz.func56 rfl ok_zg0x2.1 ok_zg0x2.2 (by simp [Tryz.ntmps56]) ?_
 rw [run_start]
 simp only [ac_zg0x2, go_sem, simprocAttr]
 refine loopS (fun k st => ∃ i : Nat, k = 5 - i ∧ i ≤ 5 ∧ i ≤ l.length ∧
  st = ⟨[(0, .pd (.slice (rows ASide.pd l))), (3, .own 142 3 (rows ASide.pd ((l.take i).map fewSide)) 35), (4, int i)], [], [], .no⟩) 5 _
  ?_ ⟨0, rfl, by omega, by omega, rfl⟩ ?_
 ·exact Weak.own1 3 35 142 3 (by kernel_rfl) (by decide) rfl (by simp [lessL, lk, St.purge, St.put, D.purge, rows]) (by simp [lessL, lk, St.purge, D.purges, D.purge]) (by simp [lessL]) rfl
 rintro k st ⟨i, rfl, hi6, hi, rfl⟩
 have hw := i64_succ (show i < 1000000000 by omega)
 by_cases hlt : i < l.length ∧ i < 5
 ·obtain ⟨x, hx⟩ := at_lt hlt.1
  have h1 : ((i : Int) < (l.length : Int)) = True := eq_true (by omega)
  have h2 : ((i : Int) < 5) = True := eq_true (by omega)
  simp only [go_sem, simprocAttr, rows_get hx, h1, h2]
  refine (law1_Few x.space).callX (enters_of Tryz.func48 rfl rfl) _ rfl rfl ?_
  rintro d rfl
  simp only [go_sem, simprocAttr, rows_get hx]
  refine (law1_Few x.name).callX (enters_of Tryz.func48 rfl rfl) _ rfl rfl ?_
  rintro d rfl
  simp only [go_sem, simprocAttr, rows_get hx, hw]
  have hl := few_len (f := ASide.pd) (g := fewSide) (l := l) hi6
  have hl2 := hl
  rw [rows_len] at hl2
  have hl' : ((l.take i).map fewSide).length ≤ i := by simp; omega
  have e1 : rows ASide.pd ((l.take i).map fewSide) ++ [[PD.raw (Value.int IntKind.i64 x.kind), PD.raw (Value.string (few x.space)), PD.raw (Value.string (few x.name))]] = rows ASide.pd ((l.take (i + 1)).map fewSide) := few_step hx
  rw [e1]
  refine ⟨by simp, by unfold maxLen; omega, by omega, 5 - (i + 1), _, by omega, ?_, i + 1, rfl, by omega, by omega, rfl⟩
  exact lessA
 ·have h3 := few_end (g := fewSide) hi6 hi hlt
  rw [h3]
  by_cases h1 : i < l.length
  ·have h1' : ((i : Int) < (l.length : Int)) = True := eq_true (by omega)
   have h2 : ((i : Int) < 5) = False := eq_false (by omega)
   simp only [go_sem, simprocAttr, h1', h2]
   simp only [retK, resD, retL, oneD, simprocAttr, Tryz.results56]
   exact ⟨_, rfl, rfl, rfl⟩
  ·have h1' : ((i : Int) < (l.length : Int)) = False := eq_false (by omega)
   simp only [go_sem, simprocAttr, h1']
   simp only [retK, resD, retL, oneD, simprocAttr, Tryz.results56]
   exact ⟨_, rfl, rfl, rfl⟩

def fewMatch (m : AMatch) : AMatch := ⟨m.pkind, few m.pval, few m.method, fewPairs m.head, fewPairs m.query⟩

theorem law6_Few (m : AMatch) : Pure Tryz.prog 59 [m.d] (fun d => d = (fewMatch m).d) := by
 refine pure_of_run follows an_zt3fs Tryz.func59 rfl ok_zt3fs.1 ok_zt3fs.2 (by simp [Tryz.ntmps59]) ?_
 rw [run_start]
 simp only [ac_zt3fs, go_sem, simprocAttr]
 refine (law3_Few m.pkind m.pval).callX (enters_of Tryz.func108 rfl rfl) _ rfl rfl ?_
 rintro d rfl
 simp only [go_sem, simprocAttr]
 refine (law1_Few m.method).callX (enters_of Tryz.func48 rfl rfl) _ rfl rfl ?_
 rintro d rfl
 simp only [go_sem, simprocAttr]
 refine (law5_Few m.head).callX (enters_of Tryz.func55 rfl rfl) _ rfl rfl ?_
 rintro d rfl
 simp only [go_sem, simprocAttr]
 refine (law5_Few m.query).callX (enters_of Tryz.func55 rfl rfl) _ rfl rfl ?_
 rintro d rfl
 simp only [go_sem, simprocAttr]
 simp only [retK, resD, resA, AOp.ex, St.ev, retL, oneD, simprocAttr, ret_zt3fs]
 exact ⟨_, rfl, rfl, rfl⟩

def fewNeed (n : ANeed) : ANeed := ⟨n.kind, few n.name, (n.vals.take 9).map few⟩
def fewNeeds (l : List ANeed) : List ANeed := (l.take 9).map fewNeed

theorem law8_Few (l : List ANeed) : Pure Tryz.prog 57 [.pd (.slice (rows ANeed.pd l))] (fun d => d = .pd (.slice (rows ANeed.pd (fewNeeds l)))) := by
 refine pure_of_run follows an_zpih5 Tryz.func57 rfl ok_zpih5.1 ok_zpih5.2 (by simp [Tryz.ntmps57]) ?_
 rw [run_start]
 simp only [ac_zpih5, go_sem, simprocAttr]
 refine loopS (fun k st => ∃ i : Nat, k = 9 - i ∧ i ≤ 9 ∧ i ≤ l.length ∧
  st = ⟨[(0, .pd (.slice (rows ANeed.pd l))), (3, .own 174 3 (rows ANeed.pd ((l.take i).map fewNeed)) 60), (4, int i)], [], [], .no⟩) 9 _
  ?_ ⟨0, rfl, by omega, by omega, rfl⟩ ?_
 ·exact Weak.own1 3 60 174 3 (by kernel_rfl) (by decide) rfl (by simp [lessL, lk, St.purge, St.put, D.purge, rows]) (by simp [lessL, lk, St.purge, D.purges, D.purge]) (by simp [lessL]) rfl
 rintro k st ⟨i, rfl, hi6, hi, rfl⟩
 have hw := i64_succ (show i < 1000000000 by omega)
 by_cases hlt : i < l.length ∧ i < 9
 ·obtain ⟨x, hx⟩ := at_lt hlt.1
  have h1 : ((i : Int) < (l.length : Int)) = True := eq_true (by omega)
  have h2 : ((i : Int) < 9) = True := eq_true (by omega)
  apply run_cut
  ·intro K' hK
   simp only [go_sem, simprocAttr, h1, h2]
   exact hK
  apply run_cut
  ·intro K' hK
   rw [run_block]
   apply run_cut
   ·intro K'' hK'
    simp only [go_sem, simprocAttr, rows_get hx]
    repeat' (first | exact hK' | (refine (law1_Few x.name).callX (enters_of Tryz.func48 rfl rfl) _ rfl rfl ?_; rintro _ rfl; simp only [go_sem, simprocAttr, rows_get hx]) | refine And.intro ?_ ?_)
   simp only [go_sem, simprocAttr]
   refine loopS (fun k st => ∃ j : Nat, k = 9 - j ∧ j ≤ 9 ∧ j ≤ x.vals.length ∧
    st = ⟨[(0, .pd (.slice (rows ANeed.pd l))), (3, .own 174 3 (rows ANeed.pd ((l.take i).map fewNeed)) 60), (4, int i), (5, .ptr 5 0), (6, int j)],
     [(5, [int x.kind, str (few x.name), .own 9 1 (strs ((x.vals.take j).map few)) 55])], [], .no⟩) 9 _
    ?_ ⟨0, rfl, by omega, by omega, rfl⟩ ?_
   ·exact Weak.ownB 5 2 55 9 1 (by kernel_rfl) (by decide) rfl rfl (by simp [lessL, lk, St.purge, D.purge, rows]) (by simp [lessL, lk, St.purge, D.purges, D.purge, rows]) (by simp [lessL]) rfl
   rintro k st ⟨j, rfl, hj6, hj, rfl⟩
   have hwj := i64_succ (show j < 1000000000 by omega)
   by_cases hltj : j < x.vals.length ∧ j < 9
   ·obtain ⟨v, hv⟩ := at_lt hltj.1
    have h1' : ((j : Int) < (x.vals.length : Int)) = True := eq_true (by omega)
    have h2' : ((j : Int) < 9) = True := eq_true (by omega)
    simp only [go_sem, simprocAttr, rows_get hx, rows_get hv, h1', h2']
    refine (law1_Few v).callX (enters_of Tryz.func48 rfl rfl) _ rfl rfl ?_
    rintro d rfl
    simp only [go_sem, simprocAttr, rows_get hx, rows_get hv, hwj]
    have e1 : strs ((x.vals.take j).map few) ++ [[PD.raw (Value.string (few v))]] = strs ((x.vals.take (j + 1)).map few) := few_step hv
    have hl : (strs ((x.vals.take j).map few)).length ≤ 9 := few_len hj6
    have hl2 := hl
    rw [rows_len] at hl2
    rw [e1]
    refine ⟨by simp, by unfold maxLen; omega, by omega, 9 - (j + 1), _, by omega, ?_, j + 1, rfl, by omega, by omega, rfl⟩
    exact lessA
   ·have h3 := few_end (g := few) hj6 hj hltj
    rw [h3]
    have hl' : ((l.take i).map fewNeed).length ≤ i := by simp; omega
    have e1 : rows ANeed.pd ((l.take i).map fewNeed) ++ [[pInt x.kind, pStr (few x.name), .slice (strs ((x.vals.take 9).map few))]] = rows ANeed.pd ((l.take (i + 1)).map fewNeed) := few_step hx
    by_cases h1 : j < x.vals.length
    ·have h1' : ((j : Int) < (x.vals.length : Int)) = True := eq_true (by omega)
     have h2' : ((j : Int) < 9) = False := eq_false (by omega)
     simp only [go_sem, simprocAttr, rows_get hx, rows_len, h1', h2']
     refine ⟨by simp, by unfold maxLen; omega, by omega, ?_⟩
     rw [e1]
     exact hK
    ·have h1' : ((j : Int) < (x.vals.length : Int)) = False := eq_false (by omega)
     simp only [go_sem, simprocAttr, rows_get hx, rows_len, h1']
     refine ⟨by simp, by unfold maxLen; omega, by omega, ?_⟩
     rw [e1]
     exact hK
  simp only [go_sem, simprocAttr, hw]
  refine ⟨9 - (i + 1), _, by omega, ?_, i + 1, rfl, by omega, by omega, rfl⟩
  exact lessA
 ·have h3 := few_end (g := fewNeed) hi6 hi hlt
  rw [h3]
  by_cases h1 : i < l.length
  ·have h1' : ((i : Int) < (l.length : Int)) = True := eq_true (by omega)
   have h2 : ((i : Int) < 9) = False := eq_false (by omega)
   simp only [go_sem, simprocAttr, h1', h2]
   simp only [retK, resD, retL, oneD, simprocAttr, Tryz.results57]
   exact ⟨_, rfl, rfl, rfl⟩
  ·have h1' : ((i : Int) < (l.length : Int)) = False := eq_false (by omega)
   simp only [go_sem, simprocAttr, h1']
   simp only [retK, resD, retL, oneD, simprocAttr, Tryz.results57]
   exact ⟨_, rfl, rfl, rfl⟩


theorem run_cutJ {P : Program} {x y : AC} {st : St} {S : List Fr} {K : Exit → St → Prop} (J : St → Prop) (h1 : ∀ K' : Exit → St → Prop, (∀ s, J s → K' .normal s) → run P x st (contS P [] K')) (h2 : ∀ s, J s → run P y s (contS P S K)) : run P (.seq x y) st (contS P S K) := by
 rw [run_seq]; exact h1 (contS P (.seq y :: S) K) h2

def fewListener (l : AListener) : AListener := ⟨few l.name, l.port, l.tls, few l.host, fewRef l.cert, l.from_, fewNeeds l.needs⟩
def fewParent (p : AParent) : AParent := ⟨few p.space, few p.name, few p.section_, p.port⟩
def fewBackend (b : ABackend) : ABackend := ⟨fewRef b.ref, b.port, b.weight⟩
def fewRule (r : ARule) : ARule := ⟨(r.matches_.take 5).map fewMatch, fewFilters r.filters, (r.backends.take 5).map fewBackend⟩
def fewObj (o : AObj) : AObj := ⟨fewRef o.ref, o.good, fewPairs o.labels, o.ports.take 9, few o.cls, (o.listeners.take 9).map fewListener, (o.parents.take 5).map fewParent, (o.hosts.take 5).map few, (o.rules.take 7).map fewRule, fewSides o.from_, fewSides o.to_⟩

set_option maxHeartbeats 4000000 in
theorem law9_Few (o : AObj) : Pure Tryz.prog 28 [o.d] (fun d => d = (fewObj o).d) := by
 refine pure_of_run follows an_z8s55 Tryz.func28 rfl ok_z8s55.1 ok_z8s55.2 (by simp [Tryz.ntmps28]) ?_
 rw [run_start]
 simp only [ac_z8s55]
 apply run_cut
 ·intro K' hK
  simp only [go_sem, simprocAttr]
  exact hK
 apply run_cut
 ·intro K' hK
  simp only [go_sem, simprocAttr]
  repeat' (first | exact hK | (refine (law9_FewRef o.ref).callX (enters_of Tryz.func18 rfl rfl) _ rfl rfl ?_; rintro _ rfl; simp only [go_sem, simprocAttr]) | (refine (law5_Few o.labels).callX (enters_of Tryz.func55 rfl rfl) _ rfl rfl ?_; rintro _ rfl; simp only [go_sem, simprocAttr]) | (refine (law1_Few o.cls).callX (enters_of Tryz.func48 rfl rfl) _ rfl rfl ?_; rintro _ rfl; simp only [go_sem, simprocAttr]) | (refine (law9_sides o.from_).callX (enters_of Tryz.func56 rfl rfl) _ rfl rfl ?_; rintro _ rfl; simp only [go_sem, simprocAttr]) | (refine (law9_sides o.to_).callX (enters_of Tryz.func56 rfl rfl) _ rfl rfl ?_; rintro _ rfl; simp only [go_sem, simprocAttr]) | refine And.intro ?_ ?_)
 refine run_cutJ (fun s => ∃ i : Nat, s = ⟨[(41, bln false), (1, .ptr 1 0), (2, .ptr 2 0), (3, .ptr 3 0), (4, int i), (41, bln false)], [(1, [int o.ref.kind, str o.ref.space, str o.ref.name, bln o.good, .pd (.slice (rows APair.pd o.labels)), .pd (.slice (ints o.ports)), str o.cls, .pd (.slice (rows AListener.pd o.listeners)), .pd (.slice (rows AParent.pd o.parents)), .pd (.slice (strs o.hosts)), .pd (.slice (rows ARule.pd o.rules)), .pd (.slice (rows ASide.pd o.from_)), .pd (.slice (rows ASide.pd o.to_))]), (2, [int 0, str ⟨#[]⟩, str ⟨#[]⟩, bln false, .nils, .nils, str ⟨#[]⟩, .nils, .nils, .nils, .nils, .nils, .nils]), (3, [int (fewRef o.ref).kind, str (fewRef o.ref).space, str (fewRef o.ref).name, bln o.good, .pd (.slice (rows APair.pd (fewPairs o.labels))), .own 3 1 (rows cInt ((o.ports.take 9).map id)) 52, str (few o.cls), .nils, .nils, .nils, .nils, .pd (.slice (rows ASide.pd (fewSides o.from_))), .pd (.slice (rows ASide.pd (fewSides o.to_)))])], [], .no⟩) ?_ ?_
 ·intro K' hK
  simp only [go_sem, simprocAttr]
  refine loopS (fun k st => ∃ i : Nat, k = 9 - i ∧ i ≤ 9 ∧ i ≤ o.ports.length ∧
   st = ⟨[(1, .ptr 1 0), (2, .ptr 2 0), (3, .ptr 3 0), (4, int i)], [(1, [int o.ref.kind, str o.ref.space, str o.ref.name, bln o.good, .pd (.slice (rows APair.pd o.labels)), .pd (.slice (ints o.ports)), str o.cls, .pd (.slice (rows AListener.pd o.listeners)), .pd (.slice (rows AParent.pd o.parents)), .pd (.slice (strs o.hosts)), .pd (.slice (rows ARule.pd o.rules)), .pd (.slice (rows ASide.pd o.from_)), .pd (.slice (rows ASide.pd o.to_))]), (2, [int 0, str ⟨#[]⟩, str ⟨#[]⟩, bln false, .nils, .nils, str ⟨#[]⟩, .nils, .nils, .nils, .nils, .nils, .nils]), (3, [int (fewRef o.ref).kind, str (fewRef o.ref).space, str (fewRef o.ref).name, bln o.good, .pd (.slice (rows APair.pd (fewPairs o.labels))), .own 3 1 (rows cInt ((o.ports.take i).map id)) 52, str (few o.cls), .nils, .nils, .nils, .nils, .pd (.slice (rows ASide.pd (fewSides o.from_))), .pd (.slice (rows ASide.pd (fewSides o.to_)))])], [], .no⟩) 9 _
   ?_ ⟨0, rfl, by omega, by omega, rfl⟩ ?_
  ·exact Weak.ownB 3 5 52 3 1 (by kernel_rfl) (by decide) rfl rfl (by simp [lessL, lk, St.purge, D.purge, rows]) (by simp [lessL, lk, St.purge, D.purges, D.purge, rows]) (by simp [lessL]) rfl
  rintro k st ⟨i, rfl, hi6, hi, rfl⟩
  have hw := i64_succ (show i < 1000000000 by omega)
  by_cases hlt : i < o.ports.length ∧ i < 9
  ·obtain ⟨x, hx⟩ := at_lt hlt.1
   have h1 : ((i : Int) < (o.ports.length : Int)) = True := eq_true (by omega)
   have h2 : ((i : Int) < 9) = True := eq_true (by omega)
   have hl' : ((o.ports.take i).map id).length ≤ i := by simp; omega
   have e1 : rows cInt ((o.ports.take i).map id) ++ [[PD.raw (Value.int IntKind.i64 x)]] = rows cInt ((o.ports.take (i + 1)).map id) := few_step hx
   simp only [go_sem, simprocAttr, rows_get hx, h1, h2]
   simp only [go_sem, simprocAttr, hw, e1]
   refine ⟨by simp, by unfold maxLen; omega, by omega, 9 - (i + 1), _, by omega, ?_, i + 1, rfl, by omega, by omega, rfl⟩
   exact lessA
  ·have h3 := few_end (g := id) hi6 hi hlt
   rw [h3]
   by_cases h1 : i < o.ports.length
   ·have h1' : ((i : Int) < (o.ports.length : Int)) = True := eq_true (by omega)
    have h2 : ((i : Int) < 9) = False := eq_false (by omega)
    simp only [go_sem, simprocAttr, h1', h2]
    exact hK _ ⟨i, rfl⟩
   ·have h1' : ((i : Int) < (o.ports.length : Int)) = False := eq_false (by omega)
    simp only [go_sem, simprocAttr, h1']
    exact hK _ ⟨i, rfl⟩
 rintro s ⟨_, rfl⟩
 refine run_cutJ (fun s => ∃ i : Nat, s = ⟨[(62, bln false), (1, .ptr 1 0), (2, .ptr 2 0), (3, .ptr 3 0), (5, int i), (62, bln false)], [(1, [int o.ref.kind, str o.ref.space, str o.ref.name, bln o.good, .pd (.slice (rows APair.pd o.labels)), .pd (.slice (ints o.ports)), str o.cls, .pd (.slice (rows AListener.pd o.listeners)), .pd (.slice (rows AParent.pd o.parents)), .pd (.slice (strs o.hosts)), .pd (.slice (rows ARule.pd o.rules)), .pd (.slice (rows ASide.pd o.from_)), .pd (.slice (rows ASide.pd o.to_))]), (2, [int 0, str ⟨#[]⟩, str ⟨#[]⟩, bln false, .nils, .nils, str ⟨#[]⟩, .nils, .nils, .nils, .nils, .nils, .nils]), (3, [int (fewRef o.ref).kind, str (fewRef o.ref).space, str (fewRef o.ref).name, bln o.good, .pd (.slice (rows APair.pd (fewPairs o.labels))), .own 3 1 (rows cInt ((o.ports.take 9).map id)) 52, str (few o.cls), .own 122 9 (rows AListener.pd ((o.listeners.take 9).map fewListener)) 92, .nils, .nils, .nils, .pd (.slice (rows ASide.pd (fewSides o.from_))), .pd (.slice (rows ASide.pd (fewSides o.to_)))])], [], .no⟩) ?_ ?_
 ·intro K' hK
  simp only [go_sem, simprocAttr]
  refine loopS (fun k st => ∃ i : Nat, k = 9 - i ∧ i ≤ 9 ∧ i ≤ o.listeners.length ∧
   st = ⟨[(1, .ptr 1 0), (2, .ptr 2 0), (3, .ptr 3 0), (5, int i)], [(1, [int o.ref.kind, str o.ref.space, str o.ref.name, bln o.good, .pd (.slice (rows APair.pd o.labels)), .pd (.slice (ints o.ports)), str o.cls, .pd (.slice (rows AListener.pd o.listeners)), .pd (.slice (rows AParent.pd o.parents)), .pd (.slice (strs o.hosts)), .pd (.slice (rows ARule.pd o.rules)), .pd (.slice (rows ASide.pd o.from_)), .pd (.slice (rows ASide.pd o.to_))]), (2, [int 0, str ⟨#[]⟩, str ⟨#[]⟩, bln false, .nils, .nils, str ⟨#[]⟩, .nils, .nils, .nils, .nils, .nils, .nils]), (3, [int (fewRef o.ref).kind, str (fewRef o.ref).space, str (fewRef o.ref).name, bln o.good, .pd (.slice (rows APair.pd (fewPairs o.labels))), .own 3 1 (rows cInt ((o.ports.take 9).map id)) 52, str (few o.cls), .own 122 9 (rows AListener.pd ((o.listeners.take i).map fewListener)) 92, .nils, .nils, .nils, .pd (.slice (rows ASide.pd (fewSides o.from_))), .pd (.slice (rows ASide.pd (fewSides o.to_)))])], [], .no⟩) 9 _
   ?_ ⟨0, rfl, by omega, by omega, rfl⟩ ?_
  ·exact Weak.ownB 3 7 92 122 9 (by kernel_rfl) (by decide) rfl rfl (by simp [lessL, lk, St.purge, D.purge, rows]) (by simp [lessL, lk, St.purge, D.purges, D.purge, rows]) (by simp [lessL]) rfl
  rintro k st ⟨i, rfl, hi6, hi, rfl⟩
  have hw := i64_succ (show i < 1000000000 by omega)
  by_cases hlt : i < o.listeners.length ∧ i < 9
  ·obtain ⟨x, hx⟩ := at_lt hlt.1
   have h1 : ((i : Int) < (o.listeners.length : Int)) = True := eq_true (by omega)
   have h2 : ((i : Int) < 9) = True := eq_true (by omega)
   have hl' : ((o.listeners.take i).map fewListener).length ≤ i := by simp; omega
   have e1 : rows AListener.pd ((o.listeners.take i).map fewListener) ++ [[PD.raw (Value.string (few x.name)), PD.raw (Value.int IntKind.i64 x.port), PD.raw (Value.bool x.tls), PD.raw (Value.string (few x.host)), PD.raw (Value.int IntKind.i64 (fewRef x.cert).kind), PD.raw (Value.string ((fewRef x.cert).space)), PD.raw (Value.string ((fewRef x.cert).name)), PD.raw (Value.int IntKind.i64 x.from_), PD.slice (rows ANeed.pd (fewNeeds x.needs))]] = rows AListener.pd ((o.listeners.take (i + 1)).map fewListener) := few_step hx
   simp only [go_sem, simprocAttr, rows_get hx, h1, h2]
   repeat' (first | (refine (law1_Few x.name).callX (enters_of Tryz.func48 rfl rfl) _ rfl rfl ?_; rintro _ rfl; simp only [go_sem, simprocAttr, rows_get hx]) | (refine (law1_Few x.host).callX (enters_of Tryz.func48 rfl rfl) _ rfl rfl ?_; rintro _ rfl; simp only [go_sem, simprocAttr, rows_get hx]) | (refine (law9_FewRef x.cert).callX (enters_of Tryz.func18 rfl rfl) _ rfl rfl ?_; rintro _ rfl; simp only [go_sem, simprocAttr, rows_get hx]) | (refine (law8_Few x.needs).callX (enters_of Tryz.func57 rfl rfl) _ rfl rfl ?_; rintro _ rfl; simp only [go_sem, simprocAttr, rows_get hx]))
   simp only [go_sem, simprocAttr, hw, e1]
   refine ⟨by simp, by unfold maxLen; omega, by omega, 9 - (i + 1), _, by omega, ?_, i + 1, rfl, by omega, by omega, rfl⟩
   exact lessA
  ·have h3 := few_end (g := fewListener) hi6 hi hlt
   rw [h3]
   by_cases h1 : i < o.listeners.length
   ·have h1' : ((i : Int) < (o.listeners.length : Int)) = True := eq_true (by omega)
    have h2 : ((i : Int) < 9) = False := eq_false (by omega)
    simp only [go_sem, simprocAttr, h1', h2]
    exact hK _ ⟨i, rfl⟩
   ·have h1' : ((i : Int) < (o.listeners.length : Int)) = False := eq_false (by omega)
    simp only [go_sem, simprocAttr, h1']
    exact hK _ ⟨i, rfl⟩
 rintro s ⟨_, rfl⟩
 refine run_cutJ (fun s => ∃ i : Nat, s = ⟨[(102, bln false), (1, .ptr 1 0), (2, .ptr 2 0), (3, .ptr 3 0), (7, int i), (102, bln false)], [(1, [int o.ref.kind, str o.ref.space, str o.ref.name, bln o.good, .pd (.slice (rows APair.pd o.labels)), .pd (.slice (ints o.ports)), str o.cls, .pd (.slice (rows AListener.pd o.listeners)), .pd (.slice (rows AParent.pd o.parents)), .pd (.slice (strs o.hosts)), .pd (.slice (rows ARule.pd o.rules)), .pd (.slice (rows ASide.pd o.from_)), .pd (.slice (rows ASide.pd o.to_))]), (2, [int 0, str ⟨#[]⟩, str ⟨#[]⟩, bln false, .nils, .nils, str ⟨#[]⟩, .nils, .nils, .nils, .nils, .nils, .nils]), (3, [int (fewRef o.ref).kind, str (fewRef o.ref).space, str (fewRef o.ref).name, bln o.good, .pd (.slice (rows APair.pd (fewPairs o.labels))), .own 3 1 (rows cInt ((o.ports.take 9).map id)) 52, str (few o.cls), .own 122 9 (rows AListener.pd ((o.listeners.take 9).map fewListener)) 92, .own 99 4 (rows AParent.pd ((o.parents.take 5).map fewParent)) 125, .nils, .nils, .pd (.slice (rows ASide.pd (fewSides o.from_))), .pd (.slice (rows ASide.pd (fewSides o.to_)))])], [], .no⟩) ?_ ?_
 ·intro K' hK
  simp only [go_sem, simprocAttr]
  refine loopS (fun k st => ∃ i : Nat, k = 5 - i ∧ i ≤ 5 ∧ i ≤ o.parents.length ∧
   st = ⟨[(1, .ptr 1 0), (2, .ptr 2 0), (3, .ptr 3 0), (7, int i)], [(1, [int o.ref.kind, str o.ref.space, str o.ref.name, bln o.good, .pd (.slice (rows APair.pd o.labels)), .pd (.slice (ints o.ports)), str o.cls, .pd (.slice (rows AListener.pd o.listeners)), .pd (.slice (rows AParent.pd o.parents)), .pd (.slice (strs o.hosts)), .pd (.slice (rows ARule.pd o.rules)), .pd (.slice (rows ASide.pd o.from_)), .pd (.slice (rows ASide.pd o.to_))]), (2, [int 0, str ⟨#[]⟩, str ⟨#[]⟩, bln false, .nils, .nils, str ⟨#[]⟩, .nils, .nils, .nils, .nils, .nils, .nils]), (3, [int (fewRef o.ref).kind, str (fewRef o.ref).space, str (fewRef o.ref).name, bln o.good, .pd (.slice (rows APair.pd (fewPairs o.labels))), .own 3 1 (rows cInt ((o.ports.take 9).map id)) 52, str (few o.cls), .own 122 9 (rows AListener.pd ((o.listeners.take 9).map fewListener)) 92, .own 99 4 (rows AParent.pd ((o.parents.take i).map fewParent)) 125, .nils, .nils, .pd (.slice (rows ASide.pd (fewSides o.from_))), .pd (.slice (rows ASide.pd (fewSides o.to_)))])], [], .no⟩) 5 _
   ?_ ⟨0, rfl, by omega, by omega, rfl⟩ ?_
  ·exact Weak.ownB 3 8 125 99 4 (by kernel_rfl) (by decide) rfl rfl (by simp [lessL, lk, St.purge, D.purge, rows]) (by simp [lessL, lk, St.purge, D.purges, D.purge, rows]) (by simp [lessL]) rfl
  rintro k st ⟨i, rfl, hi6, hi, rfl⟩
  have hw := i64_succ (show i < 1000000000 by omega)
  by_cases hlt : i < o.parents.length ∧ i < 5
  ·obtain ⟨x, hx⟩ := at_lt hlt.1
   have h1 : ((i : Int) < (o.parents.length : Int)) = True := eq_true (by omega)
   have h2 : ((i : Int) < 5) = True := eq_true (by omega)
   have hl' : ((o.parents.take i).map fewParent).length ≤ i := by simp; omega
   have e1 : rows AParent.pd ((o.parents.take i).map fewParent) ++ [[PD.raw (Value.string (few x.space)), PD.raw (Value.string (few x.name)), PD.raw (Value.string (few x.section_)), PD.raw (Value.int IntKind.i64 x.port)]] = rows AParent.pd ((o.parents.take (i + 1)).map fewParent) := few_step hx
   simp only [go_sem, simprocAttr, rows_get hx, h1, h2]
   repeat' (first | (refine (law1_Few x.space).callX (enters_of Tryz.func48 rfl rfl) _ rfl rfl ?_; rintro _ rfl; simp only [go_sem, simprocAttr, rows_get hx]) | (refine (law1_Few x.name).callX (enters_of Tryz.func48 rfl rfl) _ rfl rfl ?_; rintro _ rfl; simp only [go_sem, simprocAttr, rows_get hx]) | (refine (law1_Few x.section_).callX (enters_of Tryz.func48 rfl rfl) _ rfl rfl ?_; rintro _ rfl; simp only [go_sem, simprocAttr, rows_get hx]))
   simp only [go_sem, simprocAttr, hw, e1]
   refine ⟨by simp, by unfold maxLen; omega, by omega, 5 - (i + 1), _, by omega, ?_, i + 1, rfl, by omega, by omega, rfl⟩
   exact lessA
  ·have h3 := few_end (g := fewParent) hi6 hi hlt
   rw [h3]
   by_cases h1 : i < o.parents.length
   ·have h1' : ((i : Int) < (o.parents.length : Int)) = True := eq_true (by omega)
    have h2 : ((i : Int) < 5) = False := eq_false (by omega)
    simp only [go_sem, simprocAttr, h1', h2]
    exact hK _ ⟨i, rfl⟩
   ·have h1' : ((i : Int) < (o.parents.length : Int)) = False := eq_false (by omega)
    simp only [go_sem, simprocAttr, h1']
    exact hK _ ⟨i, rfl⟩
 rintro s ⟨_, rfl⟩
 refine run_cutJ (fun s => ∃ i : Nat, s = ⟨[(135, bln false), (1, .ptr 1 0), (2, .ptr 2 0), (3, .ptr 3 0), (9, int i), (135, bln false)], [(1, [int o.ref.kind, str o.ref.space, str o.ref.name, bln o.good, .pd (.slice (rows APair.pd o.labels)), .pd (.slice (ints o.ports)), str o.cls, .pd (.slice (rows AListener.pd o.listeners)), .pd (.slice (rows AParent.pd o.parents)), .pd (.slice (strs o.hosts)), .pd (.slice (rows ARule.pd o.rules)), .pd (.slice (rows ASide.pd o.from_)), .pd (.slice (rows ASide.pd o.to_))]), (2, [int 0, str ⟨#[]⟩, str ⟨#[]⟩, bln false, .nils, .nils, str ⟨#[]⟩, .nils, .nils, .nils, .nils, .nils, .nils]), (3, [int (fewRef o.ref).kind, str (fewRef o.ref).space, str (fewRef o.ref).name, bln o.good, .pd (.slice (rows APair.pd (fewPairs o.labels))), .own 3 1 (rows cInt ((o.ports.take 9).map id)) 52, str (few o.cls), .own 122 9 (rows AListener.pd ((o.listeners.take 9).map fewListener)) 92, .own 99 4 (rows AParent.pd ((o.parents.take 5).map fewParent)) 125, .own 9 1 (rows cStr ((o.hosts.take 5).map few)) 147, .nils, .pd (.slice (rows ASide.pd (fewSides o.from_))), .pd (.slice (rows ASide.pd (fewSides o.to_)))])], [], .no⟩) ?_ ?_
 ·intro K' hK
  simp only [go_sem, simprocAttr]
  refine loopS (fun k st => ∃ i : Nat, k = 5 - i ∧ i ≤ 5 ∧ i ≤ o.hosts.length ∧
   st = ⟨[(1, .ptr 1 0), (2, .ptr 2 0), (3, .ptr 3 0), (9, int i)], [(1, [int o.ref.kind, str o.ref.space, str o.ref.name, bln o.good, .pd (.slice (rows APair.pd o.labels)), .pd (.slice (ints o.ports)), str o.cls, .pd (.slice (rows AListener.pd o.listeners)), .pd (.slice (rows AParent.pd o.parents)), .pd (.slice (strs o.hosts)), .pd (.slice (rows ARule.pd o.rules)), .pd (.slice (rows ASide.pd o.from_)), .pd (.slice (rows ASide.pd o.to_))]), (2, [int 0, str ⟨#[]⟩, str ⟨#[]⟩, bln false, .nils, .nils, str ⟨#[]⟩, .nils, .nils, .nils, .nils, .nils, .nils]), (3, [int (fewRef o.ref).kind, str (fewRef o.ref).space, str (fewRef o.ref).name, bln o.good, .pd (.slice (rows APair.pd (fewPairs o.labels))), .own 3 1 (rows cInt ((o.ports.take 9).map id)) 52, str (few o.cls), .own 122 9 (rows AListener.pd ((o.listeners.take 9).map fewListener)) 92, .own 99 4 (rows AParent.pd ((o.parents.take 5).map fewParent)) 125, .own 9 1 (rows cStr ((o.hosts.take i).map few)) 147, .nils, .pd (.slice (rows ASide.pd (fewSides o.from_))), .pd (.slice (rows ASide.pd (fewSides o.to_)))])], [], .no⟩) 5 _
   ?_ ⟨0, rfl, by omega, by omega, rfl⟩ ?_
  ·exact Weak.ownB 3 9 147 9 1 (by kernel_rfl) (by decide) rfl rfl (by simp [lessL, lk, St.purge, D.purge, rows]) (by simp [lessL, lk, St.purge, D.purges, D.purge, rows]) (by simp [lessL]) rfl
  rintro k st ⟨i, rfl, hi6, hi, rfl⟩
  have hw := i64_succ (show i < 1000000000 by omega)
  by_cases hlt : i < o.hosts.length ∧ i < 5
  ·obtain ⟨x, hx⟩ := at_lt hlt.1
   have h1 : ((i : Int) < (o.hosts.length : Int)) = True := eq_true (by omega)
   have h2 : ((i : Int) < 5) = True := eq_true (by omega)
   have hl' : ((o.hosts.take i).map few).length ≤ i := by simp; omega
   have e1 : rows cStr ((o.hosts.take i).map few) ++ [[PD.raw (Value.string (few x))]] = rows cStr ((o.hosts.take (i + 1)).map few) := few_step hx
   simp only [go_sem, simprocAttr, rows_get hx, h1, h2]
   repeat' (first | (refine (law1_Few x).callX (enters_of Tryz.func48 rfl rfl) _ rfl rfl ?_; rintro _ rfl; simp only [go_sem, simprocAttr, rows_get hx]))
   simp only [go_sem, simprocAttr, hw, e1]
   refine ⟨by simp, by unfold maxLen; omega, by omega, 5 - (i + 1), _, by omega, ?_, i + 1, rfl, by omega, by omega, rfl⟩
   exact lessA
  ·have h3 := few_end (g := few) hi6 hi hlt
   rw [h3]
   by_cases h1 : i < o.hosts.length
   ·have h1' : ((i : Int) < (o.hosts.length : Int)) = True := eq_true (by omega)
    have h2 : ((i : Int) < 5) = False := eq_false (by omega)
    simp only [go_sem, simprocAttr, h1', h2]
    exact hK _ ⟨i, rfl⟩
   ·have h1' : ((i : Int) < (o.hosts.length : Int)) = False := eq_false (by omega)
    simp only [go_sem, simprocAttr, h1']
    exact hK _ ⟨i, rfl⟩
 rintro s ⟨_, rfl⟩
 refine run_cutJ (fun s => ∃ i : Nat, s = ⟨[(157, bln false), (1, .ptr 1 0), (2, .ptr 2 0), (3, .ptr 3 0), (10, int i), (157, bln false)], [(1, [int o.ref.kind, str o.ref.space, str o.ref.name, bln o.good, .pd (.slice (rows APair.pd o.labels)), .pd (.slice (ints o.ports)), str o.cls, .pd (.slice (rows AListener.pd o.listeners)), .pd (.slice (rows AParent.pd o.parents)), .pd (.slice (strs o.hosts)), .pd (.slice (rows ARule.pd o.rules)), .pd (.slice (rows ASide.pd o.from_)), .pd (.slice (rows ASide.pd o.to_))]), (2, [int 0, str ⟨#[]⟩, str ⟨#[]⟩, bln false, .nils, .nils, str ⟨#[]⟩, .nils, .nils, .nils, .nils, .nils, .nils]), (3, [int (fewRef o.ref).kind, str (fewRef o.ref).space, str (fewRef o.ref).name, bln o.good, .pd (.slice (rows APair.pd (fewPairs o.labels))), .own 3 1 (rows cInt ((o.ports.take 9).map id)) 52, str (few o.cls), .own 122 9 (rows AListener.pd ((o.listeners.take 9).map fewListener)) 92, .own 99 4 (rows AParent.pd ((o.parents.take 5).map fewParent)) 125, .own 9 1 (rows cStr ((o.hosts.take 5).map few)) 147, .own 104 3 (rows ARule.pd ((o.rules.take 7).map fewRule)) 239, .pd (.slice (rows ASide.pd (fewSides o.from_))), .pd (.slice (rows ASide.pd (fewSides o.to_)))])], [], .no⟩) ?_ ?_
 ·intro K' hK
  simp only [go_sem, simprocAttr]
  refine loopS (fun k st => ∃ i : Nat, k = 7 - i ∧ i ≤ 7 ∧ i ≤ o.rules.length ∧
   st = ⟨[(1, .ptr 1 0), (2, .ptr 2 0), (3, .ptr 3 0), (10, int i)], [(1, [int o.ref.kind, str o.ref.space, str o.ref.name, bln o.good, .pd (.slice (rows APair.pd o.labels)), .pd (.slice (ints o.ports)), str o.cls, .pd (.slice (rows AListener.pd o.listeners)), .pd (.slice (rows AParent.pd o.parents)), .pd (.slice (strs o.hosts)), .pd (.slice (rows ARule.pd o.rules)), .pd (.slice (rows ASide.pd o.from_)), .pd (.slice (rows ASide.pd o.to_))]), (2, [int 0, str ⟨#[]⟩, str ⟨#[]⟩, bln false, .nils, .nils, str ⟨#[]⟩, .nils, .nils, .nils, .nils, .nils, .nils]), (3, [int (fewRef o.ref).kind, str (fewRef o.ref).space, str (fewRef o.ref).name, bln o.good, .pd (.slice (rows APair.pd (fewPairs o.labels))), .own 3 1 (rows cInt ((o.ports.take 9).map id)) 52, str (few o.cls), .own 122 9 (rows AListener.pd ((o.listeners.take 9).map fewListener)) 92, .own 99 4 (rows AParent.pd ((o.parents.take 5).map fewParent)) 125, .own 9 1 (rows cStr ((o.hosts.take 5).map few)) 147, .own 104 3 (rows ARule.pd ((o.rules.take i).map fewRule)) 239, .pd (.slice (rows ASide.pd (fewSides o.from_))), .pd (.slice (rows ASide.pd (fewSides o.to_)))])], [], .no⟩) 7 _
   ?_ ⟨0, rfl, by omega, by omega, rfl⟩ ?_
  ·exact Weak.ownB 3 10 239 104 3 (by kernel_rfl) (by decide) rfl rfl (by simp [lessL, lk, St.purge, D.purge, rows]) (by simp [lessL, lk, St.purge, D.purges, D.purge, rows]) (by simp [lessL]) rfl
  rintro k st ⟨i, rfl, hi6, hi, rfl⟩
  have hw := i64_succ (show i < 1000000000 by omega)
  by_cases hlt : i < o.rules.length ∧ i < 7
  ·obtain ⟨x, hx⟩ := at_lt hlt.1
   have h1 : ((i : Int) < (o.rules.length : Int)) = True := eq_true (by omega)
   have h2 : ((i : Int) < 7) = True := eq_true (by omega)
   have hl' : ((o.rules.take i).map fewRule).length ≤ i := by simp; omega
   have e1 : rows ARule.pd ((o.rules.take i).map fewRule) ++ [[PD.slice (rows AMatch.pd ((x.matches_.take 5).map fewMatch)), PD.slice (rows AFilter.pd (fewFilters x.filters)), PD.slice (rows ABackend.pd ((x.backends.take 5).map fewBackend))]] = rows ARule.pd ((o.rules.take (i + 1)).map fewRule) := few_step hx
   apply run_cut
   ·intro K' hK
    simp only [go_sem, simprocAttr, h1, h2]
    exact hK
   apply run_cut
   ·intro K' hK
    rw [run_block]
    apply run_cut
    ·intro K' hK
     simp only [go_sem, simprocAttr, rows_get hx]
     refine (law7_Few x.filters).callW (enters_of Tryz.func58 rfl rfl) _ rfl rfl ?_
     rintro _ rfl
     simp only [go_sem, simprocAttr]
     exact hK
    refine run_cutJ (fun s => ∃ j : Nat, s = ⟨[(180, bln false), (1, .ptr 1 0), (2, .ptr 2 0), (3, .ptr 3 0), (10, int i), (11, .ptr 11 0), (12, int j), (180, bln false)], [(1, [int o.ref.kind, str o.ref.space, str o.ref.name, bln o.good, .pd (.slice (rows APair.pd o.labels)), .pd (.slice (ints o.ports)), str o.cls, .pd (.slice (rows AListener.pd o.listeners)), .pd (.slice (rows AParent.pd o.parents)), .pd (.slice (strs o.hosts)), .pd (.slice (rows ARule.pd o.rules)), .pd (.slice (rows ASide.pd o.from_)), .pd (.slice (rows ASide.pd o.to_))]), (2, [int 0, str ⟨#[]⟩, str ⟨#[]⟩, bln false, .nils, .nils, str ⟨#[]⟩, .nils, .nils, .nils, .nils, .nils, .nils]), (3, [int (fewRef o.ref).kind, str (fewRef o.ref).space, str (fewRef o.ref).name, bln o.good, .pd (.slice (rows APair.pd (fewPairs o.labels))), .own 3 1 (rows cInt ((o.ports.take 9).map id)) 52, str (few o.cls), .own 122 9 (rows AListener.pd ((o.listeners.take 9).map fewListener)) 92, .own 99 4 (rows AParent.pd ((o.parents.take 5).map fewParent)) 125, .own 9 1 (rows cStr ((o.hosts.take 5).map few)) 147, .own 104 3 (rows ARule.pd ((o.rules.take i).map fewRule)) 239, .pd (.slice (rows ASide.pd (fewSides o.from_))), .pd (.slice (rows ASide.pd (fewSides o.to_)))]), (11, [.own 128 5 (rows AMatch.pd ((x.matches_.take 5).map fewMatch)) 196, .pd (.slice (rows AFilter.pd (fewFilters x.filters))), .nils])], [], .no⟩) ?_ ?_
    ·intro K' hK
     simp only [go_sem, simprocAttr, rows_get hx]
     refine loopS (fun k st => ∃ j : Nat, k = 5 - j ∧ j ≤ 5 ∧ j ≤ x.matches_.length ∧
      st = ⟨[(1, .ptr 1 0), (2, .ptr 2 0), (3, .ptr 3 0), (10, int i), (11, .ptr 11 0), (12, int j)], [(1, [int o.ref.kind, str o.ref.space, str o.ref.name, bln o.good, .pd (.slice (rows APair.pd o.labels)), .pd (.slice (ints o.ports)), str o.cls, .pd (.slice (rows AListener.pd o.listeners)), .pd (.slice (rows AParent.pd o.parents)), .pd (.slice (strs o.hosts)), .pd (.slice (rows ARule.pd o.rules)), .pd (.slice (rows ASide.pd o.from_)), .pd (.slice (rows ASide.pd o.to_))]), (2, [int 0, str ⟨#[]⟩, str ⟨#[]⟩, bln false, .nils, .nils, str ⟨#[]⟩, .nils, .nils, .nils, .nils, .nils, .nils]), (3, [int (fewRef o.ref).kind, str (fewRef o.ref).space, str (fewRef o.ref).name, bln o.good, .pd (.slice (rows APair.pd (fewPairs o.labels))), .own 3 1 (rows cInt ((o.ports.take 9).map id)) 52, str (few o.cls), .own 122 9 (rows AListener.pd ((o.listeners.take 9).map fewListener)) 92, .own 99 4 (rows AParent.pd ((o.parents.take 5).map fewParent)) 125, .own 9 1 (rows cStr ((o.hosts.take 5).map few)) 147, .own 104 3 (rows ARule.pd ((o.rules.take i).map fewRule)) 239, .pd (.slice (rows ASide.pd (fewSides o.from_))), .pd (.slice (rows ASide.pd (fewSides o.to_)))]), (11, [.own 128 5 (rows AMatch.pd ((x.matches_.take j).map fewMatch)) 196, .pd (.slice (rows AFilter.pd (fewFilters x.filters))), .nils])], [], .no⟩) 5 _
      ?_ ⟨0, rfl, by omega, by omega, rfl⟩ ?_
     ·exact Weak.ownB 11 0 196 128 5 (by kernel_rfl) (by decide) rfl rfl (by simp [lessL, lk, St.purge, D.purge, rows]) (by simp [lessL, lk, St.purge, D.purges, D.purge, rows]) (by simp [lessL]) rfl
     rintro k st ⟨j, rfl, hj6, hj, rfl⟩
     have hwj := i64_succ (show j < 1000000000 by omega)
     by_cases hltj : j < x.matches_.length ∧ j < 5
     ·obtain ⟨y, hy⟩ := at_lt hltj.1
      have h1' : ((j : Int) < (x.matches_.length : Int)) = True := eq_true (by omega)
      have h2' : ((j : Int) < 5) = True := eq_true (by omega)
      have hlj : ((x.matches_.take j).map fewMatch).length ≤ j := by simp; omega
      have e2 : rows AMatch.pd ((x.matches_.take j).map fewMatch) ++ [[PD.raw (Value.int IntKind.i64 (fewMatch y).pkind), PD.raw (Value.string (fewMatch y).pval), PD.raw (Value.string (fewMatch y).method), PD.slice (rows APair.pd (fewMatch y).head), PD.slice (rows APair.pd (fewMatch y).query)]] = rows AMatch.pd ((x.matches_.take (j + 1)).map fewMatch) := few_step hy
      simp only [go_sem, simprocAttr, rows_get hx, rows_get hy, h1', h2']
      repeat' (first | (refine (law6_Few y).callX (enters_of Tryz.func59 rfl rfl) _ rfl rfl ?_; rintro _ rfl; simp only [go_sem, simprocAttr, rows_get hx, rows_get hy]))
      simp only [go_sem, simprocAttr, hwj, e2]
      refine ⟨by simp, by unfold maxLen; omega, by omega, 5 - (j + 1), _, by omega, ?_, j + 1, rfl, by omega, by omega, rfl⟩
      exact lessA
     ·have h3 := few_end (g := fewMatch) hj6 hj hltj
      rw [h3]
      by_cases h1 : j < x.matches_.length
      ·have h1' : ((j : Int) < (x.matches_.length : Int)) = True := eq_true (by omega)
       have h2 : ((j : Int) < 5) = False := eq_false (by omega)
       simp only [go_sem, simprocAttr, rows_get hx, h1', h2]
       exact hK _ ⟨j, rfl⟩
      ·have h1' : ((j : Int) < (x.matches_.length : Int)) = False := eq_false (by omega)
       simp only [go_sem, simprocAttr, rows_get hx, h1']
       exact hK _ ⟨j, rfl⟩
    rintro s ⟨_, rfl⟩
    refine run_cutJ (fun s => ∃ j : Nat, s = ⟨[(210, bln false), (1, .ptr 1 0), (2, .ptr 2 0), (3, .ptr 3 0), (10, int i), (11, .ptr 11 0), (13, int j), (210, bln false)], [(1, [int o.ref.kind, str o.ref.space, str o.ref.name, bln o.good, .pd (.slice (rows APair.pd o.labels)), .pd (.slice (ints o.ports)), str o.cls, .pd (.slice (rows AListener.pd o.listeners)), .pd (.slice (rows AParent.pd o.parents)), .pd (.slice (strs o.hosts)), .pd (.slice (rows ARule.pd o.rules)), .pd (.slice (rows ASide.pd o.from_)), .pd (.slice (rows ASide.pd o.to_))]), (2, [int 0, str ⟨#[]⟩, str ⟨#[]⟩, bln false, .nils, .nils, str ⟨#[]⟩, .nils, .nils, .nils, .nils, .nils, .nils]), (3, [int (fewRef o.ref).kind, str (fewRef o.ref).space, str (fewRef o.ref).name, bln o.good, .pd (.slice (rows APair.pd (fewPairs o.labels))), .own 3 1 (rows cInt ((o.ports.take 9).map id)) 52, str (few o.cls), .own 122 9 (rows AListener.pd ((o.listeners.take 9).map fewListener)) 92, .own 99 4 (rows AParent.pd ((o.parents.take 5).map fewParent)) 125, .own 9 1 (rows cStr ((o.hosts.take 5).map few)) 147, .own 104 3 (rows ARule.pd ((o.rules.take i).map fewRule)) 239, .pd (.slice (rows ASide.pd (fewSides o.from_))), .pd (.slice (rows ASide.pd (fewSides o.to_)))]), (11, [.own 128 5 (rows AMatch.pd ((x.matches_.take 5).map fewMatch)) 196, .pd (.slice (rows AFilter.pd (fewFilters x.filters))), .own 106 5 (rows ABackend.pd ((x.backends.take 5).map fewBackend)) 233])], [], .no⟩) ?_ ?_
    ·intro K' hK
     simp only [go_sem, simprocAttr, rows_get hx]
     refine loopS (fun k st => ∃ j : Nat, k = 5 - j ∧ j ≤ 5 ∧ j ≤ x.backends.length ∧
      st = ⟨[(1, .ptr 1 0), (2, .ptr 2 0), (3, .ptr 3 0), (10, int i), (11, .ptr 11 0), (13, int j)], [(1, [int o.ref.kind, str o.ref.space, str o.ref.name, bln o.good, .pd (.slice (rows APair.pd o.labels)), .pd (.slice (ints o.ports)), str o.cls, .pd (.slice (rows AListener.pd o.listeners)), .pd (.slice (rows AParent.pd o.parents)), .pd (.slice (strs o.hosts)), .pd (.slice (rows ARule.pd o.rules)), .pd (.slice (rows ASide.pd o.from_)), .pd (.slice (rows ASide.pd o.to_))]), (2, [int 0, str ⟨#[]⟩, str ⟨#[]⟩, bln false, .nils, .nils, str ⟨#[]⟩, .nils, .nils, .nils, .nils, .nils, .nils]), (3, [int (fewRef o.ref).kind, str (fewRef o.ref).space, str (fewRef o.ref).name, bln o.good, .pd (.slice (rows APair.pd (fewPairs o.labels))), .own 3 1 (rows cInt ((o.ports.take 9).map id)) 52, str (few o.cls), .own 122 9 (rows AListener.pd ((o.listeners.take 9).map fewListener)) 92, .own 99 4 (rows AParent.pd ((o.parents.take 5).map fewParent)) 125, .own 9 1 (rows cStr ((o.hosts.take 5).map few)) 147, .own 104 3 (rows ARule.pd ((o.rules.take i).map fewRule)) 239, .pd (.slice (rows ASide.pd (fewSides o.from_))), .pd (.slice (rows ASide.pd (fewSides o.to_)))]), (11, [.own 128 5 (rows AMatch.pd ((x.matches_.take 5).map fewMatch)) 196, .pd (.slice (rows AFilter.pd (fewFilters x.filters))), .own 106 5 (rows ABackend.pd ((x.backends.take j).map fewBackend)) 233])], [], .no⟩) 5 _
      ?_ ⟨0, rfl, by omega, by omega, rfl⟩ ?_
     ·exact Weak.ownB 11 2 233 106 5 (by kernel_rfl) (by decide) rfl rfl (by simp [lessL, lk, St.purge, D.purge, rows]) (by simp [lessL, lk, St.purge, D.purges, D.purge, rows]) (by simp [lessL]) rfl
     rintro k st ⟨j, rfl, hj6, hj, rfl⟩
     have hwj := i64_succ (show j < 1000000000 by omega)
     by_cases hltj : j < x.backends.length ∧ j < 5
     ·obtain ⟨y, hy⟩ := at_lt hltj.1
      have h1' : ((j : Int) < (x.backends.length : Int)) = True := eq_true (by omega)
      have h2' : ((j : Int) < 5) = True := eq_true (by omega)
      have hlj : ((x.backends.take j).map fewBackend).length ≤ j := by simp; omega
      have e2 : rows ABackend.pd ((x.backends.take j).map fewBackend) ++ [[PD.raw (Value.int IntKind.i64 (fewRef y.ref).kind), PD.raw (Value.string (fewRef y.ref).space), PD.raw (Value.string (fewRef y.ref).name), PD.raw (Value.int IntKind.i64 y.port), PD.raw (Value.int IntKind.i64 y.weight)]] = rows ABackend.pd ((x.backends.take (j + 1)).map fewBackend) := few_step hy
      simp only [go_sem, simprocAttr, rows_get hx, rows_get hy, h1', h2']
      repeat' (first | (refine (law9_FewRef y.ref).callX (enters_of Tryz.func18 rfl rfl) _ rfl rfl ?_; rintro _ rfl; simp only [go_sem, simprocAttr, rows_get hx, rows_get hy]))
      simp only [go_sem, simprocAttr, hwj, e2]
      refine ⟨by simp, by unfold maxLen; omega, by omega, 5 - (j + 1), _, by omega, ?_, j + 1, rfl, by omega, by omega, rfl⟩
      exact lessA
     ·have h3 := few_end (g := fewBackend) hj6 hj hltj
      rw [h3]
      by_cases h1 : j < x.backends.length
      ·have h1' : ((j : Int) < (x.backends.length : Int)) = True := eq_true (by omega)
       have h2 : ((j : Int) < 5) = False := eq_false (by omega)
       simp only [go_sem, simprocAttr, rows_get hx, h1', h2]
       exact hK _ ⟨j, rfl⟩
      ·have h1' : ((j : Int) < (x.backends.length : Int)) = False := eq_false (by omega)
       simp only [go_sem, simprocAttr, rows_get hx, h1']
       exact hK _ ⟨j, rfl⟩
    rintro s ⟨_, rfl⟩
    simp only [go_sem, simprocAttr, e1]
    refine ⟨by simp, by unfold maxLen; omega, by omega, ?_⟩
    exact hK
   simp only [go_sem, simprocAttr, hw]
   refine ⟨7 - (i + 1), _, by omega, ?_, i + 1, rfl, by omega, by omega, rfl⟩
   exact lessA
  ·have h3 := few_end (g := fewRule) hi6 hi hlt
   rw [h3]
   by_cases h1 : i < o.rules.length
   ·have h1' : ((i : Int) < (o.rules.length : Int)) = True := eq_true (by omega)
    have h2 : ((i : Int) < 7) = False := eq_false (by omega)
    simp only [go_sem, simprocAttr, h1', h2]
    exact hK _ ⟨i, rfl⟩
   ·have h1' : ((i : Int) < (o.rules.length : Int)) = False := eq_false (by omega)
    simp only [go_sem, simprocAttr, h1']
    exact hK _ ⟨i, rfl⟩
 rintro s ⟨_, rfl⟩
 simp only [go_sem, simprocAttr]
 simp only [retK, resD, resA, AOp.ex, St.ev, retL, oneD, simprocAttr, ret_z8s55, List.map_id]
 exact ⟨_, rfl, rfl, rfl⟩


theorem take_map_mem {α β : Type} {g : α → β} {l : List α} {n : Nat} {y : β} (h : y ∈ (l.take n).map g) : ∃ x, x ∈ l ∧ g x = y := by
 obtain ⟨x, hx, rfl⟩ := List.mem_map.1 h
 exact ⟨x, List.mem_of_mem_take hx, rfl⟩

theorem fewPairs_ok {l : List APair} : ∀ p ∈ fewPairs l, p.ok := fun p hp => by
 obtain ⟨x, _, rfl⟩ := take_map_mem hp
 exact fewPair_ok x

theorem fewPairs_len (l : List APair) : (fewPairs l).length ≤ 1000000 := by simp [fewPairs]; omega

theorem fewMatch_ok (m : AMatch) : (fewMatch m).ok := ⟨fewPairs_len _, fewPairs_len _, fewPairs_ok, fewPairs_ok⟩

theorem fewFilter_ok (f : AFilter) : (fewFilter f).ok := ⟨by have := few_size f.name; simp [fewFilter]; omega, by have := few_size f.val; simp [fewFilter]; omega⟩

theorem fewNeed_ok (n : ANeed) : (fewNeed n).ok := by simp [ANeed.ok, fewNeed]; omega

theorem fewListener_ok (l : AListener) : (fewListener l).ok := ⟨by simp [fewListener, fewNeeds]; omega, fun x hx => by
 obtain ⟨y, _, rfl⟩ := take_map_mem hx
 exact fewNeed_ok y⟩

theorem fewRule_ok (r : ARule) : (fewRule r).ok := ⟨by simp [fewRule]; omega, by simp [fewRule, fewFilters]; omega, by simp [fewRule]; omega, fun x hx => by
 obtain ⟨y, _, rfl⟩ := take_map_mem hx
 exact fewMatch_ok y, fun x hx => by
 obtain ⟨y, _, rfl⟩ := take_map_mem hx
 exact fewFilter_ok y⟩

theorem fewObj_ok (o : AObj) : (fewObj o).ok where
 la := fewPairs_len _
 po := by simp [fewObj]; omega
 li := by simp [fewObj]; omega
 pa := by simp [fewObj]; omega
 ho := by simp [fewObj]; omega
 ru := by simp [fewObj]; omega
 fr := by simp [fewObj, fewSides]; omega
 to := by simp [fewObj, fewSides]; omega
 lis := fun x hx => by
  obtain ⟨y, _, rfl⟩ := take_map_mem hx
  exact fewListener_ok y
 rus := fun x hx => by
  obtain ⟨y, _, rfl⟩ := take_map_mem hx
  exact fewRule_ok y


theorem res_no {p : Prop} [Decidable p] (h : ¬p) : bln false = bln (decide p) := by rw [decide_eq_false h]
theorem res_yes {p : Prop} [Decidable p] (h : p) : bln true = bln (decide p) := by rw [decide_eq_true h]
theorem take_step {α : Type} {l m : List α} {i : Nat} {x y : α} (h : l.take i = m.take i) (hx : l[i]? = some x) (hy : m[i]? = some y) (e : x = y) : l.take (i + 1) = m.take (i + 1) := by
 rw [take_at hx, take_at hy, h, e]
theorem take_end {α : Type} {l m : List α} {i : Nat} (h : l.take i = m.take i) (hl : l.length = m.length) (hi : ¬ i < l.length) : l = m := by
 rwa [List.take_of_length_le (by omega), List.take_of_length_le (by omega)] at h


structure AObj.sok (o : AObj) : Prop where
 rs : o.ref.space.size ≤ 1000000
 rn : o.ref.name.size ≤ 1000000
 lv : ∀ p ∈ o.labels, p.val.size ≤ 1000000
 ln : ∀ l ∈ o.listeners, l.name.size ≤ 1000000 ∧ l.cert.space.size ≤ 1000000 ∧ ∀ n ∈ l.needs, ∀ s ∈ n.vals, s.size ≤ 1000000
 pa : ∀ p ∈ o.parents, p.space.size ≤ 1000000 ∧ p.section_.size ≤ 1000000
 ru : ∀ r ∈ o.rules, (∀ m ∈ r.matches_, m.method.size ≤ 1000000) ∧ (∀ f ∈ r.filters, f.host.size ≤ 1000000 ∧ f.path.size ≤ 1000000) ∧ ∀ b ∈ r.backends, b.ref.space.size ≤ 1000000
 si : ∀ s ∈ o.from_, s.space.size ≤ 1000000


theorem bl_irrefl : ∀ x : List UInt8, Op.bytesLess x x = false
 | [] => rfl
 | a :: x => by
   have h : ¬ a < a := fun h => by have := UInt8.lt_iff_toNat_lt.1 h; omega
   simp [Op.bytesLess, h, bl_irrefl x]

theorem bl_trans : ∀ {x y z : List UInt8}, Op.bytesLess x y = true → Op.bytesLess y z = true → Op.bytesLess x z = true
 | x, [], _, h, _ => by simp [Op.bytesLess] at h
 | _, _ :: _, [], _, h => by simp [Op.bytesLess] at h
 | [], _ :: _, _ :: _, _, _ => rfl
 | a :: x, b :: y, c :: z, h, k => by
   simp only [Op.bytesLess, Bool.or_eq_true, decide_eq_true_eq, Bool.and_eq_true, beq_iff_eq] at h k ⊢
   rcases h with h | ⟨rfl, h⟩
   ·rcases k with k | ⟨rfl, k⟩
    ·left
     have h1 := UInt8.lt_iff_toNat_lt.1 h
     have h2 := UInt8.lt_iff_toNat_lt.1 k
     exact UInt8.lt_iff_toNat_lt.2 (by omega)
    ·exact .inl h
   ·rcases k with k | ⟨rfl, k⟩
    ·exact .inl k
    ·exact .inr ⟨rfl, bl_trans h k⟩

def bl (a b : ByteArray) : Bool := Op.bytesLess a.toList b.toList

theorem bl_self (a : ByteArray) : bl a a = false := bl_irrefl _
theorem bl_tr {a b c : ByteArray} (h : bl a b = true) (k : bl b c = true) : bl a c = true := bl_trans h k
theorem bl_tri {a b : ByteArray} (h : bl a b = false) (k : bl b a = false) : a = b := by
 have := less_total a b
 unfold bl at h k
 rw [h, k] at this
 simpa using this
def refLt (a b : ARef) : Bool := if a.kind = b.kind then (if a.space = b.space then bl a.name b.name else bl a.space b.space) else decide (a.kind < b.kind)

theorem refLt_iff {a b : ARef} : refLt a b = true ↔ a.kind < b.kind ∨ (a.kind = b.kind ∧ (bl a.space b.space = true ∨ (a.space = b.space ∧ bl a.name b.name = true))) := by
 unfold refLt
 by_cases h1 : a.kind = b.kind
 ·by_cases h2 : a.space = b.space
  ·have : bl a.space b.space = false := by rw [h2]; exact bl_self _
   rw [if_pos h1, if_pos h2, this]
   simp [h1, h2]
  ·rw [if_pos h1, if_neg h2]
   simp [h1, h2]
 ·rw [if_neg h1]
  simp [h1]

theorem refLt_self (a : ARef) : refLt a a = false := by simp [refLt, bl_self]

theorem refLt_tr {a b c : ARef} (h : refLt a b = true) (k : refLt b c = true) : refLt a c = true := by
 rw [refLt_iff] at h k ⊢
 rcases h with h | ⟨h1, h | ⟨h2, h⟩⟩ <;> rcases k with k | ⟨k1, k | ⟨k2, k⟩⟩
 ·exact .inl (by omega)
 ·exact .inl (by omega)
 ·exact .inl (by omega)
 ·exact .inl (by omega)
 ·exact .inr ⟨by omega, .inl (bl_tr h k)⟩
 ·exact .inr ⟨by omega, .inl (k2 ▸ h)⟩
 ·exact .inl (by omega)
 ·exact .inr ⟨by omega, .inl (h2 ▸ k)⟩
 ·exact .inr ⟨by omega, .inr ⟨h2.trans k2, bl_tr h k⟩⟩

theorem refLt_tri {a b : ARef} (h : refLt a b = false) (k : refLt b a = false) : a = b := by
 unfold refLt at h k
 by_cases h1 : a.kind = b.kind
 ·rw [if_pos h1] at h
  rw [if_pos h1.symm] at k
  by_cases h2 : a.space = b.space
  ·rw [if_pos h2] at h
   rw [if_pos h2.symm] at k
   have h3 := bl_tri h k
   obtain ⟨a1, a2, a3⟩ := a
   obtain ⟨b1, b2, b3⟩ := b
   simp only at h1 h2 h3
   rw [h1, h2, h3]
  ·rw [if_neg h2] at h
   rw [if_neg (Ne.symm h2)] at k
   exact absurd (bl_tri h k) h2
 ·rw [if_neg h1] at h
  rw [if_neg (Ne.symm h1)] at k
  simp only [decide_eq_false_iff_not] at h k
  omega

theorem refLt_asym {a b : ARef} (h : refLt a b = true) : refLt b a = false := by
 cases k : refLt b a with
 | false => rfl
 | true => have := refLt_tr h k; rw [refLt_self] at this; cases this

def refCmp (a b : ARef) : Int := if a = b then 0 else if refLt a b = true then -1 else 1

theorem refCmp_lt (a b : ARef) : ltOf refCmp a b = refLt a b := by
 unfold ltOf refCmp
 by_cases h : a = b
 ·subst h; rw [if_pos rfl, refLt_self]; rfl
 ·rw [if_neg h]
  cases refLt a b <;> rfl

theorem refSWO : Sort.SWO (ltOf refCmp) where
 irrefl := fun x => by rw [refCmp_lt]; exact refLt_self x
 trans := fun x y z h k => by rw [refCmp_lt] at *; exact refLt_tr h k
 ntrans := fun x y z h k => by
  rw [refCmp_lt] at *
  cases hz : refLt x z with
  | false => rfl
  | true =>
    exfalso
    cases hy : refLt y x with
    | true => have := refLt_tr hy hz; rw [this] at k; cases k
    | false => rw [refLt_tri h hy] at hz; rw [hz] at k; cases k

theorem refTotal (x y : ARef) (h : ltOf refCmp x y = false) (k : ltOf refCmp y x = false) : x = y := by
 rw [refCmp_lt] at *
 exact refLt_tri h k

def cmpB (x y : ByteArray) : Int := if bl x y = true then -1 else if bl y x = true then 1 else 0

theorem cmpB_eq (a : ByteArray) : cmpB a a = 0 := by simp [cmpB, bl_self]
theorem cmpB_ne {a b : ByteArray} (h : ¬ a = b) : cmpB a b = if bl a b = true then -1 else 1 := by
 unfold cmpB
 cases k1 : bl a b with
 | true => rfl
 | false =>
   cases k2 : bl b a with
   | true => rfl
   | false => exact absurd (bl_tri k1 k2) h

theorem refCmp_or (a b : ARef) : refCmp a b = if ¬ Lib.compareInt a.kind b.kind = 0 then Lib.compareInt a.kind b.kind else if ¬ cmpB a.space b.space = 0 then cmpB a.space b.space else cmpB a.name b.name := by
 unfold refCmp
 by_cases h1 : a.kind = b.kind
 ·have e1 : Lib.compareInt a.kind b.kind = 0 := by unfold Lib.compareInt; rw [if_neg (by omega), if_neg (by omega)]
  simp only [e1, not_true_eq_false, if_false]
  by_cases h2 : a.space = b.space
  ·have e2 : cmpB a.space b.space = 0 := by rw [h2]; exact cmpB_eq _
   simp only [e2, not_true_eq_false, if_false]
   have e3 : refLt a b = bl a.name b.name := by unfold refLt; rw [if_pos h1, if_pos h2]
   by_cases h3 : a.name = b.name
   ·have hab : a = b := by
     obtain ⟨a1, a2, a3⟩ := a
     obtain ⟨b1, b2, b3⟩ := b
     simp only at h1 h2 h3
     rw [h1, h2, h3]
    rw [if_pos hab, h3, cmpB_eq]
   ·have hab : ¬ a = b := fun e => h3 (by rw [e])
    rw [if_neg hab, e3, cmpB_ne h3]
  ·have e3 : refLt a b = bl a.space b.space := by unfold refLt; rw [if_pos h1, if_neg h2]
   have hab : ¬ a = b := fun e => h2 (by rw [e])
   rw [if_neg hab, e3, cmpB_ne h2]
   cases bl a.space b.space <;> simp
 ·have e3 : refLt a b = decide (a.kind < b.kind) := by unfold refLt; rw [if_neg h1]
  have hab : ¬ a = b := fun e => h1 (by rw [e])
  rw [if_neg hab, e3]
  unfold Lib.compareInt
  by_cases h2 : a.kind < b.kind
  ·simp [h2]
  ·have h3 : a.kind > b.kind := by omega
   simp [h2, h3]


structure ACond where
 part : ByteArray
 typ : ByteArray
 reason : ByteArray
 tru : Bool
 n : Int
 gen : Int
 deriving DecidableEq

abbrev ACond.pd (c : ACond) : List PD := [pStr c.part, pStr c.typ, pStr c.reason, pBln c.tru, pInt c.n, pInt c.gen]

structure AStored where
 o : AObj
 version : Int
 gen : Int
 born : Int
 conds : List ACond
 deriving DecidableEq

abbrev AStored.pd (x : AStored) : List PD := [pInt x.o.ref.kind, pStr x.o.ref.space, pStr x.o.ref.name, pBln x.o.good, .slice (rows APair.pd x.o.labels), .slice (ints x.o.ports), pStr x.o.cls, .slice (rows AListener.pd x.o.listeners),
 .slice (rows AParent.pd x.o.parents), .slice (strs x.o.hosts), .slice (rows ARule.pd x.o.rules), .slice (rows ASide.pd x.o.from_), .slice (rows ASide.pd x.o.to_), pInt x.version, pInt x.gen, pInt x.born, .slice (rows ACond.pd x.conds)]
abbrev AStored.d (x : AStored) : D := .agg [int x.o.ref.kind, str x.o.ref.space, str x.o.ref.name, bln x.o.good, .pd (.slice (rows APair.pd x.o.labels)), .pd (.slice (ints x.o.ports)), str x.o.cls, .pd (.slice (rows AListener.pd x.o.listeners)),
 .pd (.slice (rows AParent.pd x.o.parents)), .pd (.slice (strs x.o.hosts)), .pd (.slice (rows ARule.pd x.o.rules)), .pd (.slice (rows ASide.pd x.o.from_)), .pd (.slice (rows ASide.pd x.o.to_)), int x.version, int x.gen, int x.born, .pd (.slice (rows ACond.pd x.conds))]

structure AEvent where
 version : Int
 ref : ARef
 deriving DecidableEq

abbrev AEvent.pd (e : AEvent) : List PD := [pInt e.version, pInt e.ref.kind, pStr e.ref.space, pStr e.ref.name]
abbrev AEvent.d (e : AEvent) : D := .agg [int e.version, int e.ref.kind, str e.ref.space, str e.ref.name]

structure AStore where
 version : Int
 floor : Int
 l : List AStored
 log : List AEvent
 deriving DecidableEq

abbrev AStore.d (s : AStore) : D := .agg [int s.version, int s.floor, .pd (.slice (rows AStored.pd s.l)), .pd (.slice (rows AEvent.pd s.log))]

structure AStore.ok (s : AStore) : Prop where
 l : s.l.length ≤ 100
 log : s.log.length ≤ 100
 o : ∀ x ∈ s.l, x.o.ok ∧ x.o.sok
 c : ∀ x ∈ s.l, x.conds.length ≤ 100

def evOK (f : Int) (i : Nat) (e : AEvent) : Bool := decide (e.version = f + 1 + i) && mayRef e.ref
def evsOK (f : Int) (l : List AEvent) : Bool := l.zipIdx.all fun p => evOK f p.2 p.1
def stOK (v : Int) (x : AStored) : Bool := objMay x.o && decide (1 ≤ x.born ∧ x.born ≤ x.version ∧ x.version ≤ v ∧ 1 ≤ x.gen ∧ x.gen ≤ x.version - x.born + 1 ∧ x.conds.length ≤ 40)
def Srt (l : List AStored) : Prop := l.Pairwise fun x y => refLt x.o.ref y.o.ref = true
instance (l : List AStored) : Decidable (Srt l) := inferInstanceAs (Decidable (l.Pairwise fun x y => refLt x.o.ref y.o.ref = true))
def headOK (s : AStore) : Bool := decide (0 ≤ s.version ∧ s.version ≤ 1099511627775 ∧ 0 ≤ s.floor ∧ s.floor ≤ s.version ∧ s.l.length ≤ 40 ∧ s.log.length ≤ 16 ∧ s.floor + s.log.length = s.version)
def storeMay (s : AStore) : Bool := headOK s && evsOK s.floor s.log && s.l.all (stOK s.version) && decide (Srt s.l)

def putL (l : List AStored) (r : ARef) (new : List AStored) : List AStored := l.filter (fun x => refLt x.o.ref r) ++ (new ++ l.filter fun x => refLt r x.o.ref)

def logL (s : AStore) (r : ARef) : List AEvent := s.log ++ [⟨s.version + 1, r⟩]

def change (s : AStore) (r : ARef) (new : List AStored) : AStore × Int :=
 if s.version = 1099511627775 then (s, 5) else
 if 16 < (logL s r).length then (⟨s.version + 1, ((logL s r).head?.map (·.version)).getD 0, putL s.l r new, (logL s r).drop 1⟩, 0)
 else (⟨s.version + 1, s.floor, putL s.l r new, logL s r⟩, 0)

def objects (s : AStore) : List AObj := s.l.map (·.o)


structure Step (s : AStore) (r : ARef) (new : List AStored) (t : AStore) : Prop where
 may : storeMay t = true
 ver : t.version = s.version + 1
 l : t.l = putL s.l r new
 log : (t.floor = s.floor ∧ t.log = s.log ++ [⟨s.version + 1, r⟩]) ∨ (t.floor = s.floor + 1 ∧ s.log.length = 16 ∧ t.log = (s.log ++ [(⟨s.version + 1, r⟩ : AEvent)]).drop 1)

structure AAct where
 kind : Int
 o : AObj
 version : Int
 conds : List ACond
 deriving DecidableEq

end Go.Proofs.YtjgpdjakehoofaaGreatDoor



namespace Go.Proofs.YtjgpdjakehoofaaGreatDoor
open Go Go.RowKit Go.ChangeShapes Go.WideShapes Go.ChangeAt Go.WideMaps Go.WideElems
set_option linter.unusedSimpArgs false
set_option linter.unusedVariables false
set_option maxRecDepth 100000

theorem HasShs.cut : ∀ {s1 s2 : List Sh} {r : List PD}, HasShs (s1 ++ s2) r → ∃ r1 r2, r = r1 ++ r2 ∧ HasShs s1 r1 ∧ HasShs s2 r2
 | [], _, r, h => ⟨[], r, rfl, .nil, h⟩
 | s :: s1, s2, _, h => by
   cases h with
   | cons _ d _ ds a hs =>
     obtain ⟨r1, r2, rfl, h1, h2⟩ := HasShs.cut hs
     exact ⟨d :: r1, r2, rfl, .cons _ _ _ _ a h1, h2⟩

abbrev ref_Shs : List Sh := [.int .i64, .str, .str]

theorem ref__rowS {r : List PD} (h : HasShs ref_Shs r) : ∃ a, r = ARef.pd a := by
 cases h with
 | cons _ d1 _ _ a1 h1 =>
 cases h1 with
 | cons _ d2 _ _ a2 h2 =>
 cases h2 with
 | cons _ d3 _ _ a3 h3 =>
 cases h3
 cases a1 with
 | int _ x1 _ =>
 cases a2 with
 | str x2 _ =>
 cases a3 with
 | str x3 _ =>
 exact ⟨⟨x1, x2, x3⟩, rfl⟩

abbrev AStore.pd (s : AStore) : List PD := [pInt s.version, pInt s.floor, .slice (rows AStored.pd s.l), .slice (rows AEvent.pd s.log)]

abbrev AAct.pd (a : AAct) : List PD := [.raw (.int .u8 a.kind), pInt a.o.ref.kind, pStr a.o.ref.space, pStr a.o.ref.name, pBln a.o.good, .slice (rows APair.pd a.o.labels), .slice (ints a.o.ports), pStr a.o.cls, .slice (rows AListener.pd a.o.listeners), .slice (rows AParent.pd a.o.parents), .slice (strs a.o.hosts), .slice (rows ARule.pd a.o.rules), .slice (rows ASide.pd a.o.from_), .slice (rows ASide.pd a.o.to_), pInt a.version, .slice (rows ACond.pd a.conds)]
abbrev AAct.d (a : AAct) : D := .agg [.pd (.raw (.int .u8 a.kind)), int a.o.ref.kind, str a.o.ref.space, str a.o.ref.name, bln a.o.good, .pd (.slice (rows APair.pd a.o.labels)), .pd (.slice (ints a.o.ports)), str a.o.cls, .pd (.slice (rows AListener.pd a.o.listeners)), .pd (.slice (rows AParent.pd a.o.parents)), .pd (.slice (strs a.o.hosts)), .pd (.slice (rows ARule.pd a.o.rules)), .pd (.slice (rows ASide.pd a.o.from_)), .pd (.slice (rows ASide.pd a.o.to_)), int a.version, .pd (.slice (rows ACond.pd a.conds))]

structure ALook where
 s : AStore
 o : AStore
 r : ARef
 v : Int

abbrev ALook.pd (q : ALook) : List PD := [pInt q.s.version, pInt q.s.floor, .slice (rows AStored.pd q.s.l), .slice (rows AEvent.pd q.s.log), pInt q.o.version, pInt q.o.floor, .slice (rows AStored.pd q.o.l), .slice (rows AEvent.pd q.o.log), pInt q.r.kind, pStr q.r.space, pStr q.r.name, pInt q.v]
abbrev ALook.d (q : ALook) : D := .agg [int q.s.version, int q.s.floor, .pd (.slice (rows AStored.pd q.s.l)), .pd (.slice (rows AEvent.pd q.s.log)), int q.o.version, int q.o.floor, .pd (.slice (rows AStored.pd q.o.l)), .pd (.slice (rows AEvent.pd q.o.log)), int q.r.kind, str q.r.space, str q.r.name, int q.v]

structure AStale where
 s : AStore
 r : ARef
 a : List ACond
 b : List ACond

abbrev AStale.pd (q : AStale) : List PD := [pInt q.s.version, pInt q.s.floor, .slice (rows AStored.pd q.s.l), .slice (rows AEvent.pd q.s.log), pInt q.r.kind, pStr q.r.space, pStr q.r.name, .slice (rows ACond.pd q.a), .slice (rows ACond.pd q.b)]
abbrev AStale.d (q : AStale) : D := .agg [int q.s.version, int q.s.floor, .pd (.slice (rows AStored.pd q.s.l)), .pd (.slice (rows AEvent.pd q.s.log)), int q.r.kind, str q.r.space, str q.r.name, .pd (.slice (rows ACond.pd q.a)), .pd (.slice (rows ACond.pd q.b))]

section
variable {H : Type} {enc : TypeId × Value → H} {P : Program} {W : World} {base : Nat} {spare : Nat → Bool} {held : Bool}

end

end Go.Proofs.YtjgpdjakehoofaaGreatDoor



namespace Go.Proofs.YtjgpdjakehoofaaGreatDoor
open Go Go.RowKit
set_option linter.unusedSimpArgs false
set_option linter.unusedVariables false
set_option maxRecDepth 100000

def updR (t : Nat) (e : TypeId) (sz : Nat) (row : List (List PD)) : D → D
 | .pd (.raw v) => .pd (.raw v)
 | .nils => .nils
 | .ptr n o => .ptr n o
 | .own _ _ _ s => if s = t then .own e sz row t else .any
 | _ => .any

def updG (t : Nat) (e : TypeId) (sz : Nat) (row : List (List PD)) (fr : List (Nat × D)) : List (Nat × D) := fr.map fun p => (p.1, updR t e sz row p.2)
def updB (t : Nat) (e : TypeId) (sz : Nat) (row : List (List PD)) (bs : List (Nat × List D)) : List (Nat × List D) := bs.map fun p => (p.1, p.2.map (updR t e sz row))

variable {C : Ctx} {st : St} {g : Gh} {a : Act} {w w' : World}

theorem updR_rep {t : Nat} {e : TypeId} {sz : Nat} {row : List (List PD)} {V : Value} (htk : g.tk t = some (V, e)) (hrep : PRep g.Fz w' V (.slice row)) (hlens : ∀ r ∈ row, r.length = sz) {d : D} {v : Value} (h : Rep g w d v) : Rep g w' (updR t e sz row d) v := by
 unfold updR
 split
 ·simp only [Rep] at h ⊢
  exact h.flat0
 ·simp only [Rep] at h ⊢
  exact h
 ·simp only [Rep] at h ⊢
  exact h
 ·split
  ·rename_i hst
   subst hst
   simp only [Rep] at h ⊢
   obtain ⟨_, h4, _⟩ := h
   rw [htk] at h4
   have hv : v = V := (congrArg Prod.fst (Option.some.inj h4)).symm
   subst hv
   exact ⟨hrep, htk, hlens⟩
  ·simp only [Rep]
 ·simp only [Rep]

theorem updR_reps {t : Nat} {e : TypeId} {sz : Nat} {row : List (List PD)} {V : Value} (htk : g.tk t = some (V, e)) (hrep : PRep g.Fz w' V (.slice row)) (hlens : ∀ r ∈ row, r.length = sz) : ∀ {ds : List D} {vs : List Value}, Reps g w ds vs → Reps g w' (ds.map (updR t e sz row)) vs
 | [], _, h => by simpa only [Reps, List.map_nil] using h
 | d :: ds, _, h => by
   simp only [Reps] at h
   obtain ⟨v, vs', rfl, hv, hs⟩ := h
   simp only [List.map_cons, Reps]
   exact ⟨v, vs', rfl, updR_rep htk hrep hlens hv, updR_reps htk hrep hlens hs⟩

theorem SR.newrow (hs : SR C st g a w) {t sz : Nat} {e : TypeId} {row : List (List PD)} {b len cap : Nat} (htk : g.tk t = some (.slice (some ⟨b, 0, none⟩) len cap, e)) (hsolo : st.hs = .solo) (hgb : w.grownBy w' (some b))
 {cur cur' : Array Value} (hold : w.heap[b]? = some (.cells cur e (0, 0))) (hnew : w'.heap[b]? = some (.cells cur' e (0, 0))) (hsz : cur'.size = cur.size)
 (hrep : PRep g.Fz w' (.slice (some ⟨b, 0, none⟩) len cap) (.slice row)) (hlens : ∀ r ∈ row, r.length = sz) :
 SR C ⟨updG t e sz row st.fr, updB t e sz row st.bs, [], st.hs⟩ g a w' := by
 have m := hs.mem
 obtain ⟨ie, n, xs, hie, hpos, hown, hfz⟩ := m.tks t _ _ htk
 obtain ⟨hbl, hfo⟩ := hfz b rfl
 have hS := C.solo _ _ (by rw [← hsolo]; exact hs.x)
 have hbge : C.w0.heap.size ≤ b := hbl.resolve_right (hS b)
 obtain ⟨hxl, hform⟩ := hown
 obtain ⟨hn, hnc, hcm, hcs⟩ : n = len ∧ n ≤ cap ∧ cap ≤ maxLen ∧ cur.size = cap * ie.size := by
  rcases hform with ⟨h1, _⟩ | ⟨g1, cap1, cur1, h1, _, h3, h4, h5, h6, h7⟩
  ·cases h1
  ·cases h1
   rw [hold] at h3
   cases h3
   exact ⟨rfl, h4, h5, h6⟩
 subst hn
 have hown : w.ownsRow 0 e ie.size (.slice (some ⟨b, 0, none⟩) n cap) n xs := ⟨hxl, hform⟩
 have hot : ∀ k, k < w.heap.size → k ≠ b → w'.heap[k]? = w.heap[k]? := fun k hk hne => hgb.block k hk (fun e => hne (Option.some.inj e))
 have hown' : w'.ownsRow 0 e ie.size (.slice (some ⟨b, 0, none⟩) n cap) n (cur'.toList.take (n * ie.size)) := by
  have hcap := Nat.mul_le_mul_right ie.size hnc
  refine ⟨by simp; omega, .inr ⟨b, cap, cur', rfl, Nat.zero_le _, hnew, hnc, hcm, by omega, rfl⟩⟩
 exact {
  defers := hs.defers
  size := hs.size
  rep := fun k d hd => by
   rw [updG, lk_map] at hd
   obtain ⟨d0, h0, rfl⟩ := Option.map_eq_some_iff.1 hd
   obtain ⟨h1, h2⟩ := hs.rep k d0 h0
   exact ⟨h1, updR_rep htk hrep hlens h2⟩
  mem := {
   os := hgb.os.trans m.os
   tape := hgb.tape.trans m.tape
   output := hgb.output.trans m.output
   hsz := Nat.le_trans m.hsz hgb.size
   old := fun k hk h1 h2 => (hot k (Nat.lt_of_lt_of_le hk m.hsz) (by omega)).trans (m.old k hk h1 h2)
   keep := fun b1 o1 hf => by
    obtain ⟨h1, h2⟩ := m.keep b1 o1 hf
    refine ⟨h1, ?_⟩
    by_cases e1 : b1 = b
    ·exfalso
     subst e1
     have h3 := hfo o1 h1
     have h4 : w.cell? ⟨b1, o1, none⟩ = some (xs[o1]'(by omega)) := own_cell hown rfl o1 _ (List.getElem?_eq_getElem _)
     rw [h4] at h2
     have h5 : C.w0.heap[b1]? = none := Array.getElem?_eq_none hbge
     simp [World.cell?, h5] at h2
    ·exact (World.cell?_of_block (hot b1 (m.fzlt b1 o1 h1) e1)).trans h2
   newfz := m.newfz
   fzlt := fun b1 o1 hf => Nat.lt_of_lt_of_le (m.fzlt b1 o1 hf) hgb.size
   bxs := fun n1 ds hd => by
    rw [updB, lk_map] at hd
    obtain ⟨ds0, h0, rfl⟩ := Option.map_eq_some_iff.1 hd
    obtain ⟨b1, cs, t1, h1, h2, h3⟩ := m.bxs n1 ds0 h0
    refine ⟨b1, cs, t1, h1, (hot b1 (m.bxok n1 b1 h1).1 (fun e1 => m.bxtk n1 t b1 _ _ h1 htk (by rw [e1]; rfl))).trans h2, updR_reps htk hrep hlens h3⟩
   mps := fun _ _ h => by simp [lk] at h
   bxok := fun n1 b1 h => ⟨Nat.lt_of_lt_of_le (m.bxok n1 b1 h).1 hgb.size, (m.bxok n1 b1 h).2⟩
   bxinj := m.bxinj
   tks := fun s u f hsf => by
    by_cases e1 : s = t
    ·subst e1
     rw [htk] at hsf
     cases hsf
     exact ⟨ie, n, _, hie, hpos, hown', hfz⟩
    ·obtain ⟨i1, n1, xs1, h1, h2, h3, h4⟩ := m.tks s u f hsf
     refine ⟨i1, n1, xs1, h1, h2, h3.kept hgb ?_, h4⟩
     right
     intro e2
     exact e1 (m.tkinj s t _ _ _ _ b hsf htk e2 rfl)
   tkinj := m.tkinj
   bxtk := m.bxtk
   dfs := fun D hD => by
    obtain ⟨h1, h2⟩ := m.dfs D hD
    have hD' : D < w.heap.size := by
     rcases Nat.lt_or_ge D w.heap.size with h | h
     ·exact h
     ·rw [Array.getElem?_eq_none h] at h2; cases h2
    refine ⟨h1, (hot D hD' (fun e1 => ?_)).trans h2⟩
    subst e1
    rw [hold] at h2; cases h2
   dnd := m.dnd
   bxdf := m.bxdf
   bxdm := m.bxdm }
  x := C.Xok _ _ _ (fun k => k = b) _ _ hs.x ⟨hgb.os, hgb.tape, hgb.output, hgb.size, fun k hk hne => hot k hk hne⟩ (fun k e1 => .inr (.inl ⟨t, _, _, htk, by rw [e1]; rfl⟩)) (fun _ h => .inl h)
  fix := hs.fix }


abbrev encR (x : ARef) : List Value := [.int .i64 x.kind, .string x.space, .string x.name]

theorem mem_isNaN_i (x : Int) (w : World) : Calls Tryz.prog 119 #[.int .i64 x] w fun e w' => e = .returned (.bool false) ∧ w' = w := by
 go_enter Tryz.func119, Tryz.ntmps119
 go_wp2
 go_ret
 exact ⟨by simp, rfl⟩

theorem mem_isNaN_s (x : ByteArray) (w : World) : Calls Tryz.prog 120 #[.string x] w fun e w' => e = .returned (.bool false) ∧ w' = w := by
 go_enter Tryz.func120, Tryz.ntmps120
 go_wp2
 go_ret
 exact ⟨by simp, rfl⟩

set_option maxHeartbeats 1000000 in
theorem mem_Compare_i (x y : Int) (w : World) : Calls Tryz.prog 80 #[.int .i64 x, .int .i64 y] w fun e w' => e = .returned (.int .i64 (Lib.compareInt x y)) ∧ w' = w := by
 go_enter Tryz.func80, Tryz.ntmps80
 go_wp2_with (go_at_call 119; refine (mem_isNaN_i _ _).mono ?_; rintro e w' ⟨rfl, hw⟩; rw [hw])
 all_goals (go_ret; refine ⟨?_, rfl⟩; unfold Lib.compareInt; (repeat' split) <;> first | rfl | (exfalso; omega))

set_option maxHeartbeats 1000000 in
theorem mem_Compare_s (x y : ByteArray) (w : World) : Calls Tryz.prog 81 #[.string x, .string y] w fun e w' => e = .returned (.int .i64 (cmpB x y)) ∧ w' = w := by
 have hg : ∀ w : World, Sem.run Tryz.prog (binOp .gtr 9 (.string x) (.string y)) w = .ok (.bool (bl y x)) w := fun w => by
  have := less_total x y
  unfold bl
  simp only [binOp, Op.stringOp, Sem.run_pure, bytes_eq]
  rw [← Bool.not_not (Op.bytesLess y.toList x.toList), ← this]
 go_enter Tryz.func81, Tryz.ntmps81
 go_wp2_with (go_at_call 120; refine (mem_isNaN_s _ _).mono ?_; rintro e w' ⟨rfl, hw⟩; rw [hw])
 all_goals (go_ret; refine ⟨?_, rfl⟩; unfold cmpB; unfold bl at *; simp [*])

set_option maxHeartbeats 1000000 in
theorem mem_Or (a b c : Int) (W : World) (blk : Nat) (h0 : W.cell? ⟨blk, 0, none⟩ = some (.int .i64 a)) (h1 : W.cell? ⟨blk, 1, none⟩ = some (.int .i64 b)) (h2 : W.cell? ⟨blk, 2, none⟩ = some (.int .i64 c)) :
 Calls Tryz.prog 79 #[.slice (some ⟨blk, 0, none⟩) 3 3] W fun e w' => e = .returned (.int .i64 (if ¬ a = 0 then a else if ¬ b = 0 then b else c)) ∧ ∃ q, w' = W.drewN q := by
 generalize hr : (if ¬ a = 0 then a else if ¬ b = 0 then b else c) = r
 go_enter Tryz.func79, Tryz.ntmps79
 go_wp2
 refine wp_loop_rounds 4 ?_
 rw [rounds_succ]
 go_wp2
 ·go_ret
  exact ⟨by rw [← hr]; simp_all, 0, rfl⟩
 rw [rounds_succ]
 go_wp2
 ·go_ret
  exact ⟨by rw [← hr]; simp_all, 0, rfl⟩
 rw [rounds_succ]
 go_wp2
 ·go_ret
  exact ⟨by rw [← hr]; simp_all, 0, rfl⟩
 rw [rounds_succ]
 go_wp2
 go_ret
 exact ⟨by rw [← hr]; simp_all, 0, rfl⟩

theorem cell_new (W : World) (cs : Array Value) (t : TypeId) (j : Nat) : (W.alloc (.cells cs t)).cell? ⟨W.heap.size, j, none⟩ = cs[j]? := by
 have h : (W.alloc (.cells cs t)).heap[W.heap.size]? = some (.cells cs t (0, 0)) := by
  show (W.heap.push _)[W.heap.size]? = _
  rw [Array.getElem?_push, if_pos rfl]
 simp only [World.cell?, h]
 rfl

set_option maxHeartbeats 2000000 in
theorem mem_Order (x y : ARef) (W : World) : Calls Tryz.prog 39 #[.agg #[.int .i64 x.kind, .string x.space, .string x.name], .agg #[.int .i64 y.kind, .string y.space, .string y.name]] W fun e w' => e = .returned (.int .i64 (refCmp x y)) ∧ ∃ q os', w' = Sort.grow (W.drewN q) os' := by
 rw [refCmp_or]
 have c1 := fun W => mem_Compare_i x.kind y.kind W
 have c2 := fun W => mem_Compare_s x.space y.space W
 have c3 := fun W => mem_Compare_s x.name y.name W
 have c4 := fun W blk => mem_Or (Lib.compareInt x.kind y.kind) (cmpB x.space y.space) (cmpB x.name y.name) W blk
 generalize Lib.compareInt x.kind y.kind = r1 at c1 c4 ⊢
 generalize cmpB x.space y.space = r2 at c2 c4 ⊢
 generalize cmpB x.name y.name = r3 at c3 c4 ⊢
 generalize (if ¬ r1 = 0 then r1 else if ¬ r2 = 0 then r2 else r3) = r at c4 ⊢
 go_enter Tryz.func39, Tryz.ntmps39
 go_wp2
 generalize hW2 : (W.alloc (Obj.cells #[Value.int IntKind.i64 x.kind, Value.string x.space, Value.string x.name] 35)).alloc (Obj.cells #[Value.int IntKind.i64 y.kind, Value.string y.space, Value.string y.name] 35) = W2
 have e1 : W2.heap[W.heap.size]? = some (Obj.cells #[Value.int IntKind.i64 x.kind, Value.string x.space, Value.string x.name] 35 (0, 0)) := by
  rw [← hW2]
  show ((W.heap.push _).push _)[W.heap.size]? = _
  rw [Array.getElem?_push, if_neg (by rw [Array.size_push]; omega), Array.getElem?_push, if_pos rfl]
 have e2 : W2.heap[W.heap.size + 1]? = some (Obj.cells #[Value.int IntKind.i64 y.kind, Value.string y.space, Value.string y.name] 35 (0, 0)) := by
  rw [← hW2]
  show ((W.heap.push _).push _)[W.heap.size + 1]? = _
  rw [Array.getElem?_push, if_pos (by rw [Array.size_push])]
 have hx : ∀ j v, (encR x)[j]? = some v → W2.drew.cell? ⟨W.heap.size, j, none⟩ = some v := fun j v hv => by
  simp only [World.cell?, World.drew, e1]
  rw [← List.getElem?_toArray] at hv
  exact hv
 have hy : ∀ j v, (encR y)[j]? = some v → W2.drew.cell? ⟨W.heap.size + 1, j, none⟩ = some v := fun j v hv => by
  simp only [World.cell?, World.drew, e2]
  rw [← List.getElem?_toArray] at hv
  exact hv
 have hg : W2.drew = Sort.grow (W.drewN 1) #[Obj.cells #[Value.int IntKind.i64 x.kind, Value.string x.space, Value.string x.name] 35, Obj.cells #[Value.int IntKind.i64 y.kind, Value.string y.space, Value.string y.name] 35] := by
  rw [← hW2, Sort.alloc_eq_grow, Sort.alloc_eq_grow, Sort.grow_grow]
  rfl
 refine wp_region_still_tail 15 (by kernel_rfl) (by kernel_rfl) ?_
 change wpStill _ _ W2.drew (fun a' => wpList _ _ _ _ a' W2.drew) _ _
 have hx0 := hx 0 _ rfl
 have hx1 := hx 1 _ rfl
 have hx2 := hx 2 _ rfl
 have hy0 := hy 0 _ rfl
 have hy1 := hy 1 _ rfl
 have hy2 := hy 2 _ rfl
 clear hx hy hW2 e1 e2
 generalize W2.drew = W3 at hx0 hx1 hx2 hy0 hy1 hy2 hg ⊢
 have HG : Aside (W3 = Sort.grow (W.drewN 1) #[Obj.cells #[Value.int IntKind.i64 x.kind, Value.string x.space, Value.string x.name] 35, Obj.cells #[Value.int IntKind.i64 y.kind, Value.string y.space, Value.string y.name] 35]) := hg
 clear hg
 simp only [List.take_succ_cons, List.take_zero, List.drop_succ_cons, List.drop_zero]
 repeat still_step
 still_call (c1 _)
 repeat still_step
 still_call (c2 _)
 repeat still_step
 still_call (c3 _)
 refine wpStill_nil ?_
 go_wp2_with (go_at_call 79; refine (c4 _ _ (cell_new _ _ _ 0) (cell_new _ _ _ 1) (cell_new _ _ _ 2)).mono ?_; rintro e w' ⟨rfl, q, rfl⟩)
 go_ret
 obtain rfl : W3 = _ := HG
 refine ⟨rfl, 1 + q, #[Obj.cells #[Value.int IntKind.i64 x.kind, Value.string x.space, Value.string x.name] 35, Obj.cells #[Value.int IntKind.i64 y.kind, Value.string y.space, Value.string y.name] 35] ++ #[Obj.cells #[Value.int IntKind.i64 r1, Value.int IntKind.i64 r2, Value.int IntKind.i64 r3] 3], ?_⟩
 rw [Sort.alloc_eq_grow, Sort.grow_grow]
 show Sort.grow ((W.drewN 1).drewN q) _ = _
 rw [World.drewN_drewN]


def refZ : ARef := ⟨0, ⟨#[]⟩, ⟨#[]⟩⟩

instance : Inhabited ARef := ⟨refZ⟩

theorem encR_one (x : ARef) : ∀ v ∈ encR x, v.oneCell' = true := fun v hv => by
 simp only [encR, List.mem_cons, List.not_mem_nil, or_false] at hv
 rcases hv with rfl | rfl | rfl <;> rfl

theorem encR_inv {Fz : Nat → Nat → Prop} {w : World} {vs : List Value} {x : ARef} (h : PReps Fz w vs (ARef.pd x)) : vs = encR x := by
 cases h with
 | cons v _ vs _ h hs =>
   cases hs with
   | cons v' _ vs' _ h' hs' =>
     cases hs' with
     | cons v'' _ vs'' _ h'' hs'' =>
       cases hs''
       cases h; cases h'; cases h''
       rfl

theorem encR_rep {Fz : Nat → Nat → Prop} {w : World} (x : ARef) : PReps Fz w (encR x) (ARef.pd x) :=
 .cons _ _ _ _ (.raw _ rfl) (.cons _ _ _ _ (.raw _ rfl) (.cons _ _ _ _ (.raw _ rfl) .nil))

structure RowR (Fz : Nat → Nat → Prop) (w : World) (b len cap : Nat) (l : List ARef) : Prop where
 hlen : l.length = len
 hcap : len ≤ cap
 hmax : len ≤ maxLen
 hcell : ∀ j i x u, l[j]? = some x → (encR x)[i]? = some u → w.cell? ⟨b, j * 3 + i, none⟩ = some u ∧ Fz b (j * 3 + i)

theorem RowR.of {Fz : Nat → Nat → Prop} {w : World} {b len cap : Nat} {l : List ARef} (hl : l ≠ []) (h : PRep Fz w (.slice (some ⟨b, 0, none⟩) len cap) (.slice (rows ARef.pd l))) : RowR Fz w b len cap l := by
 generalize hE : rows ARef.pd l = E at h
 cases h with
 | empty => exact absurd (List.map_eq_nil_iff.1 hE) hl
 | slice _ _ _ _ sz _ vals hn hpos hcap hmax hlen hc hr =>
   have hll : l.length = len := by rw [← hn, ← hE]; simp [rows]
   have hv : ∀ j x, l[j]? = some x → vals j = encR x := fun j x hx => by
    have hj : j < len := by have := (List.getElem?_eq_some_iff.1 hx).1; omega
    have h1 := hr j hj
    rw [← hE, List.getD_eq_getElem?_getD, rows, List.getElem?_map, hx] at h1
    exact encR_inv h1
   have hsz : sz = 3 := by
    obtain ⟨x, hx⟩ := at_lt (l := l) (i := 0) (by omega)
    rw [← hlen 0 hpos, hv 0 x hx]
    rfl
   subst hsz
   refine ⟨hll, hcap, hmax, fun j i x u hx hu => ?_⟩
   have hj : j < len := by have := (List.getElem?_eq_some_iff.1 hx).1; omega
   have := hc j i u hj (by rw [hv j x hx]; exact hu)
   rwa [Nat.zero_add] at this

theorem RowR.rep {Fz : Nat → Nat → Prop} {w : World} {b len cap : Nat} {l : List ARef} (h : RowR Fz w b len cap l) (hl : l ≠ []) : PRep Fz w (.slice (some ⟨b, 0, none⟩) len cap) (.slice (rows ARef.pd l)) := by
 have hpos : 0 < len := by have := List.length_pos_iff.2 hl; have := h.hlen; omega
 refine .slice b 0 len cap 3 _ (fun j => encR (l.getD j refZ)) (by rw [← h.hlen]; simp [rows]) hpos h.hcap h.hmax (fun _ _ => rfl) (fun j i u hj hu => ?_) (fun j hj => ?_)
 ·obtain ⟨x, hx⟩ := at_lt (l := l) (i := j) (by have := h.hlen; omega)
  rw [List.getD_eq_getElem?_getD, hx] at hu
  rw [Nat.zero_add]
  exact h.hcell j i x u hx hu
 ·obtain ⟨x, hx⟩ := at_lt (l := l) (i := j) (by have := h.hlen; omega)
  rw [List.getD_eq_getElem?_getD, List.getD_eq_getElem?_getD, rows, List.getElem?_map, hx]
  exact encR_rep x

theorem RowR.holds {Fz : Nat → Nat → Prop} {w : World} {b len cap : Nat} {l : List ARef} (h : RowR Fz w b len cap l) {cur : Array Value} {e : TypeId} (hb : w.heap[b]? = some (.cells cur e (0, 0))) : Sort.HoldsK encR 3 w b 0 l.toArray := by
 intro t ht
 rw [Sort.size_flatK] at ht
 have ht' : t < l.length * 3 := by simpa using ht
 obtain ⟨x, hx⟩ := at_lt (l := l) (i := t / 3) (by omega)
 have h3 : t % 3 < 3 := Nat.mod_lt _ (by decide)
 have h1 := h.hcell (t / 3) (t % 3) x (encR x)[t % 3] hx (List.getElem?_eq_getElem (by simpa using h3))
 rw [Nat.div_add_mod' t 3] at h1
 rw [Sort.get_flatK _ _ _ _ (by simpa using ht'), Nat.zero_add]
 refine ⟨h1.1.trans ?_, by simp [World.frozen?, hb]⟩
 have e1 : l.toArray[t / 3]! = x := by
  rw [getElem!_pos _ _ (by simpa using (List.getElem?_eq_some_iff.1 hx).1)]
  simpa using (List.getElem?_eq_some_iff.1 hx).2
 rw [e1]
 simp only [id]
 rw [getElem!_pos _ _ (by simpa using h3)]

theorem RowR.of_holds {Fz : Nat → Nat → Prop} {w w' : World} {b len cap : Nat} {l l' : List ARef} (h : RowR Fz w b len cap l) (hl : l'.length = l.length) (hH : Sort.HoldsK encR 3 w' b 0 l'.toArray) : RowR Fz w' b len cap l' where
 hlen := hl.trans h.hlen
 hcap := h.hcap
 hmax := h.hmax
 hcell := fun j i x u hx hu => by
  have hj : j < l'.length := (List.getElem?_eq_some_iff.1 hx).1
  have hi : i < 3 := by simpa using (List.getElem?_eq_some_iff.1 hu).1
  obtain ⟨y, hy⟩ := at_lt (l := l) (i := j) (by omega)
  have h1 := (h.hcell j i y (encR y)[i] hy (List.getElem?_eq_getElem (by simpa using hi))).2
  have h2 := (hH.cell (i := j) (c := i) (by simpa using hj) hi).1
  rw [Nat.zero_add] at h2
  refine ⟨h2.trans ?_, h1⟩
  have e1 : l'.toArray[j]! = x := by
   rw [getElem!_pos _ _ (by simpa using hj)]
   simpa using (List.getElem?_eq_some_iff.1 hx).2
  rw [e1, getElem!_pos _ _ (by simpa using hi)]
  exact (List.getElem?_eq_getElem _).symm.trans hu

theorem grownBy_K {w : World} {b n : Nat} {os : Array Obj} (F : Array Value) : w.grownBy (Sort.grow (Sort.putRow id (Sort.ahead w n) b 0 F) os) (some b) := by
 refine ⟨rfl, rfl, rfl, by simp, fun k hk hne => ?_⟩
 rw [Sort.heap_grow_old _ _ (by simpa using hk)]
 have : b ≠ k := fun e => hne (by rw [e])
 simp [Sort.putRow, Sort.mapBlock, Sort.ahead, Array.getElem?_modify, this]

theorem heap_K {w : World} {b n : Nat} {os : Array Obj} {cur : Array Value} {e : TypeId} {fr : Nat × Nat} (F : Array Value) (hb : w.heap[b]? = some (.cells cur e fr)) :
 (Sort.grow (Sort.putRow id (Sort.ahead w n) b 0 F) os).heap[b]? = some (.cells (Sort.putCells id 0 F cur) e fr) := by
 have hg : b < w.heap.size := (Array.getElem?_eq_some_iff.1 hb).1
 rw [Sort.heap_grow_old _ _ (by simpa using hg)]
 simp [Sort.putRow, Sort.mapBlock, Sort.ahead, Array.getElem?_modify, hb, Sort.onCells]

def refSort (l : List ARef) : List ARef := l.mergeSort fun x y => !refLt y x

theorem sort_callW {SF OF : FuncId} (hSF : ∀ (vs : Array Value) (w : World), (callFunc SF vs).run Tryz.prog w = .ok (.enter SF vs) w)
 (hs0 : ∀ (b cap : Nat) (l : List ARef) (w : World), Sort.HoldsK encR 3 w b 0 l.toArray → b < w.heap.size → l.length < 4611686018427387904 → Calls Tryz.prog SF #[.slice (some ⟨b, 0, none⟩) l.length cap, .func (.func OF) #[] #[]] w fun e w' => e = .returned (.tuple #[]) ∧ ∃ n os, w' = sortWorldK encR 3 w b 0 n (refSort l).toArray os)
 {st : St} {l : List ARef} (hl : l ≠ []) (hle : l.length ≤ 1000000) {t : Nat} {e : TypeId} (hsolo : st.hs = .solo) {K : D → St → Prop}
 (hk : K (.tup []) ⟨updG t e 3 (rows ARef.pd (refSort l)) st.fr, updB t e 3 (rows ARef.pd (refSort l)) st.bs, [], st.hs⟩) :
 CallW Tryz.prog SF [.own e 3 (rows ARef.pd l) t, .fn OF []] st K := by
 refine ⟨hSF, fun C g a w vs hP hs hr => ?_⟩
 simp only [Reps] at hr
 obtain ⟨v0, vs0, rfl, h0, v1, vs1, rfl, h1, rfl⟩ := hr
 simp only [Rep] at h0 h1
 obtain ⟨hpr, htk, hlens⟩ := h0
 obtain ⟨cv, rfl, hcv⟩ := h1
 simp only [Caps] at hcv
 subst hcv
 have m := hs.mem
 obtain ⟨ie, n, xs, hie, hpos, hown, hfz⟩ := m.tks t _ _ htk
 obtain ⟨hxl, hform⟩ := hown
 rcases hform with ⟨rfl, hn0, _⟩ | ⟨b, cap, cur, rfl, hb0, hold, hnc, hcm, hcs, htake⟩
 ·exfalso
  generalize hE : rows ARef.pd l = E at hpr
  cases hpr with
  | empty => exact hl (List.map_eq_nil_iff.1 hE)
 have hR := RowR.of hl hpr
 have hlen := hR.hlen
 have hmax := hR.hmax
 have hbl : b < w.heap.size := (Array.getElem?_eq_some_iff.1 hold).1
 have hsl : (refSort l).length = l.length := List.length_mergeSort _
 have hsl' : refSort l ≠ [] := fun e => hl (List.length_eq_zero_iff.1 (by rw [← hsl, e]; rfl))
 subst hlen
 refine (hs0 b cap l w (hR.holds hold) hbl (by omega)).mono ?_
 rintro ex w' ⟨rfl, q, os, rfl⟩
 have hH : Sort.HoldsK encR 3 (sortWorldK encR 3 w b 0 q (refSort l).toArray os) b 0 (refSort l).toArray := by
  unfold sortWorldK
  refine Sort.holdsK_grow _ _ _ _ _ _ _ (by simpa [Sort.putRowK] using hbl) (Sort.holdsK_putRowK _ _ _ _ _ l.toArray _ (Sort.holdsK_ahead _ _ _ _ _ _ _ (hR.holds hold)) (by simpa using hsl))
 exact ⟨.tuple #[], .tup [], _, g, rfl, hk, hs.newrow htk hsolo (grownBy_K _) hold (heap_K _ hold) (by simp [Sort.putCells]) ((hR.of_holds hsl hH).rep hsl') (rows_row (f := ARef.pd) (n := 3) (fun _ => rfl) _), by simp [Rep, Reps]⟩

end Go.Proofs.YtjgpdjakehoofaaGreatDoor



namespace Go.Proofs.YtjgpdjakehoofaaGreatDoor
open Go Go.RowKit Go.Shelf
set_option linter.unusedSimpArgs false
set_option linter.unusedVariables false
set_option maxRecDepth 100000

def Tryz.sortRef_ren : Go.Shelf.Ren := ⟨fun | 6 => 83 | 15 => 122 | 14 => 121 | 28 => 172 | 29 => 173 | 20 => 164 | 21 => 165 | 22 => 166 | 23 => 167 | 24 => 168 | 25 => 169 | 26 => 170 | 27 => 171 | 46 => 208 | 47 => 209 | 48 => 210 | 49 => 211 | 50 => 212 | 57 => 251 | n => n, fun | 22 => 94 | 24 => 35 | 25 => 93 | 3 => 3 | 39 => 183 | 0 => 0 | 53 => 222 | 55 => 224 | 4 => 4 | 46 => 216 | 45 => 215 | 50 => 113 | 5 => 5 | 9 => 9 | 66 => 244 | 70 => 248 | 76 => 270 | 77 => 271 | n => n, fun | n => n⟩
theorem Tryz.sortRef : Go.Proofs.SlLaysF0.n6 Tryz.prog Tryz.sortRef_ren := {
 mixed := by kernel_rfl
 f6 := ⟨Tryz.f83.name, by decide, Tryz.func83.trans (congrArg some (by kernel_rfl))⟩
 f14 := ⟨Tryz.f121.name, by decide, Tryz.func121.trans (congrArg some (by kernel_rfl))⟩
 f15 := Tryz.func122.trans (congrArg some (by kernel_rfl))
 f20 := ⟨Tryz.f164.name, by decide, Tryz.func164.trans (congrArg some (by kernel_rfl))⟩
 f21 := ⟨Tryz.f165.name, by decide, Tryz.func165.trans (congrArg some (by kernel_rfl))⟩
 f22 := ⟨Tryz.f166.name, by decide, Tryz.func166.trans (congrArg some (by kernel_rfl))⟩
 f23 := ⟨Tryz.f167.name, by decide, Tryz.func167.trans (congrArg some (by kernel_rfl))⟩
 f24 := ⟨Tryz.f168.name, by decide, Tryz.func168.trans (congrArg some (by kernel_rfl))⟩
 f25 := ⟨Tryz.f169.name, by decide, Tryz.func169.trans (congrArg some (by kernel_rfl))⟩
 f26 := ⟨Tryz.f170.name, by decide, Tryz.func170.trans (congrArg some (by kernel_rfl))⟩
 f27 := ⟨Tryz.f171.name, by decide, Tryz.func171.trans (congrArg some (by kernel_rfl))⟩
 f28 := Tryz.func172.trans (congrArg some (by kernel_rfl))
 f29 := Tryz.func173.trans (congrArg some (by kernel_rfl))
 f46 := ⟨Tryz.f208.name, by decide, Tryz.func208.trans (congrArg some (by kernel_rfl))⟩
 f47 := Tryz.func209.trans (congrArg some (by kernel_rfl))
 f48 := Tryz.func210.trans (congrArg some (by kernel_rfl))
 f49 := ⟨Tryz.f211.name, by decide, Tryz.func211.trans (congrArg some (by kernel_rfl))⟩
 f50 := ⟨Tryz.f212.name, by decide, Tryz.func212.trans (congrArg some (by kernel_rfl))⟩
 f57 := ⟨Tryz.f251.name, by decide, Tryz.func251.trans (congrArg some (by kernel_rfl))⟩
 t0 := Tryz.underlying0
 a0 := Tryz.isAgg0
 z0 := Tryz.sizeOf0
 v0 := Tryz.zeroValue0
 t3 := Tryz.underlying3
 a3 := Tryz.isAgg3
 z3 := Tryz.sizeOf3
 v3 := Tryz.zeroValue3
 t4 := Tryz.underlying4
 a4 := Tryz.isAgg4
 z4 := Tryz.sizeOf4
 v4 := Tryz.zeroValue4
 t5 := Tryz.underlying5
 a5 := Tryz.isAgg5
 z5 := Tryz.sizeOf5
 v5 := Tryz.zeroValue5
 t9 := Tryz.underlying9
 a9 := Tryz.isAgg9
 z9 := Tryz.sizeOf9
 v9 := Tryz.zeroValue9
 t22 := Tryz.underlying94
 a22 := Tryz.isAgg94
 z22 := Tryz.sizeOf94
 v22 := Tryz.zeroValue94
 t25 := Tryz.underlying93
 a25 := Tryz.isAgg93
 z25 := Tryz.sizeOf93
 v25 := Tryz.zeroValue93
 t39 := Tryz.underlying183
 a39 := Tryz.isAgg183
 z39 := Tryz.sizeOf183
 v39 := Tryz.zeroValue183
 t45 := Tryz.underlying215
 a45 := Tryz.isAgg215
 z45 := Tryz.sizeOf215
 v45 := Tryz.zeroValue215
 t46 := Tryz.underlying216
 a46 := Tryz.isAgg216
 z46 := Tryz.sizeOf216
 v46 := Tryz.zeroValue216
 t50 := Tryz.underlying113
 a50 := Tryz.isAgg113
 z50 := Tryz.sizeOf113
 v50 := Tryz.zeroValue113
 t53 := Tryz.underlying222
 a53 := Tryz.isAgg222
 z53 := Tryz.sizeOf222
 v53 := Tryz.zeroValue222
 t55 := Tryz.underlying224
 a55 := Tryz.isAgg224
 z55 := Tryz.sizeOf224
 v55 := Tryz.zeroValue224
 t66 := Tryz.underlying244
 a66 := Tryz.isAgg244
 z66 := Tryz.sizeOf244
 v66 := Tryz.zeroValue244
 t70 := Tryz.underlying248
 a70 := Tryz.isAgg248
 z70 := Tryz.sizeOf248
 v70 := Tryz.zeroValue248
 t76 := Tryz.underlying270
 a76 := Tryz.isAgg270
 z76 := Tryz.sizeOf270
 v76 := Tryz.zeroValue270
 t77 := Tryz.underlying271
 a77 := Tryz.isAgg271
 z77 := Tryz.sizeOf271
 v77 := Tryz.zeroValue271 }

theorem refs_sorted (b cap : Nat) (l : List ARef) (w : World) (hH : Sort.HoldsK encR 3 w b 0 l.toArray) (hb : b < w.heap.size) (hl : l.length < 4611686018427387904) :
 Calls Tryz.prog 83 #[.slice (some ⟨b, 0, none⟩) l.length cap, .func (.func 39) #[] #[]] w fun e w' => e = .returned (.tuple #[]) ∧ ∃ n os, w' = sortWorldK encR 3 w b 0 n (refSort l).toArray os := by
 have h := AnyQ.slices_SortFunc_total Tryz.sortRef 3 Tryz.isAgg35 Tryz.sizeOf35 encR (fun _ => rfl) encR_one refCmp refSWO 39 #[] b 0 cap l.toArray w (enters_of Tryz.func39 (by kernel_rfl) rfl) (fun _ _ _ _ x y => mem_Order x y _) hH hb (by simpa using hl) refTotal
 have e1 : l.toArray.size = l.length := by simp
 rw [e1] at h
 refine h.mono ?_
 rintro e w' ⟨h1, n, os, h2⟩
 refine ⟨h1, n, os, ?_⟩
 rw [h2]
 congr 1
 unfold refSort
 congr 2
 funext x y
 rw [refCmp_lt]


abbrev aggR (x : ARef) : Value := .agg #[.int .i64 x.kind, .string x.space, .string x.name]

theorem eql_R (x y : ARef) (w : World) : Sem.run Tryz.prog (Op.equal 35 (aggR x) (aggR y)) w = .ok (decide (x = y)) w := by
 have h := (eq_run (P := Tryz.prog) w 40 35 [.int, .str, .str] (by kernel_rfl) Op.maxDepth (by decide) (encR x) (encR y) (decide (x = y)) (by simp only [encR, eqVs, eqV, if_true]; exact congrArg some (by rw [Bool.eq_iff_iff]; obtain ⟨a1, a2, a3⟩ := x; obtain ⟨b1, b2, b3⟩ := y; simp))).1 _ Tryz.underlying35
 exact h

theorem eqop_R (x y : ARef) (w : World) : Sem.run Tryz.prog (binOp .eql 35 (aggR x) (aggR y)) w = .ok (.bool (decide (x = y))) w := by
 rw [binOp_eql_agg]
 have := eql_R x y w
 simp only [aggR] at this
 simp [this]
theorem neqop_R (x y : ARef) (w : World) : Sem.run Tryz.prog (binOp .neq 35 (aggR x) (aggR y)) w = .ok (.bool (!decide (x = y))) w := by
 rw [binOp_neq_agg]
 have := eql_R x y w
 simp only [aggR] at this
 simp [this]

theorem HoldsR.cells {w : World} {b : Nat} {d : Array ARef} (h : Sort.HoldsK encR 3 w b 0 d) {i : Nat} (hi : i < d.size) :
 (w.cell? ⟨b, i * 3, none⟩ = some (.int .i64 d[i]!.kind) ∧ w.cell? ⟨b, i * 3 + 1, none⟩ = some (.string d[i]!.space) ∧ w.cell? ⟨b, i * 3 + 2, none⟩ = some (.string d[i]!.name)) ∧
 w.frozen? ⟨b, i * 3, none⟩ = false ∧ w.frozen? ⟨b, i * 3 + 1, none⟩ = false ∧ w.frozen? ⟨b, i * 3 + 2, none⟩ = false := by
 have h0 := h.cell (i := i) (c := 0) hi (by decide)
 have h1 := h.cell (i := i) (c := 1) hi (by decide)
 have h2 := h.cell (i := i) (c := 2) hi (by decide)
 simp only [Nat.zero_add, Nat.add_zero] at h0 h1 h2
 exact ⟨⟨h0.1, h1.1, h2.1⟩, h0.2, h1.2, h2.2⟩

section
open Go.Sort Go.Lib

theorem setMany_one (d : Array ARef) (i : Nat) (x : ARef) (hi : i < d.size) : setMany (flatK encR 3 d) (i * 3) (encR x) = flatK encR 3 (d.setIfInBounds i x) := by
 refine ext_get! (by simp) fun t ht => ?_
 have ht' : t < d.size * 3 := by simpa using ht
 rw [get_setMany _ _ _ t (by simpa using ht'), get_flatK _ _ _ t ht', get_flatK _ _ _ t (by simpa using ht'), show (encR x).length = 3 from rfl]
 by_cases a : t / 3 = i
 ·rw [if_pos ((blk_iff 3 i t (by decide)).2 a), a, getElem!_set_same d i x hi, show t - i * 3 = t % 3 by rw [← a, Nat.mod_eq_sub_div_mul]]
 ·rw [if_neg (fun h => a ((blk_iff 3 i t (by decide)).1 h)), getElem!_set_other d i (t / 3) x a]

theorem lay_size {α : Type} : ∀ (xs : List α) (d : Array α) (k : Nat), (lay d k xs).size = d.size
 | [], _, _ => rfl
 | x :: r, d, k => by rw [lay, lay_size r]; simp

theorem repl_get (m j : Nat) : (Array.replicate m refZ)[j]! = refZ := by
 by_cases h : j < m
 ·rw [getElem!_pos _ _ (by simpa using h)]
  simp
 ·rw [getElem!_neg _ _ (by simpa using h)]
  rfl

theorem setMany_lay (dk : Array ARef) (kk m : Nat) (h : kk + m ≤ dk.size) : setMany (flatK encR 3 dk) (kk * 3) (flatK encR 3 (Array.replicate m refZ)).toList = flatK encR 3 (lay dk kk (List.replicate m refZ)) := by
 refine ext_get! (by simp [lay_size]) fun t ht => ?_
 have ht' : t < dk.size * 3 := by simpa using ht
 have hl : t / 3 < (lay dk kk (List.replicate m refZ)).size := by rw [lay_size]; omega
 rw [get_setMany _ _ _ t (by simpa using ht'), get_flatK _ _ _ t ht', get_flatK _ _ _ t (by rw [lay_size]; exact ht')]
 have hg := lay_get? (List.replicate m refZ) dk kk (t / 3) (by simpa using h)
 rw [Array.getElem?_eq_getElem hl] at hg
 rw [getElem!_pos (lay dk kk (List.replicate m refZ)) (t / 3) hl]
 simp only [Array.length_toList, size_flatK, Array.size_replicate]
 simp only [List.length_replicate] at hg
 by_cases a : kk ≤ t / 3 ∧ t / 3 < kk + m
 ·rw [if_pos a, List.getElem?_replicate, if_pos (by omega)] at hg
  rw [if_pos (by omega), Option.some.inj hg]
  have e1 : t - kk * 3 < m * 3 := by omega
  have e2 : (flatK encR 3 (Array.replicate m refZ)).toList[t - kk * 3]! = (flatK encR 3 (Array.replicate m refZ))[t - kk * 3]! := by
   rw [getElem!_pos _ _ (by simpa using e1), getElem!_pos _ _ (by simpa using e1)]
   rfl
  rw [e2, get_flatK _ _ _ _ (by simpa using e1), repl_get, show (t - kk * 3) % 3 = t % 3 by omega]
 ·rw [if_neg a, Array.getElem?_eq_getElem (by omega)] at hg
  rw [if_neg (by omega), Option.some.inj hg, getElem!_pos dk _ (by omega)]

theorem store_R {w wr : World} {n q b : Nat} {dk : Array ARef} {i : Nat} (hi : i < dk.size) (hwr : wr = putRowK encR 3 (Sort.ahead w n) b 0 dk) (x : ARef) :
 ((((wr.drewN q).setCell ⟨b, i * 3, none⟩ (.int .i64 x.kind)).setCell ⟨b, i * 3 + 1, none⟩ (.string x.space)).setCell ⟨b, i * 3 + 2, none⟩ (.string x.name)) = putRowK encR 3 (Sort.ahead w (n + q)) b 0 (dk.setIfInBounds i x) := by
 subst hwr
 rw [putRowK_drewN]
 have h := setCells_putRow (Sort.ahead w (n + q)) b 0 (encR x) (i * 3) (flatK encR 3 dk) (by simp; omega)
 rw [Nat.zero_add, setMany_one dk i x hi] at h
 exact h

theorem zero_R (n : Nat) : (Builtin.zeroCells (aggR refZ).cells n) = flatK encR 3 (Array.replicate n refZ) := by
 unfold Builtin.zeroCells flatK
 have h : (aggR refZ).cells = #[.int .i64 0, .string ⟨#[]⟩, .string ⟨#[]⟩] := rfl
 rw [h, Array.size_replicate]
 show (Array.range (n * 3)).map _ = (Array.range (n * 3)).map _
 congr 1
 funext t
 rw [repl_get]
 show (#[Value.int .i64 0, .string ⟨#[]⟩, .string ⟨#[]⟩])[t % 3]! = [Value.int .i64 0, .string ⟨#[]⟩, .string ⟨#[]⟩][t % 3]!
 have h3 : t % 3 < 3 := Nat.mod_lt _ (by decide)
 rcases h4 : t % 3 with _ | _ | _ | j
 ·rfl
 ·rfl
 ·rfl
 ·omega

theorem run_clear_R (w : World) (t ty : TypeId) (ht : Tryz.prog.underlying t = some (.slice 35)) (b c kk m : Nat) (hm : 0 < m) (dk : Array ARef) (hH : HoldsK encR 3 w b 0 dk) (hk : kk + m ≤ dk.size) :
 (Builtin.clear_ #[t] ty #[.slice (some ⟨b, kk * 3, none⟩) m c]).run Tryz.prog w = .ok (.tuple #[]) (w.setCells b (kk * 3) (flatK encR 3 (Array.replicate m refZ)).toList) := by
 have hv := Tryz.zeroValue35
 have hst := stores_of_holds Tryz.prog (W := w) (blk := b) (off := 0) hH (kk * 3) (flatK encR 3 (Array.replicate m refZ)).toList (by simp; omega) (fun v hv => by
  obtain ⟨i, hi, rfl⟩ := List.getElem_of_mem hv
  have hi' : i < m * 3 := by simpa using hi
  have e : (flatK encR 3 (Array.replicate m refZ)).toList[i] = (encR refZ)[i % 3]! := by
   have := get_flatK encR 3 (Array.replicate m refZ) i (by simpa using hi')
   rw [repl_get, getElem!_pos _ _ (by simpa using hi')] at this
   simpa using this
  rw [e]
  refine encR_one refZ _ ?_
  have h3 : i % 3 < 3 := Nat.mod_lt _ (by decide)
  rw [getElem!_pos _ _ (by simpa using h3)]
  exact List.getElem_mem _)
 simp only [Nat.zero_add] at hst
 rw [← zero_R] at hst ⊢
 obtain ⟨m, rfl⟩ : ∃ k, m = k + 1 := ⟨m - 1, by omega⟩
 simp only [aggR, refZ] at hst ⊢
 simp [Builtin.clear_, run_underlying ht, hv, hst]
end

open Go.Lib Go.Sort in
set_option maxHeartbeats 4000000 in
set_option maxRecDepth 1000000 in
theorem mem_Compact (b cap : Nat) (d : Array ARef) (w : World) (hH : Sort.HoldsK encR 3 w b 0 d) (hsz : d.size ≤ 1000000) (hcap : d.size ≤ cap) :
 Calls Tryz.prog 84 #[.slice (some ⟨b, 0, none⟩) d.size cap] w fun e w' => e = .returned (.slice (some ⟨b, 0, none⟩) (Lib.compactUpTo d d.size).length cap) ∧ ∃ q, w' = Sort.putRowK encR 3 (Sort.ahead w q) b 0 (Lib.compactUpTo d d.size ++ List.replicate (d.size - (Lib.compactUpTo d d.size).length) refZ).toArray := by
 have heq' := eqop_R
 have hne' := neqop_R
 have same : ∀ q, (∀ j, j < d.size → keeps d j = true) → (compactUpTo d d.size).length = d.size ∧ w.drewN q = putRowK encR 3 (Sort.ahead w q) b 0 (compactUpTo d d.size ++ List.replicate (d.size - (compactUpTo d d.size).length) refZ).toArray := by
  intro q hall
  have e : compactUpTo d d.size = d.toList := by rw [compactUpTo_all d _ hall, range_map_get]
  rw [e]
  refine ⟨by simp, ?_⟩
  simp only [Array.length_toList, Nat.sub_self, List.replicate_zero, List.append_nil, Array.toArray_toList]
  exact (putRowK_self encR 3 (Sort.ahead w q) b 0 d (holdsK_ahead encR 3 w q b 0 d hH)).symm
 have HS : Aside (∀ q, (∀ j, j < d.size → keeps d j = true) → (compactUpTo d d.size).length = d.size ∧ w.drewN q = putRowK encR 3 (Sort.ahead w q) b 0 (compactUpTo d d.size ++ List.replicate (d.size - (compactUpTo d d.size).length) refZ).toArray) := same
 clear same
 by_cases h2 : d.size < 2
 ·have HH : Aside (HoldsK encR 3 w b 0 d) := hH
  clear hH
  go_enter Tryz.func84, Tryz.ntmps84
  go_wp2
  go_ret
  obtain ⟨e1, e2⟩ := HS.out 0 (fun j hj => keeps_lt_one d j (by omega))
  exact ⟨by rw [e1]; rfl, 0, e2⟩
 ·go_enter Tryz.func84, Tryz.ntmps84
  go_wp2
  go_loopg [3] d.size (fun g s3 wr => ∃ k q : Nat, 1 ≤ k ∧ k ≤ d.size ∧ d.size - k ≤ g ∧ s3 = .int .i64 k ∧ wr = w.drewN q ∧ ∀ j, j < k → keeps d j = true)
  case atStart => exact ⟨1, 0, Nat.le_refl _, by omega, by omega, rfl, rfl, keeps_lt_one d⟩
  case round =>
   obtain ⟨k, q, hk1, hk, hg, rfl, rfl, hall⟩ := hrel
   by_cases hlt : k < d.size
   ·have A : Aside (∀ j, j < k → keeps d j = true) := hall
    have HH : Aside (HoldsK encR 3 w b 0 d) := hH
    clear hall hH
    obtain ⟨⟨p0, p1, p2⟩, _⟩ := HoldsR.cells (w := w.drewN q) (b := b) (show HoldsK encR 3 (w.drewN q) b 0 d from HH) hlt
    obtain ⟨⟨r0, r1, r2⟩, _⟩ := HoldsR.cells (w := w.drewN q) (b := b) (show HoldsK encR 3 (w.drewN q) b 0 d from HH) (show k - 1 < d.size by omega)
    generalize hxk : d[k]! = x at p0 p1 p2
    generalize hyk : d[k - 1]! = y at r0 r1 r2
    have B : Aside (d[k]! = x ∧ d[k - 1]! = y) := ⟨hxk, hyk⟩
    clear hxk hyk
    generalize hwq : w.drewN q = wq at p0 p1 p2 r0 r1 r2 ⊢
    by_cases hdup : x = y
    ·have hD : Sem.run Tryz.prog (binOp .eql 35 (aggR x) (aggR y)) = fun w => .ok (.bool true) w := by funext w; rw [heq', decide_eq_true hdup]
     simp only [aggR] at hD
     go_wp2_with fail
     go_quiet (fail)
     go_wp2
     clear p0 p1 p2 r0 r1 r2 hD
     subst hwq
     go_loopg [3, 5] d.size (fun g s3 s5 wr => ∃ (kk k2 q2 : Nat) (dk : Array ARef), s3 = .int .i64 kk ∧ s5 = .int .i64 k2 ∧ 1 ≤ k2 ∧ k + k2 ≤ d.size ∧ d.size - (k + k2) ≤ g ∧ wr = putRowK encR 3 (Sort.ahead w q2) b 0 dk ∧ CompInv d (k + k2) kk dk)
     case atStart => exact ⟨k, 1, q + nq, d, rfl, rfl, Nat.le_refl _, by omega, by omega, (putRowK_self encR 3 (Sort.ahead w (q + nq)) b 0 d (holdsK_ahead encR 3 w (q + nq) b 0 d HH.out)).symm ▸ (by rw [World.drewN_drewN]; rfl), CompInv.start A.out (keeps_neg (by omega) (by rw [B.out.1, B.out.2, hdup]))⟩
     case round =>
      obtain ⟨kk, k2, q2, dk, rfl, rfl, h1, hle, hg2, hwr, hI⟩ := hrel
      have hkk := hI.lt
      have hds := hI.size
      have hHk : HoldsK encR 3 wr b 0 dk := by rw [hwr]; exact holdsK_putRowK encR 3 _ b 0 d dk (holdsK_ahead encR 3 w q2 b 0 d HH.out) hds
      have W2 : Aside (wr = putRowK encR 3 (Sort.ahead w q2) b 0 dk) := hwr
      have I2 : Aside (CompInv d (k + k2) kk dk) := hI
      clear hwr
      by_cases hlt2 : k + k2 < d.size
      ·obtain ⟨⟨m0, m1, m2⟩, _⟩ := HoldsR.cells hHk (i := k + k2) (by omega)
       obtain ⟨⟨r0, r1, r2⟩, _⟩ := HoldsR.cells hHk (i := k + (k2 - 1)) (by omega)
       obtain ⟨⟨c0, c1, c2⟩, f0, f1, f2⟩ := HoldsR.cells hHk (i := kk) (by omega)
       rw [hI.high (k + k2) (by omega), Nat.add_mul] at m0 m1 m2
       rw [hI.high (k + (k2 - 1)) (by omega), Nat.add_mul] at r0 r1 r2
       clear hHk hI
       generalize hu : d[k + k2]! = u at m0 m1 m2
       generalize hv : d[k + (k2 - 1)]! = v at r0 r1 r2
       generalize dk[kk]! = old at c0 c1 c2
       have C : Aside (d[k + k2]! = u ∧ d[k + k2 - 1]! = v) := ⟨hu, by rw [← hv, show k + k2 - 1 = k + (k2 - 1) by omega]⟩
       clear hu hv
       by_cases huv : u = v
       ·have hD : Sem.run Tryz.prog (binOp .neq 35 (aggR u) (aggR v)) = fun w => .ok (.bool false) w := by funext w; rw [hne', decide_eq_true huv]; rfl
        simp only [aggR] at hD
        go_wp2_with fail
        go_quiet (fail)
        go_wp2
        go_roundg (d.size - (k + (k2 + 1)))
        case measure => omega
        case rel => exact ⟨kk, k2 + 1, q2 + nq, dk, rfl, by go_num, by omega, by omega, Nat.le_refl _, by rw [show wr = _ from W2]; exact putRowK_drewN encR 3 w q2 nq b 0 dk, I2.out.skip (keeps_neg (by omega) (by rw [C.out.1, C.out.2, huv]))⟩
       ·have hD : Sem.run Tryz.prog (binOp .neq 35 (aggR u) (aggR v)) = fun w => .ok (.bool true) w := by funext w; rw [hne', decide_eq_false huv]; rfl
        simp only [aggR] at hD
        go_wp2_with fail
        go_quiet (fail)
        go_wp2_with fail
        go_roundg (d.size - (k + (k2 + 1)))
        case measure => omega
        case rel => exact ⟨kk + 1, k2 + 1, q2 + nq, dk.setIfInBounds kk u, by go_num, by go_num, by omega, by omega, Nat.le_refl _, store_R (by omega) W2 u, by have := I2.out.keep hlt2 (keeps_pos (by rw [C.out.1, C.out.2]; exact huv)); rwa [C.out.1] at this⟩
      ·have hend : k + k2 = d.size := by omega
       have hcl : ∀ ty, (Builtin.clear_ #[94] ty #[.slice (some ⟨b, kk * 3, none⟩) (d.size - kk) (cap - kk)]).run Tryz.prog wr = .ok (.tuple #[]) (wr.setCells b (kk * 3) (flatK encR 3 (Array.replicate (d.size - kk) refZ)).toList) :=
        fun ty => run_clear_R wr _ ty Tryz.underlying94 b _ kk (d.size - kk) (by omega) dk hHk (by omega)
       clear hHk hI
       go_wp2
       go_ret
       have hI := I2.out
       rw [hend] at hI
       refine ⟨by rw [hI.len]; rfl, q2, ?_⟩
       rw [hI.len, ← hI.done refZ, show wr = _ from W2]
       have h := setCells_putRow (Sort.ahead w q2) b 0 (flatK encR 3 (Array.replicate (d.size - kk) refZ)).toList (kk * 3) (flatK encR 3 dk) (by simp; omega)
       rw [Nat.zero_add, setMany_lay dk kk _ (by omega)] at h
       exact h
    ·have hD : Sem.run Tryz.prog (binOp .eql 35 (aggR x) (aggR y)) = fun w => .ok (.bool false) w := by funext w; rw [heq', decide_eq_false hdup]
     simp only [aggR] at hD
     go_wp2_with fail
     go_quiet (fail)
     go_wp2
     go_roundg (d.size - (k + 1))
     case measure => omega
     case rel =>
      refine ⟨k + 1, q + nq, by omega, by omega, Nat.le_refl _, by go_num, by rw [← hwq, World.drewN_drewN], fun j hj => ?_⟩
      by_cases e : j = k
      ·subst e
       exact keeps_pos (by rw [B.out.1, B.out.2]; exact hdup)
      ·exact A.out j (by omega)
   ·have : k = d.size := by omega
    subst this
    have HH : Aside (HoldsK encR 3 w b 0 d) := hH
    clear hH
    go_wp2
    go_ret
    obtain ⟨e1, e2⟩ := HS.out q hall
    exact ⟨by rw [e1]; rfl, q, e2⟩


abbrev refComp (l : List ARef) : List ARef := Lib.compact l

theorem empty_inv {Fz : Nat → Nat → Prop} {w : World} {v : Value} (h : PRep Fz w v (.slice [])) : ∃ a cap, v = .slice a 0 cap := by
 generalize hE : ([] : List (List PD)) = E at h
 cases h with
 | empty a cap => exact ⟨a, cap, rfl⟩
 | slice _ _ n _ _ _ _ hn hpos => rw [← hE] at hn; simp at hn; omega

theorem sort_none {st : St} {t : Nat} {e : TypeId} {K : D → St → Prop} (hk : K (.tup []) st) :
 CallW Tryz.prog 83 [.own e 3 (rows ARef.pd []) t, .fn 39 []] st K := by
 refine ⟨enters_of Tryz.func83 rfl rfl, fun C g a w vs hP hs hr => ?_⟩
 simp only [Reps] at hr
 obtain ⟨v0, vs0, rfl, h0, v1, vs1, rfl, h1, rfl⟩ := hr
 simp only [Rep] at h0 h1
 obtain ⟨cv, rfl, hcv⟩ := h1
 simp only [Caps] at hcv
 subst hcv
 obtain ⟨p, cap, rfl⟩ := empty_inv h0.1
 refine (AnyF.slices_SortFunc_none Tryz.sortRef p cap _ w).mono ?_
 rintro ex w' ⟨rfl, rfl⟩
 exact ⟨.tuple #[], .tup [], st, g, rfl, hk, hs, by simp [Rep, Reps]⟩

theorem sort_effect {st : St} {l : List ARef} (hl : l ≠ []) (hle : l.length ≤ 1000000) {t : Nat} {e : TypeId} (hsolo : st.hs = .solo) {K : D → St → Prop}
 (hk : K (.tup []) ⟨updG t e 3 (rows ARef.pd (refSort l)) st.fr, updB t e 3 (rows ARef.pd (refSort l)) st.bs, [], st.hs⟩) :
 CallW Tryz.prog 83 [.own e 3 (rows ARef.pd l) t, .fn 39 []] st K :=
 sort_callW (enters_of Tryz.func83 rfl rfl) refs_sorted hl hle hsolo hk

theorem mem_Compact_none (p : Option Addr) (cap : Nat) (w : World) : Calls Tryz.prog 84 #[.slice p 0 cap] w fun e w' => e = .returned (.slice p 0 cap) ∧ w' = w := by
 go_enter Tryz.func84, Tryz.ntmps84
 go_wp2
 go_ret
 exact ⟨rfl, rfl⟩

theorem compact_none {st : St} {t : Nat} {e : TypeId} {K : D → St → Prop} (hk : K (.pd (.slice (rows ARef.pd []))) st) :
 CallW Tryz.prog 84 [.own e 3 (rows ARef.pd []) t] st K := by
 refine ⟨enters_of Tryz.func84 rfl rfl, fun C g a w vs hP hs hr => ?_⟩
 simp only [Reps] at hr
 obtain ⟨v0, vs0, rfl, h0, rfl⟩ := hr
 simp only [Rep] at h0
 obtain ⟨p, cap, rfl⟩ := empty_inv h0.1
 refine (mem_Compact_none p cap w).mono ?_
 rintro ex w' ⟨rfl, rfl⟩
 exact ⟨_, .pd (.slice (rows ARef.pd [])), st, g, rfl, hk, hs, by simp only [Rep]; exact h0.1⟩

theorem compact_len (l : List ARef) : (refComp l).length ≤ l.length := by
 unfold refComp Lib.compact Lib.compactUpTo
 rw [List.length_map]
 exact Nat.le_trans (List.length_filter_le _ _) (by simp)

theorem compact_effect {st : St} {l : List ARef} (hl : l ≠ []) (hle : l.length ≤ 1000000) {t : Nat} {e : TypeId} (hsolo : st.hs = .solo) {K : D → St → Prop}
 (hk : ∀ r, K (.pd (.slice (rows ARef.pd (refComp l)))) ⟨updG t e 3 r st.fr, updB t e 3 r st.bs, [], st.hs⟩) :
 CallW Tryz.prog 84 [.own e 3 (rows ARef.pd l) t] st K := by
 refine ⟨enters_of Tryz.func84 rfl rfl, fun C g a w vs hP hs hr => ?_⟩
 simp only [Reps] at hr
 obtain ⟨v0, vs0, rfl, h0, rfl⟩ := hr
 simp only [Rep] at h0
 obtain ⟨hpr, htk, hlens⟩ := h0
 have m := hs.mem
 obtain ⟨ie, n, xs, hie, hpos, hown, hfz⟩ := m.tks t _ _ htk
 obtain ⟨hxl, hform⟩ := hown
 rcases hform with ⟨rfl, hn0, _⟩ | ⟨b, cap, cur, rfl, hb0, hold, hnc, hcm, hcs, htake⟩
 ·exfalso
  generalize hE : rows ARef.pd l = E at hpr
  cases hpr with
  | empty => exact hl (List.map_eq_nil_iff.1 hE)
 have hR := RowR.of hl hpr
 have hlen := hR.hlen
 have hmax := hR.hmax
 have hcap := hR.hcap
 have hbl : b < w.heap.size := (Array.getElem?_eq_some_iff.1 hold).1
 subst hlen
 have hc := mem_Compact b cap l.toArray w (hR.holds hold) (by simpa using hle) (by simpa using hcap)
 have e1 : l.toArray.size = l.length := by simp
 rw [e1] at hc
 refine hc.mono ?_
 rintro ex w' ⟨rfl, q, rfl⟩
 have hcl := compact_len l
 obtain ⟨l', hl'⟩ : ∃ l', l' = refComp l ++ List.replicate (l.length - (refComp l).length) refZ := ⟨_, rfl⟩
 have hll : l'.length = l.length := by rw [hl', List.length_append, List.length_replicate]; omega
 have hne : l' ≠ [] := fun e => hl (List.length_eq_zero_iff.1 (by rw [← hll, e]; rfl))
 rw [show (Lib.compactUpTo l.toArray l.length ++ List.replicate (l.length - (Lib.compactUpTo l.toArray l.length).length) refZ) = l' from hl'.symm]
 have hH : Sort.HoldsK encR 3 (Sort.putRowK encR 3 (Sort.ahead w q) b 0 l'.toArray) b 0 l'.toArray :=
  Sort.holdsK_putRowK _ _ _ _ _ l.toArray _ (Sort.holdsK_ahead _ _ _ _ _ _ _ (hR.holds hold)) (by simpa using hll)
 have hR' := hR.of_holds hll hH
 have hg := grownBy_K (w := w) (b := b) (n := q) (os := #[]) (Sort.flatK encR 3 l'.toArray)
 have hh := heap_K (n := q) (os := #[]) (Sort.flatK encR 3 l'.toArray) hold
 rw [Sort.grow_empty] at hg hh
 refine ⟨_, .pd (.slice (rows ARef.pd (refComp l))), _, g, rfl, hk (rows ARef.pd l'), hs.newrow htk hsolo hg hold hh (by simp [Sort.putCells]) (hR'.rep hne) (rows_row (f := ARef.pd) (n := 3) (fun _ => rfl) _), ?_⟩
 simp only [Rep]
 by_cases hc0 : refComp l = []
 ·rw [hc0, show (Lib.compactUpTo l.toArray l.length).length = 0 by rw [show Lib.compactUpTo l.toArray l.length = refComp l from rfl, hc0]; rfl]
  exact .empty _ _
 ·refine RowR.rep (l := refComp l) ⟨rfl, by rw [show Lib.compactUpTo l.toArray l.length = refComp l from rfl]; omega, by rw [show Lib.compactUpTo l.toArray l.length = refComp l from rfl]; omega, fun j i x u hx hu => ?_⟩ hc0
  exact hR'.hcell j i x u (by rw [hl', List.getElem?_append_left (List.getElem?_eq_some_iff.1 hx).1]; exact hx) hu

end Go.Proofs.YtjgpdjakehoofaaGreatDoor



namespace Go.Proofs.YtjgpdjakehoofaaGreatDoor
open Go Go.RowKit
set_option linter.unusedSimpArgs false
set_option linter.unusedVariables false
set_option maxRecDepth 100000

def nearR (r : ARef) (s : ByteArray) : ARef := if r.space = ⟨#[]⟩ ∧ 2 < r.kind then { r with space := s } else r

set_option maxHeartbeats 2000000 in
theorem add_own (r : ARef) (o : AObj) (L : List ARef) (hL : L.length ≤ 1000000) :
 Full Tryz.prog 82 [r.d, .ptr 1000001 0, .ptr 500003 0] [(1000001, o.ds), (500003, [.own 35 3 (rows ARef.pd L) 500001])] true
  (fun d bs => d = .tup [] ∧ bs = [(500003, [.own 35 3 (rows ARef.pd (L ++ [nearR r o.ref.space])) 19])]) := by
 refine full_of_run follows an_zvrbp Tryz.func82 rfl ok_zvrbp.1 ok_zvrbp.2 (by simp [Tryz.ntmps82]) (by simp [Tryz.ntmps82]) (.inl rfl) ?_
 rw [run_start]
 simp only [ac_zvrbp, go_sem, simprocAttr]
 refine GifP.mk (fun h1 => ?_) (fun h1 => ?_)
 ·refine GifP.mk (fun h2 => ?_) (fun h2 => ?_)
  ·have e : nearR r o.ref.space = ⟨r.kind, o.ref.space, r.name⟩ := by unfold nearR; rw [if_pos ⟨h1, h2⟩]
   rw [e]
   refine ⟨by simp, by unfold maxLen; omega, by omega, ?_⟩
   rw [show rows ARef.pd L ++ [[PD.raw (Value.int IntKind.i64 r.kind), PD.raw (Value.string o.ref.space), PD.raw (Value.string r.name)]] = rows ARef.pd (L ++ [⟨r.kind, o.ref.space, r.name⟩]) from rows_one L ⟨r.kind, o.ref.space, r.name⟩]
   simp only [retK, fullK, resD, retL, oneD, simprocAttr, Tryz.results82]
   exact ⟨_, _, rfl, by simp [lessL, lk], rfl, rfl⟩
  ·have e : nearR r o.ref.space = r := by unfold nearR; rw [if_neg (fun h => h2 h.2)]
   rw [e]
   refine ⟨by simp, by unfold maxLen; omega, by omega, ?_⟩
   rw [show rows ARef.pd L ++ [[PD.raw (Value.int IntKind.i64 r.kind), PD.raw (Value.string r.space), PD.raw (Value.string r.name)]] = rows ARef.pd (L ++ [r]) from rows_one L r]
   simp only [retK, fullK, resD, retL, oneD, simprocAttr, Tryz.results82]
   exact ⟨_, _, rfl, by simp [lessL, lk], rfl, rfl⟩
 ·have e : nearR r o.ref.space = r := by unfold nearR; rw [if_neg (fun h => h1 h.1)]
  rw [e]
  refine ⟨by simp, by unfold maxLen; omega, by omega, ?_⟩
  rw [show rows ARef.pd L ++ [[PD.raw (Value.int IntKind.i64 r.kind), PD.raw (Value.string r.space), PD.raw (Value.string r.name)]] = rows ARef.pd (L ++ [r]) from rows_one L r]
  simp only [retK, fullK, resD, retL, oneD, simprocAttr, Tryz.results82]
  exact ⟨_, _, rfl, by simp [lessL, lk], rfl, rfl⟩

set_option maxHeartbeats 2000000 in
theorem add_nil (r : ARef) (o : AObj) :
 Full Tryz.prog 82 [r.d, .ptr 1000001 0, .ptr 500003 0] [(1000001, o.ds), (500003, [.nils])] true
  (fun d bs => d = .tup [] ∧ bs = [(500003, [.own 35 3 (rows ARef.pd [nearR r o.ref.space]) 19])]) := by
 refine full_of_run follows an_zvrbp Tryz.func82 rfl ok_zvrbp.1 ok_zvrbp.2 (by simp [Tryz.ntmps82]) (by simp [Tryz.ntmps82]) (.inl rfl) ?_
 rw [run_start]
 simp only [ac_zvrbp, go_sem, simprocAttr]
 refine GifP.mk (fun h1 => ?_) (fun h1 => ?_)
 ·refine GifP.mk (fun h2 => ?_) (fun h2 => ?_)
  ·have e : nearR r o.ref.space = ⟨r.kind, o.ref.space, r.name⟩ := by unfold nearR; rw [if_pos ⟨h1, h2⟩]
   rw [e]
   refine ⟨by simp, by simp [maxLen], ?_⟩
   simp only [retK, fullK, resD, retL, oneD, simprocAttr, Tryz.results82]
   exact ⟨_, _, rfl, by simp [lessL, lk], rfl, rfl⟩
  ·have e : nearR r o.ref.space = r := by unfold nearR; rw [if_neg (fun h => h2 h.2)]
   rw [e]
   refine ⟨by simp, by simp [maxLen], ?_⟩
   simp only [retK, fullK, resD, retL, oneD, simprocAttr, Tryz.results82]
   exact ⟨_, _, rfl, by simp [lessL, lk], rfl, rfl⟩
 ·have e : nearR r o.ref.space = r := by unfold nearR; rw [if_neg (fun h => h1 h.1)]
  rw [e]
  refine ⟨by simp, by simp [maxLen], ?_⟩
  simp only [retK, fullK, resD, retL, oneD, simprocAttr, Tryz.results82]
  exact ⟨_, _, rfl, by simp [lessL, lk], rfl, rfl⟩

structure AObj.few (o : AObj) : Prop where
 li : o.listeners.length ≤ 100
 pa : o.parents.length ≤ 100
 ru : o.rules.length ≤ 100
 ba : ∀ r ∈ o.rules, r.backends.length ≤ 100

theorem filt_step {α : Type} {p : α → Bool} {l : List α} {i : Nat} {x : α} (hx : l[i]? = some x) : (l.take (i + 1)).filter p = (l.take i).filter p ++ if p x = true then [x] else [] := by
 rw [take_at hx, List.filter_append]
 cases h : p x <;> simp [h]

def refsCls (o : AObj) : List ARef := if o.cls = ⟨#[]⟩ then [] else [nearR ⟨1, ⟨#[]⟩, o.cls⟩ o.ref.space]
def refsLis (s : ByteArray) (l : List AListener) : List ARef := (l.filter fun x => x.tls).map fun x => nearR x.cert s
def refsPar (s : ByteArray) (l : List AParent) : List ARef := l.map fun p => nearR ⟨5, p.space, p.name⟩ s
def refsBack (s : ByteArray) (l : List ABackend) : List ARef := l.map fun b => nearR b.ref s
def refsRul (s : ByteArray) (l : List ARule) : List ARef := l.flatMap fun r => refsBack s r.backends
def refsOwn (o : AObj) : List ARef := if o.ref.kind = 6 then [nearR ⟨2, ⟨#[]⟩, o.ref.space⟩ o.ref.space] else []
def refsList (o : AObj) : List ARef := refsCls o ++ refsLis o.ref.space o.listeners ++ refsPar o.ref.space o.parents ++ refsRul o.ref.space o.rules ++ refsOwn o

theorem refs_nil : refComp (refSort []) = [] := by simp [refSort, refComp, Lib.compact, Lib.compactUpTo]

def refsOf (o : AObj) : List ARef := if objMay o = true then refComp (refSort (refsList o)) else []

set_option maxHeartbeats 8000000 in
theorem object_Refs (o : AObj) (h : o.ok) (hf : o.few) : Pure Tryz.prog 40 [o.d] (fun d => d = .pd (.slice (rows ARef.pd (refsOf o)))) := by
 have hl1 := hf.li
 have hl2 := hf.pa
 have hl3 := hf.ru
 refine pure_of_run_solo follows an_znvpm Tryz.func40 rfl ok_znvpm.1 ok_znvpm.2 (by simp [Tryz.ntmps40]) ?_
 rw [run_start]
 simp only [ac_znvpm, go_sem, simprocAttr]
 refine (object_May o h).callW (enters_of Tryz.func42 rfl rfl) _ rfl rfl ?_
 rintro _ rfl
 unfold refsOf
 cases objMay o
 ·simp only [go_sem, simprocAttr]
  simp only [retK, resD, retL, oneD, simprocAttr, Tryz.results40]
  exact ⟨_, rfl, rfl, rfl⟩
 rw [if_pos rfl]
 obtain ⟨A, hA⟩ : ∃ A, A = refsCls o := ⟨_, rfl⟩
 have hAl : A.length ≤ 1 := by rw [hA]; unfold refsCls; split <;> simp
 by_cases hc : o.cls = ⟨#[]⟩
 case' pos =>
  have hc' := eq_true hc
  have hA0 : A = [] := by rw [hA]; unfold refsCls; rw [if_pos hc]
  simp only [go_sem, simprocAttr, hc', rows_len]
 case' neg =>
  have hc' := eq_false hc
  have hA0 : A = [nearR ⟨1, ⟨#[]⟩, o.cls⟩ o.ref.space] := by rw [hA]; unfold refsCls; rw [if_neg hc]
  simp only [go_sem, simprocAttr, hc']
  refine (add_nil ⟨1, ⟨#[]⟩, o.cls⟩ o).callW (enters_of Tryz.func82 rfl rfl) _ true [(1, 1000001), (3, 500003)] [] [] [(19, 27)] rfl rfl rfl ?_
  rintro d bs ⟨rfl, rfl⟩
  simp only [go_sem, simprocAttr]
 all_goals
  refine loopS (fun k st => ∃ (i : Nat) (L : List ARef), k = o.listeners.length - i ∧ i ≤ o.listeners.length ∧ L = A ++ refsLis o.ref.space (o.listeners.take i) ∧ L.length ≤ 1 + i ∧
   st = ⟨[(1, .ptr 1 0), (3, .ptr 3 0), (4, .fn 82 [(1, 0), (3, 0)]), (26, .pd (.slice (rows AListener.pd o.listeners))), (27, int o.listeners.length), (28, int i)], [(1, o.ds), (3, [.own 35 3 (rows ARef.pd L) 27])], [], .solo⟩) o.listeners.length _ ?_ ⟨0, A, rfl, by omega, by simp [refsLis], by omega, rfl⟩ ?_
  ·rw [hA0]
   first
    | exact Weak.ownB 3 0 27 35 3 (by kernel_rfl) (by decide) rfl rfl (by simp [lessL, lk, St.purge, D.purge, rows]) (by simp [lessL, lk, St.purge, D.purges, D.purge, rows]) (by simp [lessL]) rfl
    | exact Weak.less (by simp [lessL, lk]) (by simp [lessL, lk, rows]) (by simp [lessL, lk]) rfl
  rintro k st ⟨i, L, rfl, hi, hL, hLl, rfl⟩
  have hw := i64_succ (show i < 1000000000 by omega)
  by_cases hlt : i < o.listeners.length
  ·obtain ⟨x, hx⟩ := at_lt hlt
   have h1 : ((i : Int) < (o.listeners.length : Int)) = True := eq_true (by omega)
   have hfs := filt_step (p := fun x : AListener => x.tls) hx
   cases ht : x.tls
   ·have hL' : L = A ++ refsLis o.ref.space (o.listeners.take (i + 1)) := by rw [hL]; unfold refsLis; rw [hfs, ht, if_neg (by simp), List.append_nil]
    simp only [go_sem, simprocAttr, rows_get hx, h1, ht, hw]
    refine ⟨o.listeners.length - (i + 1), _, by omega, ?_, i + 1, L, rfl, by omega, hL', by omega, rfl⟩
    exact lessA
   ·have hL' : L ++ [nearR x.cert o.ref.space] = A ++ refsLis o.ref.space (o.listeners.take (i + 1)) := by rw [hL]; unfold refsLis; rw [hfs, ht, if_pos rfl, List.map_append, List.append_assoc]; rfl
    simp only [go_sem, simprocAttr, rows_get hx, h1, ht]
    refine (add_own x.cert o L (by omega)).callW (enters_of Tryz.func82 rfl rfl) _ false [(1, 1000001), (3, 500003)] [(27, 500001)] [] [(19, 27)] rfl rfl rfl ?_
    rintro d bs ⟨rfl, rfl⟩
    simp only [go_sem, simprocAttr, hw]
    refine ⟨o.listeners.length - (i + 1), _, by omega, ?_, i + 1, _, rfl, by omega, hL', by simp; omega, rfl⟩
    exact lessA
  have h1 : ((i : Int) < (o.listeners.length : Int)) = False := eq_false (by omega)
  rw [List.take_of_length_le (by omega)] at hL
  obtain ⟨B, hB⟩ : ∃ B, B = L := ⟨_, rfl⟩
  rw [← hB] at hL hLl ⊢
  clear hB L
  have hBe := hL
  have hBl := hLl
  clear hL hLl
  simp only [go_sem, simprocAttr, h1]
  refine loopS (fun k st => ∃ (i : Nat) (L : List ARef), k = o.parents.length - i ∧ i ≤ o.parents.length ∧ L = B ++ refsPar o.ref.space (o.parents.take i) ∧ L.length ≤ 101 + i ∧
   st = ⟨[(1, .ptr 1 0), (3, .ptr 3 0), (4, .fn 82 [(1, 0), (3, 0)]), (40, .pd (.slice (rows AParent.pd o.parents))), (41, int o.parents.length), (42, int i)], [(1, o.ds), (3, [.own 35 3 (rows ARef.pd L) 27])], [], .solo⟩) o.parents.length _ ?_ ⟨0, B, rfl, by omega, by simp [refsPar], by omega, rfl⟩ ?_
  ·exact lessA
  rintro k st ⟨i, L, rfl, hi, hL, hLl, rfl⟩
  have hw := i64_succ (show i < 1000000000 by omega)
  by_cases hlt : i < o.parents.length
  ·obtain ⟨x, hx⟩ := at_lt hlt
   have h1 : ((i : Int) < (o.parents.length : Int)) = True := eq_true (by omega)
   have hL' : L ++ [nearR ⟨5, x.space, x.name⟩ o.ref.space] = B ++ refsPar o.ref.space (o.parents.take (i + 1)) := by rw [hL]; unfold refsPar; rw [take_at hx, List.map_append, List.append_assoc]; rfl
   simp only [go_sem, simprocAttr, rows_get hx, h1]
   refine (add_own ⟨5, x.space, x.name⟩ o L (by omega)).callW (enters_of Tryz.func82 rfl rfl) _ false [(1, 1000001), (3, 500003)] [(27, 500001)] [] [(19, 27)] rfl rfl rfl ?_
   rintro d bs ⟨rfl, rfl⟩
   simp only [go_sem, simprocAttr, hw]
   refine ⟨o.parents.length - (i + 1), _, by omega, ?_, i + 1, _, rfl, by omega, hL', by simp; omega, rfl⟩
   exact lessA
  have h1 : ((i : Int) < (o.parents.length : Int)) = False := eq_false (by omega)
  rw [List.take_of_length_le (by omega)] at hL
  obtain ⟨C, hC⟩ : ∃ C, C = L := ⟨_, rfl⟩
  rw [← hC] at hL hLl ⊢
  clear hC L
  have hCe := hL
  have hCl := hLl
  clear hL hLl
  simp only [go_sem, simprocAttr, h1]
  refine loopS (fun k st => ∃ (i : Nat) (L : List ARef), k = o.rules.length - i ∧ i ≤ o.rules.length ∧ L = C ++ refsRul o.ref.space (o.rules.take i) ∧ L.length ≤ 201 + i * 100 ∧
   st = ⟨[(1, .ptr 1 0), (3, .ptr 3 0), (4, .fn 82 [(1, 0), (3, 0)]), (55, .pd (.slice (rows ARule.pd o.rules))), (56, int o.rules.length), (57, int i)], [(1, o.ds), (3, [.own 35 3 (rows ARef.pd L) 27])], [], .solo⟩) o.rules.length _ ?_ ⟨0, C, rfl, by omega, by simp [refsRul], by omega, rfl⟩ ?_
  ·exact lessA
  rintro k st ⟨i, L, rfl, hi, hL, hLl, rfl⟩
  have hw := i64_succ (show i < 1000000000 by omega)
  by_cases hlt : i < o.rules.length
  ·obtain ⟨x, hx⟩ := at_lt hlt
   have h1 : ((i : Int) < (o.rules.length : Int)) = True := eq_true (by omega)
   have hb := hf.ba x (List.mem_of_getElem? hx)
   have hL' : L ++ refsBack o.ref.space x.backends = C ++ refsRul o.ref.space (o.rules.take (i + 1)) := by rw [hL]; unfold refsRul; rw [take_at hx, List.flatMap_append, List.append_assoc]; simp
   simp only [go_sem, simprocAttr, rows_get hx, h1]
   refine loopS (fun k st => ∃ (j : Nat) (M : List ARef), k = x.backends.length - j ∧ j ≤ x.backends.length ∧ M = L ++ refsBack o.ref.space (x.backends.take j) ∧ M.length ≤ 201 + i * 100 + j ∧
    st = ⟨[(1, .ptr 1 0), (3, .ptr 3 0), (4, .fn 82 [(1, 0), (3, 0)]), (55, .pd (.slice (rows ARule.pd o.rules))), (56, int o.rules.length), (57, int i), (62, .pd (.slice (rows ABackend.pd x.backends))), (63, int x.backends.length), (64, int j)], [(1, o.ds), (3, [.own 35 3 (rows ARef.pd M) 27])], [], .solo⟩) x.backends.length _ ?_ ⟨0, L, rfl, by omega, by simp [refsBack], by omega, rfl⟩ ?_
   ·exact lessA
   rintro k st ⟨j, M, rfl, hj, hM, hMl, rfl⟩
   have hwj := i64_succ (show j < 1000000000 by omega)
   by_cases hjl : j < x.backends.length
   ·obtain ⟨y, hy⟩ := at_lt hjl
    have h2 : ((j : Int) < (x.backends.length : Int)) = True := eq_true (by omega)
    have hM' : M ++ [nearR y.ref o.ref.space] = L ++ refsBack o.ref.space (x.backends.take (j + 1)) := by rw [hM]; unfold refsBack; rw [take_at hy, List.map_append, List.append_assoc]; rfl
    simp only [go_sem, simprocAttr, rows_get hy, h2]
    refine (add_own y.ref o M (by omega)).callW (enters_of Tryz.func82 rfl rfl) _ false [(1, 1000001), (3, 500003)] [(27, 500001)] [] [(19, 27)] rfl rfl rfl ?_
    rintro d bs ⟨rfl, rfl⟩
    simp only [go_sem, simprocAttr, hwj]
    refine ⟨x.backends.length - (j + 1), _, by omega, ?_, j + 1, _, rfl, by omega, hM', by simp; omega, rfl⟩
    exact lessA
   have h2 : ((j : Int) < (x.backends.length : Int)) = False := eq_false (by omega)
   rw [List.take_of_length_le (by omega)] at hM
   simp only [go_sem, simprocAttr, h2, hw]
   refine ⟨o.rules.length - (i + 1), _, by omega, ?_, i + 1, M, rfl, by omega, hM.trans hL', by omega, rfl⟩
   exact lessA
  have h1 : ((i : Int) < (o.rules.length : Int)) = False := eq_false (by omega)
  rw [List.take_of_length_le (by omega)] at hL
  by_cases h6 : o.ref.kind = 6
  case' pos =>
   have h6' := eq_true h6
   simp only [go_sem, simprocAttr, h1, h6']
   refine (add_own ⟨2, ⟨#[]⟩, o.ref.space⟩ o L (by omega)).callW (enters_of Tryz.func82 rfl rfl) _ false [(1, 1000001), (3, 500003)] [(27, 500001)] [] [(19, 27)] rfl rfl rfl ?_
   rintro d bs ⟨rfl, rfl⟩
   have hall : refsList o = L ++ [nearR ⟨2, ⟨#[]⟩, o.ref.space⟩ o.ref.space] := by unfold refsList refsOwn; rw [if_pos h6, hL, hCe, hBe, hA]
   have hlen : (L ++ [nearR ⟨2, ⟨#[]⟩, o.ref.space⟩ o.ref.space]).length ≤ 1000000 := by simp; omega
   generalize L ++ [nearR ⟨2, ⟨#[]⟩, o.ref.space⟩ o.ref.space] = M at hall hlen ⊢
   simp only [go_sem, simprocAttr]
  case' neg =>
   have h6' := eq_false h6
   have hall : refsList o = L := by unfold refsList refsOwn; rw [if_neg h6, List.append_nil, hL, hCe, hBe, hA]
   have hlen : L.length ≤ 1000000 := by omega
   generalize L = M at hall hlen ⊢
   simp only [go_sem, simprocAttr, h1, h6']
  all_goals
   rw [hall]
   by_cases hM : M = []
   ·subst hM
    refine sort_none ?_
    simp only [go_sem, simprocAttr]
    refine compact_none ?_
    simp only [go_sem, simprocAttr]
    simp only [retK, resD, retL, oneD, simprocAttr, Tryz.results40]
    exact ⟨_, rfl, rfl, by rw [refs_nil]; rfl⟩
   ·have hs : (refSort M).length = M.length := List.length_mergeSort _
    have hM' : refSort M ≠ [] := fun e => hM (List.length_eq_zero_iff.1 (by rw [← hs, e]; rfl))
    refine sort_effect hM hlen rfl ?_
    simp only [updG, updB, List.map_cons, List.map_nil, updR, if_true, go_sem, simprocAttr]
    refine compact_effect hM' (by omega) rfl (fun q => ?_)
    simp only [updG, updB, List.map_cons, List.map_nil, updR, if_true, go_sem, simprocAttr]
    simp only [retK, resD, retL, oneD, simprocAttr, Tryz.results40]
    exact ⟨_, rfl, rfl, rfl⟩


def keyMay (s n : ByteArray) : Bool := (decide (s = ⟨#[]⟩) || label s) && dname n
def keyOf (s n : ByteArray) : ByteArray := s ++ ⟨#[47]⟩ ++ n

theorem dns_Key (s n : ByteArray) : Pure Tryz.prog 123 [str s, str n] (fun d => d = if keyMay s n = true then .tup [str (keyOf s n), int 0] else .tup [str ⟨#[]⟩, int 1]) := by
 refine pure_of_run follows an_z77de Tryz.func123 rfl ok_z77de.1 ok_z77de.2 (by simp [Tryz.ntmps123]) ?_
 rw [run_start]
 by_cases h : keyMay s n = true
 ·rw [if_pos h]
  simp only [keyMay, Bool.and_eq_true, Bool.or_eq_true, decide_eq_true_eq] at h
  obtain ⟨h1, h2⟩ := h
  have z1 : s.size ≤ 20 := by
   rcases h1 with rfl | h1
   ·decide
   ·exact ((label_iff s).1 h1).2.1
  have z2 : n.size ≤ 60 := by
   simp only [dname, Bool.and_eq_true, decide_eq_true_eq] at h2
   exact h2.1
  have c1 : (s.size + #[(47 : UInt8)].size ≤ 9223372036854775807) = True := eq_true (by have : #[(47 : UInt8)].size = 1 := rfl; omega)
  have c2 : (s.size + #[(47 : UInt8)].size + n.size ≤ 9223372036854775807) = True := eq_true (by have : #[(47 : UInt8)].size = 1 := rfl; omega)
  have cN := dns_Name n
  rw [h2] at cN
  by_cases hs : s = ⟨#[]⟩
  ·have hs' := eq_true hs
   simp only [ac_z77de, go_sem, simprocAttr, hs']
   refine cN.callW (enters_of Tryz.func93 rfl rfl) _ rfl rfl ?_
   rintro _ rfl
   simp only [go_sem, simprocAttr, c1, c2]
   simp only [retK, resD, retL, oneD, simprocAttr, Tryz.results123]
   exact ⟨_, rfl, rfl, rfl⟩
  ·have hs' := eq_false hs
   have cL := dns_Label s
   rw [h1.resolve_left hs] at cL
   simp only [ac_z77de, go_sem, simprocAttr, hs']
   refine cL.callW (enters_of Tryz.func94 rfl rfl) _ rfl rfl ?_
   rintro _ rfl
   simp only [go_sem, simprocAttr]
   refine cN.callW (enters_of Tryz.func93 rfl rfl) _ rfl rfl ?_
   rintro _ rfl
   simp only [go_sem, simprocAttr, c1, c2]
   simp only [retK, resD, retL, oneD, simprocAttr, Tryz.results123]
   exact ⟨_, rfl, rfl, rfl⟩
 ·rw [if_neg h]
  have cN := dns_Name n
  have cL := dns_Label s
  by_cases hs : s = ⟨#[]⟩
  ·have hs' := eq_true hs
   have hn : dname n = false := by simpa [keyMay, hs] using h
   rw [hn] at cN
   simp only [ac_z77de, go_sem, simprocAttr, hs']
   refine cN.callW (enters_of Tryz.func93 rfl rfl) _ rfl rfl ?_
   rintro _ rfl
   simp only [go_sem, simprocAttr]
   simp only [retK, resD, retL, oneD, simprocAttr, Tryz.results123]
   exact ⟨_, rfl, rfl, rfl⟩
  ·have hs' := eq_false hs
   simp only [ac_z77de, go_sem, simprocAttr, hs']
   refine cL.callW (enters_of Tryz.func94 rfl rfl) _ rfl rfl ?_
   rintro _ rfl
   cases hl : label s
   ·simp only [go_sem, simprocAttr]
    simp only [retK, resD, retL, oneD, simprocAttr, Tryz.results123]
    exact ⟨_, rfl, rfl, rfl⟩
   ·have hn : dname n = false := by simpa [keyMay, hs, hl] using h
    rw [hn] at cN
    simp only [go_sem, simprocAttr]
    refine cN.callW (enters_of Tryz.func93 rfl rfl) _ rfl rfl ?_
    rintro _ rfl
    simp only [go_sem, simprocAttr]
    simp only [retK, resD, retL, oneD, simprocAttr, Tryz.results123]
    exact ⟨_, rfl, rfl, rfl⟩

theorem index_none {c : UInt8} : ∀ {l : List UInt8}, c ∉ l → Lib.indexByte l c < 0
 | [], _ => by show (-1 : Int) < 0; decide
 | b :: l, h => by
   have h1 : ¬ b = c := fun e => h (by rw [e]; exact List.mem_cons_self)
   have h2 := index_none (l := l) (fun e => h (List.mem_cons_of_mem _ e))
   have h3 := Lib.indexByte_ge l c
   unfold Lib.indexByte
   simp [h1]
   omega

theorem label_name {s : ByteArray} (h : label s = true) : dname s = true := by
 obtain ⟨h1, h2, h3⟩ := (label_iff s).1 h
 have hn : (46 : UInt8) ∉ s.data.toList := fun hm => by
  obtain ⟨j, hj⟩ := List.mem_iff_getElem?.1 hm
  have := h3 j 46 (by rw [bytes_get]; exact hj)
  unfold labAt at this
  simp at this
 simp only [dname, Bool.and_eq_true, decide_eq_true_eq]
 refine ⟨by omega, ?_⟩
 rw [splitB_end (index_none hn)]
 simp [h]

theorem may_key {r : ARef} (h : mayRef r = true) : keyMay r.space r.name = true := by
 simp only [keyMay, Bool.and_eq_true, Bool.or_eq_true, decide_eq_true_eq]
 unfold mayRef at h
 split at h
 ·simp only [Bool.and_eq_true, decide_eq_true_eq] at h
  exact ⟨.inl h.1, h.2⟩
 ·split at h
  ·simp only [Bool.and_eq_true, decide_eq_true_eq] at h
   exact ⟨.inl h.1, label_name h.2⟩
  ·simp only [Bool.and_eq_true] at h
   exact ⟨.inr h.1.2, h.2⟩

def textOf (r : ARef) : ByteArray := ⟨#[UInt8.ofNat (48 + r.kind.toNat)]⟩ ++ ⟨#[32]⟩ ++ keyOf r.space r.name

set_option maxHeartbeats 4000000 in
theorem object_Text (r : ARef) : Pure Tryz.prog 85 [r.d] (fun d => d = if mayRef r = true then .tup [str (textOf r), int 0] else .tup [str ⟨#[]⟩, int 1]) := by
 refine pure_of_run follows an_zngfe Tryz.func85 rfl ok_zngfe.1 ok_zngfe.2 (by simp [Tryz.ntmps85]) ?_
 rw [run_start]
 simp only [ac_zngfe, go_sem, simprocAttr]
 refine (object_MayRef r).callW (enters_of Tryz.func44 rfl rfl) _ rfl rfl ?_
 rintro _ rfl
 cases hm : mayRef r
 ·simp only [go_sem, simprocAttr]
  simp only [retK, resD, retL, oneD, simprocAttr, Tryz.results85]
  exact ⟨_, rfl, rfl, rfl⟩
 rw [if_pos rfl]
 have cK := dns_Key r.space r.name
 rw [if_pos (may_key hm)] at cK
 have hk := may_key hm
 simp only [keyMay, Bool.and_eq_true, Bool.or_eq_true, decide_eq_true_eq] at hk
 have z1 : r.space.size ≤ 20 := by
  rcases hk.1 with h1 | h1
  ·rw [h1]; decide
  ·exact ((label_iff _).1 h1).2.1
 have z2 : r.name.size ≤ 60 := by
  have := hk.2
  simp only [dname, Bool.and_eq_true, decide_eq_true_eq] at this
  exact this.1
 have z3 : (keyOf r.space r.name).size ≤ 81 := by
  have : (ByteArray.mk #[47]).size = 1 := rfl
  unfold keyOf
  rw [ByteArray.size_append, ByteArray.size_append]
  omega
 generalize hkey : keyOf r.space r.name = key at cK z3
 simp only [go_sem, simprocAttr]
 refine cK.callW (enters_of Tryz.func123 rfl rfl) _ rfl rfl ?_
 rintro _ rfl
 simp only [go_sem, simprocAttr]
 have hw : IntKind.i64.wrap (48 + r.kind) = 48 + r.kind := IntWalk.i64_in _ (by have := mayRef_kind hm; omega)
 have hw2 : IntKind.u8.wrap (48 + r.kind) = ((UInt8.ofNat (48 + r.kind.toNat)).toNat : Int) := by
  rcases mayRef_kind hm with e | e | e | e | e | e | e <;> rw [e] <;> decide
 have hb : octStr [((UInt8.ofNat (48 + r.kind.toNat)).toNat : Int)] = ⟨#[UInt8.ofNat (48 + r.kind.toNat)]⟩ := by
  rcases mayRef_kind hm with e | e | e | e | e | e | e <;> rw [e] <;> decide
 rw [hw, hw2, hb]
 have ht : textOf r = ⟨#[UInt8.ofNat (48 + r.kind.toNat)]⟩ ++ ⟨#[32]⟩ ++ key := by unfold textOf; rw [hkey]
 rw [ht]
 generalize UInt8.ofNat (48 + r.kind.toNat) = b
 have e1 : #[b].size = 1 := rfl
 have e2 : #[(32 : UInt8)].size = 1 := rfl
 have d1 : (#[b].size + #[(32 : UInt8)].size ≤ 9223372036854775807) = True := eq_true (by omega)
 have d2 : (#[b].size + #[(32 : UInt8)].size + key.size ≤ 9223372036854775807) = True := eq_true (by omega)
 simp only [go_sem, simprocAttr, d1, d2]
 simp only [retK, resD, retL, oneD, simprocAttr, Tryz.results85]
 exact ⟨_, rfl, rfl, rfl⟩


set_option maxHeartbeats 2000000 in
theorem ref9_SameRefs (a b : List ARef) (ha : a.length ≤ 1000000) : Pure Tryz.prog 43 [.pd (.slice (rows ARef.pd a)), .pd (.slice (rows ARef.pd b))] (fun d => d = bln (decide (a = b))) := by
 refine pure_of_run follows an_zvzmk Tryz.func43 rfl ok_zvzmk.1 ok_zvzmk.2 (by simp [Tryz.ntmps43]) ?_
 rw [run_start]
 simp only [ac_zvzmk, go_sem, simprocAttr]
 refine GifP.mk (fun hl => ?_) (fun hl => ?_)
 rotate_left
 ·simp only [retK, resD, retL, oneD, simprocAttr, Tryz.results43]
  exact ⟨_, rfl, rfl, res_no (fun e => hl (by rw [e]))⟩
 have hL : a.length = b.length := by omega
 refine loopS (fun k st => ∃ i : Nat, k = a.length - i ∧ i ≤ a.length ∧ a.take i = b.take i ∧ st = ⟨[(0, .pd (.slice (rows ARef.pd a))), (1, .pd (.slice (rows ARef.pd b))), (5, int i)], [], [], .no⟩) a.length _ ?_ ⟨0, rfl, by omega, rfl, rfl⟩ ?_
 ·exact lessA
 rintro k st ⟨i, rfl, hi, hT, rfl⟩
 have hw := i64_succ (show i < 1000000000 by omega)
 by_cases hlt : i < a.length
 ·obtain ⟨x, hx⟩ := at_lt hlt
  obtain ⟨y, hy⟩ := at_lt (show i < b.length by omega)
  have h1 : ((i : Int) < (a.length : Int)) = True := eq_true (by omega)
  simp only [go_sem, simprocAttr, rows_get hx, rows_get hy, h1, hw, eqVs, eqV, eq_Ref]
  ·repeat' (first | refine GifP.mk (fun _ => ?_) (fun _ => ?_) | refine Gif.mk (fun _ => ?_) (fun _ => ?_) | refine And.intro ?_ ?_)
   all_goals first
    | (refine ⟨a.length - (i + 1), _, by omega, ?_, i + 1, rfl, by omega, take_step hT hx hy (by first | assumption | (cases x; cases y; simp_all)), rfl⟩; exact lessA)
    | (simp only [retK, resD, retL, oneD, simprocAttr, Tryz.results43]; exact ⟨_, rfl, rfl, res_no (fun e => by subst e; have hxy := Option.some.inj (hx.symm.trans hy); subst hxy; first | contradiction | simp_all)⟩)
 have h1 : ((i : Int) < (a.length : Int)) = False := eq_false (by omega)
 have hE := take_end hT (by omega) hlt
 clear hT hi hw
 simp only [go_sem, simprocAttr, h1]
 clear h1 hlt i
 simp only [retK, resD, retL, oneD, simprocAttr, Tryz.results43]
 exact ⟨_, rfl, rfl, res_yes hE⟩

end Go.Proofs.YtjgpdjakehoofaaGreatDoor


