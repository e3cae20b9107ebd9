/- Texts of the prover's, joined: G4 G5 D5 F6 F7 F8 F9 FB FC FA D2 E7. -/
import Derived.Test.YtcnhcamimcpinaaGreatDoorVJ4
import Derived.Test.YtcnhcamimcpinaaGreatDoorProg
import Derived.KernelRfl

namespace Go.Proofs.YtcnhcamimcpinaaGreatDoor
open Go Go.RowKit
set_option linter.unusedSimpArgs false
set_option linter.unusedVariables false
set_option maxRecDepth 100000

theorem every_int_1 (p : Int → Bool) (f : FuncId) (he : Enters Tryz.prog f) (x : Int) (hp : Pure Tryz.prog f [int x] (fun d => d = bln (p x))) :
 PureB Tryz.prog 134 [int x, .ptr 1000001 0] [(1000001, [.fn f []])] (fun d => d = bln (!p x)) := by
 refine pureB_of_run follows an_zkvy2 Tryz.func134 rfl ok_zkvy2.1 ok_zkvy2.2 (by simp [Tryz.ntmps134]) ?_
 rw [run_start]
 simp only [ac_zkvy2, go_sem, contS_seq, simprocAttr]
 refine hp.callW he _ rfl rfl ?_
 rintro d rfl
 simp only [go_sem, contS_seq, simprocAttr]
 simp only [retK, resD, retL, oneD, simprocAttr, Tryz.results134]
 exact ⟨_, rfl, rfl, rfl⟩

theorem every_int (p : Int → Bool) (f : FuncId) (he : Enters Tryz.prog f) (l : List Int) (hl : l.length ≤ 1000000) (n : Int) (hp : ∀ x ∈ l, Pure Tryz.prog f [int x] (fun d => d = bln (p x))) :
 Pure Tryz.prog 81 [.pd (.slice (rows cInt l)), int n, .fn f []] (fun d => d = bln (every p l n)) := by
 refine pure_of_run follows an_z5yno Tryz.func81 rfl ok_z5yno.1 ok_z5yno.2 (by simp [Tryz.ntmps81]) ?_
 rw [run_start]
 simp only [ac_z5yno, go_sem, contS_seq, simprocAttr, rows_len]
 refine GifP.mk (fun h => ?_) (fun h => ?_)
 ·refine (ContainsFunc_int (fun x => !p x) 134 (enters_of Tryz.func134 rfl rfl) [(1000001, 0)] [(1000001, [.fn f []])] (Cl.of rfl rfl rfl rfl rfl) l hl (fun x hx => every_int_1 p f he x (hp x hx))).callW (enters_of Tryz.func133 rfl rfl) _ [(5, 1000001)] rfl rfl rfl ?_
  rintro d rfl
  simp only [go_sem, contS_seq, simprocAttr]
  simp only [retK, resD, retL, oneD, simprocAttr, Tryz.results81]
  exact ⟨_, rfl, rfl, congrArg bln (by simp [every, h, List.all_eq_not_any_not])⟩
 ·simp only [retK, resD, retL, oneD, simprocAttr, Tryz.results81]
  exact ⟨_, rfl, rfl, congrArg bln (by simp [every, h])⟩

theorem every_Listener_1 (p : AListener → Bool) (f : FuncId) (he : Enters Tryz.prog f) (x : AListener) (hp : Pure Tryz.prog f [AListener.d x] (fun d => d = bln (p x))) :
 PureB Tryz.prog 139 [AListener.d x, .ptr 1000001 0] [(1000001, [.fn f []])] (fun d => d = bln (!p x)) := by
 refine pureB_of_run follows an_zir97 Tryz.func139 rfl ok_zir97.1 ok_zir97.2 (by simp [Tryz.ntmps139]) ?_
 rw [run_start]
 simp only [ac_zir97, go_sem, contS_seq, simprocAttr]
 refine hp.callW he _ rfl rfl ?_
 rintro d rfl
 simp only [go_sem, contS_seq, simprocAttr]
 simp only [retK, resD, retL, oneD, simprocAttr, Tryz.results139]
 exact ⟨_, rfl, rfl, rfl⟩

theorem every_Listener (p : AListener → Bool) (f : FuncId) (he : Enters Tryz.prog f) (l : List AListener) (hl : l.length ≤ 1000000) (n : Int) (hp : ∀ x ∈ l, Pure Tryz.prog f [AListener.d x] (fun d => d = bln (p x))) :
 Pure Tryz.prog 88 [.pd (.slice (rows AListener.pd l)), int n, .fn f []] (fun d => d = bln (every p l n)) := by
 refine pure_of_run follows an_zpo9w Tryz.func88 rfl ok_zpo9w.1 ok_zpo9w.2 (by simp [Tryz.ntmps88]) ?_
 rw [run_start]
 simp only [ac_zpo9w, go_sem, contS_seq, simprocAttr, rows_len]
 refine GifP.mk (fun h => ?_) (fun h => ?_)
 ·refine (ContainsFunc_Listener (fun x => !p x) 139 (enters_of Tryz.func139 rfl rfl) [(1000001, 0)] [(1000001, [.fn f []])] (Cl.of rfl rfl rfl rfl rfl) l hl (fun x hx => every_Listener_1 p f he x (hp x hx))).callW (enters_of Tryz.func138 rfl rfl) _ [(5, 1000001)] rfl rfl rfl ?_
  rintro d rfl
  simp only [go_sem, contS_seq, simprocAttr]
  simp only [retK, resD, retL, oneD, simprocAttr, Tryz.results88]
  exact ⟨_, rfl, rfl, congrArg bln (by simp [every, h, List.all_eq_not_any_not])⟩
 ·simp only [retK, resD, retL, oneD, simprocAttr, Tryz.results88]
  exact ⟨_, rfl, rfl, congrArg bln (by simp [every, h])⟩

theorem every_Parent_1 (p : AParent → Bool) (f : FuncId) (he : Enters Tryz.prog f) (x : AParent) (hp : Pure Tryz.prog f [AParent.d x] (fun d => d = bln (p x))) :
 PureB Tryz.prog 147 [AParent.d x, .ptr 1000001 0] [(1000001, [.fn f []])] (fun d => d = bln (!p x)) := by
 refine pureB_of_run follows an_z31hg Tryz.func147 rfl ok_z31hg.1 ok_z31hg.2 (by simp [Tryz.ntmps147]) ?_
 rw [run_start]
 simp only [ac_z31hg, go_sem, contS_seq, simprocAttr]
 refine hp.callW he _ rfl rfl ?_
 rintro d rfl
 simp only [go_sem, contS_seq, simprocAttr]
 simp only [retK, resD, retL, oneD, simprocAttr, Tryz.results147]
 exact ⟨_, rfl, rfl, rfl⟩

theorem every_Parent (p : AParent → Bool) (f : FuncId) (he : Enters Tryz.prog f) (l : List AParent) (hl : l.length ≤ 1000000) (n : Int) (hp : ∀ x ∈ l, Pure Tryz.prog f [AParent.d x] (fun d => d = bln (p x))) :
 Pure Tryz.prog 97 [.pd (.slice (rows AParent.pd l)), int n, .fn f []] (fun d => d = bln (every p l n)) := by
 refine pure_of_run follows an_zblzf Tryz.func97 rfl ok_zblzf.1 ok_zblzf.2 (by simp [Tryz.ntmps97]) ?_
 rw [run_start]
 simp only [ac_zblzf, go_sem, contS_seq, simprocAttr, rows_len]
 refine GifP.mk (fun h => ?_) (fun h => ?_)
 ·refine (ContainsFunc_Parent (fun x => !p x) 147 (enters_of Tryz.func147 rfl rfl) [(1000001, 0)] [(1000001, [.fn f []])] (Cl.of rfl rfl rfl rfl rfl) l hl (fun x hx => every_Parent_1 p f he x (hp x hx))).callW (enters_of Tryz.func142 rfl rfl) _ [(5, 1000001)] rfl rfl rfl ?_
  rintro d rfl
  simp only [go_sem, contS_seq, simprocAttr]
  simp only [retK, resD, retL, oneD, simprocAttr, Tryz.results97]
  exact ⟨_, rfl, rfl, congrArg bln (by simp [every, h, List.all_eq_not_any_not])⟩
 ·simp only [retK, resD, retL, oneD, simprocAttr, Tryz.results97]
  exact ⟨_, rfl, rfl, congrArg bln (by simp [every, h])⟩

theorem every_string_1 (p : ByteArray → Bool) (f : FuncId) (he : Enters Tryz.prog f) (x : ByteArray) (hp : Pure Tryz.prog f [str x] (fun d => d = bln (p x))) :
 PureB Tryz.prog 148 [str x, .ptr 1000001 0] [(1000001, [.fn f []])] (fun d => d = bln (!p x)) := by
 refine pureB_of_run follows an_z1wya Tryz.func148 rfl ok_z1wya.1 ok_z1wya.2 (by simp [Tryz.ntmps148]) ?_
 rw [run_start]
 simp only [ac_z1wya, go_sem, contS_seq, simprocAttr]
 refine hp.callW he _ rfl rfl ?_
 rintro d rfl
 simp only [go_sem, contS_seq, simprocAttr]
 simp only [retK, resD, retL, oneD, simprocAttr, Tryz.results148]
 exact ⟨_, rfl, rfl, rfl⟩

theorem every_string (p : ByteArray → Bool) (f : FuncId) (he : Enters Tryz.prog f) (l : List ByteArray) (hl : l.length ≤ 1000000) (n : Int) (hp : ∀ x ∈ l, Pure Tryz.prog f [str x] (fun d => d = bln (p x))) :
 Pure Tryz.prog 99 [.pd (.slice (rows cStr l)), int n, .fn f []] (fun d => d = bln (every p l n)) := by
 refine pure_of_run follows an_zch4 Tryz.func99 rfl ok_zch4.1 ok_zch4.2 (by simp [Tryz.ntmps99]) ?_
 rw [run_start]
 simp only [ac_zch4, go_sem, contS_seq, simprocAttr, rows_len]
 refine GifP.mk (fun h => ?_) (fun h => ?_)
 ·refine (ContainsFunc_string (fun x => !p x) 148 (enters_of Tryz.func148 rfl rfl) [(1000001, 0)] [(1000001, [.fn f []])] (Cl.of rfl rfl rfl rfl rfl) l hl (fun x hx => every_string_1 p f he x (hp x hx))).callW (enters_of Tryz.func144 rfl rfl) _ [(5, 1000001)] rfl rfl rfl ?_
  rintro d rfl
  simp only [go_sem, contS_seq, simprocAttr]
  simp only [retK, resD, retL, oneD, simprocAttr, Tryz.results99]
  exact ⟨_, rfl, rfl, congrArg bln (by simp [every, h, List.all_eq_not_any_not])⟩
 ·simp only [retK, resD, retL, oneD, simprocAttr, Tryz.results99]
  exact ⟨_, rfl, rfl, congrArg bln (by simp [every, h])⟩

theorem every_Rule_1 (p : ARule → Bool) (f : FuncId) (he : Enters Tryz.prog f) (x : ARule) (hp : Pure Tryz.prog f [ARule.d x] (fun d => d = bln (p x))) :
 PureB Tryz.prog 150 [ARule.d x, .ptr 1000001 0] [(1000001, [.fn f []])] (fun d => d = bln (!p x)) := by
 refine pureB_of_run follows an_z8keb Tryz.func150 rfl ok_z8keb.1 ok_z8keb.2 (by simp [Tryz.ntmps150]) ?_
 rw [run_start]
 simp only [ac_z8keb, go_sem, contS_seq, simprocAttr]
 refine hp.callW he _ rfl rfl ?_
 rintro d rfl
 simp only [go_sem, contS_seq, simprocAttr]
 simp only [retK, resD, retL, oneD, simprocAttr, Tryz.results150]
 exact ⟨_, rfl, rfl, rfl⟩

theorem every_Rule (p : ARule → Bool) (f : FuncId) (he : Enters Tryz.prog f) (l : List ARule) (hl : l.length ≤ 1000000) (n : Int) (hp : ∀ x ∈ l, Pure Tryz.prog f [ARule.d x] (fun d => d = bln (p x))) :
 Pure Tryz.prog 100 [.pd (.slice (rows ARule.pd l)), int n, .fn f []] (fun d => d = bln (every p l n)) := by
 refine pure_of_run follows an_z2qr7 Tryz.func100 rfl ok_z2qr7.1 ok_z2qr7.2 (by simp [Tryz.ntmps100]) ?_
 rw [run_start]
 simp only [ac_z2qr7, go_sem, contS_seq, simprocAttr, rows_len]
 refine GifP.mk (fun h => ?_) (fun h => ?_)
 ·refine (ContainsFunc_Rule (fun x => !p x) 150 (enters_of Tryz.func150 rfl rfl) [(1000001, 0)] [(1000001, [.fn f []])] (Cl.of rfl rfl rfl rfl rfl) l hl (fun x hx => every_Rule_1 p f he x (hp x hx))).callW (enters_of Tryz.func149 rfl rfl) _ [(5, 1000001)] rfl rfl rfl ?_
  rintro d rfl
  simp only [go_sem, contS_seq, simprocAttr]
  simp only [retK, resD, retL, oneD, simprocAttr, Tryz.results100]
  exact ⟨_, rfl, rfl, congrArg bln (by simp [every, h, List.all_eq_not_any_not])⟩
 ·simp only [retK, resD, retL, oneD, simprocAttr, Tryz.results100]
  exact ⟨_, rfl, rfl, congrArg bln (by simp [every, h])⟩

theorem every_Side_1 (p : ASide → Bool) (f : FuncId) (he : Enters Tryz.prog f) (x : ASide) (hp : Pure Tryz.prog f [ASide.d x] (fun d => d = bln (p x))) :
 PureB Tryz.prog 160 [ASide.d x, .ptr 1000001 0] [(1000001, [.fn f []])] (fun d => d = bln (!p x)) := by
 refine pureB_of_run follows an_z7q8a Tryz.func160 rfl ok_z7q8a.1 ok_z7q8a.2 (by simp [Tryz.ntmps160]) ?_
 rw [run_start]
 simp only [ac_z7q8a, go_sem, contS_seq, simprocAttr]
 refine hp.callW he _ rfl rfl ?_
 rintro d rfl
 simp only [go_sem, contS_seq, simprocAttr]
 simp only [retK, resD, retL, oneD, simprocAttr, Tryz.results160]
 exact ⟨_, rfl, rfl, rfl⟩

theorem every_Side (p : ASide → Bool) (f : FuncId) (he : Enters Tryz.prog f) (l : List ASide) (hl : l.length ≤ 1000000) (n : Int) (hp : ∀ x ∈ l, Pure Tryz.prog f [ASide.d x] (fun d => d = bln (p x))) :
 Pure Tryz.prog 106 [.pd (.slice (rows ASide.pd l)), int n, .fn f []] (fun d => d = bln (every p l n)) := by
 refine pure_of_run follows an_zqdfu Tryz.func106 rfl ok_zqdfu.1 ok_zqdfu.2 (by simp [Tryz.ntmps106]) ?_
 rw [run_start]
 simp only [ac_zqdfu, go_sem, contS_seq, simprocAttr, rows_len]
 refine GifP.mk (fun h => ?_) (fun h => ?_)
 ·refine (ContainsFunc_Side (fun x => !p x) 160 (enters_of Tryz.func160 rfl rfl) [(1000001, 0)] [(1000001, [.fn f []])] (Cl.of rfl rfl rfl rfl rfl) l hl (fun x hx => every_Side_1 p f he x (hp x hx))).callW (enters_of Tryz.func159 rfl rfl) _ [(5, 1000001)] rfl rfl rfl ?_
  rintro d rfl
  simp only [go_sem, contS_seq, simprocAttr]
  simp only [retK, resD, retL, oneD, simprocAttr, Tryz.results106]
  exact ⟨_, rfl, rfl, congrArg bln (by simp [every, h, List.all_eq_not_any_not])⟩
 ·simp only [retK, resD, retL, oneD, simprocAttr, Tryz.results106]
  exact ⟨_, rfl, rfl, congrArg bln (by simp [every, h])⟩

theorem every_Match_1 (p : AMatch → Bool) (f : FuncId) (he : Enters Tryz.prog f) (x : AMatch) (hp : Pure Tryz.prog f [AMatch.d x] (fun d => d = bln (p x))) :
 PureB Tryz.prog 184 [AMatch.d x, .ptr 1000001 0] [(1000001, [.fn f []])] (fun d => d = bln (!p x)) := by
 refine pureB_of_run follows an_z7wca Tryz.func184 rfl ok_z7wca.1 ok_z7wca.2 (by simp [Tryz.ntmps184]) ?_
 rw [run_start]
 simp only [ac_z7wca, go_sem, contS_seq, simprocAttr]
 refine hp.callW he _ rfl rfl ?_
 rintro d rfl
 simp only [go_sem, contS_seq, simprocAttr]
 simp only [retK, resD, retL, oneD, simprocAttr, Tryz.results184]
 exact ⟨_, rfl, rfl, rfl⟩

theorem every_Match (p : AMatch → Bool) (f : FuncId) (he : Enters Tryz.prog f) (l : List AMatch) (hl : l.length ≤ 1000000) (n : Int) (hp : ∀ x ∈ l, Pure Tryz.prog f [AMatch.d x] (fun d => d = bln (p x))) :
 Pure Tryz.prog 151 [.pd (.slice (rows AMatch.pd l)), int n, .fn f []] (fun d => d = bln (every p l n)) := by
 refine pure_of_run follows an_ziqd0 Tryz.func151 rfl ok_ziqd0.1 ok_ziqd0.2 (by simp [Tryz.ntmps151]) ?_
 rw [run_start]
 simp only [ac_ziqd0, go_sem, contS_seq, simprocAttr, rows_len]
 refine GifP.mk (fun h => ?_) (fun h => ?_)
 ·refine (ContainsFunc_Match (fun x => !p x) 184 (enters_of Tryz.func184 rfl rfl) [(1000001, 0)] [(1000001, [.fn f []])] (Cl.of rfl rfl rfl rfl rfl) l hl (fun x hx => every_Match_1 p f he x (hp x hx))).callW (enters_of Tryz.func183 rfl rfl) _ [(5, 1000001)] rfl rfl rfl ?_
  rintro d rfl
  simp only [go_sem, contS_seq, simprocAttr]
  simp only [retK, resD, retL, oneD, simprocAttr, Tryz.results151]
  exact ⟨_, rfl, rfl, congrArg bln (by simp [every, h, List.all_eq_not_any_not])⟩
 ·simp only [retK, resD, retL, oneD, simprocAttr, Tryz.results151]
  exact ⟨_, rfl, rfl, congrArg bln (by simp [every, h])⟩

theorem every_Backend_1 (p : ABackend → Bool) (f : FuncId) (he : Enters Tryz.prog f) (x : ABackend) (hp : Pure Tryz.prog f [ABackend.d x] (fun d => d = bln (p x))) :
 PureB Tryz.prog 200 [ABackend.d x, .ptr 1000001 0] [(1000001, [.fn f []])] (fun d => d = bln (!p x)) := by
 refine pureB_of_run follows an_zi55u Tryz.func200 rfl ok_zi55u.1 ok_zi55u.2 (by simp [Tryz.ntmps200]) ?_
 rw [run_start]
 simp only [ac_zi55u, go_sem, contS_seq, simprocAttr]
 refine hp.callW he _ rfl rfl ?_
 rintro d rfl
 simp only [go_sem, contS_seq, simprocAttr]
 simp only [retK, resD, retL, oneD, simprocAttr, Tryz.results200]
 exact ⟨_, rfl, rfl, rfl⟩

theorem every_Backend (p : ABackend → Bool) (f : FuncId) (he : Enters Tryz.prog f) (l : List ABackend) (hl : l.length ≤ 1000000) (n : Int) (hp : ∀ x ∈ l, Pure Tryz.prog f [ABackend.d x] (fun d => d = bln (p x))) :
 Pure Tryz.prog 154 [.pd (.slice (rows ABackend.pd l)), int n, .fn f []] (fun d => d = bln (every p l n)) := by
 refine pure_of_run follows an_zb5o4 Tryz.func154 rfl ok_zb5o4.1 ok_zb5o4.2 (by simp [Tryz.ntmps154]) ?_
 rw [run_start]
 simp only [ac_zb5o4, go_sem, contS_seq, simprocAttr, rows_len]
 refine GifP.mk (fun h => ?_) (fun h => ?_)
 ·refine (ContainsFunc_Backend (fun x => !p x) 200 (enters_of Tryz.func200 rfl rfl) [(1000001, 0)] [(1000001, [.fn f []])] (Cl.of rfl rfl rfl rfl rfl) l hl (fun x hx => every_Backend_1 p f he x (hp x hx))).callW (enters_of Tryz.func199 rfl rfl) _ [(5, 1000001)] rfl rfl rfl ?_
  rintro d rfl
  simp only [go_sem, contS_seq, simprocAttr]
  simp only [retK, resD, retL, oneD, simprocAttr, Tryz.results154]
  exact ⟨_, rfl, rfl, congrArg bln (by simp [every, h, List.all_eq_not_any_not])⟩
 ·simp only [retK, resD, retL, oneD, simprocAttr, Tryz.results154]
  exact ⟨_, rfl, rfl, congrArg bln (by simp [every, h])⟩

theorem twice_int_1 (q : Int → Int → Bool) (f : FuncId) (he : Enters Tryz.prog f) (x y : Int) (hp : Pure Tryz.prog f [int x, int y] (fun d => d = bln (q x y))) :
 PureB Tryz.prog 136 [int y, .ptr 1000001 0, .ptr 1000002 0] [(1000001, [.fn f []]), (1000002, [int x])] (fun d => d = bln (q x y)) := by
 refine pureB_of_run follows an_zovpw Tryz.func136 rfl ok_zovpw.1 ok_zovpw.2 (by simp [Tryz.ntmps136]) ?_
 rw [run_start]
 simp only [ac_zovpw, go_sem, contS_seq, simprocAttr]
 refine hp.callW he _ rfl rfl ?_
 rintro d rfl
 simp only [go_sem, contS_seq, simprocAttr]
 simp only [retK, resD, retL, oneD, simprocAttr, Tryz.results136]
 exact ⟨_, rfl, rfl, rfl⟩

theorem twice_int (q : Int → Int → Bool) (f : FuncId) (he : Enters Tryz.prog f) (l : List Int) (hl : l.length ≤ 1000000) (hp : ∀ x ∈ l, ∀ y ∈ l, Pure Tryz.prog f [int x, int y] (fun d => d = bln (q x y))) :
 Pure Tryz.prog 84 [.pd (.slice (rows cInt l)), .fn f []] (fun d => d = bln (twice q l)) := by
 refine pure_of_run follows an_zb3kh Tryz.func84 rfl ok_zb3kh.1 ok_zb3kh.2 (by simp [Tryz.ntmps84]) ?_
 rw [run_start]
 simp only [ac_zb3kh, go_sem, contS_seq, simprocAttr, rows_len]
 refine loopS (fun k st => ∃ i : Nat, k = l.length - i ∧ i ≤ l.length ∧ twiceFrom q l k i = twice q l ∧
  st = ⟨[(0, .pd (.slice (rows cInt l))), (3, .ptr 3 0), (7, .pd (.slice (rows cInt l))), (8, int l.length), (9, int i)], [(3, [.fn f []])], [], .no⟩) l.length _ (Weak.refl _ _) ⟨0, rfl, Nat.zero_le _, rfl, rfl⟩ ?_
 rintro k st ⟨i, rfl, hi, hr, rfl⟩
 by_cases hlt : i < l.length
 ·obtain ⟨x, hx⟩ := at_lt hlt
  have hlt' : ((i : Int) < (l.length : Int)) = True := eq_true (by omega)
  have hle : (i ≤ l.length) = True := eq_true (by omega)
  have hw := i64_succ (show i < 1000000000 by omega)
  have hmx := List.mem_of_getElem? hx
  obtain ⟨m, hm⟩ : ∃ m, l.length - i = m + 1 := ⟨l.length - i - 1, by omega⟩
  rw [hm, twiceFrom, hx] at hr
  have hrows : rowsOK 1 (rows cInt l) = True := rowsOK_rows (f := cInt) (n := 1) (fun _ => rfl) l
  have htk : (rows cInt l).take i = rows cInt (l.take i) := by simp [rows, List.map_take]
  simp only [go_sem, contS_seq, simprocAttr, hlt', rows_get hx, rows_len, hrows, hle, htk]
  refine (ContainsFunc_int (fun y => q x y) 136 (enters_of Tryz.func136 rfl rfl) [(1000001, 0), (1000002, 0)] [(1000001, [.fn f []]), (1000002, [int x])] (Cl.of rfl rfl rfl rfl rfl) (l.take i) (by simp; omega)
   (fun y hy => twice_int_1 q f he x y (hp x hmx y (List.mem_of_mem_take hy)))).callW (enters_of Tryz.func133 rfl rfl) _ [(3, 1000001), (6, 1000002)] rfl rfl rfl ?_
  rintro d rfl
  simp only [go_sem, contS_seq, simprocAttr, hw]
  refine Gif.mk (fun h => ?_) (fun h => ?_)
  ·simp only [h, Bool.true_or] at hr
   simp only [retK, resD, retL, oneD, simprocAttr, Tryz.results84]
   exact ⟨_, rfl, rfl, congrArg bln hr⟩
  ·simp only [h, Bool.false_or] at hr
   refine ⟨m, _, ?_, ?_, i + 1, ?_, ?_, hr, rfl⟩
   ·omega
   ·exact lessA
   ·omega
   ·omega
 ·have hlt' : ((i : Int) < (l.length : Int)) = False := eq_false (by omega)
  rw [show l.length - i = 0 by omega, twiceFrom] at hr
  simp only [go_sem, contS_seq, simprocAttr, rows_len, hlt']
  simp only [retK, resD, retL, oneD, simprocAttr, Tryz.results84]
  exact ⟨_, rfl, rfl, congrArg bln hr⟩

theorem twice_Listener_1 (q : AListener → AListener → Bool) (f : FuncId) (he : Enters Tryz.prog f) (x y : AListener) (hp : Pure Tryz.prog f [AListener.d x, AListener.d y] (fun d => d = bln (q x y))) :
 PureB Tryz.prog 141 [AListener.d y, .ptr 1000001 0, .ptr 1000002 0] [(1000001, [.fn f []]), (1000002, AListener.ds x)] (fun d => d = bln (q x y)) := by
 refine pureB_of_run follows an_ztyjm Tryz.func141 rfl ok_ztyjm.1 ok_ztyjm.2 (by simp [Tryz.ntmps141]) ?_
 rw [run_start]
 simp only [ac_ztyjm, go_sem, contS_seq, simprocAttr]
 refine hp.callW he _ rfl rfl ?_
 rintro d rfl
 simp only [go_sem, contS_seq, simprocAttr]
 simp only [retK, resD, retL, oneD, simprocAttr, Tryz.results141]
 exact ⟨_, rfl, rfl, rfl⟩

theorem twice_Listener (q : AListener → AListener → Bool) (f : FuncId) (he : Enters Tryz.prog f) (l : List AListener) (hl : l.length ≤ 1000000) (hp : ∀ x ∈ l, ∀ y ∈ l, Pure Tryz.prog f [AListener.d x, AListener.d y] (fun d => d = bln (q x y))) :
 Pure Tryz.prog 90 [.pd (.slice (rows AListener.pd l)), .fn f []] (fun d => d = bln (twice q l)) := by
 refine pure_of_run follows an_zp700 Tryz.func90 rfl ok_zp700.1 ok_zp700.2 (by simp [Tryz.ntmps90]) ?_
 rw [run_start]
 simp only [ac_zp700, go_sem, contS_seq, simprocAttr, rows_len]
 refine loopS (fun k st => ∃ i : Nat, k = l.length - i ∧ i ≤ l.length ∧ twiceFrom q l k i = twice q l ∧
  st = ⟨[(0, .pd (.slice (rows AListener.pd l))), (3, .ptr 3 0), (7, .pd (.slice (rows AListener.pd l))), (8, int l.length), (9, int i)], [(3, [.fn f []])], [], .no⟩) l.length _ (Weak.refl _ _) ⟨0, rfl, Nat.zero_le _, rfl, rfl⟩ ?_
 rintro k st ⟨i, rfl, hi, hr, rfl⟩
 by_cases hlt : i < l.length
 ·obtain ⟨x, hx⟩ := at_lt hlt
  have hlt' : ((i : Int) < (l.length : Int)) = True := eq_true (by omega)
  have hle : (i ≤ l.length) = True := eq_true (by omega)
  have hw := i64_succ (show i < 1000000000 by omega)
  have hmx := List.mem_of_getElem? hx
  obtain ⟨m, hm⟩ : ∃ m, l.length - i = m + 1 := ⟨l.length - i - 1, by omega⟩
  rw [hm, twiceFrom, hx] at hr
  have hrows : rowsOK 9 (rows AListener.pd l) = True := rowsOK_rows (f := AListener.pd) (n := 9) (fun _ => rfl) l
  have htk : (rows AListener.pd l).take i = rows AListener.pd (l.take i) := by simp [rows, List.map_take]
  simp only [go_sem, contS_seq, simprocAttr, hlt', rows_get hx, rows_len, hrows, hle, htk]
  refine (ContainsFunc_Listener (fun y => q x y) 141 (enters_of Tryz.func141 rfl rfl) [(1000001, 0), (1000002, 0)] [(1000001, [.fn f []]), (1000002, AListener.ds x)] (Cl.of rfl rfl rfl rfl rfl) (l.take i) (by simp; omega)
   (fun y hy => twice_Listener_1 q f he x y (hp x hmx y (List.mem_of_mem_take hy)))).callW (enters_of Tryz.func138 rfl rfl) _ [(3, 1000001), (6, 1000002)] rfl rfl rfl ?_
  rintro d rfl
  simp only [go_sem, contS_seq, simprocAttr, hw]
  refine Gif.mk (fun h => ?_) (fun h => ?_)
  ·simp only [h, Bool.true_or] at hr
   simp only [retK, resD, retL, oneD, simprocAttr, Tryz.results90]
   exact ⟨_, rfl, rfl, congrArg bln hr⟩
  ·simp only [h, Bool.false_or] at hr
   refine ⟨m, _, ?_, ?_, i + 1, ?_, ?_, hr, rfl⟩
   ·omega
   ·exact lessA
   ·omega
   ·omega
 ·have hlt' : ((i : Int) < (l.length : Int)) = False := eq_false (by omega)
  rw [show l.length - i = 0 by omega, twiceFrom] at hr
  simp only [go_sem, contS_seq, simprocAttr, rows_len, hlt']
  simp only [retK, resD, retL, oneD, simprocAttr, Tryz.results90]
  exact ⟨_, rfl, rfl, congrArg bln hr⟩

theorem twice_Parent_1 (q : AParent → AParent → Bool) (f : FuncId) (he : Enters Tryz.prog f) (x y : AParent) (hp : Pure Tryz.prog f [AParent.d x, AParent.d y] (fun d => d = bln (q x y))) :
 PureB Tryz.prog 143 [AParent.d y, .ptr 1000001 0, .ptr 1000002 0] [(1000001, [.fn f []]), (1000002, AParent.ds x)] (fun d => d = bln (q x y)) := by
 refine pureB_of_run follows an_z6aq8 Tryz.func143 rfl ok_z6aq8.1 ok_z6aq8.2 (by simp [Tryz.ntmps143]) ?_
 rw [run_start]
 simp only [ac_z6aq8, go_sem, contS_seq, simprocAttr]
 refine hp.callW he _ rfl rfl ?_
 rintro d rfl
 simp only [go_sem, contS_seq, simprocAttr]
 simp only [retK, resD, retL, oneD, simprocAttr, Tryz.results143]
 exact ⟨_, rfl, rfl, rfl⟩

theorem twice_Parent (q : AParent → AParent → Bool) (f : FuncId) (he : Enters Tryz.prog f) (l : List AParent) (hl : l.length ≤ 1000000) (hp : ∀ x ∈ l, ∀ y ∈ l, Pure Tryz.prog f [AParent.d x, AParent.d y] (fun d => d = bln (q x y))) :
 Pure Tryz.prog 91 [.pd (.slice (rows AParent.pd l)), .fn f []] (fun d => d = bln (twice q l)) := by
 refine pure_of_run follows an_zo7vn Tryz.func91 rfl ok_zo7vn.1 ok_zo7vn.2 (by simp [Tryz.ntmps91]) ?_
 rw [run_start]
 simp only [ac_zo7vn, go_sem, contS_seq, simprocAttr, rows_len]
 refine loopS (fun k st => ∃ i : Nat, k = l.length - i ∧ i ≤ l.length ∧ twiceFrom q l k i = twice q l ∧
  st = ⟨[(0, .pd (.slice (rows AParent.pd l))), (3, .ptr 3 0), (7, .pd (.slice (rows AParent.pd l))), (8, int l.length), (9, int i)], [(3, [.fn f []])], [], .no⟩) l.length _ (Weak.refl _ _) ⟨0, rfl, Nat.zero_le _, rfl, rfl⟩ ?_
 rintro k st ⟨i, rfl, hi, hr, rfl⟩
 by_cases hlt : i < l.length
 ·obtain ⟨x, hx⟩ := at_lt hlt
  have hlt' : ((i : Int) < (l.length : Int)) = True := eq_true (by omega)
  have hle : (i ≤ l.length) = True := eq_true (by omega)
  have hw := i64_succ (show i < 1000000000 by omega)
  have hmx := List.mem_of_getElem? hx
  obtain ⟨m, hm⟩ : ∃ m, l.length - i = m + 1 := ⟨l.length - i - 1, by omega⟩
  rw [hm, twiceFrom, hx] at hr
  have hrows : rowsOK 4 (rows AParent.pd l) = True := rowsOK_rows (f := AParent.pd) (n := 4) (fun _ => rfl) l
  have htk : (rows AParent.pd l).take i = rows AParent.pd (l.take i) := by simp [rows, List.map_take]
  simp only [go_sem, contS_seq, simprocAttr, hlt', rows_get hx, rows_len, hrows, hle, htk]
  refine (ContainsFunc_Parent (fun y => q x y) 143 (enters_of Tryz.func143 rfl rfl) [(1000001, 0), (1000002, 0)] [(1000001, [.fn f []]), (1000002, AParent.ds x)] (Cl.of rfl rfl rfl rfl rfl) (l.take i) (by simp; omega)
   (fun y hy => twice_Parent_1 q f he x y (hp x hmx y (List.mem_of_mem_take hy)))).callW (enters_of Tryz.func142 rfl rfl) _ [(3, 1000001), (6, 1000002)] rfl rfl rfl ?_
  rintro d rfl
  simp only [go_sem, contS_seq, simprocAttr, hw]
  refine Gif.mk (fun h => ?_) (fun h => ?_)
  ·simp only [h, Bool.true_or] at hr
   simp only [retK, resD, retL, oneD, simprocAttr, Tryz.results91]
   exact ⟨_, rfl, rfl, congrArg bln hr⟩
  ·simp only [h, Bool.false_or] at hr
   refine ⟨m, _, ?_, ?_, i + 1, ?_, ?_, hr, rfl⟩
   ·omega
   ·exact lessA
   ·omega
   ·omega
 ·have hlt' : ((i : Int) < (l.length : Int)) = False := eq_false (by omega)
  rw [show l.length - i = 0 by omega, twiceFrom] at hr
  simp only [go_sem, contS_seq, simprocAttr, rows_len, hlt']
  simp only [retK, resD, retL, oneD, simprocAttr, Tryz.results91]
  exact ⟨_, rfl, rfl, congrArg bln hr⟩

theorem twice_string_1 (q : ByteArray → ByteArray → Bool) (f : FuncId) (he : Enters Tryz.prog f) (x y : ByteArray) (hp : Pure Tryz.prog f [str x, str y] (fun d => d = bln (q x y))) :
 PureB Tryz.prog 145 [str y, .ptr 1000001 0, .ptr 1000002 0] [(1000001, [.fn f []]), (1000002, [str x])] (fun d => d = bln (q x y)) := by
 refine pureB_of_run follows an_zwcip Tryz.func145 rfl ok_zwcip.1 ok_zwcip.2 (by simp [Tryz.ntmps145]) ?_
 rw [run_start]
 simp only [ac_zwcip, go_sem, contS_seq, simprocAttr]
 refine hp.callW he _ rfl rfl ?_
 rintro d rfl
 simp only [go_sem, contS_seq, simprocAttr]
 simp only [retK, resD, retL, oneD, simprocAttr, Tryz.results145]
 exact ⟨_, rfl, rfl, rfl⟩

theorem twice_string (q : ByteArray → ByteArray → Bool) (f : FuncId) (he : Enters Tryz.prog f) (l : List ByteArray) (hl : l.length ≤ 1000000) (hp : ∀ x ∈ l, ∀ y ∈ l, Pure Tryz.prog f [str x, str y] (fun d => d = bln (q x y))) :
 Pure Tryz.prog 93 [.pd (.slice (rows cStr l)), .fn f []] (fun d => d = bln (twice q l)) := by
 refine pure_of_run follows an_zogir Tryz.func93 rfl ok_zogir.1 ok_zogir.2 (by simp [Tryz.ntmps93]) ?_
 rw [run_start]
 simp only [ac_zogir, go_sem, contS_seq, simprocAttr, rows_len]
 refine loopS (fun k st => ∃ i : Nat, k = l.length - i ∧ i ≤ l.length ∧ twiceFrom q l k i = twice q l ∧
  st = ⟨[(0, .pd (.slice (rows cStr l))), (3, .ptr 3 0), (7, .pd (.slice (rows cStr l))), (8, int l.length), (9, int i)], [(3, [.fn f []])], [], .no⟩) l.length _ (Weak.refl _ _) ⟨0, rfl, Nat.zero_le _, rfl, rfl⟩ ?_
 rintro k st ⟨i, rfl, hi, hr, rfl⟩
 by_cases hlt : i < l.length
 ·obtain ⟨x, hx⟩ := at_lt hlt
  have hlt' : ((i : Int) < (l.length : Int)) = True := eq_true (by omega)
  have hle : (i ≤ l.length) = True := eq_true (by omega)
  have hw := i64_succ (show i < 1000000000 by omega)
  have hmx := List.mem_of_getElem? hx
  obtain ⟨m, hm⟩ : ∃ m, l.length - i = m + 1 := ⟨l.length - i - 1, by omega⟩
  rw [hm, twiceFrom, hx] at hr
  have hrows : rowsOK 1 (rows cStr l) = True := rowsOK_rows (f := cStr) (n := 1) (fun _ => rfl) l
  have htk : (rows cStr l).take i = rows cStr (l.take i) := by simp [rows, List.map_take]
  simp only [go_sem, contS_seq, simprocAttr, hlt', rows_get hx, rows_len, hrows, hle, htk]
  refine (ContainsFunc_string (fun y => q x y) 145 (enters_of Tryz.func145 rfl rfl) [(1000001, 0), (1000002, 0)] [(1000001, [.fn f []]), (1000002, [str x])] (Cl.of rfl rfl rfl rfl rfl) (l.take i) (by simp; omega)
   (fun y hy => twice_string_1 q f he x y (hp x hmx y (List.mem_of_mem_take hy)))).callW (enters_of Tryz.func144 rfl rfl) _ [(3, 1000001), (6, 1000002)] rfl rfl rfl ?_
  rintro d rfl
  simp only [go_sem, contS_seq, simprocAttr, hw]
  refine Gif.mk (fun h => ?_) (fun h => ?_)
  ·simp only [h, Bool.true_or] at hr
   simp only [retK, resD, retL, oneD, simprocAttr, Tryz.results93]
   exact ⟨_, rfl, rfl, congrArg bln hr⟩
  ·simp only [h, Bool.false_or] at hr
   refine ⟨m, _, ?_, ?_, i + 1, ?_, ?_, hr, rfl⟩
   ·omega
   ·exact lessA
   ·omega
   ·omega
 ·have hlt' : ((i : Int) < (l.length : Int)) = False := eq_false (by omega)
  rw [show l.length - i = 0 by omega, twiceFrom] at hr
  simp only [go_sem, contS_seq, simprocAttr, rows_len, hlt']
  simp only [retK, resD, retL, oneD, simprocAttr, Tryz.results93]
  exact ⟨_, rfl, rfl, congrArg bln hr⟩


theorem Equal_Pair (l m : List APair) (hl : l.length ≤ 1000000) (hm : m.length ≤ 1000000) :
 Pure Tryz.prog 107 [.pd (.slice (rows APair.pd l)), .pd (.slice (rows APair.pd m))] (fun d => d = bln (decide (l = m))) := by
 refine pure_of_run follows an_zfsc3 Tryz.func107 rfl ok_zfsc3.1 ok_zfsc3.2 (by simp [Tryz.ntmps107]) ?_
 rw [run_start]
 simp only [ac_zfsc3, go_sem, contS_seq, simprocAttr, go_sem, rows_len]
 refine GifP.mk (fun hn => ?_) (fun hn => ?_)
 rotate_left
 ·simp only [retK, resD, retL, oneD, simprocAttr, Tryz.results107]
  exact ⟨_, rfl, rfl, congrArg bln (decide_eq_false (fun h => hn (by rw [h]))).symm⟩
 have hlm : l.length = m.length := by omega
 refine loopS (fun k st => ∃ i : Nat, k = l.length - i ∧ i ≤ l.length ∧ decide (l.drop i = m.drop i) = decide (l = m) ∧
  st = ⟨[(0, .pd (.slice (rows APair.pd l))), (1, .pd (.slice (rows APair.pd m))), (12, int l.length), (13, int i)], [], [], .no⟩) l.length _ (Weak.refl _ _) ⟨0, rfl, Nat.zero_le _, rfl, rfl⟩ ?_
 rintro k st ⟨i, rfl, hi, hr, rfl⟩
 by_cases hlt : i < l.length
 ·obtain ⟨x, hx⟩ := at_lt hlt
  obtain ⟨y, hy⟩ := at_lt (show i < m.length by omega)
  have hlt' : ((i : Int) < (l.length : Int)) = True := eq_true (by omega)
  have hw := i64_succ (show i < 1000000000 by omega)
  rw [drop_at hx, drop_at hy] at hr
  simp only [go_sem, contS_seq, simprocAttr, go_sem, hlt', rows_get hx, rows_get hy, eqVs, eqV, eq_Pair, hw]
  refine GifP.mk (fun h => ?_) (fun h => ?_)
  ·subst h
   simp only [List.cons.injEq, true_and] at hr
   refine ⟨l.length - (i + 1), _, ?_, ?_, i + 1, rfl, ?_, hr, rfl⟩
   ·omega
   ·exact lessA
   ·omega
  ·simp only [retK, resD, retL, oneD, simprocAttr, Tryz.results107]
   rw [decide_eq_false (fun e => h (List.cons.inj e).1)] at hr
   exact ⟨_, rfl, rfl, congrArg bln hr⟩
 ·have hlt' : ((i : Int) < (l.length : Int)) = False := eq_false (by omega)
  rw [List.drop_eq_nil_of_le (by omega), List.drop_eq_nil_of_le (by omega)] at hr
  simp only [go_sem, contS_seq, simprocAttr, go_sem, rows_len, hlt']
  simp only [retK, resD, retL, oneD, simprocAttr, Tryz.results107]
  exact ⟨_, rfl, rfl, congrArg bln (by simpa using hr)⟩

theorem Equal_int (l m : List Int) (hl : l.length ≤ 1000000) (hm : m.length ≤ 1000000) :
 Pure Tryz.prog 108 [.pd (.slice (rows cInt l)), .pd (.slice (rows cInt m))] (fun d => d = bln (decide (l = m))) := by
 refine pure_of_run follows an_zu266 Tryz.func108 rfl ok_zu266.1 ok_zu266.2 (by simp [Tryz.ntmps108]) ?_
 rw [run_start]
 simp only [ac_zu266, go_sem, contS_seq, simprocAttr, go_sem, rows_len]
 refine GifP.mk (fun hn => ?_) (fun hn => ?_)
 rotate_left
 ·simp only [retK, resD, retL, oneD, simprocAttr, Tryz.results108]
  exact ⟨_, rfl, rfl, congrArg bln (decide_eq_false (fun h => hn (by rw [h]))).symm⟩
 have hlm : l.length = m.length := by omega
 refine loopS (fun k st => ∃ i : Nat, k = l.length - i ∧ i ≤ l.length ∧ decide (l.drop i = m.drop i) = decide (l = m) ∧
  st = ⟨[(0, .pd (.slice (rows cInt l))), (1, .pd (.slice (rows cInt m))), (12, int l.length), (13, int i)], [], [], .no⟩) l.length _ (Weak.refl _ _) ⟨0, rfl, Nat.zero_le _, rfl, rfl⟩ ?_
 rintro k st ⟨i, rfl, hi, hr, rfl⟩
 by_cases hlt : i < l.length
 ·obtain ⟨x, hx⟩ := at_lt hlt
  obtain ⟨y, hy⟩ := at_lt (show i < m.length by omega)
  have hlt' : ((i : Int) < (l.length : Int)) = True := eq_true (by omega)
  have hw := i64_succ (show i < 1000000000 by omega)
  rw [drop_at hx, drop_at hy] at hr
  simp only [go_sem, contS_seq, simprocAttr, go_sem, hlt', rows_get hx, rows_get hy, eqVs, eqV, eq_int, hw]
  refine GifP.mk (fun h => ?_) (fun h => ?_)
  ·subst h
   simp only [List.cons.injEq, true_and] at hr
   refine ⟨l.length - (i + 1), _, ?_, ?_, i + 1, rfl, ?_, hr, rfl⟩
   ·omega
   ·exact lessA
   ·omega
  ·simp only [retK, resD, retL, oneD, simprocAttr, Tryz.results108]
   rw [decide_eq_false (fun e => h (List.cons.inj e).1)] at hr
   exact ⟨_, rfl, rfl, congrArg bln hr⟩
 ·have hlt' : ((i : Int) < (l.length : Int)) = False := eq_false (by omega)
  rw [List.drop_eq_nil_of_le (by omega), List.drop_eq_nil_of_le (by omega)] at hr
  simp only [go_sem, contS_seq, simprocAttr, go_sem, rows_len, hlt']
  simp only [retK, resD, retL, oneD, simprocAttr, Tryz.results108]
  exact ⟨_, rfl, rfl, congrArg bln (by simpa using hr)⟩

theorem Equal_string (l m : List ByteArray) (hl : l.length ≤ 1000000) (hm : m.length ≤ 1000000) :
 Pure Tryz.prog 109 [.pd (.slice (rows cStr l)), .pd (.slice (rows cStr m))] (fun d => d = bln (decide (l = m))) := by
 refine pure_of_run follows an_zdvt9 Tryz.func109 rfl ok_zdvt9.1 ok_zdvt9.2 (by simp [Tryz.ntmps109]) ?_
 rw [run_start]
 simp only [ac_zdvt9, go_sem, contS_seq, simprocAttr, go_sem, rows_len]
 refine GifP.mk (fun hn => ?_) (fun hn => ?_)
 rotate_left
 ·simp only [retK, resD, retL, oneD, simprocAttr, Tryz.results109]
  exact ⟨_, rfl, rfl, congrArg bln (decide_eq_false (fun h => hn (by rw [h]))).symm⟩
 have hlm : l.length = m.length := by omega
 refine loopS (fun k st => ∃ i : Nat, k = l.length - i ∧ i ≤ l.length ∧ decide (l.drop i = m.drop i) = decide (l = m) ∧
  st = ⟨[(0, .pd (.slice (rows cStr l))), (1, .pd (.slice (rows cStr m))), (12, int l.length), (13, int i)], [], [], .no⟩) l.length _ (Weak.refl _ _) ⟨0, rfl, Nat.zero_le _, rfl, rfl⟩ ?_
 rintro k st ⟨i, rfl, hi, hr, rfl⟩
 by_cases hlt : i < l.length
 ·obtain ⟨x, hx⟩ := at_lt hlt
  obtain ⟨y, hy⟩ := at_lt (show i < m.length by omega)
  have hlt' : ((i : Int) < (l.length : Int)) = True := eq_true (by omega)
  have hw := i64_succ (show i < 1000000000 by omega)
  rw [drop_at hx, drop_at hy] at hr
  simp only [go_sem, contS_seq, simprocAttr, go_sem, hlt', rows_get hx, rows_get hy, eqVs, eqV, eq_string, hw]
  refine GifP.mk (fun h => ?_) (fun h => ?_)
  ·subst h
   simp only [List.cons.injEq, true_and] at hr
   refine ⟨l.length - (i + 1), _, ?_, ?_, i + 1, rfl, ?_, hr, rfl⟩
   ·omega
   ·exact lessA
   ·omega
  ·simp only [retK, resD, retL, oneD, simprocAttr, Tryz.results109]
   rw [decide_eq_false (fun e => h (List.cons.inj e).1)] at hr
   exact ⟨_, rfl, rfl, congrArg bln hr⟩
 ·have hlt' : ((i : Int) < (l.length : Int)) = False := eq_false (by omega)
  rw [List.drop_eq_nil_of_le (by omega), List.drop_eq_nil_of_le (by omega)] at hr
  simp only [go_sem, contS_seq, simprocAttr, go_sem, rows_len, hlt']
  simp only [retK, resD, retL, oneD, simprocAttr, Tryz.results109]
  exact ⟨_, rfl, rfl, congrArg bln (by simpa using hr)⟩

theorem Equal_Parent (l m : List AParent) (hl : l.length ≤ 1000000) (hm : m.length ≤ 1000000) :
 Pure Tryz.prog 110 [.pd (.slice (rows AParent.pd l)), .pd (.slice (rows AParent.pd m))] (fun d => d = bln (decide (l = m))) := by
 refine pure_of_run follows an_zj0mp Tryz.func110 rfl ok_zj0mp.1 ok_zj0mp.2 (by simp [Tryz.ntmps110]) ?_
 rw [run_start]
 simp only [ac_zj0mp, go_sem, contS_seq, simprocAttr, go_sem, rows_len]
 refine GifP.mk (fun hn => ?_) (fun hn => ?_)
 rotate_left
 ·simp only [retK, resD, retL, oneD, simprocAttr, Tryz.results110]
  exact ⟨_, rfl, rfl, congrArg bln (decide_eq_false (fun h => hn (by rw [h]))).symm⟩
 have hlm : l.length = m.length := by omega
 refine loopS (fun k st => ∃ i : Nat, k = l.length - i ∧ i ≤ l.length ∧ decide (l.drop i = m.drop i) = decide (l = m) ∧
  st = ⟨[(0, .pd (.slice (rows AParent.pd l))), (1, .pd (.slice (rows AParent.pd m))), (12, int l.length), (13, int i)], [], [], .no⟩) l.length _ (Weak.refl _ _) ⟨0, rfl, Nat.zero_le _, rfl, rfl⟩ ?_
 rintro k st ⟨i, rfl, hi, hr, rfl⟩
 by_cases hlt : i < l.length
 ·obtain ⟨x, hx⟩ := at_lt hlt
  obtain ⟨y, hy⟩ := at_lt (show i < m.length by omega)
  have hlt' : ((i : Int) < (l.length : Int)) = True := eq_true (by omega)
  have hw := i64_succ (show i < 1000000000 by omega)
  rw [drop_at hx, drop_at hy] at hr
  simp only [go_sem, contS_seq, simprocAttr, go_sem, hlt', rows_get hx, rows_get hy, eqVs, eqV, eq_Parent, hw]
  refine GifP.mk (fun h => ?_) (fun h => ?_)
  ·subst h
   simp only [List.cons.injEq, true_and] at hr
   refine ⟨l.length - (i + 1), _, ?_, ?_, i + 1, rfl, ?_, hr, rfl⟩
   ·omega
   ·exact lessA
   ·omega
  ·simp only [retK, resD, retL, oneD, simprocAttr, Tryz.results110]
   rw [decide_eq_false (fun e => h (List.cons.inj e).1)] at hr
   exact ⟨_, rfl, rfl, congrArg bln hr⟩
 ·have hlt' : ((i : Int) < (l.length : Int)) = False := eq_false (by omega)
  rw [List.drop_eq_nil_of_le (by omega), List.drop_eq_nil_of_le (by omega)] at hr
  simp only [go_sem, contS_seq, simprocAttr, go_sem, rows_len, hlt']
  simp only [retK, resD, retL, oneD, simprocAttr, Tryz.results110]
  exact ⟨_, rfl, rfl, congrArg bln (by simpa using hr)⟩

theorem Equal_Side (l m : List ASide) (hl : l.length ≤ 1000000) (hm : m.length ≤ 1000000) :
 Pure Tryz.prog 111 [.pd (.slice (rows ASide.pd l)), .pd (.slice (rows ASide.pd m))] (fun d => d = bln (decide (l = m))) := by
 refine pure_of_run follows an_zlr2h Tryz.func111 rfl ok_zlr2h.1 ok_zlr2h.2 (by simp [Tryz.ntmps111]) ?_
 rw [run_start]
 simp only [ac_zlr2h, go_sem, contS_seq, simprocAttr, go_sem, rows_len]
 refine GifP.mk (fun hn => ?_) (fun hn => ?_)
 rotate_left
 ·simp only [retK, resD, retL, oneD, simprocAttr, Tryz.results111]
  exact ⟨_, rfl, rfl, congrArg bln (decide_eq_false (fun h => hn (by rw [h]))).symm⟩
 have hlm : l.length = m.length := by omega
 refine loopS (fun k st => ∃ i : Nat, k = l.length - i ∧ i ≤ l.length ∧ decide (l.drop i = m.drop i) = decide (l = m) ∧
  st = ⟨[(0, .pd (.slice (rows ASide.pd l))), (1, .pd (.slice (rows ASide.pd m))), (12, int l.length), (13, int i)], [], [], .no⟩) l.length _ (Weak.refl _ _) ⟨0, rfl, Nat.zero_le _, rfl, rfl⟩ ?_
 rintro k st ⟨i, rfl, hi, hr, rfl⟩
 by_cases hlt : i < l.length
 ·obtain ⟨x, hx⟩ := at_lt hlt
  obtain ⟨y, hy⟩ := at_lt (show i < m.length by omega)
  have hlt' : ((i : Int) < (l.length : Int)) = True := eq_true (by omega)
  have hw := i64_succ (show i < 1000000000 by omega)
  rw [drop_at hx, drop_at hy] at hr
  simp only [go_sem, contS_seq, simprocAttr, go_sem, hlt', rows_get hx, rows_get hy, eqVs, eqV, eq_Side, hw]
  refine GifP.mk (fun h => ?_) (fun h => ?_)
  ·subst h
   simp only [List.cons.injEq, true_and] at hr
   refine ⟨l.length - (i + 1), _, ?_, ?_, i + 1, rfl, ?_, hr, rfl⟩
   ·omega
   ·exact lessA
   ·omega
  ·simp only [retK, resD, retL, oneD, simprocAttr, Tryz.results111]
   rw [decide_eq_false (fun e => h (List.cons.inj e).1)] at hr
   exact ⟨_, rfl, rfl, congrArg bln hr⟩
 ·have hlt' : ((i : Int) < (l.length : Int)) = False := eq_false (by omega)
  rw [List.drop_eq_nil_of_le (by omega), List.drop_eq_nil_of_le (by omega)] at hr
  simp only [go_sem, contS_seq, simprocAttr, go_sem, rows_len, hlt']
  simp only [retK, resD, retL, oneD, simprocAttr, Tryz.results111]
  exact ⟨_, rfl, rfl, congrArg bln (by simpa using hr)⟩

theorem Equal_Filter (l m : List AFilter) (hl : l.length ≤ 1000000) (hm : m.length ≤ 1000000) :
 Pure Tryz.prog 164 [.pd (.slice (rows AFilter.pd l)), .pd (.slice (rows AFilter.pd m))] (fun d => d = bln (decide (l = m))) := by
 refine pure_of_run follows an_z7uuy Tryz.func164 rfl ok_z7uuy.1 ok_z7uuy.2 (by simp [Tryz.ntmps164]) ?_
 rw [run_start]
 simp only [ac_z7uuy, go_sem, contS_seq, simprocAttr, go_sem, rows_len]
 refine GifP.mk (fun hn => ?_) (fun hn => ?_)
 rotate_left
 ·simp only [retK, resD, retL, oneD, simprocAttr, Tryz.results164]
  exact ⟨_, rfl, rfl, congrArg bln (decide_eq_false (fun h => hn (by rw [h]))).symm⟩
 have hlm : l.length = m.length := by omega
 refine loopS (fun k st => ∃ i : Nat, k = l.length - i ∧ i ≤ l.length ∧ decide (l.drop i = m.drop i) = decide (l = m) ∧
  st = ⟨[(0, .pd (.slice (rows AFilter.pd l))), (1, .pd (.slice (rows AFilter.pd m))), (12, int l.length), (13, int i)], [], [], .no⟩) l.length _ (Weak.refl _ _) ⟨0, rfl, Nat.zero_le _, rfl, rfl⟩ ?_
 rintro k st ⟨i, rfl, hi, hr, rfl⟩
 by_cases hlt : i < l.length
 ·obtain ⟨x, hx⟩ := at_lt hlt
  obtain ⟨y, hy⟩ := at_lt (show i < m.length by omega)
  have hlt' : ((i : Int) < (l.length : Int)) = True := eq_true (by omega)
  have hw := i64_succ (show i < 1000000000 by omega)
  rw [drop_at hx, drop_at hy] at hr
  simp only [go_sem, contS_seq, simprocAttr, go_sem, hlt', rows_get hx, rows_get hy, eqVs, eqV, eq_Filter, hw]
  refine GifP.mk (fun h => ?_) (fun h => ?_)
  ·subst h
   simp only [List.cons.injEq, true_and] at hr
   refine ⟨l.length - (i + 1), _, ?_, ?_, i + 1, rfl, ?_, hr, rfl⟩
   ·omega
   ·exact lessA
   ·omega
  ·simp only [retK, resD, retL, oneD, simprocAttr, Tryz.results164]
   rw [decide_eq_false (fun e => h (List.cons.inj e).1)] at hr
   exact ⟨_, rfl, rfl, congrArg bln hr⟩
 ·have hlt' : ((i : Int) < (l.length : Int)) = False := eq_false (by omega)
  rw [List.drop_eq_nil_of_le (by omega), List.drop_eq_nil_of_le (by omega)] at hr
  simp only [go_sem, contS_seq, simprocAttr, go_sem, rows_len, hlt']
  simp only [retK, resD, retL, oneD, simprocAttr, Tryz.results164]
  exact ⟨_, rfl, rfl, congrArg bln (by simpa using hr)⟩

theorem Equal_Backend (l m : List ABackend) (hl : l.length ≤ 1000000) (hm : m.length ≤ 1000000) :
 Pure Tryz.prog 165 [.pd (.slice (rows ABackend.pd l)), .pd (.slice (rows ABackend.pd m))] (fun d => d = bln (decide (l = m))) := by
 refine pure_of_run follows an_ztr0f Tryz.func165 rfl ok_ztr0f.1 ok_ztr0f.2 (by simp [Tryz.ntmps165]) ?_
 rw [run_start]
 simp only [ac_ztr0f, go_sem, contS_seq, simprocAttr, go_sem, rows_len]
 refine GifP.mk (fun hn => ?_) (fun hn => ?_)
 rotate_left
 ·simp only [retK, resD, retL, oneD, simprocAttr, Tryz.results165]
  exact ⟨_, rfl, rfl, congrArg bln (decide_eq_false (fun h => hn (by rw [h]))).symm⟩
 have hlm : l.length = m.length := by omega
 refine loopS (fun k st => ∃ i : Nat, k = l.length - i ∧ i ≤ l.length ∧ decide (l.drop i = m.drop i) = decide (l = m) ∧
  st = ⟨[(0, .pd (.slice (rows ABackend.pd l))), (1, .pd (.slice (rows ABackend.pd m))), (12, int l.length), (13, int i)], [], [], .no⟩) l.length _ (Weak.refl _ _) ⟨0, rfl, Nat.zero_le _, rfl, rfl⟩ ?_
 rintro k st ⟨i, rfl, hi, hr, rfl⟩
 by_cases hlt : i < l.length
 ·obtain ⟨x, hx⟩ := at_lt hlt
  obtain ⟨y, hy⟩ := at_lt (show i < m.length by omega)
  have hlt' : ((i : Int) < (l.length : Int)) = True := eq_true (by omega)
  have hw := i64_succ (show i < 1000000000 by omega)
  rw [drop_at hx, drop_at hy] at hr
  simp only [go_sem, contS_seq, simprocAttr, go_sem, hlt', rows_get hx, rows_get hy, eqVs, eqV, eq_Backend, hw]
  refine GifP.mk (fun h => ?_) (fun h => ?_)
  ·subst h
   simp only [List.cons.injEq, true_and] at hr
   refine ⟨l.length - (i + 1), _, ?_, ?_, i + 1, rfl, ?_, hr, rfl⟩
   ·omega
   ·exact lessA
   ·omega
  ·simp only [retK, resD, retL, oneD, simprocAttr, Tryz.results165]
   rw [decide_eq_false (fun e => h (List.cons.inj e).1)] at hr
   exact ⟨_, rfl, rfl, congrArg bln hr⟩
 ·have hlt' : ((i : Int) < (l.length : Int)) = False := eq_false (by omega)
  rw [List.drop_eq_nil_of_le (by omega), List.drop_eq_nil_of_le (by omega)] at hr
  simp only [go_sem, contS_seq, simprocAttr, go_sem, rows_len, hlt']
  simp only [retK, resD, retL, oneD, simprocAttr, Tryz.results165]
  exact ⟨_, rfl, rfl, congrArg bln (by simpa using hr)⟩

theorem EqualFunc_Listener (q : AListener → AListener → Bool) (f : FuncId) (he : Enters Tryz.prog f) (l m : List AListener) (hl : l.length ≤ 1000000) (hm : m.length ≤ 1000000) (hp : ∀ x ∈ l, ∀ y ∈ m, Pure Tryz.prog f [AListener.d x, AListener.d y] (fun d => d = bln (q x y))) :
 Pure Tryz.prog 112 [.pd (.slice (rows AListener.pd l)), .pd (.slice (rows AListener.pd m)), .fn f []] (fun d => d = bln (eqf q l m)) := by
 refine pure_of_run follows an_zuyoe Tryz.func112 rfl ok_zuyoe.1 ok_zuyoe.2 (by simp [Tryz.ntmps112]) ?_
 rw [run_start]
 simp only [ac_zuyoe, go_sem, contS_seq, simprocAttr, rows_len]
 refine GifP.mk (fun hn => ?_) (fun hn => ?_)
 rotate_left
 ·simp only [retK, resD, retL, oneD, simprocAttr, Tryz.results112]
  exact ⟨_, rfl, rfl, congrArg bln (eqf_len q (by omega)).symm⟩
 have hlm : l.length = m.length := by omega
 refine loopS (fun k st => ∃ i : Nat, k = l.length - i ∧ i ≤ l.length ∧ eqf q (l.drop i) (m.drop i) = eqf q l m ∧
  st = ⟨[(1, .pd (.slice (rows AListener.pd m))), (2, .fn f []), (15, .pd (.slice (rows AListener.pd l))), (16, int l.length), (17, int i)], [], [], .no⟩) l.length _ (Weak.refl _ _) ⟨0, rfl, Nat.zero_le _, rfl, rfl⟩ ?_
 rintro k st ⟨i, rfl, hi, hr, rfl⟩
 by_cases hlt : i < l.length
 ·obtain ⟨x, hx⟩ := at_lt hlt
  obtain ⟨y, hy⟩ := at_lt (show i < m.length by omega)
  have hlt' : ((i : Int) < (l.length : Int)) = True := eq_true (by omega)
  have hw := i64_succ (show i < 1000000000 by omega)
  rw [drop_at hx, drop_at hy, eqf] at hr
  simp only [go_sem, contS_seq, simprocAttr, hlt', rows_get hx, rows_get hy, hw]
  refine (hp x (List.mem_of_getElem? hx) y (List.mem_of_getElem? hy)).callW he _ rfl rfl ?_
  rintro d rfl
  simp only [go_sem, contS_seq, simprocAttr, hw]
  refine Gif.mk (fun h => ?_) (fun h => ?_)
  ·rw [h, Bool.true_and] at hr
   refine ⟨l.length - (i + 1), _, ?_, ?_, i + 1, rfl, ?_, hr, rfl⟩
   ·omega
   ·exact lessA
   ·omega
  ·rw [h, Bool.false_and] at hr
   simp only [retK, resD, retL, oneD, simprocAttr, Tryz.results112]
   exact ⟨_, rfl, rfl, congrArg bln hr⟩
 ·have hlt' : ((i : Int) < (l.length : Int)) = False := eq_false (by omega)
  rw [List.drop_eq_nil_of_le (by omega), List.drop_eq_nil_of_le (by omega), eqf] at hr
  simp only [go_sem, contS_seq, simprocAttr, rows_len, hlt']
  simp only [retK, resD, retL, oneD, simprocAttr, Tryz.results112]
  exact ⟨_, rfl, rfl, congrArg bln hr⟩

theorem EqualFunc_Rule (q : ARule → ARule → Bool) (f : FuncId) (he : Enters Tryz.prog f) (l m : List ARule) (hl : l.length ≤ 1000000) (hm : m.length ≤ 1000000) (hp : ∀ x ∈ l, ∀ y ∈ m, Pure Tryz.prog f [ARule.d x, ARule.d y] (fun d => d = bln (q x y))) :
 Pure Tryz.prog 114 [.pd (.slice (rows ARule.pd l)), .pd (.slice (rows ARule.pd m)), .fn f []] (fun d => d = bln (eqf q l m)) := by
 refine pure_of_run follows an_zi41r Tryz.func114 rfl ok_zi41r.1 ok_zi41r.2 (by simp [Tryz.ntmps114]) ?_
 rw [run_start]
 simp only [ac_zi41r, go_sem, contS_seq, simprocAttr, rows_len]
 refine GifP.mk (fun hn => ?_) (fun hn => ?_)
 rotate_left
 ·simp only [retK, resD, retL, oneD, simprocAttr, Tryz.results114]
  exact ⟨_, rfl, rfl, congrArg bln (eqf_len q (by omega)).symm⟩
 have hlm : l.length = m.length := by omega
 refine loopS (fun k st => ∃ i : Nat, k = l.length - i ∧ i ≤ l.length ∧ eqf q (l.drop i) (m.drop i) = eqf q l m ∧
  st = ⟨[(1, .pd (.slice (rows ARule.pd m))), (2, .fn f []), (15, .pd (.slice (rows ARule.pd l))), (16, int l.length), (17, int i)], [], [], .no⟩) l.length _ (Weak.refl _ _) ⟨0, rfl, Nat.zero_le _, rfl, rfl⟩ ?_
 rintro k st ⟨i, rfl, hi, hr, rfl⟩
 by_cases hlt : i < l.length
 ·obtain ⟨x, hx⟩ := at_lt hlt
  obtain ⟨y, hy⟩ := at_lt (show i < m.length by omega)
  have hlt' : ((i : Int) < (l.length : Int)) = True := eq_true (by omega)
  have hw := i64_succ (show i < 1000000000 by omega)
  rw [drop_at hx, drop_at hy, eqf] at hr
  simp only [go_sem, contS_seq, simprocAttr, hlt', rows_get hx, rows_get hy, hw]
  refine (hp x (List.mem_of_getElem? hx) y (List.mem_of_getElem? hy)).callW he _ rfl rfl ?_
  rintro d rfl
  simp only [go_sem, contS_seq, simprocAttr, hw]
  refine Gif.mk (fun h => ?_) (fun h => ?_)
  ·rw [h, Bool.true_and] at hr
   refine ⟨l.length - (i + 1), _, ?_, ?_, i + 1, rfl, ?_, hr, rfl⟩
   ·omega
   ·exact lessA
   ·omega
  ·rw [h, Bool.false_and] at hr
   simp only [retK, resD, retL, oneD, simprocAttr, Tryz.results114]
   exact ⟨_, rfl, rfl, congrArg bln hr⟩
 ·have hlt' : ((i : Int) < (l.length : Int)) = False := eq_false (by omega)
  rw [List.drop_eq_nil_of_le (by omega), List.drop_eq_nil_of_le (by omega), eqf] at hr
  simp only [go_sem, contS_seq, simprocAttr, rows_len, hlt']
  simp only [retK, resD, retL, oneD, simprocAttr, Tryz.results114]
  exact ⟨_, rfl, rfl, congrArg bln hr⟩

theorem EqualFunc_Match (q : AMatch → AMatch → Bool) (f : FuncId) (he : Enters Tryz.prog f) (l m : List AMatch) (hl : l.length ≤ 1000000) (hm : m.length ≤ 1000000) (hp : ∀ x ∈ l, ∀ y ∈ m, Pure Tryz.prog f [AMatch.d x, AMatch.d y] (fun d => d = bln (q x y))) :
 Pure Tryz.prog 162 [.pd (.slice (rows AMatch.pd l)), .pd (.slice (rows AMatch.pd m)), .fn f []] (fun d => d = bln (eqf q l m)) := by
 refine pure_of_run follows an_zjaw1 Tryz.func162 rfl ok_zjaw1.1 ok_zjaw1.2 (by simp [Tryz.ntmps162]) ?_
 rw [run_start]
 simp only [ac_zjaw1, go_sem, contS_seq, simprocAttr, rows_len]
 refine GifP.mk (fun hn => ?_) (fun hn => ?_)
 rotate_left
 ·simp only [retK, resD, retL, oneD, simprocAttr, Tryz.results162]
  exact ⟨_, rfl, rfl, congrArg bln (eqf_len q (by omega)).symm⟩
 have hlm : l.length = m.length := by omega
 refine loopS (fun k st => ∃ i : Nat, k = l.length - i ∧ i ≤ l.length ∧ eqf q (l.drop i) (m.drop i) = eqf q l m ∧
  st = ⟨[(1, .pd (.slice (rows AMatch.pd m))), (2, .fn f []), (15, .pd (.slice (rows AMatch.pd l))), (16, int l.length), (17, int i)], [], [], .no⟩) l.length _ (Weak.refl _ _) ⟨0, rfl, Nat.zero_le _, rfl, rfl⟩ ?_
 rintro k st ⟨i, rfl, hi, hr, rfl⟩
 by_cases hlt : i < l.length
 ·obtain ⟨x, hx⟩ := at_lt hlt
  obtain ⟨y, hy⟩ := at_lt (show i < m.length by omega)
  have hlt' : ((i : Int) < (l.length : Int)) = True := eq_true (by omega)
  have hw := i64_succ (show i < 1000000000 by omega)
  rw [drop_at hx, drop_at hy, eqf] at hr
  simp only [go_sem, contS_seq, simprocAttr, hlt', rows_get hx, rows_get hy, hw]
  refine (hp x (List.mem_of_getElem? hx) y (List.mem_of_getElem? hy)).callW he _ rfl rfl ?_
  rintro d rfl
  simp only [go_sem, contS_seq, simprocAttr, hw]
  refine Gif.mk (fun h => ?_) (fun h => ?_)
  ·rw [h, Bool.true_and] at hr
   refine ⟨l.length - (i + 1), _, ?_, ?_, i + 1, rfl, ?_, hr, rfl⟩
   ·omega
   ·exact lessA
   ·omega
  ·rw [h, Bool.false_and] at hr
   simp only [retK, resD, retL, oneD, simprocAttr, Tryz.results162]
   exact ⟨_, rfl, rfl, congrArg bln hr⟩
 ·have hlt' : ((i : Int) < (l.length : Int)) = False := eq_false (by omega)
  rw [List.drop_eq_nil_of_le (by omega), List.drop_eq_nil_of_le (by omega), eqf] at hr
  simp only [go_sem, contS_seq, simprocAttr, rows_len, hlt']
  simp only [retK, resD, retL, oneD, simprocAttr, Tryz.results162]
  exact ⟨_, rfl, rfl, congrArg bln hr⟩

theorem EqualFunc_Need (q : ANeed → ANeed → Bool) (f : FuncId) (he : Enters Tryz.prog f) (l m : List ANeed) (hl : l.length ≤ 1000000) (hm : m.length ≤ 1000000) (hp : ∀ x ∈ l, ∀ y ∈ m, Pure Tryz.prog f [ANeed.d x, ANeed.d y] (fun d => d = bln (q x y))) :
 Pure Tryz.prog 203 [.pd (.slice (rows ANeed.pd l)), .pd (.slice (rows ANeed.pd m)), .fn f []] (fun d => d = bln (eqf q l m)) := by
 refine pure_of_run follows an_zdsnp Tryz.func203 rfl ok_zdsnp.1 ok_zdsnp.2 (by simp [Tryz.ntmps203]) ?_
 rw [run_start]
 simp only [ac_zdsnp, go_sem, contS_seq, simprocAttr, rows_len]
 refine GifP.mk (fun hn => ?_) (fun hn => ?_)
 rotate_left
 ·simp only [retK, resD, retL, oneD, simprocAttr, Tryz.results203]
  exact ⟨_, rfl, rfl, congrArg bln (eqf_len q (by omega)).symm⟩
 have hlm : l.length = m.length := by omega
 refine loopS (fun k st => ∃ i : Nat, k = l.length - i ∧ i ≤ l.length ∧ eqf q (l.drop i) (m.drop i) = eqf q l m ∧
  st = ⟨[(1, .pd (.slice (rows ANeed.pd m))), (2, .fn f []), (15, .pd (.slice (rows ANeed.pd l))), (16, int l.length), (17, int i)], [], [], .no⟩) l.length _ (Weak.refl _ _) ⟨0, rfl, Nat.zero_le _, rfl, rfl⟩ ?_
 rintro k st ⟨i, rfl, hi, hr, rfl⟩
 by_cases hlt : i < l.length
 ·obtain ⟨x, hx⟩ := at_lt hlt
  obtain ⟨y, hy⟩ := at_lt (show i < m.length by omega)
  have hlt' : ((i : Int) < (l.length : Int)) = True := eq_true (by omega)
  have hw := i64_succ (show i < 1000000000 by omega)
  rw [drop_at hx, drop_at hy, eqf] at hr
  simp only [go_sem, contS_seq, simprocAttr, hlt', rows_get hx, rows_get hy, hw]
  refine (hp x (List.mem_of_getElem? hx) y (List.mem_of_getElem? hy)).callW he _ rfl rfl ?_
  rintro d rfl
  simp only [go_sem, contS_seq, simprocAttr, hw]
  refine Gif.mk (fun h => ?_) (fun h => ?_)
  ·rw [h, Bool.true_and] at hr
   refine ⟨l.length - (i + 1), _, ?_, ?_, i + 1, rfl, ?_, hr, rfl⟩
   ·omega
   ·exact lessA
   ·omega
  ·rw [h, Bool.false_and] at hr
   simp only [retK, resD, retL, oneD, simprocAttr, Tryz.results203]
   exact ⟨_, rfl, rfl, congrArg bln hr⟩
 ·have hlt' : ((i : Int) < (l.length : Int)) = False := eq_false (by omega)
  rw [List.drop_eq_nil_of_le (by omega), List.drop_eq_nil_of_le (by omega), eqf] at hr
  simp only [go_sem, contS_seq, simprocAttr, rows_len, hlt']
  simp only [retK, resD, retL, oneD, simprocAttr, Tryz.results203]
  exact ⟨_, rfl, rfl, congrArg bln hr⟩

end Go.Proofs.YtcnhcamimcpinaaGreatDoor



namespace Go.Proofs.YtcnhcamimcpinaaGreatDoor
open Go

def ac_zfwje : AC := (sr [oo 1 (.box 33 (tp 0)),oo 2 (.mv (cq false))] [1] (sr [oo 5 .mkmap,.mk none none (.mset [] (tp 5) (ci 1) (.func 49)),.mk none none (.mset [] (tp 5) (ci 2) (.func 50)),.mk none none (.mset [] (tp 5) (ci 3) (.func 51)),.mk none none (.mset [] (tp 5) (ci 4) (.func 49)),.mk none none (.mset [] (tp 5) (ci 5) (.func 52)),.mk none none (.mset [] (tp 5) (ci 6) (.func 53)),.mk none none (.mset [] (tp 5) (ci 7) (.func 54)),mq 6 5,mq 3 6] [1,3] (sr [oo 7 (.load (some 13) (tp 1)),oo 8 (.build [.pd (.raw (.int .i64 0)),.pd (.raw (.string ⟨#[]⟩)),.pd (.raw (.string ⟨#[]⟩)),.pd (.raw (.bool false)),.nils,.nils,.pd (.raw (.string ⟨#[]⟩)),.nils,.nils,.nils,.nils,.nils,.nils] [(0,13,tp 7)]),oo 9 (.box 101 (tp 8)),mq 4 9] [1,3,4] (.seq (.draw [fi 10 0 1,oo 11 (.load (some 3) (tp 10)),oo 12 (.call 55 [tp 11]),mq 13 12,og 13 true 14 (.mv (tp 3)),og 13 true 15 (.fieldA 0 (tp 1)),og 13 true 16 (.fieldA 0 (tp 15)),og 13 true 17 (.load none (tp 16)),og 13 true 18 (.mget [] .nilFunc (tp 14) (tp 17)),og 13 true 19 (.mv (tp 4)),og 13 true 20 (.callv (tp 18) [tp 19]),oo 21 (.pick (tp 13) (tp 20) (cq false)),mq 22 21,og 22 true 23 (.mv (tp 4)),og 22 true 24 (.ncheck (tp 23)),og 22 true 25 (.fieldA 0 (tp 24)),og 22 true 26 (.load (some 13) (tp 25)),og 22 true 27 (.fieldA 0 (tp 1)),og 22 true 28 (.load (some 3) (tp 27)),og 22 true 29 (.build [.pd (.raw (.int .i64 0)),.pd (.raw (.string ⟨#[]⟩)),.pd (.raw (.string ⟨#[]⟩)),.pd (.raw (.bool false)),.nils,.nils,.pd (.raw (.string ⟨#[]⟩)),.nils,.nils,.nils,.nils,.nils,.nils] [(0,3,tp 28)]),og 22 true 30 (.call 56 [tp 26,tp 29]),oo 31 (.pick (tp 22) (tp 30) (cq false)),mq 2 31] [0,1,3,7,15,15,47,111,255,15,1023,2047,4095,8191,16383,32767,65535,8191,139263,401407,1048575,2097151,4194303] (.take 0 (.take 1 (.alts (.cons 2 true (.take 3 (.take 4 (.take 5 (.take 6 (.take 7 (.take 8 (.take 9 (.alts (.cons 10 true (.take 11 (.take 12 (.take 13 (.take 14 (.take 15 (.take 16 (.take 17 (.take 18 (.take 19 (.alts (.cons 20 true (.take 21 (.take 22 .done)) .nil))))))))))) .nil))))))))) .nil)))) (some [2])) .ret))))
def an_zfwje : Ann := ann (List.range 4) ac_zfwje
theorem ok_zfwje : okd Tryz.prog an_zfwje ac_zfwje Tryz.f29 := ⟨by kernel_rfl, by kernel_rfl⟩

def ac_z88d6 : AC := (sr [oo 3 (.box 24 (tp 1)),oo 4 (.alloc 33 [.pd (.raw (.int .i64 0)),.pd (.raw (.string ⟨#[]⟩)),.pd (.raw (.string ⟨#[]⟩)),.pd (.raw (.bool false)),.nils,.nils,.pd (.raw (.string ⟨#[]⟩)),.nils,.nils,.nils,.nils,.nils,.nils]),oo 5 (.mv (cq false))] [0,3,4] (sr [mq 7 0,oo 8 (.mkfn 58 [tp 3]),oo 9 (.call 57 [tp 7,tp 8]),mq 6 9] [0,4,6] (.seq (sr [mq 10 6,oo 11 (.bin .lss (tp 10) (ci 0))] [0,4,6,11] (.cond (tp 11) (sr [oo 12 (.build [.pd (.raw (.int .i64 0)),.pd (.raw (.string ⟨#[]⟩)),.pd (.raw (.string ⟨#[]⟩)),.pd (.raw (.bool false)),.nils,.nils,.pd (.raw (.string ⟨#[]⟩)),.nils,.nils,.nils,.nils,.nils,.nils] []),.mk none none (.store 13 (tp 4) (tp 12)),oo 5 (.mv (cq false))] [4,5] .ret) .skip)) (sr [mq 13 0,mq 14 6,oo 15 (.idxA 13 (tp 13) (tp 14)),oo 16 (.load (some 13) (tp 15)),.mk none none (.store 13 (tp 4) (tp 16)),oo 5 (.mv (cq true))] [4,5] .ret))))
def an_z88d6 : Ann := ann (List.range 5) ac_z88d6
theorem ok_z88d6 : okd Tryz.prog an_z88d6 ac_z88d6 Tryz.f30 := ⟨by kernel_rfl, by kernel_rfl⟩
theorem ret_z88d6 (st : St) : resD Tryz.prog st Tryz.f30.results.toList = resA st [.cell 4 (some 13), .tmp 5] := resD_of (by kernel_rfl)

def ac_zjbt5 : AC := (sr [oo 3 (.box 25 (tp 1)),oo 4 (.mv (cq false))] [0,3] (sr [mq 5 0,oo 6 (.call 73 [tp 5]),mq 7 6,og 7 true 8 (.load none (tp 3)),og 7 true 9 (.call 74 [tp 8]),oo 10 (.pick (tp 7) (tp 9) (cq false)),mq 11 10,og 11 true 12 (.mv (tp 0)),og 11 true 13 (.mkfn 76 [tp 3]),og 11 true 14 (.call 75 [tp 12,tp 13]),og 11 true 15 (.un .not (tp 14)),oo 16 (.pick (tp 11) (tp 15) (cq false)),mq 4 16] [4] .ret))
def an_zjbt5 : Ann := ann (List.range 2) ac_zjbt5
theorem ok_zjbt5 : okd Tryz.prog an_zjbt5 ac_zjbt5 Tryz.f42 := ⟨by kernel_rfl, by kernel_rfl⟩

def ac_zk71m : AC := (sr [oo 2 (.mv (cq false))] [0] (sr [mq 3 0,oo 4 (.ncheck (tp 3)),fi 5 0 4,fi 6 3 5,.mk none none (.store 1 (tp 6) (cq false))] [] (sr [oo 2 (.mv (cq true))] [2] .ret)))
def an_zk71m : Ann := ann (List.range 3) ac_zk71m
theorem ok_zk71m : okd Tryz.prog an_zk71m ac_zk71m Tryz.f49 := ⟨by kernel_rfl, by kernel_rfl⟩

def ac_zag3z : AC := (sr [oo 2 (.mv (cq false))] [0] (sr [mq 4 0,oo 5 (.ncheck (tp 4)),fi 6 0 5,fi 7 4 6,lq 8 7,mq 3 8] [0,3] (sr [mq 9 0,oo 10 (.ncheck (tp 9)),fi 11 0 10,fi 12 4 11,.mk none none (.store 1 (tp 12) (.const (.slice none 0 0)))] [3] (sr [mq 13 3,oo 14 (.call 74 [tp 13]),mq 2 14] [2] .ret))))
def an_zag3z : Ann := ann (List.range 4) ac_zag3z
theorem ok_zag3z : okd Tryz.prog an_zag3z ac_zag3z Tryz.f50 := ⟨by kernel_rfl, by kernel_rfl⟩

def ac_zxlfl : AC := (sr [oo 2 (.mv (cq false))] [0] (sr [mq 4 0,oo 5 (.ncheck (tp 4)),fi 6 0 5,fi 7 5 6,lq 8 7,mq 3 8] [0,3] (sr [mq 9 0,oo 10 (.ncheck (tp 9)),fi 11 0 10,fi 12 5 11,.mk none none (.store 1 (tp 12) (.const (.slice none 0 0)))] [3] (sr [mq 13 3,oo 14 (.len (tp 13) false),oo 15 (.bin .gtr (tp 14) (ci 0)),mq 16 15,og 16 true 17 (.mv (tp 3)),og 16 true 18 (.call 81 [tp 17,ci 8,.func 82]),oo 19 (.pick (tp 16) (tp 18) (cq false)),mq 20 19,og 20 true 21 (.mv (tp 3)),og 20 true 22 (.call 83 [tp 21]),oo 23 (.pick (tp 20) (tp 22) (cq false)),mq 24 23,og 24 true 25 (.mv (tp 3)),og 24 true 26 (.call 84 [tp 25,.func 85]),og 24 true 27 (.un .not (tp 26)),oo 28 (.pick (tp 24) (tp 27) (cq false)),mq 2 28] [2] .ret))))
def an_zxlfl : Ann := ann (List.range 4) ac_zxlfl
theorem ok_zxlfl : okd Tryz.prog an_zxlfl ac_zxlfl Tryz.f51 := ⟨by kernel_rfl, by kernel_rfl⟩

def ac_zqquk : AC := (sr [oo 2 (.mv (cq false))] [0] (.seq (.draw [mq 6 0,oo 7 (.ncheck (tp 6)),fi 8 0 7,fi 9 7 8,lq 10 9,mq 11 0,oo 12 (.ncheck (tp 11)),fi 13 0 12,fi 14 6 13,lq 15 14,mq 3 10,mq 4 15] [0,1,3,7,15,0,32,96,224,480,31,2047] (.take 0 (.take 1 (.take 2 (.take 3 (.take 4 (.take 5 (.take 6 (.take 7 (.take 8 (.take 9 (.take 10 (.take 11 .done)))))))))))) (some [0,3,4])) (sr [mq 16 0,mq 17 0,oo 18 (.ncheck (tp 16)),fi 19 0 18,fi 20 7 19,.mk none none (.store 1 (tp 20) (.const (.slice none 0 0))),oo 21 (.ncheck (tp 17)),fi 22 0 21,fi 23 6 22,.mk none none (.store 1 (tp 23) (.const (.string ⟨#[]⟩)))] [3,4] (sr [oo 5 (.mv (.func 86))] [3,4,5] (sr [mq 24 4,oo 25 (.call 87 [tp 24]),mq 26 25,og 26 true 27 (.mv (tp 3)),og 26 true 28 (.len (tp 27) false),og 26 true 29 (.bin .gtr (tp 28) (ci 0)),oo 30 (.pick (tp 26) (tp 29) (cq false)),mq 31 30,og 31 true 32 (.mv (tp 3)),og 31 true 33 (.call 88 [tp 32,ci 8,.func 89]),oo 34 (.pick (tp 31) (tp 33) (cq false)),mq 35 34,og 35 true 36 (.mv (tp 3)),og 35 true 37 (.mv (tp 5)),og 35 true 38 (.call 90 [tp 36,tp 37]),og 35 true 39 (.un .not (tp 38)),oo 40 (.pick (tp 35) (tp 39) (cq false)),mq 2 40] [2] .ret)))))
def an_zqquk : Ann := ann (List.range 5) ac_zqquk
theorem ok_zqquk : okd Tryz.prog an_zqquk ac_zqquk Tryz.f52 := ⟨by kernel_rfl, by kernel_rfl⟩

def ac_ztpho : AC := (sr [oo 2 (.mv (cq false))] [0] (.seq (.draw [mq 7 0,oo 8 (.ncheck (tp 7)),fi 9 0 8,fi 10 8 9,lq 11 10,mq 12 0,oo 13 (.ncheck (tp 12)),fi 14 0 13,fi 15 9 14,lq 16 15,mq 17 0,oo 18 (.ncheck (tp 17)),fi 19 0 18,fi 20 10 19,lq 21 20,mq 3 11,mq 4 16,mq 5 21] [0,1,3,7,15,0,32,96,224,480,0,1024,3072,7168,15360,31,33791,131071] (.take 0 (.take 1 (.take 2 (.take 3 (.take 4 (.take 5 (.take 6 (.take 7 (.take 8 (.take 9 (.take 10 (.take 11 (.take 12 (.take 13 (.take 14 (.take 15 (.take 16 (.take 17 .done)))))))))))))))))) (some [0,3,4,5])) (sr [mq 22 0,mq 23 0,mq 24 0,oo 25 (.ncheck (tp 22)),fi 26 0 25,fi 27 8 26,.mk none none (.store 1 (tp 27) (.const (.slice none 0 0))),oo 28 (.ncheck (tp 23)),fi 29 0 28,fi 30 9 29,.mk none none (.store 1 (tp 30) (.const (.slice none 0 0))),oo 31 (.ncheck (tp 24)),fi 32 0 31,fi 33 10 32,.mk none none (.store 1 (tp 33) (.const (.slice none 0 0)))] [3,4,5] (.seq (sr [mq 34 3,oo 35 (.call 91 [tp 34,.func 92]),mq 36 35,og 36 false 37 (.mv (tp 4)),og 36 false 38 (.call 93 [tp 37,.func 94]),oo 39 (.pick (tp 36) (cq true) (tp 38))] [3,4,5,39] (.cond (tp 39) (sr [oo 2 (.mv (cq false))] [2] .ret) .skip)) (sr [oo 6 (.mv (.func 95))] [3,4,5,6] (sr [mq 40 3,oo 41 (.call 97 [tp 40,ci 4,.func 98]),mq 42 41,og 42 true 43 (.mv (tp 4)),og 42 true 44 (.mv (tp 6)),og 42 true 45 (.call 99 [tp 43,ci 4,tp 44]),oo 46 (.pick (tp 42) (tp 45) (cq false)),mq 47 46,og 47 true 48 (.mv (tp 5)),og 47 true 49 (.call 100 [tp 48,ci 6,.func 101]),oo 50 (.pick (tp 47) (tp 49) (cq false)),mq 2 50] [2] .ret))))))
def an_ztpho : Ann := ann (List.range 7) ac_ztpho
theorem ok_ztpho : okd Tryz.prog an_ztpho ac_ztpho Tryz.f53 := ⟨by kernel_rfl, by kernel_rfl⟩

def ac_zlbax : AC := (sr [oo 2 (.mv (cq false))] [0] (.seq (.draw [mq 7 0,oo 8 (.ncheck (tp 7)),fi 9 0 8,fi 10 11 9,lq 11 10,mq 12 0,oo 13 (.ncheck (tp 12)),fi 14 0 13,fi 15 12 14,lq 16 15,mq 3 11,mq 4 16] [0,1,3,7,15,0,32,96,224,480,31,2047] (.take 0 (.take 1 (.take 2 (.take 3 (.take 4 (.take 5 (.take 6 (.take 7 (.take 8 (.take 9 (.take 10 (.take 11 .done)))))))))))) (some [0,3,4])) (sr [mq 17 0,mq 18 0,oo 19 (.ncheck (tp 17)),fi 20 0 19,fi 21 11 20,.mk none none (.store 1 (tp 21) (.const (.slice none 0 0))),oo 22 (.ncheck (tp 18)),fi 23 0 22,fi 24 12 23,.mk none none (.store 1 (tp 24) (.const (.slice none 0 0)))] [3,4] (sr [oo 5 (.mv (.func 102))] [3,4,5] (sr [oo 6 (.mv (.func 105))] [3,4,5,6] (sr [mq 25 3,oo 26 (.len (tp 25) false),oo 27 (.bin .gtr (tp 26) (ci 0)),mq 28 27,og 28 true 29 (.mv (tp 4)),og 28 true 30 (.len (tp 29) false),og 28 true 31 (.bin .gtr (tp 30) (ci 0)),oo 32 (.pick (tp 28) (tp 31) (cq false)),mq 33 32,og 33 true 34 (.mv (tp 3)),og 33 true 35 (.mv (tp 5)),og 33 true 36 (.call 106 [tp 34,ci 4,tp 35]),oo 37 (.pick (tp 33) (tp 36) (cq false)),mq 38 37,og 38 true 39 (.mv (tp 4)),og 38 true 40 (.mv (tp 6)),og 38 true 41 (.call 106 [tp 39,ci 4,tp 40]),oo 42 (.pick (tp 38) (tp 41) (cq false)),mq 2 42] [2] .ret))))))
def an_zlbax : Ann := ann (List.range 6) ac_zlbax
theorem ok_zlbax : okd Tryz.prog an_zlbax ac_zlbax Tryz.f54 := ⟨by kernel_rfl, by kernel_rfl⟩

def ac_zkdrf : AC := (sr [oo 1 (.box 24 (tp 0)),oo 2 (.mv (cq false))] [1] (.seq (sr [fi 3 0 1,lq 4 3] [1,4] (.block 0 (sr [oo 6 (.bin .eql (tp 4) (ci 1)),mq 5 6] [1,4,5] (.cond (tp 5) (sr [fi 7 1 1,lq 8 7,oo 9 (.bin .eql (tp 8) (.const (.string ⟨#[]⟩))),mq 10 9,og 10 true 11 (.fieldA 2 (tp 1)),og 10 true 12 (.load none (tp 11)),og 10 true 13 (.call 87 [tp 12]),oo 14 (.pick (tp 10) (tp 13) (cq false)),mq 2 14] [2] .ret) (sr [oo 16 (.bin .eql (tp 4) (ci 2)),mq 15 16] [1,15] (.cond (tp 15) (sr [fi 17 1 1,lq 18 17,oo 19 (.bin .eql (tp 18) (.const (.string ⟨#[]⟩))),mq 20 19,og 20 true 21 (.fieldA 2 (tp 1)),og 20 true 22 (.load none (tp 21)),og 20 true 23 (.call 104 [tp 22]),oo 24 (.pick (tp 20) (tp 23) (cq false)),mq 2 24] [2] .ret) .skip)))))) (sr [fi 25 0 1,lq 26 25,oo 27 (.call 103 [tp 26]),mq 28 27,og 28 true 29 (.fieldA 1 (tp 1)),og 28 true 30 (.load none (tp 29)),og 28 true 31 (.call 104 [tp 30]),oo 32 (.pick (tp 28) (tp 31) (cq false)),mq 33 32,og 33 true 34 (.fieldA 2 (tp 1)),og 33 true 35 (.load none (tp 34)),og 33 true 36 (.call 87 [tp 35]),oo 37 (.pick (tp 33) (tp 36) (cq false)),mq 2 37] [2] .ret)))
def an_zkdrf : Ann := ann (List.range 7) ac_zkdrf
theorem ok_zkdrf : okd Tryz.prog an_zkdrf ac_zkdrf Tryz.f55 := ⟨by kernel_rfl, by kernel_rfl⟩

def ac_zhbvt : AC := (sr [oo 2 (.box 33 (tp 0)),oo 3 (.box 33 (tp 1)),oo 4 (.mv (cq false))] [2,3] (.seq (.block 0 (sr [fi 6 0 2,oo 7 (.load (some 3) (tp 6)),fi 8 0 3,oo 9 (.load (some 3) (tp 8)),oo 10 (.eqs true [.int,.str,.str] (tp 7) (tp 9)),mq 11 10,og 11 false 12 (.fieldA 3 (tp 2)),og 11 false 13 (.load none (tp 12)),og 11 false 14 (.fieldA 3 (tp 3)),og 11 false 15 (.load none (tp 14)),og 11 false 16 (.binB true (tp 13) (tp 15)),oo 17 (.pick (tp 11) (cq true) (tp 16)),mq 18 17,og 18 false 19 (.fieldA 6 (tp 2)),og 18 false 20 (.load none (tp 19)),og 18 false 21 (.fieldA 6 (tp 3)),og 18 false 22 (.load none (tp 21)),og 18 false 23 (.bin .neq (tp 20) (tp 22)),oo 24 (.pick (tp 18) (cq true) (tp 23)),mq 5 24] [2,3,5] (.cond (tp 5) (sr [oo 4 (.mv (cq false))] [4] .ret) (sr [fi 26 4 2,lq 27 26,fi 28 4 3,lq 29 28,oo 30 (.call 107 [tp 27,tp 29]),oo 31 (.un .not (tp 30)),mq 32 31,og 32 false 33 (.fieldA 5 (tp 2)),og 32 false 34 (.load none (tp 33)),og 32 false 35 (.fieldA 5 (tp 3)),og 32 false 36 (.load none (tp 35)),og 32 false 37 (.call 108 [tp 34,tp 36]),og 32 false 38 (.un .not (tp 37)),oo 39 (.pick (tp 32) (cq true) (tp 38)),mq 40 39,og 40 false 41 (.fieldA 9 (tp 2)),og 40 false 42 (.load none (tp 41)),og 40 false 43 (.fieldA 9 (tp 3)),og 40 false 44 (.load none (tp 43)),og 40 false 45 (.call 109 [tp 42,tp 44]),og 40 false 46 (.un .not (tp 45)),oo 47 (.pick (tp 40) (cq true) (tp 46)),mq 25 47] [2,3,25] (.cond (tp 25) (sr [oo 4 (.mv (cq false))] [4] .ret) (sr [fi 49 8 2,lq 50 49,fi 51 8 3,lq 52 51,oo 53 (.call 110 [tp 50,tp 52]),oo 54 (.un .not (tp 53)),mq 55 54,og 55 false 56 (.fieldA 11 (tp 2)),og 55 false 57 (.load none (tp 56)),og 55 false 58 (.fieldA 11 (tp 3)),og 55 false 59 (.load none (tp 58)),og 55 false 60 (.call 111 [tp 57,tp 59]),og 55 false 61 (.un .not (tp 60)),oo 62 (.pick (tp 55) (cq true) (tp 61)),mq 63 62,og 63 false 64 (.fieldA 12 (tp 2)),og 63 false 65 (.load none (tp 64)),og 63 false 66 (.fieldA 12 (tp 3)),og 63 false 67 (.load none (tp 66)),og 63 false 68 (.call 111 [tp 65,tp 67]),og 63 false 69 (.un .not (tp 68)),oo 70 (.pick (tp 63) (cq true) (tp 69)),mq 48 70] [2,3,48] (.cond (tp 48) (sr [oo 4 (.mv (cq false))] [4] .ret) .skip))))))) (sr [fi 71 7 2,lq 72 71,fi 73 7 3,lq 74 73,oo 75 (.call 112 [tp 72,tp 74,.func 113]),mq 76 75,og 76 true 77 (.fieldA 10 (tp 2)),og 76 true 78 (.load none (tp 77)),og 76 true 79 (.fieldA 10 (tp 3)),og 76 true 80 (.load none (tp 79)),og 76 true 81 (.call 114 [tp 78,tp 80,.func 115]),oo 82 (.pick (tp 76) (tp 81) (cq false)),mq 4 82] [4] .ret)))
def an_zhbvt : Ann := ann (List.range 8) ac_zhbvt
theorem ok_zhbvt : okd Tryz.prog an_zhbvt ac_zhbvt Tryz.f56 := ⟨by kernel_rfl, by kernel_rfl⟩

def ac_zl31y : AC := (sr [oo 2 (.box 33 (tp 0)),oo 3 (.mv (cq false))] [1,2] (sr [fi 4 0 2,oo 5 (.load (some 3) (tp 4)),oo 6 (.load (some 3) (tp 1)),oo 7 (.eqs false [.int,.str,.str] (tp 5) (tp 6)),mq 3 7] [3] .ret))
def an_zl31y : Ann := ann (List.range 2) ac_zl31y
theorem ok_zl31y : okd Tryz.prog an_zl31y ac_zl31y Tryz.f58 := ⟨by kernel_rfl, by kernel_rfl⟩

def ac_zlask : AC := (sr [oo 2 (.mv (cq false))] [0] (sr [mq 3 0,oo 4 (.len (tp 3) false),oo 5 (.bin .leq (tp 4) (ci 8)),mq 6 5,og 6 true 7 (.mv (tp 0)),og 6 true 8 (.call 75 [tp 7,.func 128]),og 6 true 9 (.un .not (tp 8)),oo 10 (.pick (tp 6) (tp 9) (cq false)),mq 2 10] [2] .ret))
def an_zlask : Ann := ann (List.range 2) ac_zlask
theorem ok_zlask : okd Tryz.prog an_zlask ac_zlask Tryz.f73 := ⟨by kernel_rfl, by kernel_rfl⟩

def ac_z3q2c : AC := (sr [oo 2 (.box 93 (tp 0)),oo 3 (.mv (cq false))] [1,2] (sr [oo 4 (.load (some 3) (tp 2)),lq 5 1,oo 6 (.call 77 [tp 4,tp 5]),oo 7 (.un .not (tp 6)),mq 3 7] [3] .ret))
def an_z3q2c : Ann := ann (List.range 2) ac_z3q2c
theorem ok_z3q2c : okd Tryz.prog an_z3q2c ac_z3q2c Tryz.f76 := ⟨by kernel_rfl, by kernel_rfl⟩

def ac_zavw2 : AC := (sr [oo 2 (.box 93 (tp 0)),oo 4 (.mv (cq false))] [1,2] (sr [mq 5 1,oo 6 (.call 74 [tp 5]),mq 7 6,og 7 true 8 (.load (some 3) (tp 2)),og 7 true 9 (.call 129 [tp 8]),og 7 true 10 (.mv (tp 1)),og 7 true 11 (.call 132 [tp 9,tp 10]),oo 12 (.pick (tp 7) (tp 11) (cq false)),mq 4 12] [4] .ret))
def an_zavw2 : Ann := ann (List.range 2) ac_zavw2
theorem ok_zavw2 : okd Tryz.prog an_zavw2 ac_zavw2 Tryz.f77 := ⟨by kernel_rfl, by kernel_rfl⟩

def ac_znt9b : AC := (sr [oo 2 (.mv (cq false))] [0] (sr [mq 3 0,oo 4 (.bin .geq (tp 3) (ci 1)),mq 5 4,og 5 true 6 (.mv (tp 0)),og 5 true 7 (.bin .leq (tp 6) (ci 65535)),oo 8 (.pick (tp 5) (tp 7) (cq false)),mq 2 8] [2] .ret))
def an_znt9b : Ann := ann (List.range 2) ac_znt9b
theorem ok_znt9b : okd Tryz.prog an_znt9b ac_znt9b Tryz.f82 := ⟨by kernel_rfl, by kernel_rfl⟩

def ac_zwdgh : AC := (sr [oo 4 (.mv (cq false))] [0,1] (sr [mq 5 0,mq 6 1,oo 7 (.bin .eql (tp 5) (tp 6)),mq 4 7] [4] .ret))
def an_zwdgh : Ann := ann (List.range 2) ac_zwdgh
theorem ok_zwdgh : okd Tryz.prog an_zwdgh ac_zwdgh Tryz.f85 := ⟨by kernel_rfl, by kernel_rfl⟩

def ac_zpej9 : AC := (sr [oo 2 (.box 49 (tp 0)),oo 3 (.box 49 (tp 1)),oo 4 (.mv (cq false))] [2,3] (sr [fi 5 0 2,lq 6 5,fi 7 0 3,lq 8 7,oo 9 (.bin .eql (tp 6) (tp 8)),mq 4 9] [4] .ret))
def an_zpej9 : Ann := ann (List.range 2) ac_zpej9
theorem ok_zpej9 : okd Tryz.prog an_zpej9 ac_zpej9 Tryz.f86 := ⟨by kernel_rfl, by kernel_rfl⟩

def ac_z5xl6 : AC := (sr [oo 1 (.box 49 (tp 0)),oo 2 (.mv (cq false))] [1] (sr [fi 4 4 1,oo 5 (.load (some 3) (tp 4)),oo 6 (.build [.pd (.raw (.int .i64 0)),.pd (.raw (.string ⟨#[]⟩)),.pd (.raw (.string ⟨#[]⟩))] []),oo 7 (.eqs false [.int,.str,.str] (tp 5) (tp 6)),mq 3 7] [1,3] (.seq (sr [fi 8 2 1,lq 9 8] [1,3,9] (.cond (tp 9) (.region [fi 10 4 1,fi 11 0 10,lq 12 11,oo 13 (.bin .eql (tp 12) (ci 4)),mq 14 13,og 14 true 15 (.fieldA 4 (tp 1)),og 14 true 16 (.fieldA 1 (tp 15)),og 14 true 17 (.load none (tp 16)),og 14 true 18 (.call 140 [tp 17]),oo 19 (.pick (tp 14) (tp 18) (cq false)),mq 20 19,og 20 true 21 (.fieldA 4 (tp 1)),og 20 true 22 (.fieldA 2 (tp 21)),og 20 true 23 (.load none (tp 22)),og 20 true 24 (.call 87 [tp 23]),oo 25 (.pick (tp 20) (tp 24) (cq false)),mq 3 25] (some [1,3])) .skip)) (sr [mq 26 3,mq 27 26,og 27 true 28 (.fieldA 0 (tp 1)),og 27 true 29 (.load none (tp 28)),og 27 true 30 (.call 104 [tp 29]),oo 31 (.pick (tp 27) (tp 30) (cq false)),mq 32 31,og 32 true 33 (.fieldA 1 (tp 1)),og 32 true 34 (.load none (tp 33)),og 32 true 35 (.call 82 [tp 34]),oo 36 (.pick (tp 32) (tp 35) (cq false)),mq 37 36,og 37 true 38 (.fieldA 3 (tp 1)),og 37 true 39 (.load none (tp 38)),og 37 true 40 (.call 96 [tp 39]),oo 41 (.pick (tp 37) (tp 40) (cq false)),mq 42 41,og 42 true 43 (.fieldA 7 (tp 1)),og 42 true 44 (.load none (tp 43)),og 42 true 45 (.bin .geq (tp 44) (ci 0)),oo 46 (.pick (tp 42) (tp 45) (cq false)),mq 47 46,og 47 true 48 (.fieldA 7 (tp 1)),og 47 true 49 (.load none (tp 48)),og 47 true 50 (.bin .leq (tp 49) (ci 2)),oo 51 (.pick (tp 47) (tp 50) (cq false)),mq 52 51,og 52 true 53 (.fieldA 8 (tp 1)),og 52 true 54 (.load none (tp 53)),og 52 true 55 (.call 73 [tp 54]),oo 56 (.pick (tp 52) (tp 55) (cq false)),mq 57 56,og 57 true 58 (.fieldA 7 (tp 1)),og 57 true 59 (.load none (tp 58)),og 57 true 60 (.bin .eql (tp 59) (ci 2)),og 57 true 61 (.mv (tp 60)),og 61 false 62 (.fieldA 8 (tp 1)),og 61 false 63 (.load none (tp 62)),og 61 false 64 (.len (tp 63) false),og 61 false 65 (.bin .eql (tp 64) (ci 0)),og 57 true 66 (.pick (tp 61) (cq true) (tp 65)),oo 67 (.pick (tp 57) (tp 66) (cq false)),mq 2 67] [2] .ret))))
def an_z5xl6 : Ann := ann (List.range 5) ac_z5xl6
theorem ok_z5xl6 : okd Tryz.prog an_z5xl6 ac_z5xl6 Tryz.f89 := ⟨by kernel_rfl, by kernel_rfl⟩

def ac_zh5vi : AC := (sr [oo 2 (.box 55 (tp 0)),oo 3 (.box 55 (tp 1)),oo 4 (.mv (cq false))] [2,3] (sr [oo 5 (.load (some 4) (tp 2)),oo 6 (.load (some 4) (tp 3)),oo 7 (.eqs false [.str,.str,.str,.int] (tp 5) (tp 6)),mq 4 7] [4] .ret))
def an_zh5vi : Ann := ann (List.range 2) ac_zh5vi
theorem ok_zh5vi : okd Tryz.prog an_zh5vi ac_zh5vi Tryz.f92 := ⟨by kernel_rfl, by kernel_rfl⟩

def ac_zkpqc : AC := (sr [oo 4 (.mv (cq false))] [0,1] (sr [mq 5 0,mq 6 1,oo 7 (.bin .eql (tp 5) (tp 6)),mq 4 7] [4] .ret))
def an_zkpqc : Ann := ann (List.range 2) ac_zkpqc
theorem ok_zkpqc : okd Tryz.prog an_zkpqc ac_zkpqc Tryz.f94 := ⟨by kernel_rfl, by kernel_rfl⟩

def ac_z4pg2 : AC := (sr [oo 2 (.mv (cq false))] [0] (sr [mq 3 0,oo 4 (.bin .neq (tp 3) (.const (.string ⟨#[]⟩))),mq 5 4,og 5 true 6 (.mv (tp 0)),og 5 true 7 (.call 96 [tp 6]),oo 8 (.pick (tp 5) (tp 7) (cq false)),mq 2 8] [2] .ret))
def an_z4pg2 : Ann := ann (List.range 2) ac_z4pg2
theorem ok_z4pg2 : okd Tryz.prog an_z4pg2 ac_z4pg2 Tryz.f95 := ⟨by kernel_rfl, by kernel_rfl⟩

def ac_za0y7 : AC := (sr [oo 1 (.box 55 (tp 0)),oo 2 (.mv (cq false))] [1] (sr [fi 3 0 1,lq 4 3,oo 5 (.call 140 [tp 4]),mq 6 5,og 6 true 7 (.fieldA 1 (tp 1)),og 6 true 8 (.load none (tp 7)),og 6 true 9 (.call 87 [tp 8]),oo 10 (.pick (tp 6) (tp 9) (cq false)),mq 11 10,og 11 true 12 (.fieldA 2 (tp 1)),og 11 true 13 (.load none (tp 12)),og 11 true 14 (.call 140 [tp 13]),oo 15 (.pick (tp 11) (tp 14) (cq false)),mq 16 15,og 16 true 17 (.fieldA 3 (tp 1)),og 16 true 18 (.load none (tp 17)),og 16 true 19 (.bin .eql (tp 18) (ci 0)),og 16 true 20 (.mv (tp 19)),og 20 false 21 (.fieldA 3 (tp 1)),og 20 false 22 (.load none (tp 21)),og 20 false 23 (.call 82 [tp 22]),og 16 true 24 (.pick (tp 20) (cq true) (tp 23)),oo 25 (.pick (tp 16) (tp 24) (cq false)),mq 2 25] [2] .ret))
def an_za0y7 : Ann := ann (List.range 2) ac_za0y7
theorem ok_za0y7 : okd Tryz.prog an_za0y7 ac_za0y7 Tryz.f98 := ⟨by kernel_rfl, by kernel_rfl⟩

def ac_zjms9 : AC := (sr [oo 1 (.box 69 (tp 0)),oo 2 (.mv (cq false))] [1] (sr [fi 3 0 1,lq 4 3,oo 5 (.call 151 [tp 4,ci 4,.func 152]),mq 6 5,og 6 true 7 (.fieldA 1 (tp 1)),og 6 true 8 (.load none (tp 7)),og 6 true 9 (.call 153 [tp 8]),oo 10 (.pick (tp 6) (tp 9) (cq false)),mq 11 10,og 11 true 12 (.fieldA 2 (tp 1)),og 11 true 13 (.load none (tp 12)),og 11 true 14 (.call 154 [tp 13,ci 4,.func 155]),oo 15 (.pick (tp 11) (tp 14) (cq false)),mq 2 15] [2] .ret))
def an_zjms9 : Ann := ann (List.range 2) ac_zjms9
theorem ok_zjms9 : okd Tryz.prog an_zjms9 ac_zjms9 Tryz.f101 := ⟨by kernel_rfl, by kernel_rfl⟩

def ac_z9wz0 : AC := (sr [oo 1 (.box 91 (tp 0)),oo 2 (.mv (cq false))] [1] (sr [fi 3 0 1,lq 4 3,oo 5 (.call 103 [tp 4]),mq 6 5,og 6 true 7 (.fieldA 1 (tp 1)),og 6 true 8 (.load none (tp 7)),og 6 true 9 (.call 104 [tp 8]),oo 10 (.pick (tp 6) (tp 9) (cq false)),mq 11 10,og 11 true 12 (.fieldA 2 (tp 1)),og 11 true 13 (.load none (tp 12)),og 11 true 14 (.bin .eql (tp 13) (.const (.string ⟨#[]⟩))),oo 15 (.pick (tp 11) (tp 14) (cq false)),mq 2 15] [2] .ret))
def an_z9wz0 : Ann := ann (List.range 2) ac_z9wz0
theorem ok_z9wz0 : okd Tryz.prog an_z9wz0 ac_z9wz0 Tryz.f102 := ⟨by kernel_rfl, by kernel_rfl⟩

def ac_zavnu : AC := (sr [oo 2 (.mv (cq false))] [0] (sr [mq 3 0,oo 4 (.bin .geq (tp 3) (ci 1)),mq 5 4,og 5 true 6 (.mv (tp 0)),og 5 true 7 (.bin .leq (tp 6) (ci 7)),oo 8 (.pick (tp 5) (tp 7) (cq false)),mq 2 8] [2] .ret))
def an_zavnu : Ann := ann (List.range 2) ac_zavnu
theorem ok_zavnu : okd Tryz.prog an_zavnu ac_zavnu Tryz.f103 := ⟨by kernel_rfl, by kernel_rfl⟩

def ac_z4xw6 : AC := (sr [oo 1 (.box 91 (tp 0)),oo 2 (.mv (cq false))] [1] (sr [fi 3 0 1,lq 4 3,oo 5 (.call 103 [tp 4]),mq 6 5,og 6 true 7 (.fieldA 1 (tp 1)),og 6 true 8 (.load none (tp 7)),og 6 true 9 (.bin .eql (tp 8) (.const (.string ⟨#[]⟩))),oo 10 (.pick (tp 6) (tp 9) (cq false)),mq 11 10,og 11 true 12 (.fieldA 2 (tp 1)),og 11 true 13 (.load none (tp 12)),og 11 true 14 (.bin .eql (tp 13) (.const (.string ⟨#[]⟩))),og 11 true 15 (.mv (tp 14)),og 15 false 16 (.fieldA 2 (tp 1)),og 15 false 17 (.load none (tp 16)),og 15 false 18 (.call 87 [tp 17]),og 11 true 19 (.pick (tp 15) (cq true) (tp 18)),oo 20 (.pick (tp 11) (tp 19) (cq false)),mq 2 20] [2] .ret))
def an_z4xw6 : Ann := ann (List.range 2) ac_z4xw6
theorem ok_z4xw6 : okd Tryz.prog an_z4xw6 ac_z4xw6 Tryz.f105 := ⟨by kernel_rfl, by kernel_rfl⟩

def ac_z1fwi : AC := (sr [oo 2 (.box 49 (tp 0)),oo 3 (.box 49 (tp 1)),oo 4 (.mv (cq false))] [2,3] (sr [fi 5 0 2,lq 6 5,fi 7 0 3,lq 8 7,oo 9 (.bin .eql (tp 6) (tp 8)),mq 10 9,og 10 true 11 (.fieldA 1 (tp 2)),og 10 true 12 (.load none (tp 11)),og 10 true 13 (.fieldA 1 (tp 3)),og 10 true 14 (.load none (tp 13)),og 10 true 15 (.bin .eql (tp 12) (tp 14)),oo 16 (.pick (tp 10) (tp 15) (cq false)),mq 17 16,og 17 true 18 (.fieldA 2 (tp 2)),og 17 true 19 (.load none (tp 18)),og 17 true 20 (.fieldA 2 (tp 3)),og 17 true 21 (.load none (tp 20)),og 17 true 22 (.binB false (tp 19) (tp 21)),oo 23 (.pick (tp 17) (tp 22) (cq false)),mq 24 23,og 24 true 25 (.fieldA 3 (tp 2)),og 24 true 26 (.load none (tp 25)),og 24 true 27 (.fieldA 3 (tp 3)),og 24 true 28 (.load none (tp 27)),og 24 true 29 (.bin .eql (tp 26) (tp 28)),oo 30 (.pick (tp 24) (tp 29) (cq false)),mq 31 30,og 31 true 32 (.fieldA 4 (tp 2)),og 31 true 33 (.load (some 3) (tp 32)),og 31 true 34 (.fieldA 4 (tp 3)),og 31 true 35 (.load (some 3) (tp 34)),og 31 true 36 (.eqs false [.int,.str,.str] (tp 33) (tp 35)),oo 37 (.pick (tp 31) (tp 36) (cq false)),mq 38 37,og 38 true 39 (.fieldA 7 (tp 2)),og 38 true 40 (.load none (tp 39)),og 38 true 41 (.fieldA 7 (tp 3)),og 38 true 42 (.load none (tp 41)),og 38 true 43 (.bin .eql (tp 40) (tp 42)),oo 44 (.pick (tp 38) (tp 43) (cq false)),mq 45 44,og 45 true 46 (.fieldA 8 (tp 2)),og 45 true 47 (.load none (tp 46)),og 45 true 48 (.fieldA 8 (tp 3)),og 45 true 49 (.load none (tp 48)),og 45 true 50 (.call 161 [tp 47,tp 49]),oo 51 (.pick (tp 45) (tp 50) (cq false)),mq 4 51] [4] .ret))
def an_z1fwi : Ann := ann (List.range 2) ac_z1fwi
theorem ok_z1fwi : okd Tryz.prog an_z1fwi ac_z1fwi Tryz.f113 := ⟨by kernel_rfl, by kernel_rfl⟩

def ac_z30xg : AC := (sr [oo 2 (.box 69 (tp 0)),oo 3 (.box 69 (tp 1)),oo 4 (.mv (cq false))] [2,3] (sr [fi 5 0 2,lq 6 5,fi 7 0 3,lq 8 7,oo 9 (.call 162 [tp 6,tp 8,.func 163]),mq 10 9,og 10 true 11 (.fieldA 1 (tp 2)),og 10 true 12 (.load none (tp 11)),og 10 true 13 (.fieldA 1 (tp 3)),og 10 true 14 (.load none (tp 13)),og 10 true 15 (.call 164 [tp 12,tp 14]),oo 16 (.pick (tp 10) (tp 15) (cq false)),mq 17 16,og 17 true 18 (.fieldA 2 (tp 2)),og 17 true 19 (.load none (tp 18)),og 17 true 20 (.fieldA 2 (tp 3)),og 17 true 21 (.load none (tp 20)),og 17 true 22 (.call 165 [tp 19,tp 21]),oo 23 (.pick (tp 17) (tp 22) (cq false)),mq 4 23] [4] .ret))
def an_z30xg : Ann := ann (List.range 2) ac_z30xg
theorem ok_z30xg : okd Tryz.prog an_z30xg ac_z30xg Tryz.f115 := ⟨by kernel_rfl, by kernel_rfl⟩

def ac_zdaaj : AC := (sr [oo 1 (.box 93 (tp 0)),oo 2 (.mv (cq false))] [1] (sr [oo 3 (.load (some 3) (tp 1)),oo 4 (.call 129 [tp 3]),oo 5 (.isnil false (tp 4)),mq 2 5] [2] .ret))
def an_zdaaj : Ann := ann (List.range 2) ac_zdaaj
theorem ok_zdaaj : okd Tryz.prog an_zdaaj ac_zdaaj Tryz.f128 := ⟨by kernel_rfl, by kernel_rfl⟩

def ac_zyjit : AC := (sr [oo 1 (.box 93 (tp 0)),oo 2 (.mv (.const .nilIface))] [1] (sr [fi 4 2 1,lq 5 4,oo 6 (.len (tp 5) false),oo 7 (.bin .geq (tp 6) (ci 1)),mq 8 7,og 8 true 9 (.fieldA 2 (tp 1)),og 8 true 10 (.load none (tp 9)),og 8 true 11 (.len (tp 10) false),og 8 true 12 (.bin .leq (tp 11) (ci 8)),oo 13 (.pick (tp 8) (tp 12) (cq false)),mq 14 13,og 14 true 15 (.fieldA 2 (tp 1)),og 14 true 16 (.load none (tp 15)),og 14 true 17 (.call 144 [tp 16,.func 171]),og 14 true 18 (.un .not (tp 17)),oo 19 (.pick (tp 14) (tp 18) (cq false)),mq 3 19] [1,3] (.seq (.block 0 (sr [fi 21 1 1,lq 22 21,oo 23 (.call 87 [tp 22]),oo 24 (.un .not (tp 23)),mq 20 24] [1,3,20] (.cond (tp 20) (sr [oo 2 (.mv (.const .nilIface))] [2] .ret) (sr [fi 26 0 1,lq 27 26,oo 28 (.bin .eql (tp 27) (ci 1)),mq 29 28,og 29 true 30 (.mv (tp 3)),oo 31 (.pick (tp 29) (tp 30) (cq false)),mq 25 31] [1,3,25] (.cond (tp 25) (sr [fi 32 1 1,lq 33 32,fi 34 2 1,lq 35 34,oo 36 (.build [.pd (.raw (.string ⟨#[]⟩)),.nils] [(0,1,tp 33),(1,1,tp 35)]),oo 37 (.mkif 169 (tp 36)),mq 2 37] [2] .ret) (sr [fi 39 0 1,lq 40 39,oo 41 (.bin .eql (tp 40) (ci 2)),mq 42 41,og 42 true 43 (.mv (tp 3)),oo 44 (.pick (tp 42) (tp 43) (cq false)),mq 38 44] [1,38] (.cond (tp 38) (sr [fi 45 1 1,lq 46 45,fi 47 2 1,lq 48 47,oo 49 (.build [.pd (.raw (.string ⟨#[]⟩)),.nils] [(0,1,tp 46),(1,1,tp 48)]),oo 50 (.build [.pd (.raw (.string ⟨#[]⟩)),.nils] [(0,2,tp 49)]),oo 51 (.mkif 171 (tp 50)),mq 2 51] [2] .ret) (sr [fi 53 0 1,lq 54 53,oo 55 (.bin .eql (tp 54) (ci 3)),mq 56 55,og 56 true 57 (.fieldA 2 (tp 1)),og 56 true 58 (.load none (tp 57)),og 56 true 59 (.len (tp 58) false),og 56 true 60 (.bin .eql (tp 59) (ci 0)),oo 61 (.pick (tp 56) (tp 60) (cq false)),mq 52 61] [1,52] (.cond (tp 52) (sr [fi 62 1 1,lq 63 62,oo 64 (.mkif 172 (tp 63)),mq 2 64] [2] .ret) (sr [fi 66 0 1,lq 67 66,oo 68 (.bin .eql (tp 67) (ci 4)),mq 69 68,og 69 true 70 (.fieldA 2 (tp 1)),og 69 true 71 (.load none (tp 70)),og 69 true 72 (.len (tp 71) false),og 69 true 73 (.bin .eql (tp 72) (ci 0)),oo 74 (.pick (tp 69) (tp 73) (cq false)),mq 65 74] [1,65] (.cond (tp 65) (sr [fi 75 1 1,lq 76 75,oo 77 (.build [.pd (.raw (.string ⟨#[]⟩))] [(0,1,tp 76)]),oo 78 (.mkif 174 (tp 77)),mq 2 78] [2] .ret) .skip))))))))))) (sr [oo 2 (.mv (.const .nilIface))] [2] .ret))))
def an_zyjit : Ann := ann (List.range 13) ac_zyjit
theorem ok_zyjit : okd Tryz.prog an_zyjit ac_zyjit Tryz.f129 := ⟨by kernel_rfl, by kernel_rfl⟩

def ac_zvb4i : AC := (sr [oo 4 (.mv (cq false))] [0,1] (.seq (sr [mq 13 0] [1,13] (.block 0 (sr [oo 14 (.tassert 169 (.agg (Array.mk [.string ⟨#[]⟩,.slice none 0 0])) (tp 13)),oo 15 (.extract (tp 14) 1),oo 16 (.extract (tp 14) 0)] [1,13,15,16] (.cond (tp 15) (sr [oo 5 (.alloc 169 [.pd (.raw (.string ⟨#[]⟩)),.nils]),.mk none none (.store 2 (tp 5) (tp 16))] [1,5] (sr [mq 18 1,oo 19 (.load (some 2) (tp 5)),oo 20 (.call 173 [tp 19]),oo 21 (.call 172 [tp 18,tp 20]),mq 17 21,oo 22 (.extract (tp 17) 0),oo 23 (.extract (tp 17) 1),mq 6 22,mq 7 23] [5,6,7] (sr [mq 24 7,mq 25 24,og 25 true 26 (.fieldA 1 (tp 5)),og 25 true 27 (.load none (tp 26)),og 25 true 28 (.mv (tp 6)),og 25 true 29 (.call 62 [tp 27,tp 28]),oo 30 (.pick (tp 25) (tp 29) (cq false)),mq 4 30] [4] .ret))) (sr [oo 31 (.tassert 172 (.string ⟨#[]⟩) (tp 13)),oo 32 (.extract (tp 31) 1),oo 33 (.extract (tp 31) 0)] [1,13,32,33] (.cond (tp 32) (sr [mq 8 33] [1,8] (sr [mq 35 1,mq 36 8,oo 37 (.call 174 [tp 36]),oo 38 (.call 172 [tp 35,tp 37]),mq 34 38,oo 39 (.extract (tp 34) 0),oo 40 (.extract (tp 34) 1),mq 9 39,mq 10 40] [10] (sr [mq 41 10,mq 4 41] [4] .ret))) (sr [oo 42 (.tassert 171 (.agg (Array.mk [.string ⟨#[]⟩,.slice none 0 0])) (tp 13)),oo 43 (.extract (tp 42) 1),oo 44 (.extract (tp 42) 0)] [1,13,43,44] (.cond (tp 43) (sr [oo 11 (.alloc 171 [.pd (.raw (.string ⟨#[]⟩)),.nils]),.mk none none (.store 2 (tp 11) (tp 44))] [1,11] (sr [fi 45 0 11,oo 46 (.load (some 2) (tp 45)),oo 47 (.mkif 169 (tp 46)),mq 48 1,oo 49 (.call 132 [tp 47,tp 48]),oo 50 (.un .not (tp 49)),mq 4 50] [4] .ret)) (sr [oo 51 (.tassert 174 (.agg (Array.mk [.string ⟨#[]⟩])) (tp 13)),oo 52 (.extract (tp 51) 1),oo 53 (.extract (tp 51) 0)] [1,52,53] (.cond (tp 52) (sr [oo 12 (.alloc 174 [.pd (.raw (.string ⟨#[]⟩))]),.mk none none (.store 1 (tp 12) (tp 53))] [1,12] (sr [fi 54 0 12,lq 55 54,oo 56 (.mkif 172 (tp 55)),mq 57 1,oo 58 (.call 132 [tp 56,tp 57]),oo 59 (.un .not (tp 58)),mq 4 59] [4] .ret)) .skip)))))))))) (sr [oo 4 (.mv (cq false))] [4] .ret)))
def an_zvb4i : Ann := ann (List.range 17) ac_zvb4i
theorem ok_zvb4i : okd Tryz.prog an_zvb4i ac_zvb4i Tryz.f132 := ⟨by kernel_rfl, by kernel_rfl⟩

def ac_zte1c : AC := (sr [oo 4 (.mv (cq false))] [0,1] (sr [mq 5 0,oo 6 (.call 176 [tp 5]),mq 7 6,og 7 true 8 (.mv (tp 1)),og 7 true 9 (.call 176 [tp 8]),og 7 true 10 (.un .not (tp 9)),oo 11 (.pick (tp 7) (tp 10) (cq false)),mq 12 11,og 12 false 13 (.mv (tp 0)),og 12 false 14 (.mv (tp 1)),og 12 false 15 (.bin .lss (tp 13) (tp 14)),oo 16 (.pick (tp 12) (cq true) (tp 15)),mq 4 16] [4] .ret))
def an_zte1c : Ann := ann (List.range 2) ac_zte1c
theorem ok_zte1c : okd Tryz.prog an_zte1c ac_zte1c Tryz.f135 := ⟨by kernel_rfl, by kernel_rfl⟩

def ac_ztrsy : AC := (sr [oo 2 (.mv (cq false))] [0] (sr [mq 3 0,oo 4 (.bin .eql (tp 3) (.const (.string ⟨#[]⟩))),mq 5 4,og 5 false 6 (.mv (tp 0)),og 5 false 7 (.call 104 [tp 6]),oo 8 (.pick (tp 5) (cq true) (tp 7)),mq 2 8] [2] .ret))
def an_ztrsy : Ann := ann (List.range 2) ac_ztrsy
theorem ok_ztrsy : okd Tryz.prog an_ztrsy ac_ztrsy Tryz.f140 := ⟨by kernel_rfl, by kernel_rfl⟩

def ac_zi87h : AC := (sr [oo 1 (.box 73 (tp 0)),oo 2 (.mv (cq false))] [1] (sr [oo 3 (.mv (.func 185))] [1,3] (.seq (.block 0 (sr [fi 5 0 1,oo 6 (.load (some 2) (tp 5)),oo 7 (.call 188 [tp 6]),oo 8 (.un .not (tp 7)),mq 9 8,og 9 false 10 (.fieldA 2 (tp 1)),og 9 false 11 (.load none (tp 10)),og 9 false 12 (.bin .neq (tp 11) (.const (.string ⟨#[]⟩))),og 9 false 13 (.mv (tp 12)),og 13 true 14 (.fieldA 2 (tp 1)),og 13 true 15 (.load none (tp 14)),og 13 true 16 (.call 189 [tp 15]),og 13 true 17 (.un .not (tp 16)),og 9 false 18 (.pick (tp 13) (tp 17) (cq false)),oo 19 (.pick (tp 9) (cq true) (tp 18)),mq 4 19] [1,3,4] (.cond (tp 4) (sr [oo 2 (.mv (cq false))] [2] .ret) (sr [fi 21 3 1,lq 22 21,oo 23 (.len (tp 22) false),oo 24 (.bin .gtr (tp 23) (ci 8)),mq 25 24,og 25 false 26 (.fieldA 3 (tp 1)),og 25 false 27 (.load none (tp 26)),og 25 false 28 (.mv (tp 3)),og 25 false 29 (.call 190 [tp 27,tp 28]),oo 30 (.pick (tp 25) (cq true) (tp 29)),mq 31 30,og 31 false 32 (.fieldA 3 (tp 1)),og 31 false 33 (.load none (tp 32)),og 31 false 34 (.call 191 [tp 33,.func 192]),oo 35 (.pick (tp 31) (cq true) (tp 34)),mq 20 35] [1,20] (.cond (tp 20) (sr [oo 2 (.mv (cq false))] [2] .ret) .skip))))) (sr [fi 36 4 1,lq 37 36,oo 38 (.len (tp 37) false),oo 39 (.bin .leq (tp 38) (ci 8)),mq 40 39,og 40 true 41 (.fieldA 4 (tp 1)),og 40 true 42 (.load none (tp 41)),og 40 true 43 (.call 193 [tp 42]),oo 44 (.pick (tp 40) (tp 43) (cq false)),mq 45 44,og 45 true 46 (.fieldA 4 (tp 1)),og 45 true 47 (.load none (tp 46)),og 45 true 48 (.call 191 [tp 47,.func 194]),og 45 true 49 (.un .not (tp 48)),oo 50 (.pick (tp 45) (tp 49) (cq false)),mq 2 50] [2] .ret))))
def an_zi87h : Ann := ann (List.range 7) ac_zi87h
theorem ok_zi87h : okd Tryz.prog an_zi87h ac_zi87h Tryz.f152 := ⟨by kernel_rfl, by kernel_rfl⟩

def ac_zhmnj : AC := (sr [oo 2 (.mv (cq false))] [0] (.seq (sr [mq 6 0,oo 7 (.len (tp 6) false),oo 8 (.mv (ci 0))] [0,6,7,8] (.block 0 (.loop (sr [oo 9 (.bin .lss (tp 8) (tp 7))] [0,6,7,8,9] (.seq (.cond (tp 9) .skip (.exit 0)) (.seq (.block 1 (sr [mq 10 8,oo 11 (.idxA 8 (tp 6) (tp 8)),oo 12 (.load (some 8) (tp 11)),oo 4 (.alloc 95 [.pd (.raw (.int .i64 0)),.pd (.raw (.string ⟨#[]⟩)),.pd (.raw (.string ⟨#[]⟩)),.pd (.raw (.string ⟨#[]⟩)),.pd (.raw (.int .i64 0)),.pd (.raw (.string ⟨#[]⟩)),.pd (.raw (.bool false)),.pd (.raw (.int .i64 0))]),mq 3 10,.mk none none (.store 8 (tp 4) (tp 12))] [0,3,4,6,7,8] (sr [oo 13 (.mkfn 195 [tp 4]),mq 5 13] [0,3,4,5,6,7,8] (sr [oo 14 (.load (some 8) (tp 4)),oo 15 (.call 197 [tp 14]),oo 16 (.un .not (tp 15)),mq 17 16,og 17 false 18 (.mv (tp 0)),og 17 false 19 (.mv (tp 3)),og 17 false 20 (.slcL 8 (tp 18) none (some (tp 19))),og 17 false 21 (.mv (tp 5)),og 17 false 22 (.call 198 [tp 20,tp 21]),oo 23 (.pick (tp 17) (cq true) (tp 22))] [0,6,7,8,23] (.cond (tp 23) (sr [oo 2 (.mv (cq false))] [2] .ret) .skip))))) (.region [oo 24 (.bin .add (tp 8) (ci 1)),mq 8 24] (some [0,6,7,8])))))))) (sr [mq 25 0,oo 26 (.len (tp 25) false),oo 27 (.bin .leq (tp 26) (ci 8)),mq 2 27] [2] .ret)))
def an_zhmnj : Ann := ann (List.range 9) ac_zhmnj
theorem ok_zhmnj : okd Tryz.prog an_zhmnj ac_zhmnj Tryz.f153 := ⟨by kernel_rfl, by kernel_rfl⟩

def ac_z2jf5 : AC := (sr [oo 1 (.box 76 (tp 0)),oo 2 (.mv (cq false))] [1] (sr [fi 3 0 1,fi 4 0 3,lq 5 4,oo 6 (.call 103 [tp 5]),mq 7 6,og 7 true 8 (.fieldA 0 (tp 1)),og 7 true 9 (.fieldA 1 (tp 8)),og 7 true 10 (.load none (tp 9)),og 7 true 11 (.call 140 [tp 10]),oo 12 (.pick (tp 7) (tp 11) (cq false)),mq 13 12,og 13 true 14 (.fieldA 0 (tp 1)),og 13 true 15 (.fieldA 2 (tp 14)),og 13 true 16 (.load none (tp 15)),og 13 true 17 (.call 87 [tp 16]),oo 18 (.pick (tp 13) (tp 17) (cq false)),mq 19 18,og 19 true 20 (.fieldA 3 (tp 1)),og 19 true 21 (.load none (tp 20)),og 19 true 22 (.bin .eql (tp 21) (ci 0)),og 19 true 23 (.mv (tp 22)),og 23 false 24 (.fieldA 3 (tp 1)),og 23 false 25 (.load none (tp 24)),og 23 false 26 (.call 82 [tp 25]),og 19 true 27 (.pick (tp 23) (cq true) (tp 26)),oo 28 (.pick (tp 19) (tp 27) (cq false)),mq 29 28,og 29 true 30 (.fieldA 4 (tp 1)),og 29 true 31 (.load none (tp 30)),og 29 true 32 (.bin .geq (tp 31) (ci 0)),oo 33 (.pick (tp 29) (tp 32) (cq false)),mq 34 33,og 34 true 35 (.fieldA 4 (tp 1)),og 34 true 36 (.load none (tp 35)),og 34 true 37 (.bin .leq (tp 36) (ci 1000)),oo 38 (.pick (tp 34) (tp 37) (cq false)),mq 2 38] [2] .ret))
def an_z2jf5 : Ann := ann (List.range 2) ac_z2jf5
theorem ok_z2jf5 : okd Tryz.prog an_z2jf5 ac_z2jf5 Tryz.f155 := ⟨by kernel_rfl, by kernel_rfl⟩

def ac_zx2gm : AC := (sr [oo 4 (.mv (cq false))] [0,1] (sr [mq 5 0,mq 6 1,oo 7 (.call 203 [tp 5,tp 6,.func 204]),mq 4 7] [4] .ret))
def an_zx2gm : Ann := ann (List.range 2) ac_zx2gm
theorem ok_zx2gm : okd Tryz.prog an_zx2gm ac_zx2gm Tryz.f161 := ⟨by kernel_rfl, by kernel_rfl⟩

def ac_zb37x : AC := (sr [oo 2 (.box 73 (tp 0)),oo 3 (.box 73 (tp 1)),oo 4 (.mv (cq false))] [2,3] (sr [fi 5 0 2,oo 6 (.load (some 2) (tp 5)),fi 7 0 3,oo 8 (.load (some 2) (tp 7)),oo 9 (.eqs false [.int,.str] (tp 6) (tp 8)),mq 10 9,og 10 true 11 (.fieldA 2 (tp 2)),og 10 true 12 (.load none (tp 11)),og 10 true 13 (.fieldA 2 (tp 3)),og 10 true 14 (.load none (tp 13)),og 10 true 15 (.bin .eql (tp 12) (tp 14)),oo 16 (.pick (tp 10) (tp 15) (cq false)),mq 17 16,og 17 true 18 (.fieldA 3 (tp 2)),og 17 true 19 (.load none (tp 18)),og 17 true 20 (.fieldA 3 (tp 3)),og 17 true 21 (.load none (tp 20)),og 17 true 22 (.call 107 [tp 19,tp 21]),oo 23 (.pick (tp 17) (tp 22) (cq false)),mq 24 23,og 24 true 25 (.fieldA 4 (tp 2)),og 24 true 26 (.load none (tp 25)),og 24 true 27 (.fieldA 4 (tp 3)),og 24 true 28 (.load none (tp 27)),og 24 true 29 (.call 107 [tp 26,tp 28]),oo 30 (.pick (tp 24) (tp 29) (cq false)),mq 4 30] [4] .ret))
def an_zb37x : Ann := ann (List.range 2) ac_zb37x
theorem ok_zb37x : okd Tryz.prog an_zb37x ac_zb37x Tryz.f163 := ⟨by kernel_rfl, by kernel_rfl⟩

def ac_zuzx4 : AC := (sr [oo 2 (.mv (cq false))] [0] (sr [mq 3 0,oo 4 (.call 130 [tp 3]),oo 5 (.un .not (tp 4)),mq 2 5] [2] .ret))
def an_zuzx4 : Ann := ann (List.range 2) ac_zuzx4
theorem ok_zuzx4 : okd Tryz.prog an_zuzx4 ac_zuzx4 Tryz.f171 := ⟨by kernel_rfl, by kernel_rfl⟩

def ac_ztzuw : AC := (sr [oo 3 (.box 9 (tp 1)),oo 4 (.mv (.const (.string ⟨#[]⟩))),oo 5 (.mv (cq false))] [0,3] (sr [mq 7 0,oo 8 (.mkfn 214 [tp 3]),oo 9 (.call 213 [tp 7,tp 8]),mq 6 9] [0,6] (.seq (sr [mq 10 6,oo 11 (.bin .lss (tp 10) (ci 0))] [0,6,11] (.cond (tp 11) (sr [oo 4 (.mv (.const (.string ⟨#[]⟩))),oo 5 (.mv (cq false))] [4,5] .ret) .skip)) (sr [mq 12 0,mq 13 6,oo 14 (.idxA 2 (tp 12) (tp 13)),fi 15 1 14,lq 16 15,mq 4 16,oo 5 (.mv (cq true))] [4,5] .ret))))
def an_ztzuw : Ann := ann (List.range 5) ac_ztzuw
theorem ok_ztzuw : okd Tryz.prog an_ztzuw ac_ztzuw Tryz.f172 := ⟨by kernel_rfl, by kernel_rfl⟩

def ac_zkuzu : AC := (sr [oo 2 (.mv (cq false))] [0] (sr [mq 3 0,mq 4 0,oo 5 (.bin .neq (tp 3) (tp 4)),mq 2 5] [2] .ret))
def an_zkuzu : Ann := ann (List.range 2) ac_zkuzu
theorem ok_zkuzu : okd Tryz.prog an_zkuzu ac_zkuzu Tryz.f176 := ⟨by kernel_rfl, by kernel_rfl⟩

def ac_zqrzx : AC := (sr [oo 1 (.box 90 (tp 0)),oo 2 (.mv (cq false))] [1] (sr [fi 3 0 1,lq 4 3,oo 5 (.call 186 [tp 4]),oo 6 (.un .not (tp 5)),mq 7 6,og 7 false 8 (.fieldA 1 (tp 1)),og 7 false 9 (.load none (tp 8)),og 7 false 10 (.call 187 [tp 9]),og 7 false 11 (.un .not (tp 10)),oo 12 (.pick (tp 7) (cq true) (tp 11)),mq 2 12] [2] .ret))
def an_zqrzx : Ann := ann (List.range 2) ac_zqrzx
theorem ok_zqrzx : okd Tryz.prog an_zqrzx ac_zqrzx Tryz.f185 := ⟨by kernel_rfl, by kernel_rfl⟩

def ac_z6for : AC := (sr [oo 3 (.box 86 (tp 1)),oo 4 (.mv (cq false))] [0,3] (.seq (sr [mq 7 0,oo 8 (.len (tp 7) false),oo 9 (.mv (ci 0))] [0,3,7,8,9] (.block 0 (.loop (sr [oo 10 (.bin .lss (tp 9) (tp 8))] [0,3,7,8,9,10] (.seq (.cond (tp 10) .skip (.exit 0)) (.seq (.block 1 (sr [mq 11 9,oo 12 (.idxA 2 (tp 7) (tp 9)),oo 13 (.load (some 2) (tp 12)),oo 6 (.alloc 90 [.pd (.raw (.string ⟨#[]⟩)),.pd (.raw (.string ⟨#[]⟩))]),mq 5 11,.mk none none (.store 2 (tp 6) (tp 13))] [0,3,5,6,7,8,9] (sr [mq 14 0,mq 15 5,oo 16 (.slcL 2 (tp 14) none (some (tp 15))),oo 17 (.mkfn 225 [tp 3,tp 6]),oo 18 (.call 190 [tp 16,tp 17])] [0,3,7,8,9,18] (.cond (tp 18) (sr [oo 4 (.mv (cq true))] [4] .ret) .skip)))) (.region [oo 19 (.bin .add (tp 9) (ci 1)),mq 9 19] (some [0,3,7,8,9])))))))) (sr [oo 4 (.mv (cq false))] [4] .ret)))
def an_z6for : Ann := ann (List.range 8) ac_z6for
theorem ok_z6for : okd Tryz.prog an_z6for ac_z6for Tryz.f191 := ⟨by kernel_rfl, by kernel_rfl⟩

def ac_zwio7 : AC := (sr [oo 4 (.mv (cq false))] [0,1] (sr [mq 5 0,mq 6 1,oo 7 (.bin .eql (tp 5) (tp 6)),mq 4 7] [4] .ret))
def an_zwio7 : Ann := ann (List.range 2) ac_zwio7
theorem ok_zwio7 : okd Tryz.prog an_zwio7 ac_zwio7 Tryz.f194 := ⟨by kernel_rfl, by kernel_rfl⟩

def ac_z38ed : AC := (sr [oo 2 (.box 95 (tp 0)),oo 3 (.mv (cq false))] [1,2] (sr [oo 4 (.load (some 8) (tp 2)),oo 5 (.call 196 [tp 4]),mq 6 5,og 6 true 7 (.load (some 8) (tp 1)),og 6 true 8 (.call 196 [tp 7]),oo 9 (.pick (tp 6) (tp 8) (cq false)),mq 10 9,og 10 false 11 (.fieldA 0 (tp 2)),og 10 false 12 (.load none (tp 11)),og 10 false 13 (.fieldA 0 (tp 1)),og 10 false 14 (.load none (tp 13)),og 10 false 15 (.bin .eql (tp 12) (tp 14)),og 10 false 16 (.mv (tp 15)),og 16 true 17 (.fieldA 1 (tp 2)),og 16 true 18 (.load none (tp 17)),og 16 true 19 (.fieldA 1 (tp 1)),og 16 true 20 (.load none (tp 19)),og 16 true 21 (.call 192 [tp 18,tp 20]),og 10 false 22 (.pick (tp 16) (tp 21) (cq false)),oo 23 (.pick (tp 10) (cq true) (tp 22)),mq 3 23] [3] .ret))
def an_z38ed : Ann := ann (List.range 2) ac_z38ed
theorem ok_z38ed : okd Tryz.prog an_z38ed ac_z38ed Tryz.f195 := ⟨by kernel_rfl, by kernel_rfl⟩

def ac_zm6be : AC := (sr [oo 1 (.box 95 (tp 0)),oo 2 (.mv (cq false))] [1] (sr [fi 3 0 1,lq 4 3,oo 5 (.bin .eql (tp 4) (ci 4)),mq 6 5,og 6 false 7 (.fieldA 0 (tp 1)),og 6 false 8 (.load none (tp 7)),og 6 false 9 (.bin .eql (tp 8) (ci 5)),oo 10 (.pick (tp 6) (cq true) (tp 9)),mq 2 10] [2] .ret))
def an_zm6be : Ann := ann (List.range 2) ac_zm6be
theorem ok_zm6be : okd Tryz.prog an_zm6be ac_zm6be Tryz.f196 := ⟨by kernel_rfl, by kernel_rfl⟩

def ac_zhj59 : AC := (sr [oo 1 (.box 95 (tp 0)),oo 2 (.mv (cq false))] [1] (.seq (sr [fi 3 0 1,lq 4 3] [1,4] (.block 0 (.seq (sr [oo 6 (.bin .eql (tp 4) (ci 1)),mq 5 6] [1,4,5] (.cond (tp 5) .skip (.region [oo 7 (.bin .eql (tp 4) (ci 2)),mq 5 7] (some [1,4,5])))) (.cond (tp 5) (sr [oo 8 (.load (some 8) (tp 1)),fi 9 0 1,lq 10 9,fi 11 1 1,lq 12 11,fi 13 2 1,lq 14 13,oo 15 (.build [.pd (.raw (.int .i64 0)),.pd (.raw (.string ⟨#[]⟩)),.pd (.raw (.string ⟨#[]⟩)),.pd (.raw (.string ⟨#[]⟩)),.pd (.raw (.int .i64 0)),.pd (.raw (.string ⟨#[]⟩)),.pd (.raw (.bool false)),.pd (.raw (.int .i64 0))] [(0,1,tp 10),(1,1,tp 12),(2,1,tp 14)]),oo 16 (.eqs false [.int,.str,.str,.str,.int,.str,.bool,.int] (tp 8) (tp 15)),mq 17 16,og 17 true 18 (.fieldA 1 (tp 1)),og 17 true 19 (.load none (tp 18)),og 17 true 20 (.call 186 [tp 19]),oo 21 (.pick (tp 17) (tp 20) (cq false)),mq 22 21,og 22 true 23 (.fieldA 2 (tp 1)),og 22 true 24 (.load none (tp 23)),og 22 true 25 (.call 187 [tp 24]),oo 26 (.pick (tp 22) (tp 25) (cq false)),mq 2 26] [2] .ret) (sr [oo 28 (.bin .eql (tp 4) (ci 3)),mq 27 28] [1,4,27] (.cond (tp 27) (sr [oo 29 (.load (some 8) (tp 1)),fi 30 0 1,lq 31 30,fi 32 1 1,lq 33 32,oo 34 (.build [.pd (.raw (.int .i64 0)),.pd (.raw (.string ⟨#[]⟩)),.pd (.raw (.string ⟨#[]⟩)),.pd (.raw (.string ⟨#[]⟩)),.pd (.raw (.int .i64 0)),.pd (.raw (.string ⟨#[]⟩)),.pd (.raw (.bool false)),.pd (.raw (.int .i64 0))] [(0,1,tp 31),(1,1,tp 33)]),oo 35 (.eqs false [.int,.str,.str,.str,.int,.str,.bool,.int] (tp 29) (tp 34)),mq 36 35,og 36 true 37 (.fieldA 1 (tp 1)),og 36 true 38 (.load none (tp 37)),og 36 true 39 (.call 186 [tp 38]),oo 40 (.pick (tp 36) (tp 39) (cq false)),mq 2 40] [2] .ret) (sr [oo 42 (.bin .eql (tp 4) (ci 4)),mq 41 42] [1,4,41] (.cond (tp 41) (sr [fi 43 1 1,lq 44 43,oo 45 (.bin .eql (tp 44) (.const (.string ⟨#[]⟩))),mq 46 45,og 46 true 47 (.fieldA 2 (tp 1)),og 46 true 48 (.load none (tp 47)),og 46 true 49 (.bin .eql (tp 48) (.const (.string ⟨#[]⟩))),oo 50 (.pick (tp 46) (tp 49) (cq false)),mq 51 50,og 51 true 52 (.load (some 8) (tp 1)),og 51 true 53 (.call 227 [tp 52]),oo 54 (.pick (tp 51) (tp 53) (cq false)),mq 55 54,og 55 true 56 (.fieldA 4 (tp 1)),og 55 true 57 (.load none (tp 56)),og 55 true 58 (.bin .geq (tp 57) (ci 0)),oo 59 (.pick (tp 55) (tp 58) (cq false)),mq 60 59,og 60 true 61 (.fieldA 4 (tp 1)),og 60 true 62 (.load none (tp 61)),og 60 true 63 (.bin .leq (tp 62) (ci 65535)),oo 64 (.pick (tp 60) (tp 63) (cq false)),mq 65 64,og 65 true 66 (.fieldA 7 (tp 1)),og 65 true 67 (.load none (tp 66)),og 65 true 68 (.bin .eql (tp 67) (ci 301)),og 65 true 69 (.mv (tp 68)),og 69 false 70 (.fieldA 7 (tp 1)),og 69 false 71 (.load none (tp 70)),og 69 false 72 (.bin .eql (tp 71) (ci 302)),og 65 true 73 (.pick (tp 69) (cq true) (tp 72)),oo 74 (.pick (tp 65) (tp 73) (cq false)),mq 2 74] [2] .ret) (sr [oo 76 (.bin .eql (tp 4) (ci 5)),mq 75 76] [1,75] (.cond (tp 75) (sr [oo 77 (.load (some 8) (tp 1)),fi 78 0 1,lq 79 78,fi 80 3 1,lq 81 80,fi 82 5 1,lq 83 82,fi 84 6 1,lq 85 84,oo 86 (.build [.pd (.raw (.int .i64 0)),.pd (.raw (.string ⟨#[]⟩)),.pd (.raw (.string ⟨#[]⟩)),.pd (.raw (.string ⟨#[]⟩)),.pd (.raw (.int .i64 0)),.pd (.raw (.string ⟨#[]⟩)),.pd (.raw (.bool false)),.pd (.raw (.int .i64 0))] [(0,1,tp 79),(3,1,tp 81),(5,1,tp 83),(6,1,tp 85)]),oo 87 (.eqs false [.int,.str,.str,.str,.int,.str,.bool,.int] (tp 77) (tp 86)),mq 88 87,og 88 true 89 (.load (some 8) (tp 1)),og 88 true 90 (.call 227 [tp 89]),oo 91 (.pick (tp 88) (tp 90) (cq false)),mq 92 91,og 92 true 93 (.fieldA 3 (tp 1)),og 92 true 94 (.load none (tp 93)),og 92 true 95 (.bin .neq (tp 94) (.const (.string ⟨#[]⟩))),og 92 true 96 (.mv (tp 95)),og 96 false 97 (.fieldA 5 (tp 1)),og 96 false 98 (.load none (tp 97)),og 96 false 99 (.bin .neq (tp 98) (.const (.string ⟨#[]⟩))),og 92 true 100 (.pick (tp 96) (cq true) (tp 99)),oo 101 (.pick (tp 92) (tp 100) (cq false)),mq 2 101] [2] .ret) .skip)))))))))) (sr [oo 2 (.mv (cq false))] [2] .ret)))
def an_zhj59 : Ann := ann (List.range 12) ac_zhj59
theorem ok_zhj59 : okd Tryz.prog an_zhj59 ac_zhj59 Tryz.f197 := ⟨by kernel_rfl, by kernel_rfl⟩

def ac_zvpxe : AC := (sr [oo 2 (.box 93 (tp 0)),oo 3 (.box 93 (tp 1)),oo 4 (.mv (cq false))] [2,3] (sr [fi 5 0 2,lq 6 5,fi 7 0 3,lq 8 7,oo 9 (.bin .eql (tp 6) (tp 8)),mq 10 9,og 10 true 11 (.fieldA 1 (tp 2)),og 10 true 12 (.load none (tp 11)),og 10 true 13 (.fieldA 1 (tp 3)),og 10 true 14 (.load none (tp 13)),og 10 true 15 (.bin .eql (tp 12) (tp 14)),oo 16 (.pick (tp 10) (tp 15) (cq false)),mq 17 16,og 17 true 18 (.fieldA 2 (tp 2)),og 17 true 19 (.load none (tp 18)),og 17 true 20 (.fieldA 2 (tp 3)),og 17 true 21 (.load none (tp 20)),og 17 true 22 (.call 109 [tp 19,tp 21]),oo 23 (.pick (tp 17) (tp 22) (cq false)),mq 4 23] [4] .ret))
def an_zvpxe : Ann := ann (List.range 2) ac_zvpxe
theorem ok_zvpxe : okd Tryz.prog an_zvpxe ac_zvpxe Tryz.f204 := ⟨by kernel_rfl, by kernel_rfl⟩

def ac_zu0as : AC := (sr [oo 2 (.box 90 (tp 0)),oo 3 (.mv (cq false))] [1,2] (sr [fi 4 0 2,lq 5 4,lq 6 1,oo 7 (.bin .eql (tp 5) (tp 6)),mq 3 7] [3] .ret))
def an_zu0as : Ann := ann (List.range 2) ac_zu0as
theorem ok_zu0as : okd Tryz.prog an_zu0as ac_zu0as Tryz.f214 := ⟨by kernel_rfl, by kernel_rfl⟩

def ac_zpw6o : AC := (sr [oo 3 (.box 90 (tp 0)),oo 4 (.mv (cq false))] [1,2,3] (sr [lq 5 1,fi 6 0 3,lq 7 6,fi 8 0 2,lq 9 8,oo 10 (.callv (tp 5) [tp 7,tp 9]),mq 4 10] [4] .ret))
def an_zpw6o : Ann := ann (List.range 2) ac_zpw6o
theorem ok_zpw6o : okd Tryz.prog an_zpw6o ac_zpw6o Tryz.f225 := ⟨by kernel_rfl, by kernel_rfl⟩

def ac_z3d8y : AC := (sr [oo 1 (.box 95 (tp 0)),oo 2 (.mv (cq false))] [1] (.seq (sr [fi 3 3 1,lq 4 3,oo 5 (.bin .neq (tp 4) (.const (.string ⟨#[]⟩))),mq 6 5,og 6 true 7 (.fieldA 3 (tp 1)),og 6 true 8 (.load none (tp 7)),og 6 true 9 (.call 87 [tp 8]),og 6 true 10 (.un .not (tp 9)),oo 11 (.pick (tp 6) (tp 10) (cq false))] [1,11] (.cond (tp 11) (sr [oo 2 (.mv (cq false))] [2] .ret) .skip)) (.seq (.block 0 (sr [fi 13 5 1,lq 14 13,oo 15 (.bin .eql (tp 14) (.const (.string ⟨#[]⟩))),mq 12 15] [1,12] (.cond (tp 12) (sr [fi 16 6 1,lq 17 16,oo 18 (.un .not (tp 17)),mq 2 18] [2] .ret) (sr [fi 20 6 1,lq 21 20,mq 19 21] [1,19] (.cond (tp 19) (sr [fi 22 5 1,lq 23 22,oo 24 (.call 222 [tp 23]),mq 2 24] [2] .ret) .skip))))) (sr [fi 25 5 1,lq 26 25,oo 27 (.build [.pd (.raw (.int .i64 0)),.pd (.raw (.string ⟨#[]⟩))] [(0,1,ci 2),(1,1,tp 26)]),oo 28 (.call 188 [tp 27]),mq 2 28] [2] .ret))))
def an_z3d8y : Ann := ann (List.range 8) ac_z3d8y
theorem ok_z3d8y : okd Tryz.prog an_z3d8y ac_z3d8y Tryz.f227 := ⟨by kernel_rfl, by kernel_rfl⟩

end Go.Proofs.YtcnhcamimcpinaaGreatDoor


namespace Go.Proofs.YtcnhcamimcpinaaGreatDoor
open Go Go.RowKit
set_option linter.unusedSimpArgs false
set_option linter.unusedVariables false
set_option maxRecDepth 100000

def okind (n : Int) : Bool := decide (1 ≤ n) && decide (n ≤ 7)
def oport (n : Int) : Bool := decide (1 ≤ n) && decide (n ≤ 65535)

theorem object_kind (n : Int) : Pure Tryz.prog 103 [int n] (fun d => d = bln (okind n)) := by
 refine pure_of_run follows an_zavnu Tryz.func103 rfl ok_zavnu.1 ok_zavnu.2 (by simp [Tryz.ntmps103]) ?_
 rw [run_start]
 simp only [ac_zavnu, go_sem, contS_seq, simprocAttr]
 (repeat' (first | (refine GifP.mk (fun _ => ?_) (fun _ => ?_)) | (refine Gif.mk (fun _ => ?_) (fun _ => ?_)))) <;> (simp only [retK, resD, retL, oneD, simprocAttr, Tryz.results103]; exact ⟨_, rfl, rfl, congrArg bln (by first | rfl | (rw [Bool.eq_iff_iff]; simp only [okind]; (first | (simp; done) | (simp; omega) | (simp [*]; done) | (simp [*]; omega))) | (simp_all [okind]; done) | (exfalso; omega))⟩)

theorem object_port (n : Int) : Pure Tryz.prog 82 [int n] (fun d => d = bln (oport n)) := by
 refine pure_of_run follows an_znt9b Tryz.func82 rfl ok_znt9b.1 ok_znt9b.2 (by simp [Tryz.ntmps82]) ?_
 rw [run_start]
 simp only [ac_znt9b, go_sem, contS_seq, simprocAttr]
 (repeat' (first | (refine GifP.mk (fun _ => ?_) (fun _ => ?_)) | (refine Gif.mk (fun _ => ?_) (fun _ => ?_)))) <;> (simp only [retK, resD, retL, oneD, simprocAttr, Tryz.results82]; exact ⟨_, rfl, rfl, congrArg bln (by first | rfl | (rw [Bool.eq_iff_iff]; simp only [oport]; (first | (simp; done) | (simp; omega) | (simp [*]; done) | (simp [*]; omega))) | (simp_all [oport]; done) | (exfalso; omega))⟩)

theorem object_near (s : ByteArray) : Pure Tryz.prog 140 [str s] (fun d => d = bln (labValue s)) := by
 refine pure_of_run follows an_ztrsy Tryz.func140 rfl ok_ztrsy.1 ok_ztrsy.2 (by simp [Tryz.ntmps140]) ?_
 rw [run_start]
 simp only [ac_ztrsy, go_sem, contS_seq, simprocAttr]
 (repeat' (first | (refine GifP.mk (fun _ => ?_) (fun _ => ?_)) | (refine Gif.mk (fun _ => ?_) (fun _ => ?_)) | (refine (dns_Label _).callW (enters_of Tryz.func104 rfl rfl) _ rfl rfl ?_; rintro _ rfl; try simp only [go_sem, contS_seq, simprocAttr]))) <;> (simp only [retK, resD, retL, oneD, simprocAttr, Tryz.results140]; exact ⟨_, rfl, rfl, congrArg bln (by first | rfl | (rw [Bool.eq_iff_iff]; simp only [labValue]; (first | (simp; done) | (simp; omega) | (simp [*]; done) | (simp [*]; omega))) | (simp_all [labValue]; done) | (exfalso; omega))⟩)

def parentMay (p : AParent) : Bool := labValue p.space && dname p.name && labValue p.section_ && (decide (p.port = 0) || oport p.port)

theorem object_parent (p : AParent) : Pure Tryz.prog 98 [p.d] (fun d => d = bln (parentMay p)) := by
 refine pure_of_run follows an_za0y7 Tryz.func98 rfl ok_za0y7.1 ok_za0y7.2 (by simp [Tryz.ntmps98]) ?_
 rw [run_start]
 simp only [ac_za0y7, go_sem, contS_seq, simprocAttr]
 (repeat' (first | (refine GifP.mk (fun _ => ?_) (fun _ => ?_)) | (refine Gif.mk (fun _ => ?_) (fun _ => ?_)) | ((first | refine (object_near _).callW (enters_of Tryz.func140 rfl rfl) _ rfl rfl ?_ | refine (dns_Name _).callW (enters_of Tryz.func87 rfl rfl) _ rfl rfl ?_ | refine (object_port _).callW (enters_of Tryz.func82 rfl rfl) _ rfl rfl ?_); rintro _ rfl; try simp only [go_sem, contS_seq, simprocAttr]))) <;> (simp only [retK, resD, retL, oneD, simprocAttr, Tryz.results98]; exact ⟨_, rfl, rfl, congrArg bln (by first | rfl | (rw [Bool.eq_iff_iff]; simp only [parentMay]; (first | (simp; done) | (simp; omega) | (simp [*]; done) | (simp [*]; omega))) | (simp_all [parentMay]; done) | (exfalso; omega))⟩)

def backendMay (b : ABackend) : Bool := okind b.ref.kind && labValue b.ref.space && dname b.ref.name && (decide (b.port = 0) || oport b.port) && decide (0 ≤ b.weight) && decide (b.weight ≤ 1000)

theorem object_backend (b : ABackend) : Pure Tryz.prog 155 [b.d] (fun d => d = bln (backendMay b)) := by
 refine pure_of_run follows an_z2jf5 Tryz.func155 rfl ok_z2jf5.1 ok_z2jf5.2 (by simp [Tryz.ntmps155]) ?_
 rw [run_start]
 simp only [ac_z2jf5, go_sem, contS_seq, simprocAttr]
 (repeat' (first | (refine GifP.mk (fun _ => ?_) (fun _ => ?_)) | (refine Gif.mk (fun _ => ?_) (fun _ => ?_)) | ((first | refine (object_kind _).callW (enters_of Tryz.func103 rfl rfl) _ rfl rfl ?_ | refine (object_near _).callW (enters_of Tryz.func140 rfl rfl) _ rfl rfl ?_ | refine (dns_Name _).callW (enters_of Tryz.func87 rfl rfl) _ rfl rfl ?_ | refine (object_port _).callW (enters_of Tryz.func82 rfl rfl) _ rfl rfl ?_); rintro _ rfl; try simp only [go_sem, contS_seq, simprocAttr]))) <;> (simp only [retK, resD, retL, oneD, simprocAttr, Tryz.results155]; exact ⟨_, rfl, rfl, congrArg bln (by first | rfl | (rw [Bool.eq_iff_iff]; simp only [backendMay]; (first | (simp; done) | (simp; omega) | (simp [*]; done) | (simp [*]; omega))) | (simp_all [backendMay]; done) | (exfalso; omega))⟩)

def sideFrom (s : ASide) : Bool := okind s.kind && label s.space && decide (s.name = ⟨#[]⟩)
def sideTo (s : ASide) : Bool := okind s.kind && decide (s.space = ⟨#[]⟩) && (decide (s.name = ⟨#[]⟩) || dname s.name)

theorem thing_grant_1 (s : ASide) : Pure Tryz.prog 102 [s.d] (fun d => d = bln (sideFrom s)) := by
 refine pure_of_run follows an_z9wz0 Tryz.func102 rfl ok_z9wz0.1 ok_z9wz0.2 (by simp [Tryz.ntmps102]) ?_
 rw [run_start]
 simp only [ac_z9wz0, go_sem, contS_seq, simprocAttr]
 (repeat' (first | (refine GifP.mk (fun _ => ?_) (fun _ => ?_)) | (refine Gif.mk (fun _ => ?_) (fun _ => ?_)) | ((first | refine (object_kind _).callW (enters_of Tryz.func103 rfl rfl) _ rfl rfl ?_ | refine (dns_Label _).callW (enters_of Tryz.func104 rfl rfl) _ rfl rfl ?_); rintro _ rfl; try simp only [go_sem, contS_seq, simprocAttr]))) <;> (simp only [retK, resD, retL, oneD, simprocAttr, Tryz.results102]; exact ⟨_, rfl, rfl, congrArg bln (by first | rfl | (rw [Bool.eq_iff_iff]; simp only [sideFrom]; (first | (simp; done) | (simp; omega) | (simp [*]; done) | (simp [*]; omega))) | (simp_all [sideFrom]; done) | (exfalso; omega))⟩)

theorem thing_grant_2 (s : ASide) : Pure Tryz.prog 105 [s.d] (fun d => d = bln (sideTo s)) := by
 refine pure_of_run follows an_z4xw6 Tryz.func105 rfl ok_z4xw6.1 ok_z4xw6.2 (by simp [Tryz.ntmps105]) ?_
 rw [run_start]
 simp only [ac_z4xw6, go_sem, contS_seq, simprocAttr]
 (repeat' (first | (refine GifP.mk (fun _ => ?_) (fun _ => ?_)) | (refine Gif.mk (fun _ => ?_) (fun _ => ?_)) | ((first | refine (object_kind _).callW (enters_of Tryz.func103 rfl rfl) _ rfl rfl ?_ | refine (dns_Name _).callW (enters_of Tryz.func87 rfl rfl) _ rfl rfl ?_); rintro _ rfl; try simp only [go_sem, contS_seq, simprocAttr]))) <;> (simp only [retK, resD, retL, oneD, simprocAttr, Tryz.results105]; exact ⟨_, rfl, rfl, congrArg bln (by first | rfl | (rw [Bool.eq_iff_iff]; simp only [sideTo]; (first | (simp; done) | (simp; omega) | (simp [*]; done) | (simp [*]; omega))) | (simp_all [sideTo]; done) | (exfalso; omega))⟩)

def intSame (a b : Int) : Bool := decide (a = b)
def strSame (a b : ByteArray) : Bool := decide (a = b)
def lisName (a b : AListener) : Bool := decide (a.name = b.name)
def parSame (a b : AParent) : Bool := decide (a = b)
def patMay (s : ByteArray) : Bool := !decide (s = ⟨#[]⟩) && hostMay s

theorem thing_service_1 (a b : Int) : Pure Tryz.prog 85 [int a, int b] (fun d => d = bln (intSame a b)) := by
 refine pure_of_run follows an_zwdgh Tryz.func85 rfl ok_zwdgh.1 ok_zwdgh.2 (by simp [Tryz.ntmps85]) ?_
 rw [run_start]
 simp only [ac_zwdgh, go_sem, contS_seq, simprocAttr]
 (repeat' (first | (refine GifP.mk (fun _ => ?_) (fun _ => ?_)) | (refine Gif.mk (fun _ => ?_) (fun _ => ?_)))) <;> (simp only [retK, resD, retL, oneD, simprocAttr, Tryz.results85]; exact ⟨_, rfl, rfl, congrArg bln (by first | rfl | (rw [Bool.eq_iff_iff]; simp only [intSame]; (first | (simp; done) | (simp; omega) | (simp [*]; done) | (simp [*]; omega))) | (simp_all [intSame]; done) | (exfalso; omega))⟩)

theorem thing_gateway_1 (a b : AListener) : Pure Tryz.prog 86 [a.d, b.d] (fun d => d = bln (lisName a b)) := by
 refine pure_of_run follows an_zpej9 Tryz.func86 rfl ok_zpej9.1 ok_zpej9.2 (by simp [Tryz.ntmps86]) ?_
 rw [run_start]
 simp only [ac_zpej9, go_sem, contS_seq, simprocAttr]
 (repeat' (first | (refine GifP.mk (fun _ => ?_) (fun _ => ?_)) | (refine Gif.mk (fun _ => ?_) (fun _ => ?_)))) <;> (simp only [retK, resD, retL, oneD, simprocAttr, Tryz.results86]; exact ⟨_, rfl, rfl, congrArg bln (by first | rfl | (rw [Bool.eq_iff_iff]; simp only [lisName]; (first | (simp; done) | (simp; omega) | (simp [*]; done) | (simp [*]; omega))) | (simp_all [lisName]; done) | (exfalso; omega))⟩)

theorem thing_route_1 (a b : AParent) : Pure Tryz.prog 92 [a.d, b.d] (fun d => d = bln (parSame a b)) := by
 refine pure_of_run follows an_zh5vi Tryz.func92 rfl ok_zh5vi.1 ok_zh5vi.2 (by simp [Tryz.ntmps92]) ?_
 rw [run_start]
 simp only [ac_zh5vi, go_sem, contS_seq, simprocAttr, eqVs, eqV, eq_Parent]
 simp only [retK, resD, retL, oneD, simprocAttr, Tryz.results92]
 exact ⟨_, rfl, rfl, rfl⟩

theorem thing_route_2 (a b : ByteArray) : Pure Tryz.prog 94 [str a, str b] (fun d => d = bln (strSame a b)) := by
 refine pure_of_run follows an_zkpqc Tryz.func94 rfl ok_zkpqc.1 ok_zkpqc.2 (by simp [Tryz.ntmps94]) ?_
 rw [run_start]
 simp only [ac_zkpqc, go_sem, contS_seq, simprocAttr]
 (repeat' (first | (refine GifP.mk (fun _ => ?_) (fun _ => ?_)) | (refine Gif.mk (fun _ => ?_) (fun _ => ?_)))) <;> (simp only [retK, resD, retL, oneD, simprocAttr, Tryz.results94]; exact ⟨_, rfl, rfl, congrArg bln (by first | rfl | (rw [Bool.eq_iff_iff]; simp only [strSame]; (first | (simp; done) | (simp; omega) | (simp [*]; done) | (simp [*]; omega))) | (simp_all [strSame]; done) | (exfalso; omega))⟩)

theorem thing_route_3 (s : ByteArray) : Pure Tryz.prog 95 [str s] (fun d => d = bln (patMay s)) := by
 refine pure_of_run follows an_z4pg2 Tryz.func95 rfl ok_z4pg2.1 ok_z4pg2.2 (by simp [Tryz.ntmps95]) ?_
 rw [run_start]
 simp only [ac_z4pg2, go_sem, contS_seq, simprocAttr]
 (repeat' (first | (refine GifP.mk (fun _ => ?_) (fun _ => ?_)) | (refine Gif.mk (fun _ => ?_) (fun _ => ?_)) | (refine (host_May _).callW (enters_of Tryz.func96 rfl rfl) _ rfl rfl ?_; rintro _ rfl; try simp only [go_sem, contS_seq, simprocAttr]))) <;> (simp only [retK, resD, retL, oneD, simprocAttr, Tryz.results95]; exact ⟨_, rfl, rfl, congrArg bln (by first | rfl | (rw [Bool.eq_iff_iff]; simp only [patMay]; (first | (simp; done) | (simp; omega) | (simp [*]; done) | (simp [*]; omega))) | (simp_all [patMay]; done) | (exfalso; omega))⟩)

def notNaN (_ : Int) : Bool := false
def intLess (a b : Int) : Bool := decide (a < b)

theorem cmp_isNaN (a : Int) : Pure Tryz.prog 176 [int a] (fun d => d = bln (notNaN a)) := by
 refine pure_of_run follows an_zkuzu Tryz.func176 rfl ok_zkuzu.1 ok_zkuzu.2 (by simp [Tryz.ntmps176]) ?_
 rw [run_start]
 simp only [ac_zkuzu, go_sem, contS_seq, simprocAttr]
 (repeat' (first | (refine GifP.mk (fun _ => ?_) (fun _ => ?_)) | (refine Gif.mk (fun _ => ?_) (fun _ => ?_)))) <;> (simp only [retK, resD, retL, oneD, simprocAttr, Tryz.results176]; exact ⟨_, rfl, rfl, congrArg bln (by first | rfl | (rw [Bool.eq_iff_iff]; simp only [notNaN]; (first | (simp; done) | (simp; omega) | (simp [*]; done) | (simp [*]; omega))) | (simp_all [notNaN]; done) | (exfalso; omega))⟩)

theorem cmp_Less (a b : Int) : Pure Tryz.prog 135 [int a, int b] (fun d => d = bln (intLess a b)) := by
 refine pure_of_run follows an_zte1c Tryz.func135 rfl ok_zte1c.1 ok_zte1c.2 (by simp [Tryz.ntmps135]) ?_
 rw [run_start]
 simp only [ac_zte1c, go_sem, contS_seq, simprocAttr]
 refine (cmp_isNaN a).callW (enters_of Tryz.func176 rfl rfl) _ rfl rfl ?_
 rintro d rfl
 simp only [go_sem, contS_seq, simprocAttr, notNaN]
 simp only [retK, resD, retL, oneD, simprocAttr, Tryz.results135]
 exact ⟨_, rfl, rfl, rfl⟩

def mayRef (r : ARef) : Bool := if r.kind = 1 then decide (r.space = ⟨#[]⟩) && dname r.name else if r.kind = 2 then decide (r.space = ⟨#[]⟩) && label r.name else okind r.kind && label r.space && dname r.name

theorem object_MayRef (r : ARef) : Pure Tryz.prog 55 [r.d] (fun d => d = bln (mayRef r)) := by
 refine pure_of_run follows an_zkdrf Tryz.func55 rfl ok_zkdrf.1 ok_zkdrf.2 (by simp [Tryz.ntmps55]) ?_
 rw [run_start]
 simp only [ac_zkdrf, go_sem, contS_seq, simprocAttr]
 (repeat' (first | (refine GifP.mk (fun _ => ?_) (fun _ => ?_)) | (refine Gif.mk (fun _ => ?_) (fun _ => ?_)) | ((first | refine (object_kind _).callW (enters_of Tryz.func103 rfl rfl) _ rfl rfl ?_ | refine (dns_Label _).callW (enters_of Tryz.func104 rfl rfl) _ rfl rfl ?_ | refine (dns_Name _).callW (enters_of Tryz.func87 rfl rfl) _ rfl rfl ?_); rintro _ rfl; try simp only [go_sem, contS_seq, simprocAttr]))) <;> (simp only [retK, resD, retL, oneD, simprocAttr, Tryz.results55]; exact ⟨_, rfl, rfl, congrArg bln (by first | rfl | (rw [Bool.eq_iff_iff]; simp only [mayRef]; (first | (simp; done) | (simp; omega) | (simp [*]; done) | (simp [*]; omega))) | (simp_all [mayRef]; done) | (exfalso; omega))⟩)

def fewVals (n : ANeed) : Bool := decide (1 ≤ n.vals.length) && decide (n.vals.length ≤ 8) && !n.vals.any (fun s => !labValue s)

theorem label_asks_1 (s : ByteArray) : Pure Tryz.prog 171 [str s] (fun d => d = bln (!labValue s)) := by
 refine pure_of_run follows an_zuzx4 Tryz.func171 rfl ok_zuzx4.1 ok_zuzx4.2 (by simp [Tryz.ntmps171]) ?_
 rw [run_start]
 simp only [ac_zuzx4, go_sem, contS_seq, simprocAttr]
 (repeat' (first | (refine GifP.mk (fun _ => ?_) (fun _ => ?_)) | (refine Gif.mk (fun _ => ?_) (fun _ => ?_)) | (refine (label_value _).callW (enters_of Tryz.func130 rfl rfl) _ rfl rfl ?_; rintro _ rfl; try simp only [go_sem, contS_seq, simprocAttr]))) <;> (simp only [retK, resD, retL, oneD, simprocAttr, Tryz.results171]; exact ⟨_, rfl, rfl, congrArg bln (by first | rfl | (rw [Bool.eq_iff_iff]; simp only [labValue]; (first | (simp; done) | (simp; omega) | (simp [*]; done) | (simp [*]; omega))) | (simp_all [labValue]; done) | (exfalso; omega))⟩)

def asksD (n : ANeed) : D :=
 if dname n.name = false then .pd (.raw .nilIface)
 else if n.kind = 1 ∧ fewVals n = true then .pd (.iface 169 true [pStr n.name, .slice (strs n.vals)])
 else if n.kind = 2 ∧ fewVals n = true then .pd (.iface 171 true [pStr n.name, .slice (strs n.vals)])
 else if n.kind = 3 ∧ n.vals.length = 0 then .pd (.iface 172 false [pStr n.name])
 else if n.kind = 4 ∧ n.vals.length = 0 then .pd (.iface 174 true [pStr n.name])
 else .pd (.raw .nilIface)

def askMay (n : ANeed) : Bool := dname n.name && ((decide (n.kind = 1) && fewVals n) || (decide (n.kind = 2) && fewVals n) || (decide (n.kind = 3) && decide (n.vals.length = 0)) || (decide (n.kind = 4) && decide (n.vals.length = 0)))

set_option maxHeartbeats 2000000 in
theorem label_asks (n : ANeed) (hv : n.vals.length ≤ 1000000) : Pure Tryz.prog 129 [n.d] (fun d => d = asksD n) := by
 refine pure_of_run follows an_zyjit Tryz.func129 rfl ok_zyjit.1 ok_zyjit.2 (by simp [Tryz.ntmps129]) ?_
 rw [run_start]
 simp only [ac_zyjit, go_sem, contS_seq, simprocAttr, rows_len]
 have key : ∀ b : Bool, fewVals n = b → ∀ d : D, (d = if dname n.name = false then .pd (.raw .nilIface)
  else if n.kind = 1 ∧ b = true then .pd (.iface 169 true [pStr n.name, .slice (strs n.vals)])
  else if n.kind = 2 ∧ b = true then .pd (.iface 171 true [pStr n.name, .slice (strs n.vals)])
  else if n.kind = 3 ∧ n.vals.length = 0 then .pd (.iface 172 false [pStr n.name])
  else if n.kind = 4 ∧ n.vals.length = 0 then .pd (.iface 174 true [pStr n.name])
  else .pd (.raw .nilIface)) → d = asksD n := fun b h d hd => by
  rw [hd]; unfold asksD; rw [h]
 refine GifP.mk (fun h1 => ?_) (fun h1 => ?_)
 ·refine GifP.mk (fun h2 => ?_) (fun h2 => ?_)
  ·refine (ContainsP_string (fun s => !labValue s) _ (enters_of Tryz.func171 rfl rfl) n.vals hv (fun s _ => label_asks_1 s)).callW (enters_of Tryz.func144 rfl rfl) _ rfl rfl ?_
   rintro d rfl
   have hf : fewVals n = !n.vals.any (fun s => !labValue s) := by
    have h3 : 1 ≤ n.vals.length := by omega
    have h4 : n.vals.length ≤ 8 := by omega
    simp [fewVals, h3, h4]
   obtain ⟨q, hq⟩ : ∃ q, n.vals.any (fun s => !labValue s) = q := ⟨_, rfl⟩
   rw [hq] at hf ⊢
   cases q
   all_goals
    have key' := key _ hf
    simp only [go_sem, contS_seq, simprocAttr, rows_len]
    (repeat' (first | (refine GifP.mk (fun _ => ?_) (fun _ => ?_)) | (refine Gif.mk (fun _ => ?_) (fun _ => ?_)) | (refine (dns_Name _).callW (enters_of Tryz.func87 rfl rfl) _ rfl rfl ?_; rintro _ rfl; try simp only [go_sem, contS_seq, simprocAttr, rows_len]))) <;> (simp only [retK, resD, retL, oneD, simprocAttr, Tryz.results129]; refine ⟨_, rfl, rfl, ?_⟩; refine key' _ ?_; clear key key'; dsimp only [D.pub]; (repeat' split) <;> first | rfl | (exfalso; omega) | (exfalso; simp_all; done) | (exfalso; simp_all; omega))
  ·have hf : fewVals n = false := by
    have h4 : ¬ n.vals.length ≤ 8 := by omega
    simp [fewVals, h4]
   have key' := key _ hf
   (repeat' (first | (refine GifP.mk (fun _ => ?_) (fun _ => ?_)) | (refine Gif.mk (fun _ => ?_) (fun _ => ?_)) | (refine (dns_Name _).callW (enters_of Tryz.func87 rfl rfl) _ rfl rfl ?_; rintro _ rfl; try simp only [go_sem, contS_seq, simprocAttr, rows_len]))) <;> (simp only [retK, resD, retL, oneD, simprocAttr, Tryz.results129]; refine ⟨_, rfl, rfl, ?_⟩; refine key' _ ?_; clear key key'; dsimp only [D.pub]; (repeat' split) <;> first | rfl | (exfalso; omega) | (exfalso; simp_all; done) | (exfalso; simp_all; omega))
 ·have hf : fewVals n = false := by
   have h4 : ¬ 1 ≤ n.vals.length := by omega
   simp [fewVals, h4]
  have key' := key _ hf
  (repeat' (first | (refine GifP.mk (fun _ => ?_) (fun _ => ?_)) | (refine Gif.mk (fun _ => ?_) (fun _ => ?_)) | (refine (dns_Name _).callW (enters_of Tryz.func87 rfl rfl) _ rfl rfl ?_; rintro _ rfl; try simp only [go_sem, contS_seq, simprocAttr, rows_len]))) <;> (simp only [retK, resD, retL, oneD, simprocAttr, Tryz.results129]; refine ⟨_, rfl, rfl, ?_⟩; refine key' _ ?_; clear key key'; dsimp only [D.pub]; (repeat' split) <;> first | rfl | (exfalso; omega) | (exfalso; simp_all; done) | (exfalso; simp_all; omega))

theorem askMay_isnil (n : ANeed) : (∃ t a cs, asksD n = .pd (.iface t a cs) ∧ askMay n = true) ∨ (asksD n = .pd (.raw .nilIface) ∧ askMay n = false) := by
 unfold asksD askMay
 repeat' split
 all_goals first
  | exact .inl ⟨_, _, _, rfl, by simp_all⟩
  | exact .inr ⟨rfl, by simp_all⟩

theorem label_Needs_1 (n : ANeed) (hv : n.vals.length ≤ 1000000) : Pure Tryz.prog 128 [n.d] (fun d => d = bln (!askMay n)) := by
 refine pure_of_run follows an_zdaaj Tryz.func128 rfl ok_zdaaj.1 ok_zdaaj.2 (by simp [Tryz.ntmps128]) ?_
 rw [run_start]
 simp only [ac_zdaaj, go_sem, contS_seq, simprocAttr, rows_len]
 refine (label_asks n hv).callW (enters_of Tryz.func129 rfl rfl) _ rfl rfl ?_
 rintro d rfl
 rcases askMay_isnil n with ⟨t, a, cs, h1, h2⟩ | ⟨h1, h2⟩
 all_goals
  rw [h1]
  simp only [go_sem, contS_seq, simprocAttr]
  simp only [retK, resD, retL, oneD, simprocAttr, Tryz.results128]
  exact ⟨_, rfl, rfl, congrArg bln (by rw [h2]; rfl)⟩

def ANeed.ok (n : ANeed) : Prop := n.vals.length ≤ 1000000

def needsMay (l : List ANeed) : Bool := decide (l.length ≤ 8) && !l.any (fun n => !askMay n)

theorem label_Needs (l : List ANeed) (hl : l.length ≤ 1000000) (hv : ∀ n ∈ l, n.ok) : Pure Tryz.prog 73 [.pd (.slice (rows ANeed.pd l))] (fun d => d = bln (needsMay l)) := by
 refine pure_of_run follows an_zlask Tryz.func73 rfl ok_zlask.1 ok_zlask.2 (by simp [Tryz.ntmps73]) ?_
 rw [run_start]
 simp only [ac_zlask, go_sem, contS_seq, simprocAttr, rows_len]
 (repeat' (first | (refine GifP.mk (fun _ => ?_) (fun _ => ?_)) | (refine Gif.mk (fun _ => ?_) (fun _ => ?_)) | (refine (ContainsP_Need (fun n => !askMay n) _ (enters_of Tryz.func128 rfl rfl) l hl (fun n hn => label_Needs_1 n (hv n hn))).callW (enters_of Tryz.func75 rfl rfl) _ rfl rfl ?_; rintro _ rfl; try simp only [go_sem, contS_seq, simprocAttr, rows_len]))) <;> (simp only [retK, resD, retL, oneD, simprocAttr, Tryz.results73]; exact ⟨_, rfl, rfl, congrArg bln (by first | rfl | (rw [Bool.eq_iff_iff]; simp only [needsMay]; (first | (simp; done) | (simp; omega) | (simp [*]; done) | (simp [*]; omega))) | (simp_all [needsMay]; done) | (exfalso; omega))⟩)

def needSame (a b : ANeed) : Bool := decide (a.kind = b.kind) && decide (a.name = b.name) && decide (a.vals = b.vals)

theorem label_Same_1 (a b : ANeed) (ha : a.ok) (hb : b.ok) : Pure Tryz.prog 204 [a.d, b.d] (fun d => d = bln (needSame a b)) := by
 refine pure_of_run follows an_zvpxe Tryz.func204 rfl ok_zvpxe.1 ok_zvpxe.2 (by simp [Tryz.ntmps204]) ?_
 rw [run_start]
 simp only [ac_zvpxe, go_sem, contS_seq, simprocAttr]
 (repeat' (first | (refine GifP.mk (fun _ => ?_) (fun _ => ?_)) | (refine Gif.mk (fun _ => ?_) (fun _ => ?_)) | (refine (Equal_string a.vals b.vals ha hb).callW (enters_of Tryz.func109 rfl rfl) _ rfl rfl ?_; rintro _ rfl; try simp only [go_sem, contS_seq, simprocAttr]))) <;> (simp only [retK, resD, retL, oneD, simprocAttr, Tryz.results204]; exact ⟨_, rfl, rfl, congrArg bln (by first | rfl | (rw [Bool.eq_iff_iff]; simp only [needSame]; (first | (simp; done) | (simp; omega) | (simp [*]; done) | (simp [*]; omega))) | (simp_all [needSame]; done) | (exfalso; omega))⟩)

theorem label_Same (l m : List ANeed) (hl : l.length ≤ 1000000) (hm : m.length ≤ 1000000) (h1 : ∀ n ∈ l, n.ok) (h2 : ∀ n ∈ m, n.ok) : Pure Tryz.prog 161 [.pd (.slice (rows ANeed.pd l)), .pd (.slice (rows ANeed.pd m))] (fun d => d = bln (eqf needSame l m)) := by
 refine pure_of_run follows an_zx2gm Tryz.func161 rfl ok_zx2gm.1 ok_zx2gm.2 (by simp [Tryz.ntmps161]) ?_
 rw [run_start]
 simp only [ac_zx2gm, go_sem, contS_seq, simprocAttr]
 (repeat' (first | (refine GifP.mk (fun _ => ?_) (fun _ => ?_)) | (refine Gif.mk (fun _ => ?_) (fun _ => ?_)) | (refine (EqualFunc_Need needSame _ (enters_of Tryz.func204 rfl rfl) l m hl hm (fun x hx y hy => label_Same_1 x y (h1 x hx) (h2 y hy))).callW (enters_of Tryz.func203 rfl rfl) _ rfl rfl ?_; rintro _ rfl; try simp only [go_sem, contS_seq, simprocAttr]))) <;> (simp only [retK, resD, retL, oneD, simprocAttr, Tryz.results161]; exact ⟨_, rfl, rfl, congrArg bln (by first | rfl | (rw [Bool.eq_iff_iff]; simp only [id]; (first | (simp; done) | (simp; omega) | (simp [*]; done) | (simp [*]; omega))) | (simp_all [id]; done) | (exfalso; omega))⟩)


def valOct (b : UInt8) : Bool := decide (32 ≤ b.toNat) && decide (b.toNat ≤ 126)

def fvalue (s : ByteArray) : Bool := s.data.toList.all valOct && decide (s.size ≤ 40) && decide (trim s = s)

theorem pairs_Value (s : ByteArray) (hs : s.size ≤ 1000000) : Pure Tryz.prog 187 [str s] (fun d => d = bln (fvalue s)) := by
 refine pure_of_run follows an_z4wze Tryz.func187 rfl ok_z4wze.1 ok_z4wze.2 (by simp [Tryz.ntmps187]) ?_
 rw [run_start]
 simp only [ac_z4wze, go_sem, contS_seq, simprocAttr, rows_len]
 refine loopS (fun k st => ∃ i : Nat, k = s.size - i ∧ i ≤ s.size ∧ (s.data.toList.drop i).all valOct = s.data.toList.all valOct ∧
  st = ⟨[(0, str s), (5, int s.size), (6, int i)], [], [], .no⟩) s.size _ (Weak.refl _ _) ⟨0, rfl, Nat.zero_le _, rfl, rfl⟩ ?_
 rintro k st ⟨i, rfl, hi, hr, rfl⟩
 by_cases hlt : i < s.size
 ·obtain ⟨b, hb, hd⟩ := byte_at hlt
  have hlt' : ((i : Int) < (s.size : Int)) = True := eq_true (by omega)
  rw [hd, List.all_cons] at hr
  have bad : valOct b = false → fvalue s = false := fun h => by
   rw [h, Bool.false_and] at hr
   simp only [fvalue, ← hr, Bool.false_and]
  have hw := i64_succ (show i < 1000000000 by omega)
  simp only [go_sem, contS_seq, simprocAttr, hlt', hb, hw]
  repeat' (first | refine GifP.mk (fun _ => ?_) (fun _ => ?_) | refine Gif.mk (fun _ => ?_) (fun _ => ?_))
  iterate 2
   ·simp only [retK, iterK, resD, retL, oneD, simprocAttr, Tryz.results187]
    exact ⟨_, rfl, rfl, congrArg bln (bad (by simp [valOct]; omega)).symm⟩
  ·have hg : valOct b = true := by simp [valOct]; omega
   rw [hg, Bool.true_and] at hr
   refine ⟨s.size - (i + 1), _, ?_, ?_, i + 1, rfl, ?_, hr, rfl⟩
   ·omega
   ·exact lessA
   ·omega
 ·have hlt' : ((i : Int) < (s.size : Int)) = False := eq_false (by omega)
  rw [byte_end hlt] at hr
  have hr' := hr.symm
  rw [List.all_nil] at hr'
  simp only [go_sem, contS_seq, simprocAttr, rows_len, hlt']
  (repeat' (first | (refine GifP.mk (fun _ => ?_) (fun _ => ?_)) | (refine Gif.mk (fun _ => ?_) (fun _ => ?_)) | (refine (strings_Trim s hs).callW (enters_of Tryz.func221 rfl rfl) _ rfl rfl ?_; rintro _ rfl; try simp only [go_sem, contS_seq, simprocAttr]))) <;> (simp only [retK, iterK, resD, retL, oneD, simprocAttr, Tryz.results187]; exact ⟨_, rfl, rfl, congrArg bln (by first | rfl | (rw [Bool.eq_iff_iff]; simp only [fvalue, hr']; (first | (simp; done) | (simp; omega) | (simp [*]; done) | (simp [*]; omega))) | (simp_all [fvalue, hr']; done) | (exfalso; omega))⟩)

def foldSame (a b : ByteArray) : Bool := decide (fold a = fold b)

theorem pairs_Same (a b : ByteArray) (ha : a.size ≤ 1000000) (hb : b.size ≤ 1000000) : Pure Tryz.prog 192 [str a, str b] (fun d => d = bln (foldSame a b)) := by
 refine pure_of_run follows an_zrrew Tryz.func192 rfl ok_zrrew.1 ok_zrrew.2 (by simp [Tryz.ntmps192]) ?_
 rw [run_start]
 simp only [ac_zrrew, go_sem, contS_seq, simprocAttr]
 (repeat' (first | (refine GifP.mk (fun _ => ?_) (fun _ => ?_)) | (refine Gif.mk (fun _ => ?_) (fun _ => ?_)) | ((first | refine (dns_Fold a ha).callW (enters_of Tryz.func226 rfl rfl) _ rfl rfl ?_ | refine (dns_Fold b hb).callW (enters_of Tryz.func226 rfl rfl) _ rfl rfl ?_); rintro _ rfl; try simp only [go_sem, contS_seq, simprocAttr]))) <;> (simp only [retK, resD, retL, oneD, simprocAttr, Tryz.results192]; exact ⟨_, rfl, rfl, congrArg bln (by first | rfl | (rw [Bool.eq_iff_iff]; simp only [foldSame]; (first | (simp; done) | (simp; omega) | (simp [*]; done) | (simp [*]; omega))) | (simp_all [foldSame]; done) | (exfalso; omega))⟩)

def APair.ok (p : APair) : Prop := p.name.size ≤ 1000000 ∧ p.val.size ≤ 1000000
def AFilter.ok (f : AFilter) : Prop := f.name.size ≤ 1000000 ∧ f.val.size ≤ 1000000
structure AMatch.ok (m : AMatch) : Prop where
 hl : m.head.length ≤ 1000000
 ql : m.query.length ≤ 1000000
 h : ∀ p ∈ m.head, p.ok
 q : ∀ p ∈ m.query, p.ok

def pairOdd (p : APair) : Bool := !token p.name || !fvalue p.val

theorem rule_May_1 (p : APair) (h : p.ok) : Pure Tryz.prog 185 [p.d] (fun d => d = bln (pairOdd p)) := by
 refine pure_of_run follows an_zqrzx Tryz.func185 rfl ok_zqrzx.1 ok_zqrzx.2 (by simp [Tryz.ntmps185]) ?_
 rw [run_start]
 simp only [ac_zqrzx, go_sem, contS_seq, simprocAttr]
 (repeat' (first | (refine GifP.mk (fun _ => ?_) (fun _ => ?_)) | (refine Gif.mk (fun _ => ?_) (fun _ => ?_)) | ((first | refine (pairs_Token p.name h.1).callW (enters_of Tryz.func186 rfl rfl) _ rfl rfl ?_ | refine (pairs_Value p.val h.2).callW (enters_of Tryz.func187 rfl rfl) _ rfl rfl ?_); rintro _ rfl; try simp only [go_sem, contS_seq, simprocAttr]))) <;> (simp only [retK, resD, retL, oneD, simprocAttr, Tryz.results185]; exact ⟨_, rfl, rfl, congrArg bln (by first | rfl | (rw [Bool.eq_iff_iff]; simp only [pairOdd]; (first | (simp; done) | (simp; omega) | (simp [*]; done) | (simp [*]; omega))) | (simp_all [pairOdd]; done) | (exfalso; omega))⟩)

theorem rule_May_2 (a b : ByteArray) : Pure Tryz.prog 194 [str a, str b] (fun d => d = bln (strSame a b)) := by
 refine pure_of_run follows an_zwio7 Tryz.func194 rfl ok_zwio7.1 ok_zwio7.2 (by simp [Tryz.ntmps194]) ?_
 rw [run_start]
 simp only [ac_zwio7, go_sem, contS_seq, simprocAttr]
 (repeat' (first | (refine GifP.mk (fun _ => ?_) (fun _ => ?_)) | (refine Gif.mk (fun _ => ?_) (fun _ => ?_)))) <;> (simp only [retK, resD, retL, oneD, simprocAttr, Tryz.results194]; exact ⟨_, rfl, rfl, congrArg bln (by first | rfl | (rw [Bool.eq_iff_iff]; simp only [strSame]; (first | (simp; done) | (simp; omega) | (simp [*]; done) | (simp [*]; omega))) | (simp_all [strSame]; done) | (exfalso; omega))⟩)

theorem rule_twice_1 (q : ByteArray → ByteArray → Bool) (f : FuncId) (he : Enters Tryz.prog f) (x y : APair) (hp : Pure Tryz.prog f [str y.name, str x.name] (fun d => d = bln (q y.name x.name))) :
 PureB Tryz.prog 225 [y.d, .ptr 1000001 0, .ptr 1000002 0] [(1000001, [.fn f []]), (1000002, [str x.name, str x.val])] (fun d => d = bln (q y.name x.name)) := by
 refine pureB_of_run follows an_zpw6o Tryz.func225 rfl ok_zpw6o.1 ok_zpw6o.2 (by simp [Tryz.ntmps225]) ?_
 rw [run_start]
 simp only [ac_zpw6o, go_sem, contS_seq, simprocAttr]
 refine hp.callW he _ rfl rfl ?_
 rintro d rfl
 simp only [go_sem, contS_seq, simprocAttr]
 simp only [retK, resD, retL, oneD, simprocAttr, Tryz.results225]
 exact ⟨_, rfl, rfl, rfl⟩

def pairTwice (q : ByteArray → ByteArray → Bool) (l : List APair) : Bool := twice (fun x y => q y.name x.name) l

theorem rule_twice (q : ByteArray → ByteArray → Bool) (f : FuncId) (he : Enters Tryz.prog f) (l : List APair) (hl : l.length ≤ 1000000) (hp : ∀ x ∈ l, ∀ y ∈ l, Pure Tryz.prog f [str y.name, str x.name] (fun d => d = bln (q y.name x.name))) :
 Pure Tryz.prog 191 [.pd (.slice (rows APair.pd l)), .fn f []] (fun d => d = bln (pairTwice q l)) := by
 refine pure_of_run follows an_z6for Tryz.func191 rfl ok_z6for.1 ok_z6for.2 (by simp [Tryz.ntmps191]) ?_
 rw [run_start]
 simp only [ac_z6for, go_sem, contS_seq, simprocAttr, rows_len]
 refine loopS (fun k st => ∃ i : Nat, k = l.length - i ∧ i ≤ l.length ∧ twiceFrom (fun x y : APair => q y.name x.name) l k i = pairTwice q l ∧
  st = ⟨[(0, .pd (.slice (rows APair.pd l))), (3, .ptr 3 0), (7, .pd (.slice (rows APair.pd l))), (8, int l.length), (9, int i)], [(3, [.fn f []])], [], .no⟩) l.length _ (Weak.refl _ _) ⟨0, rfl, Nat.zero_le _, rfl, rfl⟩ ?_
 rintro k st ⟨i, rfl, hi, hr, rfl⟩
 by_cases hlt : i < l.length
 ·obtain ⟨x, hx⟩ := at_lt hlt
  have hlt' : ((i : Int) < (l.length : Int)) = True := eq_true (by omega)
  have hle : (i ≤ l.length) = True := eq_true (by omega)
  have hw := i64_succ (show i < 1000000000 by omega)
  have hmx := List.mem_of_getElem? hx
  obtain ⟨m, hm⟩ : ∃ m, l.length - i = m + 1 := ⟨l.length - i - 1, by omega⟩
  rw [hm, twiceFrom, hx] at hr
  have hrows : rowsOK 2 (rows APair.pd l) = True := rowsOK_rows (f := APair.pd) (n := 2) (fun _ => rfl) l
  have htk : (rows APair.pd l).take i = rows APair.pd (l.take i) := by simp [rows, List.map_take]
  simp only [go_sem, contS_seq, simprocAttr, hlt', rows_get hx, rows_len, hrows, hle, htk]
  refine (ContainsFunc_Pair (fun y => q y.name x.name) 225 (enters_of Tryz.func225 rfl rfl) [(1000001, 0), (1000002, 0)] [(1000001, [.fn f []]), (1000002, [str x.name, str x.val])] (Cl.of rfl rfl rfl rfl rfl) (l.take i) (by simp; omega)
   (fun y hy => rule_twice_1 q f he x y (hp x hmx y (List.mem_of_mem_take hy)))).callW (enters_of Tryz.func190 rfl rfl) _ [(3, 1000001), (6, 1000002)] rfl rfl rfl ?_
  rintro d rfl
  simp only [go_sem, contS_seq, simprocAttr, hw]
  refine Gif.mk (fun h => ?_) (fun h => ?_)
  ·simp only [h, Bool.true_or] at hr
   simp only [retK, resD, retL, oneD, simprocAttr, Tryz.results191]
   exact ⟨_, rfl, rfl, congrArg bln hr⟩
  ·simp only [h, Bool.false_or] at hr
   refine ⟨m, _, ?_, ?_, i + 1, ?_, ?_, hr, rfl⟩
   ·omega
   ·exact lessA
   ·omega
   ·omega
 ·have hlt' : ((i : Int) < (l.length : Int)) = False := eq_false (by omega)
  rw [show l.length - i = 0 by omega, twiceFrom] at hr
  simp only [go_sem, contS_seq, simprocAttr, rows_len, hlt']
  simp only [retK, resD, retL, oneD, simprocAttr, Tryz.results191]
  exact ⟨_, rfl, rfl, congrArg bln hr⟩

def matchMay (m : AMatch) : Bool :=
 pathMay m.pkind m.pval && (decide (m.method = ⟨#[]⟩) || method m.method) && decide (m.head.length ≤ 8) && !m.head.any pairOdd && !pairTwice foldSame m.head && decide (m.query.length ≤ 8) && queryMay m.query && !pairTwice strSame m.query

set_option maxHeartbeats 1000000 in
theorem rule_May (m : AMatch) (h : m.ok) : Pure Tryz.prog 152 [m.d] (fun d => d = bln (matchMay m)) := by
 refine pure_of_run follows an_zi87h Tryz.func152 rfl ok_zi87h.1 ok_zi87h.2 (by simp [Tryz.ntmps152]) ?_
 rw [run_start]
 simp only [ac_zi87h, go_sem, contS_seq, simprocAttr, rows_len]
 (repeat' (first | (refine GifP.mk (fun _ => ?_) (fun _ => ?_)) | (refine Gif.mk (fun _ => ?_) (fun _ => ?_)) | ((first | refine (path_May _ _).callW (enters_of Tryz.func188 rfl rfl) _ rfl rfl ?_ | refine (rule_Method _).callW (enters_of Tryz.func189 rfl rfl) _ rfl rfl ?_ | refine (ContainsP_Pair pairOdd _ (enters_of Tryz.func185 rfl rfl) m.head h.hl (fun p hp => rule_May_1 p (h.h p hp))).callW (enters_of Tryz.func190 rfl rfl) _ rfl rfl ?_ | refine (rule_twice foldSame _ (enters_of Tryz.func192 rfl rfl) m.head h.hl (fun x hx y hy => pairs_Same _ _ (h.h y hy).1 (h.h x hx).1)).callW (enters_of Tryz.func191 rfl rfl) _ rfl rfl ?_ | refine (rule_twice strSame _ (enters_of Tryz.func194 rfl rfl) m.query h.ql (fun x hx y hy => rule_May_2 _ _)).callW (enters_of Tryz.func191 rfl rfl) _ rfl rfl ?_ | refine (query_May m.query h.ql).callW (enters_of Tryz.func193 rfl rfl) _ rfl rfl ?_); rintro _ rfl; try simp only [go_sem, contS_seq, simprocAttr, rows_len]))) <;> (simp only [retK, resD, retL, oneD, simprocAttr, Tryz.results152]; exact ⟨_, rfl, rfl, congrArg bln (by first | rfl | (rw [Bool.eq_iff_iff]; simp only [matchMay]; (first | (simp; done) | (simp; omega) | (simp [*]; done) | (simp [*]; omega))) | (simp_all [matchMay]; done) | (exfalso; omega))⟩)

def matchSame (a b : AMatch) : Bool := decide (a.pkind = b.pkind) && decide (a.pval = b.pval) && decide (a.method = b.method) && decide (a.head = b.head) && decide (a.query = b.query)

theorem rule_Same (a b : AMatch) (ha : a.ok) (hb : b.ok) : Pure Tryz.prog 163 [a.d, b.d] (fun d => d = bln (matchSame a b)) := by
 refine pure_of_run follows an_zb37x Tryz.func163 rfl ok_zb37x.1 ok_zb37x.2 (by simp [Tryz.ntmps163]) ?_
 rw [run_start]
 simp only [ac_zb37x, go_sem, contS_seq, simprocAttr, eqVs, eqV]
 (repeat' (first | (refine GifP.mk (fun _ => ?_) (fun _ => ?_)) | (refine Gif.mk (fun _ => ?_) (fun _ => ?_)) | ((first | refine (Equal_Pair a.head b.head ha.hl hb.hl).callW (enters_of Tryz.func107 rfl rfl) _ rfl rfl ?_ | refine (Equal_Pair a.query b.query ha.ql hb.ql).callW (enters_of Tryz.func107 rfl rfl) _ rfl rfl ?_); rintro _ rfl; try simp only [go_sem, contS_seq, simprocAttr, eqVs, eqV]))) <;> (simp only [retK, resD, retL, oneD, simprocAttr, Tryz.results163]; exact ⟨_, rfl, rfl, congrArg bln (by first | rfl | (rw [Bool.eq_iff_iff]; simp only [matchSame]; (first | (simp; done) | (simp; omega) | (simp [*]; done) | (simp [*]; omega))) | (simp_all [matchSame]; done) | (exfalso; omega))⟩)


def fturner (f : AFilter) : Bool := decide (f.kind = 4) || decide (f.kind = 5)

theorem filter_turner (f : AFilter) : Pure Tryz.prog 196 [f.d] (fun d => d = bln (fturner f)) := by
 refine pure_of_run follows an_zm6be Tryz.func196 rfl ok_zm6be.1 ok_zm6be.2 (by simp [Tryz.ntmps196]) ?_
 rw [run_start]
 simp only [ac_zm6be, go_sem, contS_seq, simprocAttr]
 (repeat' (first | (refine GifP.mk (fun _ => ?_) (fun _ => ?_)) | (refine Gif.mk (fun _ => ?_) (fun _ => ?_)))) <;> (simp only [retK, resD, retL, oneD, simprocAttr, Tryz.results196]; exact ⟨_, rfl, rfl, congrArg bln (by first | rfl | (rw [Bool.eq_iff_iff]; simp only [fturner]; (first | (simp; done) | (simp; omega) | (simp [*]; done) | (simp [*]; omega))) | (simp_all [fturner]; done) | (exfalso; omega))⟩)

def fturns (f : AFilter) : Bool :=
 !(!decide (f.host = ⟨#[]⟩) && !dname f.host) && (if f.path = ⟨#[]⟩ then !f.whole else if f.whole = true then pathIs f.path else pathMay 2 f.path)

theorem filter_turns (f : AFilter) : Pure Tryz.prog 227 [f.d] (fun d => d = bln (fturns f)) := by
 refine pure_of_run follows an_z3d8y Tryz.func227 rfl ok_z3d8y.1 ok_z3d8y.2 (by simp [Tryz.ntmps227]) ?_
 rw [run_start]
 simp only [ac_z3d8y, go_sem, contS_seq, simprocAttr]
 (repeat' (first | (refine GifP.mk (fun _ => ?_) (fun _ => ?_)) | (refine Gif.mk (fun _ => ?_) (fun _ => ?_)) | ((first | refine (dns_Name _).callW (enters_of Tryz.func87 rfl rfl) _ rfl rfl ?_ | refine (path_Is _).callW (enters_of Tryz.func222 rfl rfl) _ rfl rfl ?_ | refine (path_May _ _).callW (enters_of Tryz.func188 rfl rfl) _ rfl rfl ?_); rintro _ rfl; try simp only [go_sem, contS_seq, simprocAttr]))) <;> (simp only [retK, resD, retL, oneD, simprocAttr, Tryz.results227]; exact ⟨_, rfl, rfl, congrArg bln (by first | rfl | (rw [Bool.eq_iff_iff]; simp only [fturns]; (first | (simp; done) | (simp; omega) | (simp [*]; done) | (simp [*]; omega))) | (simp_all [fturns]; done) | (exfalso; omega))⟩)

def fzero (n v h p t w c : Bool) (f : AFilter) : Bool :=
 (n || decide (f.name = ⟨#[]⟩)) && (v || decide (f.val = ⟨#[]⟩)) && (h || decide (f.host = ⟨#[]⟩)) && (p || decide (f.port = 0)) && (t || decide (f.path = ⟨#[]⟩)) && (w || !f.whole) && (c || decide (f.code = 0))

def filterMay (f : AFilter) : Bool :=
 if f.kind = 1 ∨ f.kind = 2 then fzero true true false false false false false f && token f.name && fvalue f.val
 else if f.kind = 3 then fzero true false false false false false false f && token f.name
 else if f.kind = 4 then decide (f.name = ⟨#[]⟩) && decide (f.val = ⟨#[]⟩) && fturns f && decide (0 ≤ f.port) && decide (f.port ≤ 65535) && (decide (f.code = 301) || decide (f.code = 302))
 else if f.kind = 5 then fzero false false true false true true false f && fturns f && (!decide (f.host = ⟨#[]⟩) || !decide (f.path = ⟨#[]⟩))
 else false

theorem beq_self_true {b : Bool} : (b == b) = true := by cases b <;> rfl

set_option maxHeartbeats 1000000 in
theorem filter_May (f : AFilter) (h : f.ok) : Pure Tryz.prog 197 [f.d] (fun d => d = bln (filterMay f)) := by
 refine pure_of_run follows an_zhj59 Tryz.func197 rfl ok_zhj59.1 ok_zhj59.2 (by simp [Tryz.ntmps197]) ?_
 rw [run_start]
 simp only [ac_zhj59, go_sem, contS_seq, simprocAttr, eqVs, eqV, beq_self_true]
 (repeat' (first | (refine GifP.mk (fun _ => ?_) (fun _ => ?_)) | (refine Gif.mk (fun _ => ?_) (fun _ => ?_)) | ((first | refine (pairs_Token f.name h.1).callW (enters_of Tryz.func186 rfl rfl) _ rfl rfl ?_ | refine (pairs_Value f.val h.2).callW (enters_of Tryz.func187 rfl rfl) _ rfl rfl ?_ | refine (filter_turns f).callW (enters_of Tryz.func227 rfl rfl) _ rfl rfl ?_); rintro _ rfl; try simp only [go_sem, contS_seq, simprocAttr, eqVs, eqV, beq_self_true]))) <;> (simp only [retK, resD, retL, oneD, simprocAttr, Tryz.results197]; exact ⟨_, rfl, rfl, congrArg bln (by first | rfl | (rw [Bool.eq_iff_iff]; simp only [filterMay, fzero]; (first | (simp; done) | (simp; omega) | (simp [*]; done) | (simp [*]; omega))) | (simp_all [filterMay, fzero]; done) | (exfalso; omega))⟩)

def likeF (f x : AFilter) : Bool := (fturner x && fturner f) || (decide (x.kind = f.kind) && foldSame x.name f.name)

abbrev AFilter.ds (f : AFilter) : List D := [int f.kind, str f.name, str f.val, str f.host, int f.port, str f.path, bln f.whole, int f.code]

theorem filter_All_1 (f x : AFilter) (hf : f.ok) (hx : x.ok) : PureB Tryz.prog 195 [x.d, .ptr 1000001 0] [(1000001, f.ds)] (fun d => d = bln (likeF f x)) := by
 refine pureB_of_run follows an_z38ed Tryz.func195 rfl ok_z38ed.1 ok_z38ed.2 (by simp [Tryz.ntmps195]) ?_
 rw [run_start]
 simp only [ac_z38ed, go_sem, contS_seq, simprocAttr]
 (repeat' (first | (refine GifP.mk (fun _ => ?_) (fun _ => ?_)) | (refine Gif.mk (fun _ => ?_) (fun _ => ?_)) | ((first | refine (filter_turner x).callW (enters_of Tryz.func196 rfl rfl) _ rfl rfl ?_ | refine (filter_turner f).callW (enters_of Tryz.func196 rfl rfl) _ rfl rfl ?_ | refine (pairs_Same _ _ hx.1 hf.1).callW (enters_of Tryz.func192 rfl rfl) _ rfl rfl ?_); rintro _ rfl; try simp only [go_sem, contS_seq, simprocAttr]))) <;> (simp only [retK, resD, retL, oneD, simprocAttr, Tryz.results195]; exact ⟨_, rfl, rfl, congrArg bln (by first | rfl | (rw [Bool.eq_iff_iff]; simp only [likeF]; (first | (simp; done) | (simp; omega) | (simp [*]; done) | (simp [*]; omega))) | (simp_all [likeF]; done) | (exfalso; omega))⟩)

def filtersFrom (l : List AFilter) : Nat → Nat → Bool
 | 0, _ => true
 | k + 1, i => (match l[i]? with
   | some f => filterMay f && !(l.take i).any (likeF f)
   | none => true) && filtersFrom l k (i + 1)

def filtersAll (l : List AFilter) : Bool := filtersFrom l l.length 0 && decide (l.length ≤ 8)

theorem filter_All (l : List AFilter) (hl : l.length ≤ 1000000) (ho : ∀ f ∈ l, f.ok) : Pure Tryz.prog 153 [.pd (.slice (rows AFilter.pd l))] (fun d => d = bln (filtersAll l)) := by
 refine pure_of_run follows an_zhmnj Tryz.func153 rfl ok_zhmnj.1 ok_zhmnj.2 (by simp [Tryz.ntmps153]) ?_
 rw [run_start]
 simp only [ac_zhmnj, go_sem, contS_seq, simprocAttr, rows_len]
 refine loopS (fun k st => ∃ i : Nat, k = l.length - i ∧ i ≤ l.length ∧ filtersFrom l k i = filtersFrom l l.length 0 ∧
  st = ⟨[(0, .pd (.slice (rows AFilter.pd l))), (6, .pd (.slice (rows AFilter.pd l))), (7, int l.length), (8, int i)], [], [], .no⟩) l.length _ (Weak.refl _ _) ⟨0, rfl, Nat.zero_le _, rfl, rfl⟩ ?_
 rintro k st ⟨i, rfl, hi, hr, rfl⟩
 by_cases hlt : i < l.length
 ·obtain ⟨x, hx⟩ := at_lt hlt
  have hlt' : ((i : Int) < (l.length : Int)) = True := eq_true (by omega)
  have hle : (i ≤ l.length) = True := eq_true (by omega)
  have hw := i64_succ (show i < 1000000000 by omega)
  have hmx := List.mem_of_getElem? hx
  obtain ⟨m, hm⟩ : ∃ m, l.length - i = m + 1 := ⟨l.length - i - 1, by omega⟩
  rw [hm, filtersFrom, hx] at hr
  have hrows : rowsOK 8 (rows AFilter.pd l) = True := rowsOK_rows (f := AFilter.pd) (n := 8) (fun _ => rfl) l
  have htk : (rows AFilter.pd l).take i = rows AFilter.pd (l.take i) := by simp [rows, List.map_take]
  have bad : filtersFrom l l.length 0 = false → filtersAll l = false := fun h => by simp [filtersAll, h]
  simp only [go_sem, contS_seq, simprocAttr, hlt', rows_get hx, rows_len, hrows, hle, htk]
  refine (filter_May x (ho x hmx)).callW (enters_of Tryz.func197 rfl rfl) _ rfl rfl ?_
  rintro d rfl
  simp only [go_sem, contS_seq, simprocAttr, hrows, hle, htk, rows_len]
  refine Gif.mk (fun h => ?_) (fun h => ?_)
  ·refine (ContainsFunc_Filter (likeF x) 195 (enters_of Tryz.func195 rfl rfl) [(1000001, 0)] [(1000001, x.ds)] (Cl.of rfl rfl rfl rfl rfl) (l.take i) (by simp; omega)
    (fun y hy => filter_All_1 x y (ho x hmx) (ho y (List.mem_of_mem_take hy)))).callW (enters_of Tryz.func198 rfl rfl) _ [(4, 1000001)] rfl rfl rfl ?_
   rintro d rfl
   simp only [go_sem, contS_seq, simprocAttr, hw]
   refine Gif.mk (fun h2 => ?_) (fun h2 => ?_)
   ·simp only [h, h2, Bool.not_true, Bool.and_false, Bool.false_and] at hr
    simp only [retK, resD, retL, oneD, simprocAttr, Tryz.results153]
    exact ⟨_, rfl, rfl, congrArg bln (bad hr.symm).symm⟩
   ·simp only [h, h2, Bool.not_false, Bool.and_true, Bool.true_and] at hr
    refine ⟨m, _, ?_, ?_, i + 1, ?_, ?_, hr, rfl⟩
    ·omega
    ·exact lessA
    ·omega
    ·omega
  ·simp only [h, Bool.false_and] at hr
   simp only [retK, resD, retL, oneD, simprocAttr, Tryz.results153]
   exact ⟨_, rfl, rfl, congrArg bln (bad hr.symm).symm⟩
 ·have hlt' : ((i : Int) < (l.length : Int)) = False := eq_false (by omega)
  rw [show l.length - i = 0 by omega, filtersFrom] at hr
  simp only [go_sem, contS_seq, simprocAttr, rows_len, hlt']
  repeat' (first | refine GifP.mk (fun _ => ?_) (fun _ => ?_) | refine Gif.mk (fun _ => ?_) (fun _ => ?_))
  all_goals
   simp only [retK, resD, retL, oneD, simprocAttr, Tryz.results153]
   exact ⟨_, rfl, rfl, congrArg bln (by first | rfl | (rw [Bool.eq_iff_iff]; simp only [filtersAll, ← hr]; (first | (simp; done) | (simp; omega) | (simp [*]; done) | (simp [*]; omega))) | (simp_all [filtersAll, ← hr]; done) | (exfalso; omega))⟩

def listenerMay (l : AListener) : Bool :=
 (if l.tls = true then decide (l.cert.kind = 4) && labValue l.cert.space && dname l.cert.name else decide (l.cert.kind = 0) && decide (l.cert.space = ⟨#[]⟩) && decide (l.cert.name = ⟨#[]⟩)) &&
 label l.name && oport l.port && hostMay l.host && decide (0 ≤ l.from_) && decide (l.from_ ≤ 2) && needsMay l.needs && (decide (l.from_ = 2) || decide (l.needs.length = 0))

structure AListener.ok (l : AListener) : Prop where
 nl : l.needs.length ≤ 1000000
 n : ∀ x ∈ l.needs, x.ok

set_option maxHeartbeats 1000000 in
theorem object_listener (l : AListener) (h : l.ok) : Pure Tryz.prog 89 [l.d] (fun d => d = bln (listenerMay l)) := by
 refine pure_of_run follows an_z5xl6 Tryz.func89 rfl ok_z5xl6.1 ok_z5xl6.2 (by simp [Tryz.ntmps89]) ?_
 rw [run_start]
 simp only [ac_z5xl6, go_sem, contS_seq, simprocAttr, rows_len, eqVs, eqV]
 (repeat' (first | (refine GifP.mk (fun _ => ?_) (fun _ => ?_)) | (refine Gif.mk (fun _ => ?_) (fun _ => ?_)) | ((first | refine (object_near _).callW (enters_of Tryz.func140 rfl rfl) _ rfl rfl ?_ | refine (dns_Name _).callW (enters_of Tryz.func87 rfl rfl) _ rfl rfl ?_ | refine (dns_Label _).callW (enters_of Tryz.func104 rfl rfl) _ rfl rfl ?_ | refine (object_port _).callW (enters_of Tryz.func82 rfl rfl) _ rfl rfl ?_ | refine (host_May _).callW (enters_of Tryz.func96 rfl rfl) _ rfl rfl ?_ | refine (label_Needs l.needs h.nl h.n).callW (enters_of Tryz.func73 rfl rfl) _ rfl rfl ?_); rintro _ rfl; try simp only [go_sem, contS_seq, simprocAttr, rows_len, eqVs, eqV]))) <;> (simp only [retK, resD, retL, oneD, simprocAttr, Tryz.results89]; exact ⟨_, rfl, rfl, congrArg bln (by first | rfl | (rw [Bool.eq_iff_iff]; simp only [listenerMay]; (first | (simp; done) | (simp; omega) | (simp [*]; done) | (simp [*]; omega))) | (simp_all [listenerMay]; done) | (exfalso; omega))⟩)

structure ARule.ok (r : ARule) : Prop where
 ml : r.matches_.length ≤ 1000000
 fl : r.filters.length ≤ 1000000
 bl : r.backends.length ≤ 1000000
 m : ∀ x ∈ r.matches_, x.ok
 f : ∀ x ∈ r.filters, x.ok

def ruleMay (r : ARule) : Bool := every matchMay r.matches_ 4 && filtersAll r.filters && every backendMay r.backends 4

theorem object_ruled (r : ARule) (h : r.ok) : Pure Tryz.prog 101 [r.d] (fun d => d = bln (ruleMay r)) := by
 refine pure_of_run follows an_zjms9 Tryz.func101 rfl ok_zjms9.1 ok_zjms9.2 (by simp [Tryz.ntmps101]) ?_
 rw [run_start]
 simp only [ac_zjms9, go_sem, contS_seq, simprocAttr]
 (repeat' (first | (refine GifP.mk (fun _ => ?_) (fun _ => ?_)) | (refine Gif.mk (fun _ => ?_) (fun _ => ?_)) | ((first | refine (every_Match matchMay _ (enters_of Tryz.func152 rfl rfl) r.matches_ h.ml 4 (fun x hx => rule_May x (h.m x hx))).callW (enters_of Tryz.func151 rfl rfl) _ rfl rfl ?_ | refine (filter_All r.filters h.fl h.f).callW (enters_of Tryz.func153 rfl rfl) _ rfl rfl ?_ | refine (every_Backend backendMay _ (enters_of Tryz.func155 rfl rfl) r.backends h.bl 4 (fun x _ => object_backend x)).callW (enters_of Tryz.func154 rfl rfl) _ rfl rfl ?_); rintro _ rfl; try simp only [go_sem, contS_seq, simprocAttr]))) <;> (simp only [retK, resD, retL, oneD, simprocAttr, Tryz.results101]; exact ⟨_, rfl, rfl, congrArg bln (by first | rfl | (rw [Bool.eq_iff_iff]; simp only [ruleMay]; (first | (simp; done) | (simp; omega) | (simp [*]; done) | (simp [*]; omega))) | (simp_all [ruleMay]; done) | (exfalso; omega))⟩)

def listenerSame (a b : AListener) : Bool :=
 decide (a.name = b.name) && decide (a.port = b.port) && (a.tls == b.tls) && decide (a.host = b.host) && decide (a.cert = b.cert) && decide (a.from_ = b.from_) && eqf needSame a.needs b.needs

theorem object_sameListener (a b : AListener) (ha : a.ok) (hb : b.ok) : Pure Tryz.prog 113 [a.d, b.d] (fun d => d = bln (listenerSame a b)) := by
 refine pure_of_run follows an_z1fwi Tryz.func113 rfl ok_z1fwi.1 ok_z1fwi.2 (by simp [Tryz.ntmps113]) ?_
 rw [run_start]
 simp only [ac_z1fwi, go_sem, contS_seq, simprocAttr, eqVs, eqV, eq_Ref]
 (repeat' (first | (refine GifP.mk (fun _ => ?_) (fun _ => ?_)) | (refine Gif.mk (fun _ => ?_) (fun _ => ?_)) | (refine (label_Same a.needs b.needs ha.nl hb.nl ha.n hb.n).callW (enters_of Tryz.func161 rfl rfl) _ rfl rfl ?_; rintro _ rfl; try simp only [go_sem, contS_seq, simprocAttr, eqVs, eqV, eq_Ref]))) <;> (simp only [retK, resD, retL, oneD, simprocAttr, Tryz.results113]; exact ⟨_, rfl, rfl, congrArg bln (by first | rfl | (rw [Bool.eq_iff_iff]; simp only [listenerSame]; (first | (simp; done) | (simp; omega) | (simp [*]; done) | (simp [*]; omega))) | (simp_all [listenerSame]; done) | (exfalso; omega))⟩)

def ruleSame (a b : ARule) : Bool := eqf matchSame a.matches_ b.matches_ && decide (a.filters = b.filters) && decide (a.backends = b.backends)

theorem object_sameRule (a b : ARule) (ha : a.ok) (hb : b.ok) : Pure Tryz.prog 115 [a.d, b.d] (fun d => d = bln (ruleSame a b)) := by
 refine pure_of_run follows an_z30xg Tryz.func115 rfl ok_z30xg.1 ok_z30xg.2 (by simp [Tryz.ntmps115]) ?_
 rw [run_start]
 simp only [ac_z30xg, go_sem, contS_seq, simprocAttr]
 (repeat' (first | (refine GifP.mk (fun _ => ?_) (fun _ => ?_)) | (refine Gif.mk (fun _ => ?_) (fun _ => ?_)) | ((first | refine (EqualFunc_Match matchSame _ (enters_of Tryz.func163 rfl rfl) a.matches_ b.matches_ ha.ml hb.ml (fun x hx y hy => rule_Same x y (ha.m x hx) (hb.m y hy))).callW (enters_of Tryz.func162 rfl rfl) _ rfl rfl ?_ | refine (Equal_Filter a.filters b.filters ha.fl hb.fl).callW (enters_of Tryz.func164 rfl rfl) _ rfl rfl ?_ | refine (Equal_Backend a.backends b.backends ha.bl hb.bl).callW (enters_of Tryz.func165 rfl rfl) _ rfl rfl ?_); rintro _ rfl; try simp only [go_sem, contS_seq, simprocAttr]))) <;> (simp only [retK, resD, retL, oneD, simprocAttr, Tryz.results115]; exact ⟨_, rfl, rfl, congrArg bln (by first | rfl | (rw [Bool.eq_iff_iff]; simp only [ruleSame]; (first | (simp; done) | (simp; omega) | (simp [*]; done) | (simp [*]; omega))) | (simp_all [ruleSame]; done) | (exfalso; omega))⟩)


def labelsFrom (l : List APair) : Nat → Nat → Bool
 | 0, _ => true
 | k + 1, i => (match l[i]? with
   | some p => dname p.name && labValue p.val && (decide (i = 0) || (match l[i - 1]? with | some q => Op.bytesLess q.name.toList p.name.toList | none => false))
   | none => true) && labelsFrom l k (i + 1)

def labelsMay (l : List APair) : Bool := labelsFrom l l.length 0 && decide (l.length ≤ 8)

set_option maxHeartbeats 1000000 in
theorem label_May (l : List APair) (hl : l.length ≤ 1000000) : Pure Tryz.prog 74 [.pd (.slice (rows APair.pd l))] (fun d => d = bln (labelsMay l)) := by
 refine pure_of_run follows an_z2iq3 Tryz.func74 rfl ok_z2iq3.1 ok_z2iq3.2 (by simp [Tryz.ntmps74]) ?_
 rw [run_start]
 simp only [ac_z2iq3, go_sem, contS_seq, simprocAttr, rows_len]
 refine loopS (fun k st => ∃ i : Nat, k = l.length - i ∧ i ≤ l.length ∧ labelsFrom l k i = labelsFrom l l.length 0 ∧
  st = ⟨[(0, .pd (.slice (rows APair.pd l))), (5, .pd (.slice (rows APair.pd l))), (6, int l.length), (7, int i)], [], [], .no⟩) l.length _ (Weak.refl _ _) ⟨0, rfl, Nat.zero_le _, rfl, rfl⟩ ?_
 rintro k st ⟨i, rfl, hi, hr, rfl⟩
 by_cases hlt : i < l.length
 ·obtain ⟨x, hx⟩ := at_lt hlt
  have hlt' : ((i : Int) < (l.length : Int)) = True := eq_true (by omega)
  have hw := i64_succ (show i < 1000000000 by omega)
  obtain ⟨m, hm⟩ : ∃ m, l.length - i = m + 1 := ⟨l.length - i - 1, by omega⟩
  rw [hm, labelsFrom, hx] at hr
  have bad : labelsFrom l l.length 0 = false → labelsMay l = false := fun h => by simp [labelsMay, h]
  have good : ∀ st, Weak Tryz.prog st ⟨[(0, .pd (.slice (rows APair.pd l))), (5, .pd (.slice (rows APair.pd l))), (6, int l.length), (7, int (i + 1 : Nat))], [], [], .no⟩ → labelsFrom l m (i + 1) = labelsFrom l l.length 0 →
   Round Tryz.prog (fun k st => ∃ i : Nat, k = l.length - i ∧ i ≤ l.length ∧ labelsFrom l k i = labelsFrom l l.length 0 ∧
    st = ⟨[(0, .pd (.slice (rows APair.pd l))), (5, .pd (.slice (rows APair.pd l))), (6, int l.length), (7, int i)], [], [], .no⟩) (l.length - i) st := fun st hst hr =>
   ⟨m, _, by omega, hst, i + 1, by omega, by omega, hr, rfl⟩
  simp (maxSteps := 2000000) only [go_sem, contS_seq, simprocAttr, go_sem, hlt', rows_get hx, rows_len]
  refine (dns_Name x.name).callX (enters_of Tryz.func87 rfl rfl) _ rfl rfl ?_
  rintro d rfl
  simp (maxSteps := 2000000) only [go_sem, contS_seq, simprocAttr, go_sem, rows_len]
  refine Gif.mk (fun h1 => ?_) (fun h1 => ?_)
  ·refine (label_value x.val).callX (enters_of Tryz.func130 rfl rfl) _ rfl rfl ?_
   rintro d rfl
   by_cases hi0 : 0 < i
   ·obtain ⟨q, hq⟩ := at_lt (show i - 1 < l.length by omega)
    have h0 : ((0 : Int) < (i : Int)) = True := eq_true (by omega)
    have hw1 : IntKind.i64.wrap ((i : Int) - 1) = ((i - 1 : Nat) : Int) := by rw [IntWalk.i64_in _ (by omega)]; omega
    simp (maxSteps := 2000000) only [go_sem, contS_seq, simprocAttr, go_sem, rows_len, h0, hw1, rows_get hq, hw]
    refine Gif.mk (fun h2 => ?_) (fun h2 => ?_)
    ·refine Gif.mk (fun h3 => ?_) (fun h3 => ?_)
     ·refine good _ (lessA) ?_
      simpa [h1, h2, h3, hq] using hr
     ·simp only [retK, resD, retL, oneD, simprocAttr, Tryz.results74]
      refine ⟨_, rfl, rfl, congrArg bln (bad ?_).symm⟩
      rw [← hr]; simp [h1, h2, h3, hq]; omega
    ·simp only [retK, resD, retL, oneD, simprocAttr, Tryz.results74]
     refine ⟨_, rfl, rfl, congrArg bln (bad ?_).symm⟩
     rw [← hr]; simp [h1, h2]
   ·have h0 : ((0 : Int) < (i : Int)) = False := eq_false (by omega)
    simp (maxSteps := 2000000) only [go_sem, contS_seq, simprocAttr, go_sem, rows_len, h0, hw]
    refine Gif.mk (fun h2 => ?_) (fun h2 => ?_)
    ·refine good _ (lessA) ?_
     simpa [h1, h2, show i = 0 by omega] using hr
    ·simp only [retK, resD, retL, oneD, simprocAttr, Tryz.results74]
     refine ⟨_, rfl, rfl, congrArg bln (bad ?_).symm⟩
     rw [← hr]; simp [h1, h2]
  ·simp only [retK, resD, retL, oneD, simprocAttr, Tryz.results74]
   refine ⟨_, rfl, rfl, congrArg bln (bad ?_).symm⟩
   rw [← hr]; simp [h1]
 ·have hlt' : ((i : Int) < (l.length : Int)) = False := eq_false (by omega)
  rw [show l.length - i = 0 by omega, labelsFrom] at hr
  simp only [go_sem, contS_seq, simprocAttr, rows_len, hlt']
  repeat' (first | refine GifP.mk (fun _ => ?_) (fun _ => ?_) | refine Gif.mk (fun _ => ?_) (fun _ => ?_))
  all_goals
   simp only [retK, resD, retL, oneD, simprocAttr, Tryz.results74]
   exact ⟨_, rfl, rfl, congrArg bln (by first | rfl | (rw [Bool.eq_iff_iff]; simp only [labelsMay, ← hr]; (first | (simp; done) | (simp; omega) | (simp [*]; done) | (simp [*]; omega))) | (simp_all [labelsMay, ← hr]; done) | (exfalso; omega))⟩

def sortFrom (l : List Int) : Nat → Bool
 | 0 => true
 | i + 1 => (match l[i + 1]?, l[i]? with
   | some a, some b => !intLess a b
   | _, _ => true) && sortFrom l i

def sortedInts (l : List Int) : Bool := sortFrom l (l.length - 1)

theorem slices_IsSorted_int (l : List Int) (hl : l.length ≤ 1000000) : Pure Tryz.prog 83 [.pd (.slice (ints l))] (fun d => d = bln (sortedInts l)) := by
 refine pure_of_run follows an_zhfyj Tryz.func83 rfl ok_zhfyj.1 ok_zhfyj.2 (by simp [Tryz.ntmps83]) ?_
 rw [run_start]
 have hw0 : IntKind.i64.wrap ((l.length : Int) - 1) = (l.length : Int) - 1 := IntWalk.i64_in _ (by omega)
 simp only [ac_zhfyj, go_sem, contS_seq, simprocAttr, go_sem, rows_len, hw0]
 refine loopS (fun k st => ∃ i : Int, k = i.toNat ∧ -1 ≤ i ∧ i < (l.length : Int) ∧ sortFrom l i.toNat = sortedInts l ∧
  st = ⟨[(0, .pd (.slice (ints l))), (3, int i)], [], [], .no⟩) ((l.length : Int) - 1).toNat _ (Weak.refl _ _) ⟨(l.length : Int) - 1, rfl, by omega, by omega, by
   rw [sortedInts]; congr 1; omega, rfl⟩ ?_
 rintro k st ⟨i, rfl, hi, hi2, hr, rfl⟩
 by_cases hlt : 0 < i
 ·obtain ⟨j, rfl⟩ : ∃ j : Nat, i = (j + 1 : Nat) := ⟨(i - 1).toNat, by omega⟩
  obtain ⟨x, hx⟩ := at_lt (show j + 1 < l.length by omega)
  obtain ⟨y, hy⟩ := at_lt (show j < l.length by omega)
  have hlt' : ((0 : Int) < ((j + 1 : Nat) : Int)) = True := eq_true (by omega)
  have hw : IntKind.i64.wrap (((j + 1 : Nat) : Int) - 1) = (j : Int) := by rw [IntWalk.i64_in _ (by omega)]; omega
  rw [Int.toNat_natCast, sortFrom, hx, hy] at hr
  simp only [go_sem, contS_seq, simprocAttr, go_sem, hlt', rows_get hx, rows_get hy, hw]
  refine (cmp_Less x y).callX (enters_of Tryz.func135 rfl rfl) _ rfl rfl ?_
  rintro d rfl
  simp only [go_sem, contS_seq, simprocAttr, go_sem, hw]
  refine Gif.mk (fun h => ?_) (fun h => ?_)
  ·simp only [h, Bool.not_true, Bool.false_and] at hr
   simp only [retK, resD, retL, oneD, simprocAttr, Tryz.results83]
   exact ⟨_, rfl, rfl, congrArg bln hr⟩
  ·simp only [h, Bool.not_false, Bool.true_and] at hr
   refine ⟨j, _, ?_, ?_, (j : Int), by simp, by omega, by omega, by simpa using hr, rfl⟩
   ·omega
   ·exact lessA
 ·have hlt' : ((0 : Int) < i) = False := eq_false hlt
  rw [show i.toNat = 0 by omega, sortFrom] at hr
  simp only [go_sem, contS_seq, simprocAttr, go_sem, hlt']
  simp only [retK, resD, retL, oneD, simprocAttr, Tryz.results83]
  exact ⟨_, rfl, rfl, congrArg bln hr⟩

structure AObj.ok (o : AObj) : Prop where
 la : o.labels.length ≤ 1000000
 po : o.ports.length ≤ 1000000
 li : o.listeners.length ≤ 1000000
 pa : o.parents.length ≤ 1000000
 ho : o.hosts.length ≤ 1000000
 ru : o.rules.length ≤ 1000000
 fr : o.from_.length ≤ 1000000
 to : o.to_.length ≤ 1000000
 lis : ∀ x ∈ o.listeners, x.ok
 rus : ∀ x ∈ o.rules, x.ok

abbrev AObj.ds (o : AObj) : List D := [int o.ref.kind, str o.ref.space, str o.ref.name, bln o.good, .pd (.slice (rows APair.pd o.labels)), .pd (.slice (ints o.ports)), str o.cls, .pd (.slice (rows AListener.pd o.listeners)),
 .pd (.slice (rows AParent.pd o.parents)), .pd (.slice (strs o.hosts)), .pd (.slice (rows ARule.pd o.rules)), .pd (.slice (rows ASide.pd o.from_)), .pd (.slice (rows ASide.pd o.to_))]


theorem thing_class (o : AObj) : Full Tryz.prog 49 [.ptr 500001 0] [(500001, o.ds)] true (fun d bs => d = bln true ∧ bs = [(500001,
 [int o.ref.kind, str o.ref.space, str o.ref.name, bln false, .pd (.slice (rows APair.pd o.labels)), .pd (.slice (ints o.ports)), str o.cls, .pd (.slice (rows AListener.pd o.listeners)),
  .pd (.slice (rows AParent.pd o.parents)), .pd (.slice (strs o.hosts)), .pd (.slice (rows ARule.pd o.rules)), .pd (.slice (rows ASide.pd o.from_)), .pd (.slice (rows ASide.pd o.to_))])]) := by
 refine full_of_run follows an_zk71m Tryz.func49 rfl ok_zk71m.1 ok_zk71m.2 (by simp [Tryz.ntmps49]) (by simp [Tryz.ntmps49]) (.inl rfl) ?_
 rw [run_start]
 simp only [ac_zk71m, go_sem, contS_seq, simprocAttr]
 simp only [retK, fullK, resD, retL, oneD, simprocAttr, Tryz.results49]
 exact ⟨_, _, rfl, by simp [lessL, lk], rfl, rfl⟩

theorem thing_space (o : AObj) (h : o.ok) : Full Tryz.prog 50 [.ptr 500001 0] [(500001, o.ds)] true (fun d bs => d = bln (labelsMay o.labels) ∧ bs = [(500001,
 [int o.ref.kind, str o.ref.space, str o.ref.name, bln o.good, .nils, .pd (.slice (ints o.ports)), str o.cls, .pd (.slice (rows AListener.pd o.listeners)),
  .pd (.slice (rows AParent.pd o.parents)), .pd (.slice (strs o.hosts)), .pd (.slice (rows ARule.pd o.rules)), .pd (.slice (rows ASide.pd o.from_)), .pd (.slice (rows ASide.pd o.to_))])]) := by
 refine full_of_run follows an_zag3z Tryz.func50 rfl ok_zag3z.1 ok_zag3z.2 (by simp [Tryz.ntmps50]) (by simp [Tryz.ntmps50]) (.inl rfl) ?_
 rw [run_start]
 simp only [ac_zag3z, go_sem, contS_seq, simprocAttr]
 refine (label_May o.labels h.la).callW (enters_of Tryz.func74 rfl rfl) _ rfl rfl ?_
 rintro d rfl
 simp only [go_sem, contS_seq, simprocAttr]
 simp only [retK, fullK, resD, retL, oneD, simprocAttr, Tryz.results50]
 exact ⟨_, _, rfl, by simp [lessL, lk], rfl, rfl⟩

def serviceMay (l : List Int) : Bool := decide (0 < l.length) && every oport l 8 && sortedInts l && !twice intSame l

theorem thing_service (o : AObj) (h : o.ok) : Full Tryz.prog 51 [.ptr 500001 0] [(500001, o.ds)] true (fun d bs => d = bln (serviceMay o.ports) ∧ bs = [(500001,
 [int o.ref.kind, str o.ref.space, str o.ref.name, bln o.good, .pd (.slice (rows APair.pd o.labels)), .nils, str o.cls, .pd (.slice (rows AListener.pd o.listeners)),
  .pd (.slice (rows AParent.pd o.parents)), .pd (.slice (strs o.hosts)), .pd (.slice (rows ARule.pd o.rules)), .pd (.slice (rows ASide.pd o.from_)), .pd (.slice (rows ASide.pd o.to_))])]) := by
 refine full_of_run follows an_zxlfl Tryz.func51 rfl ok_zxlfl.1 ok_zxlfl.2 (by simp [Tryz.ntmps51]) (by simp [Tryz.ntmps51]) (.inl rfl) ?_
 rw [run_start]
 simp only [ac_zxlfl, go_sem, contS_seq, simprocAttr, rows_len]
 (repeat' (first | (refine GifP.mk (fun _ => ?_) (fun _ => ?_)) | (refine Gif.mk (fun _ => ?_) (fun _ => ?_)) | ((first | refine (every_int oport _ (enters_of Tryz.func82 rfl rfl) o.ports h.po 8 (fun x _ => object_port x)).callW (enters_of Tryz.func81 rfl rfl) _ rfl rfl ?_ | refine (slices_IsSorted_int o.ports h.po).callW (enters_of Tryz.func83 rfl rfl) _ rfl rfl ?_ | refine (twice_int intSame _ (enters_of Tryz.func85 rfl rfl) o.ports h.po (fun x _ y _ => thing_service_1 x y)).callW (enters_of Tryz.func84 rfl rfl) _ rfl rfl ?_); rintro _ rfl; try simp only [go_sem, contS_seq, simprocAttr]))) <;> (simp only [retK, fullK, resD, retL, oneD, simprocAttr, Tryz.results51]; exact ⟨_, _, rfl, by simp [lessL, lk], congrArg bln (by first | rfl | (rw [Bool.eq_iff_iff]; simp only [serviceMay]; (first | (simp; done) | (simp; omega) | (simp [*]; done) | (simp [*]; omega))) | (simp_all [serviceMay]; done) | (exfalso; omega)), rfl⟩)

def gatewayMay (s : ByteArray) (l : List AListener) : Bool := dname s && decide (0 < l.length) && every listenerMay l 8 && !twice lisName l

theorem thing_gateway (o : AObj) (h : o.ok) : Full Tryz.prog 52 [.ptr 500001 0] [(500001, o.ds)] true (fun d bs => d = bln (gatewayMay o.cls o.listeners) ∧ bs = [(500001,
 [int o.ref.kind, str o.ref.space, str o.ref.name, bln o.good, .pd (.slice (rows APair.pd o.labels)), .pd (.slice (ints o.ports)), str ⟨#[]⟩, .nils,
  .pd (.slice (rows AParent.pd o.parents)), .pd (.slice (strs o.hosts)), .pd (.slice (rows ARule.pd o.rules)), .pd (.slice (rows ASide.pd o.from_)), .pd (.slice (rows ASide.pd o.to_))])]) := by
 refine full_of_run follows an_zqquk Tryz.func52 rfl ok_zqquk.1 ok_zqquk.2 (by simp [Tryz.ntmps52]) (by simp [Tryz.ntmps52]) (.inl rfl) ?_
 rw [run_start]
 simp only [ac_zqquk, go_sem, contS_seq, simprocAttr, go_sem, rows_len]
 (repeat' (first | (refine GifP.mk (fun _ => ?_) (fun _ => ?_)) | (refine Gif.mk (fun _ => ?_) (fun _ => ?_)) | ((first | refine (dns_Name _).callW (enters_of Tryz.func87 rfl rfl) _ rfl rfl ?_ | refine (every_Listener listenerMay _ (enters_of Tryz.func89 rfl rfl) o.listeners h.li 8 (fun x hx => object_listener x (h.lis x hx))).callW (enters_of Tryz.func88 rfl rfl) _ rfl rfl ?_ | refine (twice_Listener lisName _ (enters_of Tryz.func86 rfl rfl) o.listeners h.li (fun x _ y _ => thing_gateway_1 x y)).callW (enters_of Tryz.func90 rfl rfl) _ rfl rfl ?_); rintro _ rfl; try simp only [go_sem, contS_seq, simprocAttr, rows_len]))) <;> (simp only [retK, fullK, resD, retL, oneD, simprocAttr, Tryz.results52]; exact ⟨_, _, rfl, by simp [lessL, lk], congrArg bln (by first | rfl | (rw [Bool.eq_iff_iff]; simp only [gatewayMay]; (first | (simp; done) | (simp; omega) | (simp [*]; done) | (simp [*]; omega))) | (simp_all [gatewayMay]; done) | (exfalso; omega)), rfl⟩)

def routeMay (ps : List AParent) (hs : List ByteArray) (rs : List ARule) : Bool :=
 !(twice parSame ps || twice strSame hs) && every parentMay ps 4 && every patMay hs 4 && every ruleMay rs 6

theorem thing_route (o : AObj) (h : o.ok) : Full Tryz.prog 53 [.ptr 500001 0] [(500001, o.ds)] true (fun d bs => d = bln (routeMay o.parents o.hosts o.rules) ∧ bs = [(500001,
 [int o.ref.kind, str o.ref.space, str o.ref.name, bln o.good, .pd (.slice (rows APair.pd o.labels)), .pd (.slice (ints o.ports)), str o.cls, .pd (.slice (rows AListener.pd o.listeners)),
  .nils, .nils, .nils, .pd (.slice (rows ASide.pd o.from_)), .pd (.slice (rows ASide.pd o.to_))])]) := by
 refine full_of_run follows an_ztpho Tryz.func53 rfl ok_ztpho.1 ok_ztpho.2 (by simp [Tryz.ntmps53]) (by simp [Tryz.ntmps53]) (.inl rfl) ?_
 rw [run_start]
 simp (maxSteps := 5000000) only [ac_ztpho, go_sem, contS_seq, simprocAttr, go_sem, rows_len]
 (repeat' (first | (refine GifP.mk (fun _ => ?_) (fun _ => ?_)) | (refine Gif.mk (fun _ => ?_) (fun _ => ?_)) | ((first | refine (twice_Parent parSame _ (enters_of Tryz.func92 rfl rfl) o.parents h.pa (fun x _ y _ => thing_route_1 x y)).callW (enters_of Tryz.func91 rfl rfl) _ rfl rfl ?_ | refine (twice_string strSame _ (enters_of Tryz.func94 rfl rfl) o.hosts h.ho (fun x _ y _ => thing_route_2 x y)).callW (enters_of Tryz.func93 rfl rfl) _ rfl rfl ?_ | refine (every_Parent parentMay _ (enters_of Tryz.func98 rfl rfl) o.parents h.pa 4 (fun x _ => object_parent x)).callW (enters_of Tryz.func97 rfl rfl) _ rfl rfl ?_ | refine (every_string patMay _ (enters_of Tryz.func95 rfl rfl) o.hosts h.ho 4 (fun x _ => thing_route_3 x)).callW (enters_of Tryz.func99 rfl rfl) _ rfl rfl ?_ | refine (every_Rule ruleMay _ (enters_of Tryz.func101 rfl rfl) o.rules h.ru 6 (fun x hx => object_ruled x (h.rus x hx))).callW (enters_of Tryz.func100 rfl rfl) _ rfl rfl ?_); rintro _ rfl; try simp only [go_sem, contS_seq, simprocAttr, rows_len]))) <;> (simp only [retK, fullK, resD, retL, oneD, simprocAttr, Tryz.results53]; exact ⟨_, _, rfl, by simp [lessL, lk], congrArg bln (by first | rfl | (rw [Bool.eq_iff_iff]; simp only [routeMay]; (first | (simp; done) | (simp; omega) | (simp [*]; done) | (simp [*]; omega))) | (simp_all [routeMay]; done) | (exfalso; omega)), rfl⟩)

def grantMay (f t : List ASide) : Bool := decide (0 < f.length) && decide (0 < t.length) && every sideFrom f 4 && every sideTo t 4

theorem thing_grant (o : AObj) (h : o.ok) : Full Tryz.prog 54 [.ptr 500001 0] [(500001, o.ds)] true (fun d bs => d = bln (grantMay o.from_ o.to_) ∧ bs = [(500001,
 [int o.ref.kind, str o.ref.space, str o.ref.name, bln o.good, .pd (.slice (rows APair.pd o.labels)), .pd (.slice (ints o.ports)), str o.cls, .pd (.slice (rows AListener.pd o.listeners)),
  .pd (.slice (rows AParent.pd o.parents)), .pd (.slice (strs o.hosts)), .pd (.slice (rows ARule.pd o.rules)), .nils, .nils])]) := by
 refine full_of_run follows an_zlbax Tryz.func54 rfl ok_zlbax.1 ok_zlbax.2 (by simp [Tryz.ntmps54]) (by simp [Tryz.ntmps54]) (.inl rfl) ?_
 rw [run_start]
 simp only [ac_zlbax, go_sem, contS_seq, simprocAttr, go_sem, rows_len]
 (repeat' (first | (refine GifP.mk (fun _ => ?_) (fun _ => ?_)) | (refine Gif.mk (fun _ => ?_) (fun _ => ?_)) | ((first | refine (every_Side sideFrom _ (enters_of Tryz.func102 rfl rfl) o.from_ h.fr 4 (fun x _ => thing_grant_1 x)).callW (enters_of Tryz.func106 rfl rfl) _ rfl rfl ?_ | refine (every_Side sideTo _ (enters_of Tryz.func105 rfl rfl) o.to_ h.to 4 (fun x _ => thing_grant_2 x)).callW (enters_of Tryz.func106 rfl rfl) _ rfl rfl ?_); rintro _ rfl; try simp only [go_sem, contS_seq, simprocAttr, rows_len]))) <;> (simp only [retK, fullK, resD, retL, oneD, simprocAttr, Tryz.results54]; exact ⟨_, _, rfl, by simp [lessL, lk], congrArg bln (by first | rfl | (rw [Bool.eq_iff_iff]; simp only [grantMay]; (first | (simp; done) | (simp; omega) | (simp [*]; done) | (simp [*]; omega))) | (simp_all [grantMay]; done) | (exfalso; omega)), rfl⟩)


def objSame (a b : AObj) : Bool :=
 decide (a.ref = b.ref) && (a.good == b.good) && decide (a.cls = b.cls) && decide (a.labels = b.labels) && decide (a.ports = b.ports) && decide (a.hosts = b.hosts) && decide (a.parents = b.parents) && decide (a.from_ = b.from_) && decide (a.to_ = b.to_) &&
 eqf listenerSame a.listeners b.listeners && eqf ruleSame a.rules b.rules

set_option maxHeartbeats 1000000 in
theorem object_Same (a b : AObj) (ha : a.ok) (hb : b.ok) : Pure Tryz.prog 56 [a.d, b.d] (fun d => d = bln (objSame a b)) := by
 refine pure_of_run follows an_zhbvt Tryz.func56 rfl ok_zhbvt.1 ok_zhbvt.2 (by simp [Tryz.ntmps56]) ?_
 rw [run_start]
 simp only [ac_zhbvt, go_sem, contS_seq, simprocAttr, eqVs, eqV, eq_Ref]
 (repeat' (first | (refine GifP.mk (fun _ => ?_) (fun _ => ?_)) | (refine Gif.mk (fun _ => ?_) (fun _ => ?_)) | ((first | refine (Equal_Pair a.labels b.labels ha.la hb.la).callW (enters_of Tryz.func107 rfl rfl) _ rfl rfl ?_ | refine (Equal_int a.ports b.ports ha.po hb.po).callW (enters_of Tryz.func108 rfl rfl) _ rfl rfl ?_ | refine (Equal_string a.hosts b.hosts ha.ho hb.ho).callW (enters_of Tryz.func109 rfl rfl) _ rfl rfl ?_ | refine (Equal_Parent a.parents b.parents ha.pa hb.pa).callW (enters_of Tryz.func110 rfl rfl) _ rfl rfl ?_ | refine (Equal_Side a.from_ b.from_ ha.fr hb.fr).callW (enters_of Tryz.func111 rfl rfl) _ rfl rfl ?_ | refine (Equal_Side a.to_ b.to_ ha.to hb.to).callW (enters_of Tryz.func111 rfl rfl) _ rfl rfl ?_ | refine (EqualFunc_Listener listenerSame _ (enters_of Tryz.func113 rfl rfl) a.listeners b.listeners ha.li hb.li (fun x hx y hy => object_sameListener x y (ha.lis x hx) (hb.lis y hy))).callW (enters_of Tryz.func112 rfl rfl) _ rfl rfl ?_ | refine (EqualFunc_Rule ruleSame _ (enters_of Tryz.func115 rfl rfl) a.rules b.rules ha.ru hb.ru (fun x hx y hy => object_sameRule x y (ha.rus x hx) (hb.rus y hy))).callW (enters_of Tryz.func114 rfl rfl) _ rfl rfl ?_); rintro _ rfl; try simp only [go_sem, contS_seq, simprocAttr, eqVs, eqV, eq_Ref]))) <;> (simp only [retK, resD, retL, oneD, simprocAttr, Tryz.results56]; exact ⟨_, rfl, rfl, congrArg bln (by first | rfl | (rw [Bool.eq_iff_iff]; simp only [objSame]; (first | (simp; done) | (simp; omega) | (simp [*]; done) | (simp [*]; omega))) | (simp_all [objSame]; done) | (exfalso; omega))⟩)


def AObj.zero (r : ARef) : AObj := ⟨r, false, [], [], ⟨#[]⟩, [], [], [], [], [], []⟩

theorem AObj.zero_ok (r : ARef) : (AObj.zero r).ok := ⟨by simp [AObj.zero], by simp [AObj.zero], by simp [AObj.zero], by simp [AObj.zero], by simp [AObj.zero], by simp [AObj.zero], by simp [AObj.zero], by simp [AObj.zero], by simp [AObj.zero], by simp [AObj.zero]⟩

def AObj.strip (o : AObj) : AObj :=
 if o.ref.kind = 1 ∨ o.ref.kind = 4 then { o with good := false }
 else if o.ref.kind = 2 then { o with labels := [] }
 else if o.ref.kind = 3 then { o with ports := [] }
 else if o.ref.kind = 5 then { o with listeners := [], cls := ⟨#[]⟩ }
 else if o.ref.kind = 6 then { o with parents := [], hosts := [], rules := [] }
 else { o with from_ := [], to_ := [] }

def kindMay (o : AObj) : Bool :=
 if o.ref.kind = 1 ∨ o.ref.kind = 4 then true
 else if o.ref.kind = 2 then labelsMay o.labels
 else if o.ref.kind = 3 then serviceMay o.ports
 else if o.ref.kind = 5 then gatewayMay o.cls o.listeners
 else if o.ref.kind = 6 then routeMay o.parents o.hosts o.rules
 else grantMay o.from_ o.to_

def objMay (o : AObj) : Bool := mayRef o.ref && kindMay o && objSame o.strip (AObj.zero o.ref)

theorem mayRef_kind {r : ARef} (h : mayRef r = true) : r.kind = 1 ∨ r.kind = 2 ∨ r.kind = 3 ∨ r.kind = 4 ∨ r.kind = 5 ∨ r.kind = 6 ∨ r.kind = 7 := by
 unfold mayRef at h
 split at h
 ·omega
 ·split at h
  ·omega
  ·simp [okind] at h; omega

theorem strip_ok {o s : AObj} (h : o.ok) (h1 : s.labels = o.labels ∨ s.labels = []) (h2 : s.ports = o.ports ∨ s.ports = []) (h3 : s.listeners = o.listeners ∨ s.listeners = []) (h4 : s.parents = o.parents ∨ s.parents = []) (h5 : s.hosts = o.hosts ∨ s.hosts = [])
 (h6 : s.rules = o.rules ∨ s.rules = []) (h7 : s.from_ = o.from_ ∨ s.from_ = []) (h8 : s.to_ = o.to_ ∨ s.to_ = []) : s.ok where
 la := by rcases h1 with e | e <;> rw [e] <;> first | exact h.la | simp
 po := by rcases h2 with e | e <;> rw [e] <;> first | exact h.po | simp
 li := by rcases h3 with e | e <;> rw [e] <;> first | exact h.li | simp
 pa := by rcases h4 with e | e <;> rw [e] <;> first | exact h.pa | simp
 ho := by rcases h5 with e | e <;> rw [e] <;> first | exact h.ho | simp
 ru := by rcases h6 with e | e <;> rw [e] <;> first | exact h.ru | simp
 fr := by rcases h7 with e | e <;> rw [e] <;> first | exact h.fr | simp
 to := by rcases h8 with e | e <;> rw [e] <;> first | exact h.to | simp
 lis := by rcases h3 with e | e <;> rw [e] <;> first | exact h.lis | simp
 rus := by rcases h6 with e | e <;> rw [e] <;> first | exact h.rus | simp

set_option maxHeartbeats 4000000 in
theorem object_May (o : AObj) (h : o.ok) : Pure Tryz.prog 29 [o.d] (fun d => d = bln (objMay o)) := by
 refine pure_of_run follows an_zfwje Tryz.func29 rfl ok_zfwje.1 ok_zfwje.2 (by simp [Tryz.ntmps29]) ?_
 rw [run_start]
 simp (maxSteps := 5000000) only [ac_zfwje, go_sem, contS_seq, simprocAttr, go_sem]
 refine (object_MayRef o.ref).callX (enters_of Tryz.func55 rfl rfl) _ rfl rfl ?_
 rintro d rfl
 by_cases hm : mayRef o.ref = true
 ·have stop : kindMay o = false → objMay o = false := fun e => by simp [objMay, e]
  have go : ∀ s : AObj, o.strip = s → kindMay o = true → objMay o = objSame s (AObj.zero o.ref) := fun s e1 e2 => by simp [objMay, hm, e1, e2]
  rcases mayRef_kind hm with hk | hk | hk | hk | hk | hk | hk
  ·obtain ⟨⟨kd, sp, nm⟩, gd, la, po, cl, li, pa, ho, ru, fr, to⟩ := o
   simp only at hk
   subst hk
   simp (maxSteps := 5000000) only [go_sem, contS_seq, simprocAttr, go_sem, hm]
   refine (thing_class ⟨⟨1, sp, nm⟩, gd, la, po, cl, li, pa, ho, ru, fr, to⟩).callW (enters_of Tryz.func49 rfl rfl) _ false [(9, 500001)] [] [] [] rfl rfl rfl ?_
   rintro d bs ⟨rfl, rfl⟩
   simp (maxSteps := 5000000) only [go_sem, contS_seq, simprocAttr, go_sem]
   have hs : (⟨⟨1, sp, nm⟩, gd, la, po, cl, li, pa, ho, ru, fr, to⟩ : AObj).strip = { (⟨⟨1, sp, nm⟩, gd, la, po, cl, li, pa, ho, ru, fr, to⟩ : AObj) with good := false } := by simp [AObj.strip]
   have hkm : kindMay (⟨⟨1, sp, nm⟩, gd, la, po, cl, li, pa, ho, ru, fr, to⟩ : AObj) = true := by simp [kindMay]
   refine (object_Same ({ (⟨⟨1, sp, nm⟩, gd, la, po, cl, li, pa, ho, ru, fr, to⟩ : AObj) with good := false } : AObj) (AObj.zero ⟨1, sp, nm⟩) (strip_ok h (by simp) (by simp) (by simp) (by simp) (by simp) (by simp) (by simp) (by simp)) (AObj.zero_ok ⟨1, sp, nm⟩)).callX (enters_of Tryz.func56 rfl rfl) _ rfl rfl ?_
   rintro d rfl
   simp (maxSteps := 5000000) only [go_sem, contS_seq, simprocAttr, go_sem]
   simp only [retK, resD, retL, oneD, simprocAttr, Tryz.results29]
   exact ⟨_, rfl, rfl, congrArg bln (go _ hs (by rw [hkm])).symm⟩
  ·obtain ⟨⟨kd, sp, nm⟩, gd, la, po, cl, li, pa, ho, ru, fr, to⟩ := o
   simp only at hk
   subst hk
   simp (maxSteps := 5000000) only [go_sem, contS_seq, simprocAttr, go_sem, hm]
   refine (thing_space ⟨⟨2, sp, nm⟩, gd, la, po, cl, li, pa, ho, ru, fr, to⟩ h).callW (enters_of Tryz.func50 rfl rfl) _ false [(9, 500001)] [] [] [] rfl rfl rfl ?_
   rintro d bs ⟨rfl, rfl⟩
   simp (maxSteps := 5000000) only [go_sem, contS_seq, simprocAttr, go_sem]
   have hs : (⟨⟨2, sp, nm⟩, gd, la, po, cl, li, pa, ho, ru, fr, to⟩ : AObj).strip = { (⟨⟨2, sp, nm⟩, gd, la, po, cl, li, pa, ho, ru, fr, to⟩ : AObj) with labels := [] } := by simp [AObj.strip]
   have hkm : kindMay (⟨⟨2, sp, nm⟩, gd, la, po, cl, li, pa, ho, ru, fr, to⟩ : AObj) = labelsMay la := by simp [kindMay]
   refine Gif.mk (fun h1 => ?_) (fun h1 => ?_)
   ·refine (object_Same ({ (⟨⟨2, sp, nm⟩, gd, la, po, cl, li, pa, ho, ru, fr, to⟩ : AObj) with labels := [] } : AObj) (AObj.zero ⟨2, sp, nm⟩) (strip_ok h (by simp) (by simp) (by simp) (by simp) (by simp) (by simp) (by simp) (by simp)) (AObj.zero_ok ⟨2, sp, nm⟩)).callX (enters_of Tryz.func56 rfl rfl) _ rfl rfl ?_
    rintro d rfl
    simp (maxSteps := 5000000) only [go_sem, contS_seq, simprocAttr, go_sem]
    simp only [retK, resD, retL, oneD, simprocAttr, Tryz.results29]
    exact ⟨_, rfl, rfl, congrArg bln (go _ hs (by rw [hkm]; exact h1)).symm⟩
   ·simp only [retK, resD, retL, oneD, simprocAttr, Tryz.results29]
    exact ⟨_, rfl, rfl, congrArg bln (stop (by rw [hkm]; exact h1)).symm⟩
  ·obtain ⟨⟨kd, sp, nm⟩, gd, la, po, cl, li, pa, ho, ru, fr, to⟩ := o
   simp only at hk
   subst hk
   simp (maxSteps := 5000000) only [go_sem, contS_seq, simprocAttr, go_sem, hm]
   refine (thing_service ⟨⟨3, sp, nm⟩, gd, la, po, cl, li, pa, ho, ru, fr, to⟩ h).callW (enters_of Tryz.func51 rfl rfl) _ false [(9, 500001)] [] [] [] rfl rfl rfl ?_
   rintro d bs ⟨rfl, rfl⟩
   simp (maxSteps := 5000000) only [go_sem, contS_seq, simprocAttr, go_sem]
   have hs : (⟨⟨3, sp, nm⟩, gd, la, po, cl, li, pa, ho, ru, fr, to⟩ : AObj).strip = { (⟨⟨3, sp, nm⟩, gd, la, po, cl, li, pa, ho, ru, fr, to⟩ : AObj) with ports := [] } := by simp [AObj.strip]
   have hkm : kindMay (⟨⟨3, sp, nm⟩, gd, la, po, cl, li, pa, ho, ru, fr, to⟩ : AObj) = serviceMay po := by simp [kindMay]
   refine Gif.mk (fun h1 => ?_) (fun h1 => ?_)
   ·refine (object_Same ({ (⟨⟨3, sp, nm⟩, gd, la, po, cl, li, pa, ho, ru, fr, to⟩ : AObj) with ports := [] } : AObj) (AObj.zero ⟨3, sp, nm⟩) (strip_ok h (by simp) (by simp) (by simp) (by simp) (by simp) (by simp) (by simp) (by simp)) (AObj.zero_ok ⟨3, sp, nm⟩)).callX (enters_of Tryz.func56 rfl rfl) _ rfl rfl ?_
    rintro d rfl
    simp (maxSteps := 5000000) only [go_sem, contS_seq, simprocAttr, go_sem]
    simp only [retK, resD, retL, oneD, simprocAttr, Tryz.results29]
    exact ⟨_, rfl, rfl, congrArg bln (go _ hs (by rw [hkm]; exact h1)).symm⟩
   ·simp only [retK, resD, retL, oneD, simprocAttr, Tryz.results29]
    exact ⟨_, rfl, rfl, congrArg bln (stop (by rw [hkm]; exact h1)).symm⟩
  ·obtain ⟨⟨kd, sp, nm⟩, gd, la, po, cl, li, pa, ho, ru, fr, to⟩ := o
   simp only at hk
   subst hk
   simp (maxSteps := 5000000) only [go_sem, contS_seq, simprocAttr, go_sem, hm]
   refine (thing_class ⟨⟨4, sp, nm⟩, gd, la, po, cl, li, pa, ho, ru, fr, to⟩).callW (enters_of Tryz.func49 rfl rfl) _ false [(9, 500001)] [] [] [] rfl rfl rfl ?_
   rintro d bs ⟨rfl, rfl⟩
   simp (maxSteps := 5000000) only [go_sem, contS_seq, simprocAttr, go_sem]
   have hs : (⟨⟨4, sp, nm⟩, gd, la, po, cl, li, pa, ho, ru, fr, to⟩ : AObj).strip = { (⟨⟨4, sp, nm⟩, gd, la, po, cl, li, pa, ho, ru, fr, to⟩ : AObj) with good := false } := by simp [AObj.strip]
   have hkm : kindMay (⟨⟨4, sp, nm⟩, gd, la, po, cl, li, pa, ho, ru, fr, to⟩ : AObj) = true := by simp [kindMay]
   refine (object_Same ({ (⟨⟨4, sp, nm⟩, gd, la, po, cl, li, pa, ho, ru, fr, to⟩ : AObj) with good := false } : AObj) (AObj.zero ⟨4, sp, nm⟩) (strip_ok h (by simp) (by simp) (by simp) (by simp) (by simp) (by simp) (by simp) (by simp)) (AObj.zero_ok ⟨4, sp, nm⟩)).callX (enters_of Tryz.func56 rfl rfl) _ rfl rfl ?_
   rintro d rfl
   simp (maxSteps := 5000000) only [go_sem, contS_seq, simprocAttr, go_sem]
   simp only [retK, resD, retL, oneD, simprocAttr, Tryz.results29]
   exact ⟨_, rfl, rfl, congrArg bln (go _ hs (by rw [hkm])).symm⟩
  ·obtain ⟨⟨kd, sp, nm⟩, gd, la, po, cl, li, pa, ho, ru, fr, to⟩ := o
   simp only at hk
   subst hk
   simp (maxSteps := 5000000) only [go_sem, contS_seq, simprocAttr, go_sem, hm]
   refine (thing_gateway ⟨⟨5, sp, nm⟩, gd, la, po, cl, li, pa, ho, ru, fr, to⟩ h).callW (enters_of Tryz.func52 rfl rfl) _ false [(9, 500001)] [] [] [] rfl rfl rfl ?_
   rintro d bs ⟨rfl, rfl⟩
   simp (maxSteps := 5000000) only [go_sem, contS_seq, simprocAttr, go_sem]
   have hs : (⟨⟨5, sp, nm⟩, gd, la, po, cl, li, pa, ho, ru, fr, to⟩ : AObj).strip = { (⟨⟨5, sp, nm⟩, gd, la, po, cl, li, pa, ho, ru, fr, to⟩ : AObj) with listeners := [], cls := ⟨#[]⟩ } := by simp [AObj.strip]
   have hkm : kindMay (⟨⟨5, sp, nm⟩, gd, la, po, cl, li, pa, ho, ru, fr, to⟩ : AObj) = gatewayMay cl li := by simp [kindMay]
   refine Gif.mk (fun h1 => ?_) (fun h1 => ?_)
   ·refine (object_Same ({ (⟨⟨5, sp, nm⟩, gd, la, po, cl, li, pa, ho, ru, fr, to⟩ : AObj) with listeners := [], cls := ⟨#[]⟩ } : AObj) (AObj.zero ⟨5, sp, nm⟩) (strip_ok h (by simp) (by simp) (by simp) (by simp) (by simp) (by simp) (by simp) (by simp)) (AObj.zero_ok ⟨5, sp, nm⟩)).callX (enters_of Tryz.func56 rfl rfl) _ rfl rfl ?_
    rintro d rfl
    simp (maxSteps := 5000000) only [go_sem, contS_seq, simprocAttr, go_sem]
    simp only [retK, resD, retL, oneD, simprocAttr, Tryz.results29]
    exact ⟨_, rfl, rfl, congrArg bln (go _ hs (by rw [hkm]; exact h1)).symm⟩
   ·simp only [retK, resD, retL, oneD, simprocAttr, Tryz.results29]
    exact ⟨_, rfl, rfl, congrArg bln (stop (by rw [hkm]; exact h1)).symm⟩
  ·obtain ⟨⟨kd, sp, nm⟩, gd, la, po, cl, li, pa, ho, ru, fr, to⟩ := o
   simp only at hk
   subst hk
   simp (maxSteps := 5000000) only [go_sem, contS_seq, simprocAttr, go_sem, hm]
   refine (thing_route ⟨⟨6, sp, nm⟩, gd, la, po, cl, li, pa, ho, ru, fr, to⟩ h).callW (enters_of Tryz.func53 rfl rfl) _ false [(9, 500001)] [] [] [] rfl rfl rfl ?_
   rintro d bs ⟨rfl, rfl⟩
   simp (maxSteps := 5000000) only [go_sem, contS_seq, simprocAttr, go_sem]
   have hs : (⟨⟨6, sp, nm⟩, gd, la, po, cl, li, pa, ho, ru, fr, to⟩ : AObj).strip = { (⟨⟨6, sp, nm⟩, gd, la, po, cl, li, pa, ho, ru, fr, to⟩ : AObj) with parents := [], hosts := [], rules := [] } := by simp [AObj.strip]
   have hkm : kindMay (⟨⟨6, sp, nm⟩, gd, la, po, cl, li, pa, ho, ru, fr, to⟩ : AObj) = routeMay pa ho ru := by simp [kindMay]
   refine Gif.mk (fun h1 => ?_) (fun h1 => ?_)
   ·refine (object_Same ({ (⟨⟨6, sp, nm⟩, gd, la, po, cl, li, pa, ho, ru, fr, to⟩ : AObj) with parents := [], hosts := [], rules := [] } : AObj) (AObj.zero ⟨6, sp, nm⟩) (strip_ok h (by simp) (by simp) (by simp) (by simp) (by simp) (by simp) (by simp) (by simp)) (AObj.zero_ok ⟨6, sp, nm⟩)).callX (enters_of Tryz.func56 rfl rfl) _ rfl rfl ?_
    rintro d rfl
    simp (maxSteps := 5000000) only [go_sem, contS_seq, simprocAttr, go_sem]
    simp only [retK, resD, retL, oneD, simprocAttr, Tryz.results29]
    exact ⟨_, rfl, rfl, congrArg bln (go _ hs (by rw [hkm]; exact h1)).symm⟩
   ·simp only [retK, resD, retL, oneD, simprocAttr, Tryz.results29]
    exact ⟨_, rfl, rfl, congrArg bln (stop (by rw [hkm]; exact h1)).symm⟩
  ·obtain ⟨⟨kd, sp, nm⟩, gd, la, po, cl, li, pa, ho, ru, fr, to⟩ := o
   simp only at hk
   subst hk
   simp (maxSteps := 5000000) only [go_sem, contS_seq, simprocAttr, go_sem, hm]
   refine (thing_grant ⟨⟨7, sp, nm⟩, gd, la, po, cl, li, pa, ho, ru, fr, to⟩ h).callW (enters_of Tryz.func54 rfl rfl) _ false [(9, 500001)] [] [] [] rfl rfl rfl ?_
   rintro d bs ⟨rfl, rfl⟩
   simp (maxSteps := 5000000) only [go_sem, contS_seq, simprocAttr, go_sem]
   have hs : (⟨⟨7, sp, nm⟩, gd, la, po, cl, li, pa, ho, ru, fr, to⟩ : AObj).strip = { (⟨⟨7, sp, nm⟩, gd, la, po, cl, li, pa, ho, ru, fr, to⟩ : AObj) with from_ := [], to_ := [] } := by simp [AObj.strip]
   have hkm : kindMay (⟨⟨7, sp, nm⟩, gd, la, po, cl, li, pa, ho, ru, fr, to⟩ : AObj) = grantMay fr to := by simp [kindMay]
   refine Gif.mk (fun h1 => ?_) (fun h1 => ?_)
   ·refine (object_Same ({ (⟨⟨7, sp, nm⟩, gd, la, po, cl, li, pa, ho, ru, fr, to⟩ : AObj) with from_ := [], to_ := [] } : AObj) (AObj.zero ⟨7, sp, nm⟩) (strip_ok h (by simp) (by simp) (by simp) (by simp) (by simp) (by simp) (by simp) (by simp)) (AObj.zero_ok ⟨7, sp, nm⟩)).callX (enters_of Tryz.func56 rfl rfl) _ rfl rfl ?_
    rintro d rfl
    simp (maxSteps := 5000000) only [go_sem, contS_seq, simprocAttr, go_sem]
    simp only [retK, resD, retL, oneD, simprocAttr, Tryz.results29]
    exact ⟨_, rfl, rfl, congrArg bln (go _ hs (by rw [hkm]; exact h1)).symm⟩
   ·simp only [retK, resD, retL, oneD, simprocAttr, Tryz.results29]
    exact ⟨_, rfl, rfl, congrArg bln (stop (by rw [hkm]; exact h1)).symm⟩
 ·have hm' : mayRef o.ref = false := by simpa using hm
  simp (maxSteps := 5000000) only [go_sem, contS_seq, simprocAttr, go_sem, hm']
  simp only [retK, resD, retL, oneD, simprocAttr, Tryz.results29]
  exact ⟨_, rfl, rfl, congrArg bln (by simp [objMay, hm'])⟩

end Go.Proofs.YtcnhcamimcpinaaGreatDoor



namespace Go.Proofs.YtcnhcamimcpinaaGreatDoor
open Go

def ac_zrkgf : AC := (sr [oo 2 (.box 24 (tp 0)),oo 4 (.alloc 24 [.pd (.raw (.int .i64 0)),.pd (.raw (.string ⟨#[]⟩)),.pd (.raw (.string ⟨#[]⟩))])] [1,2,4] (.seq (sr [fi 5 1 2,lq 6 5,oo 7 (.bin .eql (tp 6) (.const (.string ⟨#[]⟩))),mq 8 7,og 8 true 9 (.fieldA 0 (tp 2)),og 8 true 10 (.load none (tp 9)),og 8 true 11 (.bin .neq (tp 10) (ci 1)),oo 12 (.pick (tp 8) (tp 11) (cq false)),mq 13 12,og 13 true 14 (.fieldA 0 (tp 2)),og 13 true 15 (.load none (tp 14)),og 13 true 16 (.bin .neq (tp 15) (ci 2)),oo 17 (.pick (tp 13) (tp 16) (cq false))] [1,2,4,17] (.cond (tp 17) (.region [mq 18 1,fi 19 1 2,.mk none none (.store 1 (tp 19) (tp 18))] (some [2,4])) .skip)) (sr [oo 20 (.load (some 3) (tp 2)),.mk none none (.store 3 (tp 4) (tp 20))] [4] .ret)))
def an_zrkgf : Ann := ann (List.range 4) ac_zrkgf
theorem ok_zrkgf : okd Tryz.prog an_zrkgf ac_zrkgf Tryz.f31 := ⟨by kernel_rfl, by kernel_rfl⟩
theorem ret_zrkgf (st : St) : resD Tryz.prog st Tryz.f31.results.toList = resA st [.cell 4 (some 3)] := resD_of (by kernel_rfl)

def ac_zn42u : AC := (sr [oo 1 (.box 24 (tp 0)),oo 2 (.alloc 24 [.pd (.raw (.int .i64 0)),.pd (.raw (.string ⟨#[]⟩)),.pd (.raw (.string ⟨#[]⟩))])] [1,2] (.seq (.draw [fi 3 0 1,lq 4 3,fi 5 1 1,lq 6 5,oo 7 (.call 21 [tp 6]),fi 8 2 1,lq 9 8,oo 10 (.call 21 [tp 9]),oo 11 (.build [.pd (.raw (.int .i64 0)),.pd (.raw (.string ⟨#[]⟩)),.pd (.raw (.string ⟨#[]⟩))] [(0,1,tp 4),(1,1,tp 7),(2,1,tp 10)]),.mk none none (.store 3 (tp 2) (tp 11))] [0,1,0,4,12,0,32,124,255,511] (.take 0 (.take 1 (.take 2 (.take 3 (.take 5 (.take 6 (.alts (.cons 4 false (.alts (.cons 7 false (.take 8 (.alts (.cons 9 true .done .nil))) .nil)) .nil)))))))) (some [2])) .ret))
def an_zn42u : Ann := ann (List.range 2) ac_zn42u
theorem ok_zn42u : okd Tryz.prog an_zn42u ac_zn42u Tryz.f20 := ⟨by kernel_rfl, by kernel_rfl⟩
theorem ret_zn42u (st : St) : resD Tryz.prog st Tryz.f20.results.toList = resA st [.cell 2 (some 3)] := resD_of (by kernel_rfl)

def ac_zba9k : AC := (sr [oo 2 (.mv (.const (.string ⟨#[]⟩)))] [0] (.seq (sr [mq 3 0,oo 4 (.len (tp 3) true),oo 5 (.bin .gtr (tp 4) (ci 100))] [0,5] (.cond (tp 5) (sr [mq 6 0,oo 7 (.slcS (tp 6) none (some (ci 100))),mq 2 7] [2] .ret) .skip)) (sr [mq 8 0,mq 2 8] [2] .ret)))
def an_zba9k : Ann := ann (List.range 4) ac_zba9k
theorem ok_zba9k : okd Tryz.prog an_zba9k ac_zba9k Tryz.f21 := ⟨by kernel_rfl, by kernel_rfl⟩

end Go.Proofs.YtcnhcamimcpinaaGreatDoor


namespace Go.Proofs.YtcnhcamimcpinaaGreatDoor
open Go Go.RowKit
set_option linter.unusedSimpArgs false
set_option linter.unusedVariables false
set_option maxRecDepth 100000

def few (s : ByteArray) : ByteArray := if s.size ≤ 100 then s else s.extract 0 100

set_option maxRecDepth 100000 in
theorem law1_Few (s : ByteArray) : Pure Tryz.prog 21 [str s] (fun d => d = str (few s)) := by
 refine pure_of_run follows an_zba9k Tryz.func21 rfl ok_zba9k.1 ok_zba9k.2 (by simp [Tryz.ntmps21]) ?_
 rw [run_start]
 by_cases h : 100 < s.size
 ·have h1 : (100 : Int) < (s.size : Int) := by omega
  have h2 : 100 ≤ s.size := by omega
  simp only [ac_zba9k, go_sem, contS_seq, simprocAttr, h1, h2]
  simp only [retK, resD, retL, oneD, simprocAttr, Tryz.results21]
  exact ⟨_, rfl, rfl, by simp [few, show ¬ s.size ≤ 100 by omega, D.pub]⟩
 ·have h1 : ¬ (100 : Int) < (s.size : Int) := by omega
  simp only [ac_zba9k, go_sem, contS_seq, simprocAttr, h1]
  simp only [retK, resD, retL, oneD, simprocAttr, Tryz.results21]
  exact ⟨_, rfl, rfl, by simp [few, show s.size ≤ 100 by omega, D.pub]⟩

def fewRef (r : ARef) : ARef := ⟨r.kind, few r.space, few r.name⟩

set_option maxRecDepth 100000 in
theorem law9_FewRef (r : ARef) : Pure Tryz.prog 20 [r.d] (fun d => d = (fewRef r).d) := by
 refine pure_of_run follows an_zn42u Tryz.func20 rfl ok_zn42u.1 ok_zn42u.2 (by simp [Tryz.ntmps20]) ?_
 rw [run_start]
 simp only [ac_zn42u, go_sem, contS_seq, simprocAttr, go_sem]
 refine (law1_Few r.space).callX (enters_of Tryz.func21 rfl rfl) _ rfl rfl ?_
 rintro d rfl
 simp only [go_sem, contS_seq, simprocAttr, go_sem]
 refine (law1_Few r.name).callX (enters_of Tryz.func21 rfl rfl) _ rfl rfl ?_
 rintro d rfl
 simp only [go_sem, contS_seq, simprocAttr, go_sem]
 simp only [retK, resD, resA, AOp.ex, St.ev, retL, oneD, simprocAttr, ret_zn42u]
 exact ⟨_, rfl, rfl, rfl⟩

end Go.Proofs.YtcnhcamimcpinaaGreatDoor


