/- Texts of the prover's, joined: G4 G5 D5 F6 F7 F8 F9 FB FC. -/
import Derived.Test.YtklolokoaooppaaGreatDoorY4
import Derived.Test.YtklolokoaooppaaGreatDoorProg
import Derived.KernelRfl

namespace Go.Proofs.YtklolokoaooppaaGreatDoor
open Go Go.RowKit
set_option linter.unusedSimpArgs false
set_option linter.unusedVariables false
set_option maxRecDepth 100000

theorem every_int_1 (p : Int → Bool) (f : FuncId) (he : Enters Tryz.prog f) (x : Int) (hp : Pure Tryz.prog f [int x] (fun d => d = bln (p x))) :
    PureB Tryz.prog 146 [int x, .ptr 1000001 0] [(1000001, [.fn f []])] (fun d => d = bln (!p x)) := by
  refine pureB_of_run follows an_zkvy2 Tryz.func146 rfl ok_zkvy2.1 ok_zkvy2.2 (by simp [Tryz.ntmps146]) ?_
  rw [run_start]
  simp only [ac_zkvy2, oo, og, tp, ci, cq, mq, lq, fi, sr, go_sem, contS_seq, simprocAttr]
  refine hp.callW he _ rfl rfl ?_
  rintro d rfl
  simp only [go_sem, contS_seq, simprocAttr]
  simp only [retK, resD, St.get, lk, oneD, D.pub, D.pubs, retL, reduceIte, Nat.reduceEqDiff, Nat.reduceAdd, Nat.reduceLeDiff, Tryz.results146]
  exact ⟨_, rfl, rfl, rfl⟩

theorem every_int (p : Int → Bool) (f : FuncId) (he : Enters Tryz.prog f) (l : List Int) (hl : l.length ≤ 1000000) (n : Int) (hp : ∀ x ∈ l, Pure Tryz.prog f [int x] (fun d => d = bln (p x))) :
    Pure Tryz.prog 103 [.pd (.slice (rows cInt l)), int n, .fn f []] (fun d => d = bln (every p l n)) := by
  refine pure_of_run follows an_z5yno Tryz.func103 rfl ok_z5yno.1 ok_z5yno.2 (by simp [Tryz.ntmps103]) ?_
  rw [run_start]
  simp only [ac_z5yno, oo, og, tp, ci, cq, mq, lq, fi, sr, go_sem, contS_seq, simprocAttr, rows_len]
  refine GifP.mk (fun h => ?_) (fun h => ?_)
  · refine (ContainsFunc_int (fun x => !p x) 146 (enters_of Tryz.func146 rfl rfl) [(1000001, 0)] [(1000001, [.fn f []])] (Cl.of rfl rfl rfl rfl rfl) l hl (fun x hx => every_int_1 p f he x (hp x hx))).callW (enters_of Tryz.func145 rfl rfl) _ [(5, 1000001)] rfl rfl rfl ?_
    rintro d rfl
    simp only [go_sem, contS_seq, simprocAttr]
    simp only [retK, resD, St.get, lk, oneD, D.pub, D.pubs, retL, reduceIte, Nat.reduceEqDiff, Nat.reduceAdd, Nat.reduceLeDiff, Tryz.results103]
    exact ⟨_, rfl, rfl, congrArg bln (by simp [every, h, List.all_eq_not_any_not])⟩
  · simp only [retK, resD, St.get, lk, oneD, D.pub, D.pubs, retL, reduceIte, Nat.reduceEqDiff, Nat.reduceAdd, Nat.reduceLeDiff, Tryz.results103]
    exact ⟨_, rfl, rfl, congrArg bln (by simp [every, h])⟩

theorem every_Listener_1 (p : AListener → Bool) (f : FuncId) (he : Enters Tryz.prog f) (x : AListener) (hp : Pure Tryz.prog f [AListener.d x] (fun d => d = bln (p x))) :
    PureB Tryz.prog 151 [AListener.d x, .ptr 1000001 0] [(1000001, [.fn f []])] (fun d => d = bln (!p x)) := by
  refine pureB_of_run follows an_zir97 Tryz.func151 rfl ok_zir97.1 ok_zir97.2 (by simp [Tryz.ntmps151]) ?_
  rw [run_start]
  simp only [ac_zir97, oo, og, tp, ci, cq, mq, lq, fi, sr, go_sem, contS_seq, simprocAttr]
  refine hp.callW he _ rfl rfl ?_
  rintro d rfl
  simp only [go_sem, contS_seq, simprocAttr]
  simp only [retK, resD, St.get, lk, oneD, D.pub, D.pubs, retL, reduceIte, Nat.reduceEqDiff, Nat.reduceAdd, Nat.reduceLeDiff, Tryz.results151]
  exact ⟨_, rfl, rfl, rfl⟩

theorem every_Listener (p : AListener → Bool) (f : FuncId) (he : Enters Tryz.prog f) (l : List AListener) (hl : l.length ≤ 1000000) (n : Int) (hp : ∀ x ∈ l, Pure Tryz.prog f [AListener.d x] (fun d => d = bln (p x))) :
    Pure Tryz.prog 110 [.pd (.slice (rows AListener.pd l)), int n, .fn f []] (fun d => d = bln (every p l n)) := by
  refine pure_of_run follows an_zpo9w Tryz.func110 rfl ok_zpo9w.1 ok_zpo9w.2 (by simp [Tryz.ntmps110]) ?_
  rw [run_start]
  simp only [ac_zpo9w, oo, og, tp, ci, cq, mq, lq, fi, sr, go_sem, contS_seq, simprocAttr, rows_len]
  refine GifP.mk (fun h => ?_) (fun h => ?_)
  · refine (ContainsFunc_Listener (fun x => !p x) 151 (enters_of Tryz.func151 rfl rfl) [(1000001, 0)] [(1000001, [.fn f []])] (Cl.of rfl rfl rfl rfl rfl) l hl (fun x hx => every_Listener_1 p f he x (hp x hx))).callW (enters_of Tryz.func150 rfl rfl) _ [(5, 1000001)] rfl rfl rfl ?_
    rintro d rfl
    simp only [go_sem, contS_seq, simprocAttr]
    simp only [retK, resD, St.get, lk, oneD, D.pub, D.pubs, retL, reduceIte, Nat.reduceEqDiff, Nat.reduceAdd, Nat.reduceLeDiff, Tryz.results110]
    exact ⟨_, rfl, rfl, congrArg bln (by simp [every, h, List.all_eq_not_any_not])⟩
  · simp only [retK, resD, St.get, lk, oneD, D.pub, D.pubs, retL, reduceIte, Nat.reduceEqDiff, Nat.reduceAdd, Nat.reduceLeDiff, Tryz.results110]
    exact ⟨_, rfl, rfl, congrArg bln (by simp [every, h])⟩

theorem every_Parent_1 (p : AParent → Bool) (f : FuncId) (he : Enters Tryz.prog f) (x : AParent) (hp : Pure Tryz.prog f [AParent.d x] (fun d => d = bln (p x))) :
    PureB Tryz.prog 160 [AParent.d x, .ptr 1000001 0] [(1000001, [.fn f []])] (fun d => d = bln (!p x)) := by
  refine pureB_of_run follows an_z31hg Tryz.func160 rfl ok_z31hg.1 ok_z31hg.2 (by simp [Tryz.ntmps160]) ?_
  rw [run_start]
  simp only [ac_z31hg, oo, og, tp, ci, cq, mq, lq, fi, sr, go_sem, contS_seq, simprocAttr]
  refine hp.callW he _ rfl rfl ?_
  rintro d rfl
  simp only [go_sem, contS_seq, simprocAttr]
  simp only [retK, resD, St.get, lk, oneD, D.pub, D.pubs, retL, reduceIte, Nat.reduceEqDiff, Nat.reduceAdd, Nat.reduceLeDiff, Tryz.results160]
  exact ⟨_, rfl, rfl, rfl⟩

theorem every_Parent (p : AParent → Bool) (f : FuncId) (he : Enters Tryz.prog f) (l : List AParent) (hl : l.length ≤ 1000000) (n : Int) (hp : ∀ x ∈ l, Pure Tryz.prog f [AParent.d x] (fun d => d = bln (p x))) :
    Pure Tryz.prog 119 [.pd (.slice (rows AParent.pd l)), int n, .fn f []] (fun d => d = bln (every p l n)) := by
  refine pure_of_run follows an_zblzf Tryz.func119 rfl ok_zblzf.1 ok_zblzf.2 (by simp [Tryz.ntmps119]) ?_
  rw [run_start]
  simp only [ac_zblzf, oo, og, tp, ci, cq, mq, lq, fi, sr, go_sem, contS_seq, simprocAttr, rows_len]
  refine GifP.mk (fun h => ?_) (fun h => ?_)
  · refine (ContainsFunc_Parent (fun x => !p x) 160 (enters_of Tryz.func160 rfl rfl) [(1000001, 0)] [(1000001, [.fn f []])] (Cl.of rfl rfl rfl rfl rfl) l hl (fun x hx => every_Parent_1 p f he x (hp x hx))).callW (enters_of Tryz.func155 rfl rfl) _ [(5, 1000001)] rfl rfl rfl ?_
    rintro d rfl
    simp only [go_sem, contS_seq, simprocAttr]
    simp only [retK, resD, St.get, lk, oneD, D.pub, D.pubs, retL, reduceIte, Nat.reduceEqDiff, Nat.reduceAdd, Nat.reduceLeDiff, Tryz.results119]
    exact ⟨_, rfl, rfl, congrArg bln (by simp [every, h, List.all_eq_not_any_not])⟩
  · simp only [retK, resD, St.get, lk, oneD, D.pub, D.pubs, retL, reduceIte, Nat.reduceEqDiff, Nat.reduceAdd, Nat.reduceLeDiff, Tryz.results119]
    exact ⟨_, rfl, rfl, congrArg bln (by simp [every, h])⟩

theorem every_string_1 (p : ByteArray → Bool) (f : FuncId) (he : Enters Tryz.prog f) (x : ByteArray) (hp : Pure Tryz.prog f [str x] (fun d => d = bln (p x))) :
    PureB Tryz.prog 161 [str x, .ptr 1000001 0] [(1000001, [.fn f []])] (fun d => d = bln (!p x)) := by
  refine pureB_of_run follows an_z1wya Tryz.func161 rfl ok_z1wya.1 ok_z1wya.2 (by simp [Tryz.ntmps161]) ?_
  rw [run_start]
  simp only [ac_z1wya, oo, og, tp, ci, cq, mq, lq, fi, sr, go_sem, contS_seq, simprocAttr]
  refine hp.callW he _ rfl rfl ?_
  rintro d rfl
  simp only [go_sem, contS_seq, simprocAttr]
  simp only [retK, resD, St.get, lk, oneD, D.pub, D.pubs, retL, reduceIte, Nat.reduceEqDiff, Nat.reduceAdd, Nat.reduceLeDiff, Tryz.results161]
  exact ⟨_, rfl, rfl, rfl⟩

theorem every_string (p : ByteArray → Bool) (f : FuncId) (he : Enters Tryz.prog f) (l : List ByteArray) (hl : l.length ≤ 1000000) (n : Int) (hp : ∀ x ∈ l, Pure Tryz.prog f [str x] (fun d => d = bln (p x))) :
    Pure Tryz.prog 121 [.pd (.slice (rows cStr l)), int n, .fn f []] (fun d => d = bln (every p l n)) := by
  refine pure_of_run follows an_zch4 Tryz.func121 rfl ok_zch4.1 ok_zch4.2 (by simp [Tryz.ntmps121]) ?_
  rw [run_start]
  simp only [ac_zch4, oo, og, tp, ci, cq, mq, lq, fi, sr, go_sem, contS_seq, simprocAttr, rows_len]
  refine GifP.mk (fun h => ?_) (fun h => ?_)
  · refine (ContainsFunc_string (fun x => !p x) 161 (enters_of Tryz.func161 rfl rfl) [(1000001, 0)] [(1000001, [.fn f []])] (Cl.of rfl rfl rfl rfl rfl) l hl (fun x hx => every_string_1 p f he x (hp x hx))).callW (enters_of Tryz.func157 rfl rfl) _ [(5, 1000001)] rfl rfl rfl ?_
    rintro d rfl
    simp only [go_sem, contS_seq, simprocAttr]
    simp only [retK, resD, St.get, lk, oneD, D.pub, D.pubs, retL, reduceIte, Nat.reduceEqDiff, Nat.reduceAdd, Nat.reduceLeDiff, Tryz.results121]
    exact ⟨_, rfl, rfl, congrArg bln (by simp [every, h, List.all_eq_not_any_not])⟩
  · simp only [retK, resD, St.get, lk, oneD, D.pub, D.pubs, retL, reduceIte, Nat.reduceEqDiff, Nat.reduceAdd, Nat.reduceLeDiff, Tryz.results121]
    exact ⟨_, rfl, rfl, congrArg bln (by simp [every, h])⟩

theorem every_Rule_1 (p : ARule → Bool) (f : FuncId) (he : Enters Tryz.prog f) (x : ARule) (hp : Pure Tryz.prog f [ARule.d x] (fun d => d = bln (p x))) :
    PureB Tryz.prog 163 [ARule.d x, .ptr 1000001 0] [(1000001, [.fn f []])] (fun d => d = bln (!p x)) := by
  refine pureB_of_run follows an_z8keb Tryz.func163 rfl ok_z8keb.1 ok_z8keb.2 (by simp [Tryz.ntmps163]) ?_
  rw [run_start]
  simp only [ac_z8keb, oo, og, tp, ci, cq, mq, lq, fi, sr, go_sem, contS_seq, simprocAttr]
  refine hp.callW he _ rfl rfl ?_
  rintro d rfl
  simp only [go_sem, contS_seq, simprocAttr]
  simp only [retK, resD, St.get, lk, oneD, D.pub, D.pubs, retL, reduceIte, Nat.reduceEqDiff, Nat.reduceAdd, Nat.reduceLeDiff, Tryz.results163]
  exact ⟨_, rfl, rfl, rfl⟩

theorem every_Rule (p : ARule → Bool) (f : FuncId) (he : Enters Tryz.prog f) (l : List ARule) (hl : l.length ≤ 1000000) (n : Int) (hp : ∀ x ∈ l, Pure Tryz.prog f [ARule.d x] (fun d => d = bln (p x))) :
    Pure Tryz.prog 122 [.pd (.slice (rows ARule.pd l)), int n, .fn f []] (fun d => d = bln (every p l n)) := by
  refine pure_of_run follows an_z2qr7 Tryz.func122 rfl ok_z2qr7.1 ok_z2qr7.2 (by simp [Tryz.ntmps122]) ?_
  rw [run_start]
  simp only [ac_z2qr7, oo, og, tp, ci, cq, mq, lq, fi, sr, go_sem, contS_seq, simprocAttr, rows_len]
  refine GifP.mk (fun h => ?_) (fun h => ?_)
  · refine (ContainsFunc_Rule (fun x => !p x) 163 (enters_of Tryz.func163 rfl rfl) [(1000001, 0)] [(1000001, [.fn f []])] (Cl.of rfl rfl rfl rfl rfl) l hl (fun x hx => every_Rule_1 p f he x (hp x hx))).callW (enters_of Tryz.func162 rfl rfl) _ [(5, 1000001)] rfl rfl rfl ?_
    rintro d rfl
    simp only [go_sem, contS_seq, simprocAttr]
    simp only [retK, resD, St.get, lk, oneD, D.pub, D.pubs, retL, reduceIte, Nat.reduceEqDiff, Nat.reduceAdd, Nat.reduceLeDiff, Tryz.results122]
    exact ⟨_, rfl, rfl, congrArg bln (by simp [every, h, List.all_eq_not_any_not])⟩
  · simp only [retK, resD, St.get, lk, oneD, D.pub, D.pubs, retL, reduceIte, Nat.reduceEqDiff, Nat.reduceAdd, Nat.reduceLeDiff, Tryz.results122]
    exact ⟨_, rfl, rfl, congrArg bln (by simp [every, h])⟩

theorem every_Side_1 (p : ASide → Bool) (f : FuncId) (he : Enters Tryz.prog f) (x : ASide) (hp : Pure Tryz.prog f [ASide.d x] (fun d => d = bln (p x))) :
    PureB Tryz.prog 172 [ASide.d x, .ptr 1000001 0] [(1000001, [.fn f []])] (fun d => d = bln (!p x)) := by
  refine pureB_of_run follows an_z7q8a Tryz.func172 rfl ok_z7q8a.1 ok_z7q8a.2 (by simp [Tryz.ntmps172]) ?_
  rw [run_start]
  simp only [ac_z7q8a, oo, og, tp, ci, cq, mq, lq, fi, sr, go_sem, contS_seq, simprocAttr]
  refine hp.callW he _ rfl rfl ?_
  rintro d rfl
  simp only [go_sem, contS_seq, simprocAttr]
  simp only [retK, resD, St.get, lk, oneD, D.pub, D.pubs, retL, reduceIte, Nat.reduceEqDiff, Nat.reduceAdd, Nat.reduceLeDiff, Tryz.results172]
  exact ⟨_, rfl, rfl, rfl⟩

theorem every_Side (p : ASide → Bool) (f : FuncId) (he : Enters Tryz.prog f) (l : List ASide) (hl : l.length ≤ 1000000) (n : Int) (hp : ∀ x ∈ l, Pure Tryz.prog f [ASide.d x] (fun d => d = bln (p x))) :
    Pure Tryz.prog 128 [.pd (.slice (rows ASide.pd l)), int n, .fn f []] (fun d => d = bln (every p l n)) := by
  refine pure_of_run follows an_zqdfu Tryz.func128 rfl ok_zqdfu.1 ok_zqdfu.2 (by simp [Tryz.ntmps128]) ?_
  rw [run_start]
  simp only [ac_zqdfu, oo, og, tp, ci, cq, mq, lq, fi, sr, go_sem, contS_seq, simprocAttr, rows_len]
  refine GifP.mk (fun h => ?_) (fun h => ?_)
  · refine (ContainsFunc_Side (fun x => !p x) 172 (enters_of Tryz.func172 rfl rfl) [(1000001, 0)] [(1000001, [.fn f []])] (Cl.of rfl rfl rfl rfl rfl) l hl (fun x hx => every_Side_1 p f he x (hp x hx))).callW (enters_of Tryz.func53 rfl rfl) _ [(5, 1000001)] rfl rfl rfl ?_
    rintro d rfl
    simp only [go_sem, contS_seq, simprocAttr]
    simp only [retK, resD, St.get, lk, oneD, D.pub, D.pubs, retL, reduceIte, Nat.reduceEqDiff, Nat.reduceAdd, Nat.reduceLeDiff, Tryz.results128]
    exact ⟨_, rfl, rfl, congrArg bln (by simp [every, h, List.all_eq_not_any_not])⟩
  · simp only [retK, resD, St.get, lk, oneD, D.pub, D.pubs, retL, reduceIte, Nat.reduceEqDiff, Nat.reduceAdd, Nat.reduceLeDiff, Tryz.results128]
    exact ⟨_, rfl, rfl, congrArg bln (by simp [every, h])⟩

theorem every_Match_1 (p : AMatch → Bool) (f : FuncId) (he : Enters Tryz.prog f) (x : AMatch) (hp : Pure Tryz.prog f [AMatch.d x] (fun d => d = bln (p x))) :
    PureB Tryz.prog 197 [AMatch.d x, .ptr 1000001 0] [(1000001, [.fn f []])] (fun d => d = bln (!p x)) := by
  refine pureB_of_run follows an_z7wca Tryz.func197 rfl ok_z7wca.1 ok_z7wca.2 (by simp [Tryz.ntmps197]) ?_
  rw [run_start]
  simp only [ac_z7wca, oo, og, tp, ci, cq, mq, lq, fi, sr, go_sem, contS_seq, simprocAttr]
  refine hp.callW he _ rfl rfl ?_
  rintro d rfl
  simp only [go_sem, contS_seq, simprocAttr]
  simp only [retK, resD, St.get, lk, oneD, D.pub, D.pubs, retL, reduceIte, Nat.reduceEqDiff, Nat.reduceAdd, Nat.reduceLeDiff, Tryz.results197]
  exact ⟨_, rfl, rfl, rfl⟩

theorem every_Match (p : AMatch → Bool) (f : FuncId) (he : Enters Tryz.prog f) (l : List AMatch) (hl : l.length ≤ 1000000) (n : Int) (hp : ∀ x ∈ l, Pure Tryz.prog f [AMatch.d x] (fun d => d = bln (p x))) :
    Pure Tryz.prog 164 [.pd (.slice (rows AMatch.pd l)), int n, .fn f []] (fun d => d = bln (every p l n)) := by
  refine pure_of_run follows an_ziqd0 Tryz.func164 rfl ok_ziqd0.1 ok_ziqd0.2 (by simp [Tryz.ntmps164]) ?_
  rw [run_start]
  simp only [ac_ziqd0, oo, og, tp, ci, cq, mq, lq, fi, sr, go_sem, contS_seq, simprocAttr, rows_len]
  refine GifP.mk (fun h => ?_) (fun h => ?_)
  · refine (ContainsFunc_Match (fun x => !p x) 197 (enters_of Tryz.func197 rfl rfl) [(1000001, 0)] [(1000001, [.fn f []])] (Cl.of rfl rfl rfl rfl rfl) l hl (fun x hx => every_Match_1 p f he x (hp x hx))).callW (enters_of Tryz.func196 rfl rfl) _ [(5, 1000001)] rfl rfl rfl ?_
    rintro d rfl
    simp only [go_sem, contS_seq, simprocAttr]
    simp only [retK, resD, St.get, lk, oneD, D.pub, D.pubs, retL, reduceIte, Nat.reduceEqDiff, Nat.reduceAdd, Nat.reduceLeDiff, Tryz.results164]
    exact ⟨_, rfl, rfl, congrArg bln (by simp [every, h, List.all_eq_not_any_not])⟩
  · simp only [retK, resD, St.get, lk, oneD, D.pub, D.pubs, retL, reduceIte, Nat.reduceEqDiff, Nat.reduceAdd, Nat.reduceLeDiff, Tryz.results164]
    exact ⟨_, rfl, rfl, congrArg bln (by simp [every, h])⟩

theorem every_Backend_1 (p : ABackend → Bool) (f : FuncId) (he : Enters Tryz.prog f) (x : ABackend) (hp : Pure Tryz.prog f [ABackend.d x] (fun d => d = bln (p x))) :
    PureB Tryz.prog 213 [ABackend.d x, .ptr 1000001 0] [(1000001, [.fn f []])] (fun d => d = bln (!p x)) := by
  refine pureB_of_run follows an_zi55u Tryz.func213 rfl ok_zi55u.1 ok_zi55u.2 (by simp [Tryz.ntmps213]) ?_
  rw [run_start]
  simp only [ac_zi55u, oo, og, tp, ci, cq, mq, lq, fi, sr, go_sem, contS_seq, simprocAttr]
  refine hp.callW he _ rfl rfl ?_
  rintro d rfl
  simp only [go_sem, contS_seq, simprocAttr]
  simp only [retK, resD, St.get, lk, oneD, D.pub, D.pubs, retL, reduceIte, Nat.reduceEqDiff, Nat.reduceAdd, Nat.reduceLeDiff, Tryz.results213]
  exact ⟨_, rfl, rfl, rfl⟩

theorem every_Backend (p : ABackend → Bool) (f : FuncId) (he : Enters Tryz.prog f) (l : List ABackend) (hl : l.length ≤ 1000000) (n : Int) (hp : ∀ x ∈ l, Pure Tryz.prog f [ABackend.d x] (fun d => d = bln (p x))) :
    Pure Tryz.prog 167 [.pd (.slice (rows ABackend.pd l)), int n, .fn f []] (fun d => d = bln (every p l n)) := by
  refine pure_of_run follows an_zb5o4 Tryz.func167 rfl ok_zb5o4.1 ok_zb5o4.2 (by simp [Tryz.ntmps167]) ?_
  rw [run_start]
  simp only [ac_zb5o4, oo, og, tp, ci, cq, mq, lq, fi, sr, go_sem, contS_seq, simprocAttr, rows_len]
  refine GifP.mk (fun h => ?_) (fun h => ?_)
  · refine (ContainsFunc_Backend (fun x => !p x) 213 (enters_of Tryz.func213 rfl rfl) [(1000001, 0)] [(1000001, [.fn f []])] (Cl.of rfl rfl rfl rfl rfl) l hl (fun x hx => every_Backend_1 p f he x (hp x hx))).callW (enters_of Tryz.func212 rfl rfl) _ [(5, 1000001)] rfl rfl rfl ?_
    rintro d rfl
    simp only [go_sem, contS_seq, simprocAttr]
    simp only [retK, resD, St.get, lk, oneD, D.pub, D.pubs, retL, reduceIte, Nat.reduceEqDiff, Nat.reduceAdd, Nat.reduceLeDiff, Tryz.results167]
    exact ⟨_, rfl, rfl, congrArg bln (by simp [every, h, List.all_eq_not_any_not])⟩
  · simp only [retK, resD, St.get, lk, oneD, D.pub, D.pubs, retL, reduceIte, Nat.reduceEqDiff, Nat.reduceAdd, Nat.reduceLeDiff, Tryz.results167]
    exact ⟨_, rfl, rfl, congrArg bln (by simp [every, h])⟩

theorem twice_int_1 (q : Int → Int → Bool) (f : FuncId) (he : Enters Tryz.prog f) (x y : Int) (hp : Pure Tryz.prog f [int x, int y] (fun d => d = bln (q x y))) :
    PureB Tryz.prog 148 [int y, .ptr 1000001 0, .ptr 1000002 0] [(1000001, [.fn f []]), (1000002, [int x])] (fun d => d = bln (q x y)) := by
  refine pureB_of_run follows an_zovpw Tryz.func148 rfl ok_zovpw.1 ok_zovpw.2 (by simp [Tryz.ntmps148]) ?_
  rw [run_start]
  simp only [ac_zovpw, oo, og, tp, ci, cq, mq, lq, fi, sr, go_sem, contS_seq, simprocAttr]
  refine hp.callW he _ rfl rfl ?_
  rintro d rfl
  simp only [go_sem, contS_seq, simprocAttr]
  simp only [retK, resD, St.get, lk, oneD, D.pub, D.pubs, retL, reduceIte, Nat.reduceEqDiff, Nat.reduceAdd, Nat.reduceLeDiff, Tryz.results148]
  exact ⟨_, rfl, rfl, rfl⟩

theorem twice_int (q : Int → Int → Bool) (f : FuncId) (he : Enters Tryz.prog f) (l : List Int) (hl : l.length ≤ 1000000) (hp : ∀ x ∈ l, ∀ y ∈ l, Pure Tryz.prog f [int x, int y] (fun d => d = bln (q x y))) :
    Pure Tryz.prog 106 [.pd (.slice (rows cInt l)), .fn f []] (fun d => d = bln (twice q l)) := by
  refine pure_of_run follows an_zb3kh Tryz.func106 rfl ok_zb3kh.1 ok_zb3kh.2 (by simp [Tryz.ntmps106]) ?_
  rw [run_start]
  simp only [ac_zb3kh, oo, og, tp, ci, cq, mq, lq, fi, sr, go_sem, contS_seq, simprocAttr, rows_len]
  refine loopS (fun k st => ∃ i : Nat, k = l.length - i ∧ i ≤ l.length ∧ twiceFrom q l k i = twice q l ∧
    st = ⟨[(0, .pd (.slice (rows cInt l))), (3, .ptr 3 0), (7, .pd (.slice (rows cInt l))), (8, int l.length), (9, int i)], [(3, [.fn f []])], [], .no⟩) l.length _ (Weak.refl _ _) ⟨0, rfl, Nat.zero_le _, rfl, rfl⟩ ?_
  rintro k st ⟨i, rfl, hi, hr, rfl⟩
  by_cases hlt : i < l.length
  · obtain ⟨x, hx⟩ := at_lt hlt
    have hlt' : ((i : Int) < (l.length : Int)) = True := eq_true (by omega)
    have hle : (i ≤ l.length) = True := eq_true (by omega)
    have hw := i64_succ (show i < 1000000000 by omega)
    have hmx := List.mem_of_getElem? hx
    obtain ⟨m, hm⟩ : ∃ m, l.length - i = m + 1 := ⟨l.length - i - 1, by omega⟩
    rw [hm, twiceFrom, hx] at hr
    have hrows : rowsOK 1 (rows cInt l) = True := rowsOK_rows (f := cInt) (n := 1) (fun _ => rfl) l
    have htk : (rows cInt l).take i = rows cInt (l.take i) := by simp [rows, List.map_take]
    simp only [go_sem, contS_seq, simprocAttr, hlt', rows_get hx, rows_len, hrows, hle, htk]
    refine (ContainsFunc_int (fun y => q x y) 148 (enters_of Tryz.func148 rfl rfl) [(1000001, 0), (1000002, 0)] [(1000001, [.fn f []]), (1000002, [int x])] (Cl.of rfl rfl rfl rfl rfl) (l.take i) (by simp; omega)
      (fun y hy => twice_int_1 q f he x y (hp x hmx y (List.mem_of_mem_take hy)))).callW (enters_of Tryz.func145 rfl rfl) _ [(3, 1000001), (6, 1000002)] rfl rfl rfl ?_
    rintro d rfl
    simp only [go_sem, contS_seq, simprocAttr, hw]
    refine Gif.mk (fun h => ?_) (fun h => ?_)
    · simp only [h, Bool.true_or] at hr
      simp only [retK, resD, St.get, lk, oneD, D.pub, D.pubs, retL, reduceIte, Nat.reduceEqDiff, Nat.reduceAdd, Nat.reduceLeDiff, Tryz.results106]
      exact ⟨_, rfl, rfl, congrArg bln hr⟩
    · simp only [h, Bool.false_or] at hr
      refine ⟨m, _, ?_, ?_, i + 1, ?_, ?_, hr, rfl⟩
      · omega
      · exact lessA
      · omega
      · omega
  · have hlt' : ((i : Int) < (l.length : Int)) = False := eq_false (by omega)
    rw [show l.length - i = 0 by omega, twiceFrom] at hr
    simp only [go_sem, contS_seq, simprocAttr, rows_len, hlt']
    simp only [retK, resD, St.get, lk, oneD, D.pub, D.pubs, retL, reduceIte, Nat.reduceEqDiff, Nat.reduceAdd, Nat.reduceLeDiff, Tryz.results106]
    exact ⟨_, rfl, rfl, congrArg bln hr⟩

theorem twice_Listener_1 (q : AListener → AListener → Bool) (f : FuncId) (he : Enters Tryz.prog f) (x y : AListener) (hp : Pure Tryz.prog f [AListener.d x, AListener.d y] (fun d => d = bln (q x y))) :
    PureB Tryz.prog 154 [AListener.d y, .ptr 1000001 0, .ptr 1000002 0] [(1000001, [.fn f []]), (1000002, AListener.ds x)] (fun d => d = bln (q x y)) := by
  refine pureB_of_run follows an_ztyjm Tryz.func154 rfl ok_ztyjm.1 ok_ztyjm.2 (by simp [Tryz.ntmps154]) ?_
  rw [run_start]
  simp only [ac_ztyjm, oo, og, tp, ci, cq, mq, lq, fi, sr, go_sem, contS_seq, simprocAttr]
  refine hp.callW he _ rfl rfl ?_
  rintro d rfl
  simp only [go_sem, contS_seq, simprocAttr]
  simp only [retK, resD, St.get, lk, oneD, D.pub, D.pubs, retL, reduceIte, Nat.reduceEqDiff, Nat.reduceAdd, Nat.reduceLeDiff, Tryz.results154]
  exact ⟨_, rfl, rfl, rfl⟩

theorem twice_Listener (q : AListener → AListener → Bool) (f : FuncId) (he : Enters Tryz.prog f) (l : List AListener) (hl : l.length ≤ 1000000) (hp : ∀ x ∈ l, ∀ y ∈ l, Pure Tryz.prog f [AListener.d x, AListener.d y] (fun d => d = bln (q x y))) :
    Pure Tryz.prog 112 [.pd (.slice (rows AListener.pd l)), .fn f []] (fun d => d = bln (twice q l)) := by
  refine pure_of_run follows an_zp700 Tryz.func112 rfl ok_zp700.1 ok_zp700.2 (by simp [Tryz.ntmps112]) ?_
  rw [run_start]
  simp only [ac_zp700, oo, og, tp, ci, cq, mq, lq, fi, sr, go_sem, contS_seq, simprocAttr, rows_len]
  refine loopS (fun k st => ∃ i : Nat, k = l.length - i ∧ i ≤ l.length ∧ twiceFrom q l k i = twice q l ∧
    st = ⟨[(0, .pd (.slice (rows AListener.pd l))), (3, .ptr 3 0), (7, .pd (.slice (rows AListener.pd l))), (8, int l.length), (9, int i)], [(3, [.fn f []])], [], .no⟩) l.length _ (Weak.refl _ _) ⟨0, rfl, Nat.zero_le _, rfl, rfl⟩ ?_
  rintro k st ⟨i, rfl, hi, hr, rfl⟩
  by_cases hlt : i < l.length
  · obtain ⟨x, hx⟩ := at_lt hlt
    have hlt' : ((i : Int) < (l.length : Int)) = True := eq_true (by omega)
    have hle : (i ≤ l.length) = True := eq_true (by omega)
    have hw := i64_succ (show i < 1000000000 by omega)
    have hmx := List.mem_of_getElem? hx
    obtain ⟨m, hm⟩ : ∃ m, l.length - i = m + 1 := ⟨l.length - i - 1, by omega⟩
    rw [hm, twiceFrom, hx] at hr
    have hrows : rowsOK 9 (rows AListener.pd l) = True := rowsOK_rows (f := AListener.pd) (n := 9) (fun _ => rfl) l
    have htk : (rows AListener.pd l).take i = rows AListener.pd (l.take i) := by simp [rows, List.map_take]
    simp only [go_sem, contS_seq, simprocAttr, hlt', rows_get hx, rows_len, hrows, hle, htk]
    refine (ContainsFunc_Listener (fun y => q x y) 154 (enters_of Tryz.func154 rfl rfl) [(1000001, 0), (1000002, 0)] [(1000001, [.fn f []]), (1000002, AListener.ds x)] (Cl.of rfl rfl rfl rfl rfl) (l.take i) (by simp; omega)
      (fun y hy => twice_Listener_1 q f he x y (hp x hmx y (List.mem_of_mem_take hy)))).callW (enters_of Tryz.func150 rfl rfl) _ [(3, 1000001), (6, 1000002)] rfl rfl rfl ?_
    rintro d rfl
    simp only [go_sem, contS_seq, simprocAttr, hw]
    refine Gif.mk (fun h => ?_) (fun h => ?_)
    · simp only [h, Bool.true_or] at hr
      simp only [retK, resD, St.get, lk, oneD, D.pub, D.pubs, retL, reduceIte, Nat.reduceEqDiff, Nat.reduceAdd, Nat.reduceLeDiff, Tryz.results112]
      exact ⟨_, rfl, rfl, congrArg bln hr⟩
    · simp only [h, Bool.false_or] at hr
      refine ⟨m, _, ?_, ?_, i + 1, ?_, ?_, hr, rfl⟩
      · omega
      · exact lessA
      · omega
      · omega
  · have hlt' : ((i : Int) < (l.length : Int)) = False := eq_false (by omega)
    rw [show l.length - i = 0 by omega, twiceFrom] at hr
    simp only [go_sem, contS_seq, simprocAttr, rows_len, hlt']
    simp only [retK, resD, St.get, lk, oneD, D.pub, D.pubs, retL, reduceIte, Nat.reduceEqDiff, Nat.reduceAdd, Nat.reduceLeDiff, Tryz.results112]
    exact ⟨_, rfl, rfl, congrArg bln hr⟩

theorem twice_Parent_1 (q : AParent → AParent → Bool) (f : FuncId) (he : Enters Tryz.prog f) (x y : AParent) (hp : Pure Tryz.prog f [AParent.d x, AParent.d y] (fun d => d = bln (q x y))) :
    PureB Tryz.prog 156 [AParent.d y, .ptr 1000001 0, .ptr 1000002 0] [(1000001, [.fn f []]), (1000002, AParent.ds x)] (fun d => d = bln (q x y)) := by
  refine pureB_of_run follows an_z6aq8 Tryz.func156 rfl ok_z6aq8.1 ok_z6aq8.2 (by simp [Tryz.ntmps156]) ?_
  rw [run_start]
  simp only [ac_z6aq8, oo, og, tp, ci, cq, mq, lq, fi, sr, go_sem, contS_seq, simprocAttr]
  refine hp.callW he _ rfl rfl ?_
  rintro d rfl
  simp only [go_sem, contS_seq, simprocAttr]
  simp only [retK, resD, St.get, lk, oneD, D.pub, D.pubs, retL, reduceIte, Nat.reduceEqDiff, Nat.reduceAdd, Nat.reduceLeDiff, Tryz.results156]
  exact ⟨_, rfl, rfl, rfl⟩

theorem twice_Parent (q : AParent → AParent → Bool) (f : FuncId) (he : Enters Tryz.prog f) (l : List AParent) (hl : l.length ≤ 1000000) (hp : ∀ x ∈ l, ∀ y ∈ l, Pure Tryz.prog f [AParent.d x, AParent.d y] (fun d => d = bln (q x y))) :
    Pure Tryz.prog 113 [.pd (.slice (rows AParent.pd l)), .fn f []] (fun d => d = bln (twice q l)) := by
  refine pure_of_run follows an_zo7vn Tryz.func113 rfl ok_zo7vn.1 ok_zo7vn.2 (by simp [Tryz.ntmps113]) ?_
  rw [run_start]
  simp only [ac_zo7vn, oo, og, tp, ci, cq, mq, lq, fi, sr, go_sem, contS_seq, simprocAttr, rows_len]
  refine loopS (fun k st => ∃ i : Nat, k = l.length - i ∧ i ≤ l.length ∧ twiceFrom q l k i = twice q l ∧
    st = ⟨[(0, .pd (.slice (rows AParent.pd l))), (3, .ptr 3 0), (7, .pd (.slice (rows AParent.pd l))), (8, int l.length), (9, int i)], [(3, [.fn f []])], [], .no⟩) l.length _ (Weak.refl _ _) ⟨0, rfl, Nat.zero_le _, rfl, rfl⟩ ?_
  rintro k st ⟨i, rfl, hi, hr, rfl⟩
  by_cases hlt : i < l.length
  · obtain ⟨x, hx⟩ := at_lt hlt
    have hlt' : ((i : Int) < (l.length : Int)) = True := eq_true (by omega)
    have hle : (i ≤ l.length) = True := eq_true (by omega)
    have hw := i64_succ (show i < 1000000000 by omega)
    have hmx := List.mem_of_getElem? hx
    obtain ⟨m, hm⟩ : ∃ m, l.length - i = m + 1 := ⟨l.length - i - 1, by omega⟩
    rw [hm, twiceFrom, hx] at hr
    have hrows : rowsOK 4 (rows AParent.pd l) = True := rowsOK_rows (f := AParent.pd) (n := 4) (fun _ => rfl) l
    have htk : (rows AParent.pd l).take i = rows AParent.pd (l.take i) := by simp [rows, List.map_take]
    simp only [go_sem, contS_seq, simprocAttr, hlt', rows_get hx, rows_len, hrows, hle, htk]
    refine (ContainsFunc_Parent (fun y => q x y) 156 (enters_of Tryz.func156 rfl rfl) [(1000001, 0), (1000002, 0)] [(1000001, [.fn f []]), (1000002, AParent.ds x)] (Cl.of rfl rfl rfl rfl rfl) (l.take i) (by simp; omega)
      (fun y hy => twice_Parent_1 q f he x y (hp x hmx y (List.mem_of_mem_take hy)))).callW (enters_of Tryz.func155 rfl rfl) _ [(3, 1000001), (6, 1000002)] rfl rfl rfl ?_
    rintro d rfl
    simp only [go_sem, contS_seq, simprocAttr, hw]
    refine Gif.mk (fun h => ?_) (fun h => ?_)
    · simp only [h, Bool.true_or] at hr
      simp only [retK, resD, St.get, lk, oneD, D.pub, D.pubs, retL, reduceIte, Nat.reduceEqDiff, Nat.reduceAdd, Nat.reduceLeDiff, Tryz.results113]
      exact ⟨_, rfl, rfl, congrArg bln hr⟩
    · simp only [h, Bool.false_or] at hr
      refine ⟨m, _, ?_, ?_, i + 1, ?_, ?_, hr, rfl⟩
      · omega
      · exact lessA
      · omega
      · omega
  · have hlt' : ((i : Int) < (l.length : Int)) = False := eq_false (by omega)
    rw [show l.length - i = 0 by omega, twiceFrom] at hr
    simp only [go_sem, contS_seq, simprocAttr, rows_len, hlt']
    simp only [retK, resD, St.get, lk, oneD, D.pub, D.pubs, retL, reduceIte, Nat.reduceEqDiff, Nat.reduceAdd, Nat.reduceLeDiff, Tryz.results113]
    exact ⟨_, rfl, rfl, congrArg bln hr⟩

theorem twice_string_1 (q : ByteArray → ByteArray → Bool) (f : FuncId) (he : Enters Tryz.prog f) (x y : ByteArray) (hp : Pure Tryz.prog f [str x, str y] (fun d => d = bln (q x y))) :
    PureB Tryz.prog 158 [str y, .ptr 1000001 0, .ptr 1000002 0] [(1000001, [.fn f []]), (1000002, [str x])] (fun d => d = bln (q x y)) := by
  refine pureB_of_run follows an_zwcip Tryz.func158 rfl ok_zwcip.1 ok_zwcip.2 (by simp [Tryz.ntmps158]) ?_
  rw [run_start]
  simp only [ac_zwcip, oo, og, tp, ci, cq, mq, lq, fi, sr, go_sem, contS_seq, simprocAttr]
  refine hp.callW he _ rfl rfl ?_
  rintro d rfl
  simp only [go_sem, contS_seq, simprocAttr]
  simp only [retK, resD, St.get, lk, oneD, D.pub, D.pubs, retL, reduceIte, Nat.reduceEqDiff, Nat.reduceAdd, Nat.reduceLeDiff, Tryz.results158]
  exact ⟨_, rfl, rfl, rfl⟩

theorem twice_string (q : ByteArray → ByteArray → Bool) (f : FuncId) (he : Enters Tryz.prog f) (l : List ByteArray) (hl : l.length ≤ 1000000) (hp : ∀ x ∈ l, ∀ y ∈ l, Pure Tryz.prog f [str x, str y] (fun d => d = bln (q x y))) :
    Pure Tryz.prog 115 [.pd (.slice (rows cStr l)), .fn f []] (fun d => d = bln (twice q l)) := by
  refine pure_of_run follows an_zogir Tryz.func115 rfl ok_zogir.1 ok_zogir.2 (by simp [Tryz.ntmps115]) ?_
  rw [run_start]
  simp only [ac_zogir, oo, og, tp, ci, cq, mq, lq, fi, sr, go_sem, contS_seq, simprocAttr, rows_len]
  refine loopS (fun k st => ∃ i : Nat, k = l.length - i ∧ i ≤ l.length ∧ twiceFrom q l k i = twice q l ∧
    st = ⟨[(0, .pd (.slice (rows cStr l))), (3, .ptr 3 0), (7, .pd (.slice (rows cStr l))), (8, int l.length), (9, int i)], [(3, [.fn f []])], [], .no⟩) l.length _ (Weak.refl _ _) ⟨0, rfl, Nat.zero_le _, rfl, rfl⟩ ?_
  rintro k st ⟨i, rfl, hi, hr, rfl⟩
  by_cases hlt : i < l.length
  · obtain ⟨x, hx⟩ := at_lt hlt
    have hlt' : ((i : Int) < (l.length : Int)) = True := eq_true (by omega)
    have hle : (i ≤ l.length) = True := eq_true (by omega)
    have hw := i64_succ (show i < 1000000000 by omega)
    have hmx := List.mem_of_getElem? hx
    obtain ⟨m, hm⟩ : ∃ m, l.length - i = m + 1 := ⟨l.length - i - 1, by omega⟩
    rw [hm, twiceFrom, hx] at hr
    have hrows : rowsOK 1 (rows cStr l) = True := rowsOK_rows (f := cStr) (n := 1) (fun _ => rfl) l
    have htk : (rows cStr l).take i = rows cStr (l.take i) := by simp [rows, List.map_take]
    simp only [go_sem, contS_seq, simprocAttr, hlt', rows_get hx, rows_len, hrows, hle, htk]
    refine (ContainsFunc_string (fun y => q x y) 158 (enters_of Tryz.func158 rfl rfl) [(1000001, 0), (1000002, 0)] [(1000001, [.fn f []]), (1000002, [str x])] (Cl.of rfl rfl rfl rfl rfl) (l.take i) (by simp; omega)
      (fun y hy => twice_string_1 q f he x y (hp x hmx y (List.mem_of_mem_take hy)))).callW (enters_of Tryz.func157 rfl rfl) _ [(3, 1000001), (6, 1000002)] rfl rfl rfl ?_
    rintro d rfl
    simp only [go_sem, contS_seq, simprocAttr, hw]
    refine Gif.mk (fun h => ?_) (fun h => ?_)
    · simp only [h, Bool.true_or] at hr
      simp only [retK, resD, St.get, lk, oneD, D.pub, D.pubs, retL, reduceIte, Nat.reduceEqDiff, Nat.reduceAdd, Nat.reduceLeDiff, Tryz.results115]
      exact ⟨_, rfl, rfl, congrArg bln hr⟩
    · simp only [h, Bool.false_or] at hr
      refine ⟨m, _, ?_, ?_, i + 1, ?_, ?_, hr, rfl⟩
      · omega
      · exact lessA
      · omega
      · omega
  · have hlt' : ((i : Int) < (l.length : Int)) = False := eq_false (by omega)
    rw [show l.length - i = 0 by omega, twiceFrom] at hr
    simp only [go_sem, contS_seq, simprocAttr, rows_len, hlt']
    simp only [retK, resD, St.get, lk, oneD, D.pub, D.pubs, retL, reduceIte, Nat.reduceEqDiff, Nat.reduceAdd, Nat.reduceLeDiff, Tryz.results115]
    exact ⟨_, rfl, rfl, congrArg bln hr⟩


theorem Equal_Pair (l m : List APair) (hl : l.length ≤ 1000000) (hm : m.length ≤ 1000000) :
    Pure Tryz.prog 129 [.pd (.slice (rows APair.pd l)), .pd (.slice (rows APair.pd m))] (fun d => d = bln (decide (l = m))) := by
  refine pure_of_run follows an_zfsc3 Tryz.func129 rfl ok_zfsc3.1 ok_zfsc3.2 (by simp [Tryz.ntmps129]) ?_
  rw [run_start]
  simp only [ac_zfsc3, oo, og, tp, ci, cq, mq, lq, fi, sr, go_sem, contS_seq, simprocAttr, go_sem, rows_len]
  refine GifP.mk (fun hn => ?_) (fun hn => ?_)
  rotate_left
  · simp only [retK, resD, St.get, lk, oneD, D.pub, D.pubs, retL, reduceIte, Nat.reduceEqDiff, Nat.reduceAdd, Nat.reduceLeDiff, Tryz.results129]
    exact ⟨_, rfl, rfl, congrArg bln (decide_eq_false (fun h => hn (by rw [h]))).symm⟩
  have hlm : l.length = m.length := by omega
  refine loopS (fun k st => ∃ i : Nat, k = l.length - i ∧ i ≤ l.length ∧ decide (l.drop i = m.drop i) = decide (l = m) ∧
    st = ⟨[(0, .pd (.slice (rows APair.pd l))), (1, .pd (.slice (rows APair.pd m))), (12, int l.length), (13, int i)], [], [], .no⟩) l.length _ (Weak.refl _ _) ⟨0, rfl, Nat.zero_le _, rfl, rfl⟩ ?_
  rintro k st ⟨i, rfl, hi, hr, rfl⟩
  by_cases hlt : i < l.length
  · obtain ⟨x, hx⟩ := at_lt hlt
    obtain ⟨y, hy⟩ := at_lt (show i < m.length by omega)
    have hlt' : ((i : Int) < (l.length : Int)) = True := eq_true (by omega)
    have hw := i64_succ (show i < 1000000000 by omega)
    rw [drop_at hx, drop_at hy] at hr
    simp only [go_sem, contS_seq, simprocAttr, go_sem, hlt', rows_get hx, rows_get hy, eqVs, eqV, eq_Pair, hw]
    refine GifP.mk (fun h => ?_) (fun h => ?_)
    · subst h
      simp only [List.cons.injEq, true_and] at hr
      refine ⟨l.length - (i + 1), _, ?_, ?_, i + 1, rfl, ?_, hr, rfl⟩
      · omega
      · exact lessA
      · omega
    · simp only [retK, resD, St.get, lk, oneD, D.pub, D.pubs, retL, reduceIte, Nat.reduceEqDiff, Nat.reduceAdd, Nat.reduceLeDiff, Tryz.results129]
      rw [decide_eq_false (fun e => h (List.cons.inj e).1)] at hr
      exact ⟨_, rfl, rfl, congrArg bln hr⟩
  · have hlt' : ((i : Int) < (l.length : Int)) = False := eq_false (by omega)
    rw [List.drop_eq_nil_of_le (by omega), List.drop_eq_nil_of_le (by omega)] at hr
    simp only [go_sem, contS_seq, simprocAttr, go_sem, rows_len, hlt']
    simp only [retK, resD, St.get, lk, oneD, D.pub, D.pubs, retL, reduceIte, Nat.reduceEqDiff, Nat.reduceAdd, Nat.reduceLeDiff, Tryz.results129]
    exact ⟨_, rfl, rfl, congrArg bln (by simpa using hr)⟩

theorem Equal_int (l m : List Int) (hl : l.length ≤ 1000000) (hm : m.length ≤ 1000000) :
    Pure Tryz.prog 130 [.pd (.slice (rows cInt l)), .pd (.slice (rows cInt m))] (fun d => d = bln (decide (l = m))) := by
  refine pure_of_run follows an_zu266 Tryz.func130 rfl ok_zu266.1 ok_zu266.2 (by simp [Tryz.ntmps130]) ?_
  rw [run_start]
  simp only [ac_zu266, oo, og, tp, ci, cq, mq, lq, fi, sr, go_sem, contS_seq, simprocAttr, go_sem, rows_len]
  refine GifP.mk (fun hn => ?_) (fun hn => ?_)
  rotate_left
  · simp only [retK, resD, St.get, lk, oneD, D.pub, D.pubs, retL, reduceIte, Nat.reduceEqDiff, Nat.reduceAdd, Nat.reduceLeDiff, Tryz.results130]
    exact ⟨_, rfl, rfl, congrArg bln (decide_eq_false (fun h => hn (by rw [h]))).symm⟩
  have hlm : l.length = m.length := by omega
  refine loopS (fun k st => ∃ i : Nat, k = l.length - i ∧ i ≤ l.length ∧ decide (l.drop i = m.drop i) = decide (l = m) ∧
    st = ⟨[(0, .pd (.slice (rows cInt l))), (1, .pd (.slice (rows cInt m))), (12, int l.length), (13, int i)], [], [], .no⟩) l.length _ (Weak.refl _ _) ⟨0, rfl, Nat.zero_le _, rfl, rfl⟩ ?_
  rintro k st ⟨i, rfl, hi, hr, rfl⟩
  by_cases hlt : i < l.length
  · obtain ⟨x, hx⟩ := at_lt hlt
    obtain ⟨y, hy⟩ := at_lt (show i < m.length by omega)
    have hlt' : ((i : Int) < (l.length : Int)) = True := eq_true (by omega)
    have hw := i64_succ (show i < 1000000000 by omega)
    rw [drop_at hx, drop_at hy] at hr
    simp only [go_sem, contS_seq, simprocAttr, go_sem, hlt', rows_get hx, rows_get hy, eqVs, eqV, eq_int, hw]
    refine GifP.mk (fun h => ?_) (fun h => ?_)
    · subst h
      simp only [List.cons.injEq, true_and] at hr
      refine ⟨l.length - (i + 1), _, ?_, ?_, i + 1, rfl, ?_, hr, rfl⟩
      · omega
      · exact lessA
      · omega
    · simp only [retK, resD, St.get, lk, oneD, D.pub, D.pubs, retL, reduceIte, Nat.reduceEqDiff, Nat.reduceAdd, Nat.reduceLeDiff, Tryz.results130]
      rw [decide_eq_false (fun e => h (List.cons.inj e).1)] at hr
      exact ⟨_, rfl, rfl, congrArg bln hr⟩
  · have hlt' : ((i : Int) < (l.length : Int)) = False := eq_false (by omega)
    rw [List.drop_eq_nil_of_le (by omega), List.drop_eq_nil_of_le (by omega)] at hr
    simp only [go_sem, contS_seq, simprocAttr, go_sem, rows_len, hlt']
    simp only [retK, resD, St.get, lk, oneD, D.pub, D.pubs, retL, reduceIte, Nat.reduceEqDiff, Nat.reduceAdd, Nat.reduceLeDiff, Tryz.results130]
    exact ⟨_, rfl, rfl, congrArg bln (by simpa using hr)⟩

theorem Equal_string (l m : List ByteArray) (hl : l.length ≤ 1000000) (hm : m.length ≤ 1000000) :
    Pure Tryz.prog 131 [.pd (.slice (rows cStr l)), .pd (.slice (rows cStr m))] (fun d => d = bln (decide (l = m))) := by
  refine pure_of_run follows an_zdvt9 Tryz.func131 rfl ok_zdvt9.1 ok_zdvt9.2 (by simp [Tryz.ntmps131]) ?_
  rw [run_start]
  simp only [ac_zdvt9, oo, og, tp, ci, cq, mq, lq, fi, sr, go_sem, contS_seq, simprocAttr, go_sem, rows_len]
  refine GifP.mk (fun hn => ?_) (fun hn => ?_)
  rotate_left
  · simp only [retK, resD, St.get, lk, oneD, D.pub, D.pubs, retL, reduceIte, Nat.reduceEqDiff, Nat.reduceAdd, Nat.reduceLeDiff, Tryz.results131]
    exact ⟨_, rfl, rfl, congrArg bln (decide_eq_false (fun h => hn (by rw [h]))).symm⟩
  have hlm : l.length = m.length := by omega
  refine loopS (fun k st => ∃ i : Nat, k = l.length - i ∧ i ≤ l.length ∧ decide (l.drop i = m.drop i) = decide (l = m) ∧
    st = ⟨[(0, .pd (.slice (rows cStr l))), (1, .pd (.slice (rows cStr m))), (12, int l.length), (13, int i)], [], [], .no⟩) l.length _ (Weak.refl _ _) ⟨0, rfl, Nat.zero_le _, rfl, rfl⟩ ?_
  rintro k st ⟨i, rfl, hi, hr, rfl⟩
  by_cases hlt : i < l.length
  · obtain ⟨x, hx⟩ := at_lt hlt
    obtain ⟨y, hy⟩ := at_lt (show i < m.length by omega)
    have hlt' : ((i : Int) < (l.length : Int)) = True := eq_true (by omega)
    have hw := i64_succ (show i < 1000000000 by omega)
    rw [drop_at hx, drop_at hy] at hr
    simp only [go_sem, contS_seq, simprocAttr, go_sem, hlt', rows_get hx, rows_get hy, eqVs, eqV, eq_string, hw]
    refine GifP.mk (fun h => ?_) (fun h => ?_)
    · subst h
      simp only [List.cons.injEq, true_and] at hr
      refine ⟨l.length - (i + 1), _, ?_, ?_, i + 1, rfl, ?_, hr, rfl⟩
      · omega
      · exact lessA
      · omega
    · simp only [retK, resD, St.get, lk, oneD, D.pub, D.pubs, retL, reduceIte, Nat.reduceEqDiff, Nat.reduceAdd, Nat.reduceLeDiff, Tryz.results131]
      rw [decide_eq_false (fun e => h (List.cons.inj e).1)] at hr
      exact ⟨_, rfl, rfl, congrArg bln hr⟩
  · have hlt' : ((i : Int) < (l.length : Int)) = False := eq_false (by omega)
    rw [List.drop_eq_nil_of_le (by omega), List.drop_eq_nil_of_le (by omega)] at hr
    simp only [go_sem, contS_seq, simprocAttr, go_sem, rows_len, hlt']
    simp only [retK, resD, St.get, lk, oneD, D.pub, D.pubs, retL, reduceIte, Nat.reduceEqDiff, Nat.reduceAdd, Nat.reduceLeDiff, Tryz.results131]
    exact ⟨_, rfl, rfl, congrArg bln (by simpa using hr)⟩

theorem Equal_Parent (l m : List AParent) (hl : l.length ≤ 1000000) (hm : m.length ≤ 1000000) :
    Pure Tryz.prog 132 [.pd (.slice (rows AParent.pd l)), .pd (.slice (rows AParent.pd m))] (fun d => d = bln (decide (l = m))) := by
  refine pure_of_run follows an_zj0mp Tryz.func132 rfl ok_zj0mp.1 ok_zj0mp.2 (by simp [Tryz.ntmps132]) ?_
  rw [run_start]
  simp only [ac_zj0mp, oo, og, tp, ci, cq, mq, lq, fi, sr, go_sem, contS_seq, simprocAttr, go_sem, rows_len]
  refine GifP.mk (fun hn => ?_) (fun hn => ?_)
  rotate_left
  · simp only [retK, resD, St.get, lk, oneD, D.pub, D.pubs, retL, reduceIte, Nat.reduceEqDiff, Nat.reduceAdd, Nat.reduceLeDiff, Tryz.results132]
    exact ⟨_, rfl, rfl, congrArg bln (decide_eq_false (fun h => hn (by rw [h]))).symm⟩
  have hlm : l.length = m.length := by omega
  refine loopS (fun k st => ∃ i : Nat, k = l.length - i ∧ i ≤ l.length ∧ decide (l.drop i = m.drop i) = decide (l = m) ∧
    st = ⟨[(0, .pd (.slice (rows AParent.pd l))), (1, .pd (.slice (rows AParent.pd m))), (12, int l.length), (13, int i)], [], [], .no⟩) l.length _ (Weak.refl _ _) ⟨0, rfl, Nat.zero_le _, rfl, rfl⟩ ?_
  rintro k st ⟨i, rfl, hi, hr, rfl⟩
  by_cases hlt : i < l.length
  · obtain ⟨x, hx⟩ := at_lt hlt
    obtain ⟨y, hy⟩ := at_lt (show i < m.length by omega)
    have hlt' : ((i : Int) < (l.length : Int)) = True := eq_true (by omega)
    have hw := i64_succ (show i < 1000000000 by omega)
    rw [drop_at hx, drop_at hy] at hr
    simp only [go_sem, contS_seq, simprocAttr, go_sem, hlt', rows_get hx, rows_get hy, eqVs, eqV, eq_Parent, hw]
    refine GifP.mk (fun h => ?_) (fun h => ?_)
    · subst h
      simp only [List.cons.injEq, true_and] at hr
      refine ⟨l.length - (i + 1), _, ?_, ?_, i + 1, rfl, ?_, hr, rfl⟩
      · omega
      · exact lessA
      · omega
    · simp only [retK, resD, St.get, lk, oneD, D.pub, D.pubs, retL, reduceIte, Nat.reduceEqDiff, Nat.reduceAdd, Nat.reduceLeDiff, Tryz.results132]
      rw [decide_eq_false (fun e => h (List.cons.inj e).1)] at hr
      exact ⟨_, rfl, rfl, congrArg bln hr⟩
  · have hlt' : ((i : Int) < (l.length : Int)) = False := eq_false (by omega)
    rw [List.drop_eq_nil_of_le (by omega), List.drop_eq_nil_of_le (by omega)] at hr
    simp only [go_sem, contS_seq, simprocAttr, go_sem, rows_len, hlt']
    simp only [retK, resD, St.get, lk, oneD, D.pub, D.pubs, retL, reduceIte, Nat.reduceEqDiff, Nat.reduceAdd, Nat.reduceLeDiff, Tryz.results132]
    exact ⟨_, rfl, rfl, congrArg bln (by simpa using hr)⟩

theorem Equal_Side (l m : List ASide) (hl : l.length ≤ 1000000) (hm : m.length ≤ 1000000) :
    Pure Tryz.prog 133 [.pd (.slice (rows ASide.pd l)), .pd (.slice (rows ASide.pd m))] (fun d => d = bln (decide (l = m))) := by
  refine pure_of_run follows an_zlr2h Tryz.func133 rfl ok_zlr2h.1 ok_zlr2h.2 (by simp [Tryz.ntmps133]) ?_
  rw [run_start]
  simp only [ac_zlr2h, oo, og, tp, ci, cq, mq, lq, fi, sr, go_sem, contS_seq, simprocAttr, go_sem, rows_len]
  refine GifP.mk (fun hn => ?_) (fun hn => ?_)
  rotate_left
  · simp only [retK, resD, St.get, lk, oneD, D.pub, D.pubs, retL, reduceIte, Nat.reduceEqDiff, Nat.reduceAdd, Nat.reduceLeDiff, Tryz.results133]
    exact ⟨_, rfl, rfl, congrArg bln (decide_eq_false (fun h => hn (by rw [h]))).symm⟩
  have hlm : l.length = m.length := by omega
  refine loopS (fun k st => ∃ i : Nat, k = l.length - i ∧ i ≤ l.length ∧ decide (l.drop i = m.drop i) = decide (l = m) ∧
    st = ⟨[(0, .pd (.slice (rows ASide.pd l))), (1, .pd (.slice (rows ASide.pd m))), (12, int l.length), (13, int i)], [], [], .no⟩) l.length _ (Weak.refl _ _) ⟨0, rfl, Nat.zero_le _, rfl, rfl⟩ ?_
  rintro k st ⟨i, rfl, hi, hr, rfl⟩
  by_cases hlt : i < l.length
  · obtain ⟨x, hx⟩ := at_lt hlt
    obtain ⟨y, hy⟩ := at_lt (show i < m.length by omega)
    have hlt' : ((i : Int) < (l.length : Int)) = True := eq_true (by omega)
    have hw := i64_succ (show i < 1000000000 by omega)
    rw [drop_at hx, drop_at hy] at hr
    simp only [go_sem, contS_seq, simprocAttr, go_sem, hlt', rows_get hx, rows_get hy, eqVs, eqV, eq_Side, hw]
    refine GifP.mk (fun h => ?_) (fun h => ?_)
    · subst h
      simp only [List.cons.injEq, true_and] at hr
      refine ⟨l.length - (i + 1), _, ?_, ?_, i + 1, rfl, ?_, hr, rfl⟩
      · omega
      · exact lessA
      · omega
    · simp only [retK, resD, St.get, lk, oneD, D.pub, D.pubs, retL, reduceIte, Nat.reduceEqDiff, Nat.reduceAdd, Nat.reduceLeDiff, Tryz.results133]
      rw [decide_eq_false (fun e => h (List.cons.inj e).1)] at hr
      exact ⟨_, rfl, rfl, congrArg bln hr⟩
  · have hlt' : ((i : Int) < (l.length : Int)) = False := eq_false (by omega)
    rw [List.drop_eq_nil_of_le (by omega), List.drop_eq_nil_of_le (by omega)] at hr
    simp only [go_sem, contS_seq, simprocAttr, go_sem, rows_len, hlt']
    simp only [retK, resD, St.get, lk, oneD, D.pub, D.pubs, retL, reduceIte, Nat.reduceEqDiff, Nat.reduceAdd, Nat.reduceLeDiff, Tryz.results133]
    exact ⟨_, rfl, rfl, congrArg bln (by simpa using hr)⟩

theorem Equal_Filter (l m : List AFilter) (hl : l.length ≤ 1000000) (hm : m.length ≤ 1000000) :
    Pure Tryz.prog 176 [.pd (.slice (rows AFilter.pd l)), .pd (.slice (rows AFilter.pd m))] (fun d => d = bln (decide (l = m))) := by
  refine pure_of_run follows an_z7uuy Tryz.func176 rfl ok_z7uuy.1 ok_z7uuy.2 (by simp [Tryz.ntmps176]) ?_
  rw [run_start]
  simp only [ac_z7uuy, oo, og, tp, ci, cq, mq, lq, fi, sr, go_sem, contS_seq, simprocAttr, go_sem, rows_len]
  refine GifP.mk (fun hn => ?_) (fun hn => ?_)
  rotate_left
  · simp only [retK, resD, St.get, lk, oneD, D.pub, D.pubs, retL, reduceIte, Nat.reduceEqDiff, Nat.reduceAdd, Nat.reduceLeDiff, Tryz.results176]
    exact ⟨_, rfl, rfl, congrArg bln (decide_eq_false (fun h => hn (by rw [h]))).symm⟩
  have hlm : l.length = m.length := by omega
  refine loopS (fun k st => ∃ i : Nat, k = l.length - i ∧ i ≤ l.length ∧ decide (l.drop i = m.drop i) = decide (l = m) ∧
    st = ⟨[(0, .pd (.slice (rows AFilter.pd l))), (1, .pd (.slice (rows AFilter.pd m))), (12, int l.length), (13, int i)], [], [], .no⟩) l.length _ (Weak.refl _ _) ⟨0, rfl, Nat.zero_le _, rfl, rfl⟩ ?_
  rintro k st ⟨i, rfl, hi, hr, rfl⟩
  by_cases hlt : i < l.length
  · obtain ⟨x, hx⟩ := at_lt hlt
    obtain ⟨y, hy⟩ := at_lt (show i < m.length by omega)
    have hlt' : ((i : Int) < (l.length : Int)) = True := eq_true (by omega)
    have hw := i64_succ (show i < 1000000000 by omega)
    rw [drop_at hx, drop_at hy] at hr
    simp only [go_sem, contS_seq, simprocAttr, go_sem, hlt', rows_get hx, rows_get hy, eqVs, eqV, eq_Filter, hw]
    refine GifP.mk (fun h => ?_) (fun h => ?_)
    · subst h
      simp only [List.cons.injEq, true_and] at hr
      refine ⟨l.length - (i + 1), _, ?_, ?_, i + 1, rfl, ?_, hr, rfl⟩
      · omega
      · exact lessA
      · omega
    · simp only [retK, resD, St.get, lk, oneD, D.pub, D.pubs, retL, reduceIte, Nat.reduceEqDiff, Nat.reduceAdd, Nat.reduceLeDiff, Tryz.results176]
      rw [decide_eq_false (fun e => h (List.cons.inj e).1)] at hr
      exact ⟨_, rfl, rfl, congrArg bln hr⟩
  · have hlt' : ((i : Int) < (l.length : Int)) = False := eq_false (by omega)
    rw [List.drop_eq_nil_of_le (by omega), List.drop_eq_nil_of_le (by omega)] at hr
    simp only [go_sem, contS_seq, simprocAttr, go_sem, rows_len, hlt']
    simp only [retK, resD, St.get, lk, oneD, D.pub, D.pubs, retL, reduceIte, Nat.reduceEqDiff, Nat.reduceAdd, Nat.reduceLeDiff, Tryz.results176]
    exact ⟨_, rfl, rfl, congrArg bln (by simpa using hr)⟩

theorem Equal_Backend (l m : List ABackend) (hl : l.length ≤ 1000000) (hm : m.length ≤ 1000000) :
    Pure Tryz.prog 177 [.pd (.slice (rows ABackend.pd l)), .pd (.slice (rows ABackend.pd m))] (fun d => d = bln (decide (l = m))) := by
  refine pure_of_run follows an_ztr0f Tryz.func177 rfl ok_ztr0f.1 ok_ztr0f.2 (by simp [Tryz.ntmps177]) ?_
  rw [run_start]
  simp only [ac_ztr0f, oo, og, tp, ci, cq, mq, lq, fi, sr, go_sem, contS_seq, simprocAttr, go_sem, rows_len]
  refine GifP.mk (fun hn => ?_) (fun hn => ?_)
  rotate_left
  · simp only [retK, resD, St.get, lk, oneD, D.pub, D.pubs, retL, reduceIte, Nat.reduceEqDiff, Nat.reduceAdd, Nat.reduceLeDiff, Tryz.results177]
    exact ⟨_, rfl, rfl, congrArg bln (decide_eq_false (fun h => hn (by rw [h]))).symm⟩
  have hlm : l.length = m.length := by omega
  refine loopS (fun k st => ∃ i : Nat, k = l.length - i ∧ i ≤ l.length ∧ decide (l.drop i = m.drop i) = decide (l = m) ∧
    st = ⟨[(0, .pd (.slice (rows ABackend.pd l))), (1, .pd (.slice (rows ABackend.pd m))), (12, int l.length), (13, int i)], [], [], .no⟩) l.length _ (Weak.refl _ _) ⟨0, rfl, Nat.zero_le _, rfl, rfl⟩ ?_
  rintro k st ⟨i, rfl, hi, hr, rfl⟩
  by_cases hlt : i < l.length
  · obtain ⟨x, hx⟩ := at_lt hlt
    obtain ⟨y, hy⟩ := at_lt (show i < m.length by omega)
    have hlt' : ((i : Int) < (l.length : Int)) = True := eq_true (by omega)
    have hw := i64_succ (show i < 1000000000 by omega)
    rw [drop_at hx, drop_at hy] at hr
    simp only [go_sem, contS_seq, simprocAttr, go_sem, hlt', rows_get hx, rows_get hy, eqVs, eqV, eq_Backend, hw]
    refine GifP.mk (fun h => ?_) (fun h => ?_)
    · subst h
      simp only [List.cons.injEq, true_and] at hr
      refine ⟨l.length - (i + 1), _, ?_, ?_, i + 1, rfl, ?_, hr, rfl⟩
      · omega
      · exact lessA
      · omega
    · simp only [retK, resD, St.get, lk, oneD, D.pub, D.pubs, retL, reduceIte, Nat.reduceEqDiff, Nat.reduceAdd, Nat.reduceLeDiff, Tryz.results177]
      rw [decide_eq_false (fun e => h (List.cons.inj e).1)] at hr
      exact ⟨_, rfl, rfl, congrArg bln hr⟩
  · have hlt' : ((i : Int) < (l.length : Int)) = False := eq_false (by omega)
    rw [List.drop_eq_nil_of_le (by omega), List.drop_eq_nil_of_le (by omega)] at hr
    simp only [go_sem, contS_seq, simprocAttr, go_sem, rows_len, hlt']
    simp only [retK, resD, St.get, lk, oneD, D.pub, D.pubs, retL, reduceIte, Nat.reduceEqDiff, Nat.reduceAdd, Nat.reduceLeDiff, Tryz.results177]
    exact ⟨_, rfl, rfl, congrArg bln (by simpa using hr)⟩

theorem EqualFunc_Listener (q : AListener → AListener → Bool) (f : FuncId) (he : Enters Tryz.prog f) (l m : List AListener) (hl : l.length ≤ 1000000) (hm : m.length ≤ 1000000) (hp : ∀ x ∈ l, ∀ y ∈ m, Pure Tryz.prog f [AListener.d x, AListener.d y] (fun d => d = bln (q x y))) :
    Pure Tryz.prog 134 [.pd (.slice (rows AListener.pd l)), .pd (.slice (rows AListener.pd m)), .fn f []] (fun d => d = bln (eqf q l m)) := by
  refine pure_of_run follows an_zuyoe Tryz.func134 rfl ok_zuyoe.1 ok_zuyoe.2 (by simp [Tryz.ntmps134]) ?_
  rw [run_start]
  simp only [ac_zuyoe, oo, og, tp, ci, cq, mq, lq, fi, sr, go_sem, contS_seq, simprocAttr, rows_len]
  refine GifP.mk (fun hn => ?_) (fun hn => ?_)
  rotate_left
  · simp only [retK, resD, St.get, lk, oneD, D.pub, D.pubs, retL, reduceIte, Nat.reduceEqDiff, Nat.reduceAdd, Nat.reduceLeDiff, Tryz.results134]
    exact ⟨_, rfl, rfl, congrArg bln (eqf_len q (by omega)).symm⟩
  have hlm : l.length = m.length := by omega
  refine loopS (fun k st => ∃ i : Nat, k = l.length - i ∧ i ≤ l.length ∧ eqf q (l.drop i) (m.drop i) = eqf q l m ∧
    st = ⟨[(1, .pd (.slice (rows AListener.pd m))), (2, .fn f []), (15, .pd (.slice (rows AListener.pd l))), (16, int l.length), (17, int i)], [], [], .no⟩) l.length _ (Weak.refl _ _) ⟨0, rfl, Nat.zero_le _, rfl, rfl⟩ ?_
  rintro k st ⟨i, rfl, hi, hr, rfl⟩
  by_cases hlt : i < l.length
  · obtain ⟨x, hx⟩ := at_lt hlt
    obtain ⟨y, hy⟩ := at_lt (show i < m.length by omega)
    have hlt' : ((i : Int) < (l.length : Int)) = True := eq_true (by omega)
    have hw := i64_succ (show i < 1000000000 by omega)
    rw [drop_at hx, drop_at hy, eqf] at hr
    simp only [go_sem, contS_seq, simprocAttr, hlt', rows_get hx, rows_get hy, hw]
    refine (hp x (List.mem_of_getElem? hx) y (List.mem_of_getElem? hy)).callW he _ rfl rfl ?_
    rintro d rfl
    simp only [go_sem, contS_seq, simprocAttr, hw]
    refine Gif.mk (fun h => ?_) (fun h => ?_)
    · rw [h, Bool.true_and] at hr
      refine ⟨l.length - (i + 1), _, ?_, ?_, i + 1, rfl, ?_, hr, rfl⟩
      · omega
      · exact lessA
      · omega
    · rw [h, Bool.false_and] at hr
      simp only [retK, resD, St.get, lk, oneD, D.pub, D.pubs, retL, reduceIte, Nat.reduceEqDiff, Nat.reduceAdd, Nat.reduceLeDiff, Tryz.results134]
      exact ⟨_, rfl, rfl, congrArg bln hr⟩
  · have hlt' : ((i : Int) < (l.length : Int)) = False := eq_false (by omega)
    rw [List.drop_eq_nil_of_le (by omega), List.drop_eq_nil_of_le (by omega), eqf] at hr
    simp only [go_sem, contS_seq, simprocAttr, rows_len, hlt']
    simp only [retK, resD, St.get, lk, oneD, D.pub, D.pubs, retL, reduceIte, Nat.reduceEqDiff, Nat.reduceAdd, Nat.reduceLeDiff, Tryz.results134]
    exact ⟨_, rfl, rfl, congrArg bln hr⟩

theorem EqualFunc_Rule (q : ARule → ARule → Bool) (f : FuncId) (he : Enters Tryz.prog f) (l m : List ARule) (hl : l.length ≤ 1000000) (hm : m.length ≤ 1000000) (hp : ∀ x ∈ l, ∀ y ∈ m, Pure Tryz.prog f [ARule.d x, ARule.d y] (fun d => d = bln (q x y))) :
    Pure Tryz.prog 136 [.pd (.slice (rows ARule.pd l)), .pd (.slice (rows ARule.pd m)), .fn f []] (fun d => d = bln (eqf q l m)) := by
  refine pure_of_run follows an_zi41r Tryz.func136 rfl ok_zi41r.1 ok_zi41r.2 (by simp [Tryz.ntmps136]) ?_
  rw [run_start]
  simp only [ac_zi41r, oo, og, tp, ci, cq, mq, lq, fi, sr, go_sem, contS_seq, simprocAttr, rows_len]
  refine GifP.mk (fun hn => ?_) (fun hn => ?_)
  rotate_left
  · simp only [retK, resD, St.get, lk, oneD, D.pub, D.pubs, retL, reduceIte, Nat.reduceEqDiff, Nat.reduceAdd, Nat.reduceLeDiff, Tryz.results136]
    exact ⟨_, rfl, rfl, congrArg bln (eqf_len q (by omega)).symm⟩
  have hlm : l.length = m.length := by omega
  refine loopS (fun k st => ∃ i : Nat, k = l.length - i ∧ i ≤ l.length ∧ eqf q (l.drop i) (m.drop i) = eqf q l m ∧
    st = ⟨[(1, .pd (.slice (rows ARule.pd m))), (2, .fn f []), (15, .pd (.slice (rows ARule.pd l))), (16, int l.length), (17, int i)], [], [], .no⟩) l.length _ (Weak.refl _ _) ⟨0, rfl, Nat.zero_le _, rfl, rfl⟩ ?_
  rintro k st ⟨i, rfl, hi, hr, rfl⟩
  by_cases hlt : i < l.length
  · obtain ⟨x, hx⟩ := at_lt hlt
    obtain ⟨y, hy⟩ := at_lt (show i < m.length by omega)
    have hlt' : ((i : Int) < (l.length : Int)) = True := eq_true (by omega)
    have hw := i64_succ (show i < 1000000000 by omega)
    rw [drop_at hx, drop_at hy, eqf] at hr
    simp only [go_sem, contS_seq, simprocAttr, hlt', rows_get hx, rows_get hy, hw]
    refine (hp x (List.mem_of_getElem? hx) y (List.mem_of_getElem? hy)).callW he _ rfl rfl ?_
    rintro d rfl
    simp only [go_sem, contS_seq, simprocAttr, hw]
    refine Gif.mk (fun h => ?_) (fun h => ?_)
    · rw [h, Bool.true_and] at hr
      refine ⟨l.length - (i + 1), _, ?_, ?_, i + 1, rfl, ?_, hr, rfl⟩
      · omega
      · exact lessA
      · omega
    · rw [h, Bool.false_and] at hr
      simp only [retK, resD, St.get, lk, oneD, D.pub, D.pubs, retL, reduceIte, Nat.reduceEqDiff, Nat.reduceAdd, Nat.reduceLeDiff, Tryz.results136]
      exact ⟨_, rfl, rfl, congrArg bln hr⟩
  · have hlt' : ((i : Int) < (l.length : Int)) = False := eq_false (by omega)
    rw [List.drop_eq_nil_of_le (by omega), List.drop_eq_nil_of_le (by omega), eqf] at hr
    simp only [go_sem, contS_seq, simprocAttr, rows_len, hlt']
    simp only [retK, resD, St.get, lk, oneD, D.pub, D.pubs, retL, reduceIte, Nat.reduceEqDiff, Nat.reduceAdd, Nat.reduceLeDiff, Tryz.results136]
    exact ⟨_, rfl, rfl, congrArg bln hr⟩

theorem EqualFunc_Match (q : AMatch → AMatch → Bool) (f : FuncId) (he : Enters Tryz.prog f) (l m : List AMatch) (hl : l.length ≤ 1000000) (hm : m.length ≤ 1000000) (hp : ∀ x ∈ l, ∀ y ∈ m, Pure Tryz.prog f [AMatch.d x, AMatch.d y] (fun d => d = bln (q x y))) :
    Pure Tryz.prog 174 [.pd (.slice (rows AMatch.pd l)), .pd (.slice (rows AMatch.pd m)), .fn f []] (fun d => d = bln (eqf q l m)) := by
  refine pure_of_run follows an_zjaw1 Tryz.func174 rfl ok_zjaw1.1 ok_zjaw1.2 (by simp [Tryz.ntmps174]) ?_
  rw [run_start]
  simp only [ac_zjaw1, oo, og, tp, ci, cq, mq, lq, fi, sr, go_sem, contS_seq, simprocAttr, rows_len]
  refine GifP.mk (fun hn => ?_) (fun hn => ?_)
  rotate_left
  · simp only [retK, resD, St.get, lk, oneD, D.pub, D.pubs, retL, reduceIte, Nat.reduceEqDiff, Nat.reduceAdd, Nat.reduceLeDiff, Tryz.results174]
    exact ⟨_, rfl, rfl, congrArg bln (eqf_len q (by omega)).symm⟩
  have hlm : l.length = m.length := by omega
  refine loopS (fun k st => ∃ i : Nat, k = l.length - i ∧ i ≤ l.length ∧ eqf q (l.drop i) (m.drop i) = eqf q l m ∧
    st = ⟨[(1, .pd (.slice (rows AMatch.pd m))), (2, .fn f []), (15, .pd (.slice (rows AMatch.pd l))), (16, int l.length), (17, int i)], [], [], .no⟩) l.length _ (Weak.refl _ _) ⟨0, rfl, Nat.zero_le _, rfl, rfl⟩ ?_
  rintro k st ⟨i, rfl, hi, hr, rfl⟩
  by_cases hlt : i < l.length
  · obtain ⟨x, hx⟩ := at_lt hlt
    obtain ⟨y, hy⟩ := at_lt (show i < m.length by omega)
    have hlt' : ((i : Int) < (l.length : Int)) = True := eq_true (by omega)
    have hw := i64_succ (show i < 1000000000 by omega)
    rw [drop_at hx, drop_at hy, eqf] at hr
    simp only [go_sem, contS_seq, simprocAttr, hlt', rows_get hx, rows_get hy, hw]
    refine (hp x (List.mem_of_getElem? hx) y (List.mem_of_getElem? hy)).callW he _ rfl rfl ?_
    rintro d rfl
    simp only [go_sem, contS_seq, simprocAttr, hw]
    refine Gif.mk (fun h => ?_) (fun h => ?_)
    · rw [h, Bool.true_and] at hr
      refine ⟨l.length - (i + 1), _, ?_, ?_, i + 1, rfl, ?_, hr, rfl⟩
      · omega
      · exact lessA
      · omega
    · rw [h, Bool.false_and] at hr
      simp only [retK, resD, St.get, lk, oneD, D.pub, D.pubs, retL, reduceIte, Nat.reduceEqDiff, Nat.reduceAdd, Nat.reduceLeDiff, Tryz.results174]
      exact ⟨_, rfl, rfl, congrArg bln hr⟩
  · have hlt' : ((i : Int) < (l.length : Int)) = False := eq_false (by omega)
    rw [List.drop_eq_nil_of_le (by omega), List.drop_eq_nil_of_le (by omega), eqf] at hr
    simp only [go_sem, contS_seq, simprocAttr, rows_len, hlt']
    simp only [retK, resD, St.get, lk, oneD, D.pub, D.pubs, retL, reduceIte, Nat.reduceEqDiff, Nat.reduceAdd, Nat.reduceLeDiff, Tryz.results174]
    exact ⟨_, rfl, rfl, congrArg bln hr⟩

theorem EqualFunc_Need (q : ANeed → ANeed → Bool) (f : FuncId) (he : Enters Tryz.prog f) (l m : List ANeed) (hl : l.length ≤ 1000000) (hm : m.length ≤ 1000000) (hp : ∀ x ∈ l, ∀ y ∈ m, Pure Tryz.prog f [ANeed.d x, ANeed.d y] (fun d => d = bln (q x y))) :
    Pure Tryz.prog 215 [.pd (.slice (rows ANeed.pd l)), .pd (.slice (rows ANeed.pd m)), .fn f []] (fun d => d = bln (eqf q l m)) := by
  refine pure_of_run follows an_zdsnp Tryz.func215 rfl ok_zdsnp.1 ok_zdsnp.2 (by simp [Tryz.ntmps215]) ?_
  rw [run_start]
  simp only [ac_zdsnp, oo, og, tp, ci, cq, mq, lq, fi, sr, go_sem, contS_seq, simprocAttr, rows_len]
  refine GifP.mk (fun hn => ?_) (fun hn => ?_)
  rotate_left
  · simp only [retK, resD, St.get, lk, oneD, D.pub, D.pubs, retL, reduceIte, Nat.reduceEqDiff, Nat.reduceAdd, Nat.reduceLeDiff, Tryz.results215]
    exact ⟨_, rfl, rfl, congrArg bln (eqf_len q (by omega)).symm⟩
  have hlm : l.length = m.length := by omega
  refine loopS (fun k st => ∃ i : Nat, k = l.length - i ∧ i ≤ l.length ∧ eqf q (l.drop i) (m.drop i) = eqf q l m ∧
    st = ⟨[(1, .pd (.slice (rows ANeed.pd m))), (2, .fn f []), (15, .pd (.slice (rows ANeed.pd l))), (16, int l.length), (17, int i)], [], [], .no⟩) l.length _ (Weak.refl _ _) ⟨0, rfl, Nat.zero_le _, rfl, rfl⟩ ?_
  rintro k st ⟨i, rfl, hi, hr, rfl⟩
  by_cases hlt : i < l.length
  · obtain ⟨x, hx⟩ := at_lt hlt
    obtain ⟨y, hy⟩ := at_lt (show i < m.length by omega)
    have hlt' : ((i : Int) < (l.length : Int)) = True := eq_true (by omega)
    have hw := i64_succ (show i < 1000000000 by omega)
    rw [drop_at hx, drop_at hy, eqf] at hr
    simp only [go_sem, contS_seq, simprocAttr, hlt', rows_get hx, rows_get hy, hw]
    refine (hp x (List.mem_of_getElem? hx) y (List.mem_of_getElem? hy)).callW he _ rfl rfl ?_
    rintro d rfl
    simp only [go_sem, contS_seq, simprocAttr, hw]
    refine Gif.mk (fun h => ?_) (fun h => ?_)
    · rw [h, Bool.true_and] at hr
      refine ⟨l.length - (i + 1), _, ?_, ?_, i + 1, rfl, ?_, hr, rfl⟩
      · omega
      · exact lessA
      · omega
    · rw [h, Bool.false_and] at hr
      simp only [retK, resD, St.get, lk, oneD, D.pub, D.pubs, retL, reduceIte, Nat.reduceEqDiff, Nat.reduceAdd, Nat.reduceLeDiff, Tryz.results215]
      exact ⟨_, rfl, rfl, congrArg bln hr⟩
  · have hlt' : ((i : Int) < (l.length : Int)) = False := eq_false (by omega)
    rw [List.drop_eq_nil_of_le (by omega), List.drop_eq_nil_of_le (by omega), eqf] at hr
    simp only [go_sem, contS_seq, simprocAttr, rows_len, hlt']
    simp only [retK, resD, St.get, lk, oneD, D.pub, D.pubs, retL, reduceIte, Nat.reduceEqDiff, Nat.reduceAdd, Nat.reduceLeDiff, Tryz.results215]
    exact ⟨_, rfl, rfl, congrArg bln hr⟩

end Go.Proofs.YtklolokoaooppaaGreatDoor



namespace Go.Proofs.YtklolokoaooppaaGreatDoor
open Go

def ac_zs3t2 : AC := (sr [oo 4 (.box 32 (tp 0)),oo 5 (.box 3 (tp 1)),oo 6 (.box 9 (tp 2)),oo 7 (.box 23 (tp 3)),oo 8 (.mv (cq false))] [4,5,6,7] (sr [oo 11 (.mkfn 50 [tp 5,tp 6]),mq 9 11] [4,7,9] (sr [oo 12 (.mkfn 51 [tp 7]),mq 10 12] [4,7,9,10] (sr [fi 13 0 4,fi 14 0 13,lq 15 14,oo 16 (.bin .eql (tp 15) (ci 7)),mq 17 16,og 17 true 18 (.fieldA 0 (tp 4)),og 17 true 19 (.fieldA 1 (tp 18)),og 17 true 20 (.load none (tp 19)),og 17 true 21 (.fieldA 1 (tp 7)),og 17 true 22 (.load none (tp 21)),og 17 true 23 (.bin .eql (tp 20) (tp 22)),oo 24 (.pick (tp 17) (tp 23) (cq false)),mq 25 24,og 25 true 26 (.load (some 13) (tp 4)),og 25 true 27 (.call 52 [tp 26]),oo 28 (.pick (tp 25) (tp 27) (cq false)),mq 29 28,og 29 true 30 (.fieldA 11 (tp 4)),og 29 true 31 (.load none (tp 30)),og 29 true 32 (.mv (tp 9)),og 29 true 33 (.call 53 [tp 31,tp 32]),oo 34 (.pick (tp 29) (tp 33) (cq false)),mq 35 34,og 35 true 36 (.fieldA 12 (tp 4)),og 35 true 37 (.load none (tp 36)),og 35 true 38 (.mv (tp 10)),og 35 true 39 (.call 53 [tp 37,tp 38]),oo 40 (.pick (tp 35) (tp 39) (cq false)),mq 8 40] [8] .ret))))
def an_zs3t2 : Ann := ann (List.range 4) ac_zs3t2
theorem ok_zs3t2 : okd Tryz.prog an_zs3t2 ac_zs3t2 Tryz.f11 := ⟨by kernel_rfl, by kernel_rfl⟩

def ac_zxv0j : AC := (sr [oo 7 (.box 23 (tp 3)),oo 8 (.mv (.const (.slice none 0 0)))] [0,1,2,7] (sr [mq 9 0,mq 10 1,mq 11 2,oo 12 (.load (some 3) (tp 7)),oo 13 (.call 62 [tp 9,tp 10,tp 11,tp 12]),oo 14 (.call 61 [tp 13]),mq 8 14] [8] .ret))
def an_zxv0j : Ann := ann (List.range 2) ac_zxv0j
theorem ok_zxv0j : okd Tryz.prog an_zxv0j ac_zxv0j Tryz.f15 := ⟨by kernel_rfl, by kernel_rfl⟩

def ac_z88d6 : AC := (sr [oo 3 (.box 23 (tp 1)),oo 4 (.alloc 32 [.pd (.raw (.int .i64 0)),.pd (.raw (.string ⟨#[]⟩)),.pd (.raw (.string ⟨#[]⟩)),.pd (.raw (.bool false)),.nils,.nils,.pd (.raw (.string ⟨#[]⟩)),.nils,.nils,.nils,.nils,.nils,.nils]),oo 5 (.mv (cq false))] [0,3,4] (sr [mq 7 0,oo 8 (.mkfn 64 [tp 3]),oo 9 (.call 63 [tp 7,tp 8]),mq 6 9] [0,4,6] (.seq (sr [mq 10 6,oo 11 (.bin .lss (tp 10) (ci 0))] [0,4,6,11] (.cond (tp 11) (sr [oo 12 (.build [.pd (.raw (.int .i64 0)),.pd (.raw (.string ⟨#[]⟩)),.pd (.raw (.string ⟨#[]⟩)),.pd (.raw (.bool false)),.nils,.nils,.pd (.raw (.string ⟨#[]⟩)),.nils,.nils,.nils,.nils,.nils,.nils] []),.mk none none (.store 13 (tp 4) (tp 12)),oo 5 (.mv (cq false))] [4,5] .ret) .skip)) (sr [mq 13 0,mq 14 6,oo 15 (.idxA 13 (tp 13) (tp 14)),oo 16 (.load (some 13) (tp 15)),.mk none none (.store 13 (tp 4) (tp 16)),oo 5 (.mv (cq true))] [4,5] .ret))))
def an_z88d6 : Ann := ann (List.range 5) ac_z88d6
theorem ok_z88d6 : okd Tryz.prog an_z88d6 ac_z88d6 Tryz.f17 := ⟨by kernel_rfl, by kernel_rfl⟩
theorem ret_z88d6 (st : St) : resD Tryz.prog st Tryz.f17.results.toList = resA st [.cell 4 (some 13), .tmp 5] := resD_of (by kernel_rfl)

def ac_z4wyn : AC := (sr [oo 3 (.box 41 (tp 0)),oo 4 (.mv (cq false))] [1,2,3] (sr [fi 5 0 3,lq 6 5,lq 7 1,oo 8 (.bin .eql (tp 6) (tp 7)),mq 9 8,og 9 true 10 (.fieldA 1 (tp 3)),og 9 true 11 (.load none (tp 10)),og 9 true 12 (.load none (tp 2)),og 9 true 13 (.bin .eql (tp 11) (tp 12)),oo 14 (.pick (tp 9) (tp 13) (cq false)),mq 4 14] [4] .ret))
def an_z4wyn : Ann := ann (List.range 2) ac_z4wyn
theorem ok_z4wyn : okd Tryz.prog an_z4wyn ac_z4wyn Tryz.f50 := ⟨by kernel_rfl, by kernel_rfl⟩

def ac_z3e5h : AC := (sr [oo 2 (.box 41 (tp 0)),oo 3 (.mv (cq false))] [1,2] (sr [fi 4 0 2,lq 5 4,fi 6 0 1,lq 7 6,oo 8 (.bin .eql (tp 5) (tp 7)),mq 9 8,og 9 true 10 (.fieldA 2 (tp 2)),og 9 true 11 (.load none (tp 10)),og 9 true 12 (.bin .eql (tp 11) (.const (.string ⟨#[]⟩))),og 9 true 13 (.mv (tp 12)),og 13 false 14 (.fieldA 2 (tp 2)),og 13 false 15 (.load none (tp 14)),og 13 false 16 (.fieldA 2 (tp 1)),og 13 false 17 (.load none (tp 16)),og 13 false 18 (.bin .eql (tp 15) (tp 17)),og 9 true 19 (.pick (tp 13) (cq true) (tp 18)),oo 20 (.pick (tp 9) (tp 19) (cq false)),mq 3 20] [3] .ret))
def an_z3e5h : Ann := ann (List.range 2) ac_z3e5h
theorem ok_z3e5h : okd Tryz.prog an_z3e5h ac_z3e5h Tryz.f51 := ⟨by kernel_rfl, by kernel_rfl⟩

def ac_zfwje : AC := (sr [oo 1 (.box 32 (tp 0)),oo 2 (.mv (cq false))] [1] (sr [oo 5 .mkmap,.mk none none (.mset [] (tp 5) (ci 1) (.func 79)),.mk none none (.mset [] (tp 5) (ci 2) (.func 80)),.mk none none (.mset [] (tp 5) (ci 3) (.func 81)),.mk none none (.mset [] (tp 5) (ci 4) (.func 79)),.mk none none (.mset [] (tp 5) (ci 5) (.func 82)),.mk none none (.mset [] (tp 5) (ci 6) (.func 83)),.mk none none (.mset [] (tp 5) (ci 7) (.func 84)),mq 6 5,mq 3 6] [1,3] (sr [oo 7 (.load (some 13) (tp 1)),oo 8 (.build [.pd (.raw (.int .i64 0)),.pd (.raw (.string ⟨#[]⟩)),.pd (.raw (.string ⟨#[]⟩)),.pd (.raw (.bool false)),.nils,.nils,.pd (.raw (.string ⟨#[]⟩)),.nils,.nils,.nils,.nils,.nils,.nils] [(0,13,tp 7)]),oo 9 (.box 132 (tp 8)),mq 4 9] [1,3,4] (.seq (.draw [fi 10 0 1,oo 11 (.load (some 3) (tp 10)),oo 12 (.call 85 [tp 11]),mq 13 12,og 13 true 14 (.mv (tp 3)),og 13 true 15 (.fieldA 0 (tp 1)),og 13 true 16 (.fieldA 0 (tp 15)),og 13 true 17 (.load none (tp 16)),og 13 true 18 (.mget [] .nilFunc (tp 14) (tp 17)),og 13 true 19 (.mv (tp 4)),og 13 true 20 (.callv (tp 18) [tp 19]),oo 21 (.pick (tp 13) (tp 20) (cq false)),mq 22 21,og 22 true 23 (.mv (tp 4)),og 22 true 24 (.ncheck (tp 23)),og 22 true 25 (.fieldA 0 (tp 24)),og 22 true 26 (.load (some 13) (tp 25)),og 22 true 27 (.fieldA 0 (tp 1)),og 22 true 28 (.load (some 3) (tp 27)),og 22 true 29 (.build [.pd (.raw (.int .i64 0)),.pd (.raw (.string ⟨#[]⟩)),.pd (.raw (.string ⟨#[]⟩)),.pd (.raw (.bool false)),.nils,.nils,.pd (.raw (.string ⟨#[]⟩)),.nils,.nils,.nils,.nils,.nils,.nils] [(0,3,tp 28)]),og 22 true 30 (.call 86 [tp 26,tp 29]),oo 31 (.pick (tp 22) (tp 30) (cq false)),mq 2 31] [0,1,3,7,15,15,47,111,255,15,1023,2047,4095,8191,16383,32767,65535,8191,139263,401407,1048575,2097151,4194303] (.take 0 (.take 1 (.alts (.cons 2 true (.take 3 (.take 4 (.take 5 (.take 6 (.take 7 (.take 8 (.take 9 (.alts (.cons 10 true (.take 11 (.take 12 (.take 13 (.take 14 (.take 15 (.take 16 (.take 17 (.take 18 (.take 19 (.alts (.cons 20 true (.take 21 (.take 22 .done)) .nil))))))))))) .nil))))))))) .nil)))) (some [2])) .ret))))
def an_zfwje : Ann := ann (List.range 4) ac_zfwje
theorem ok_zfwje : okd Tryz.prog an_zfwje ac_zfwje Tryz.f52 := ⟨by kernel_rfl, by kernel_rfl⟩

def ac_zl31y : AC := (sr [oo 2 (.box 32 (tp 0)),oo 3 (.mv (cq false))] [1,2] (sr [fi 4 0 2,oo 5 (.load (some 3) (tp 4)),oo 6 (.load (some 3) (tp 1)),oo 7 (.eqs false [.int,.str,.str] (tp 5) (tp 6)),mq 3 7] [3] .ret))
def an_zl31y : Ann := ann (List.range 2) ac_zl31y
theorem ok_zl31y : okd Tryz.prog an_zl31y ac_zl31y Tryz.f64 := ⟨by kernel_rfl, by kernel_rfl⟩

def ac_zk71m : AC := (sr [oo 2 (.mv (cq false))] [0] (sr [mq 3 0,oo 4 (.ncheck (tp 3)),fi 5 0 4,fi 6 3 5,.mk none none (.store 1 (tp 6) (cq false))] [] (sr [oo 2 (.mv (cq true))] [2] .ret)))
def an_zk71m : Ann := ann (List.range 3) ac_zk71m
theorem ok_zk71m : okd Tryz.prog an_zk71m ac_zk71m Tryz.f79 := ⟨by kernel_rfl, by kernel_rfl⟩

def ac_zag3z : AC := (sr [oo 2 (.mv (cq false))] [0] (sr [mq 4 0,oo 5 (.ncheck (tp 4)),fi 6 0 5,fi 7 4 6,lq 8 7,mq 3 8] [0,3] (sr [mq 9 0,oo 10 (.ncheck (tp 9)),fi 11 0 10,fi 12 4 11,.mk none none (.store 1 (tp 12) (.const (.slice none 0 0)))] [3] (sr [mq 13 3,oo 14 (.call 102 [tp 13]),mq 2 14] [2] .ret))))
def an_zag3z : Ann := ann (List.range 4) ac_zag3z
theorem ok_zag3z : okd Tryz.prog an_zag3z ac_zag3z Tryz.f80 := ⟨by kernel_rfl, by kernel_rfl⟩

def ac_zxlfl : AC := (sr [oo 2 (.mv (cq false))] [0] (sr [mq 4 0,oo 5 (.ncheck (tp 4)),fi 6 0 5,fi 7 5 6,lq 8 7,mq 3 8] [0,3] (sr [mq 9 0,oo 10 (.ncheck (tp 9)),fi 11 0 10,fi 12 5 11,.mk none none (.store 1 (tp 12) (.const (.slice none 0 0)))] [3] (sr [mq 13 3,oo 14 (.len (tp 13) false),oo 15 (.bin .gtr (tp 14) (ci 0)),mq 16 15,og 16 true 17 (.mv (tp 3)),og 16 true 18 (.call 103 [tp 17,ci 8,.func 104]),oo 19 (.pick (tp 16) (tp 18) (cq false)),mq 20 19,og 20 true 21 (.mv (tp 3)),og 20 true 22 (.call 105 [tp 21]),oo 23 (.pick (tp 20) (tp 22) (cq false)),mq 24 23,og 24 true 25 (.mv (tp 3)),og 24 true 26 (.call 106 [tp 25,.func 107]),og 24 true 27 (.un .not (tp 26)),oo 28 (.pick (tp 24) (tp 27) (cq false)),mq 2 28] [2] .ret))))
def an_zxlfl : Ann := ann (List.range 4) ac_zxlfl
theorem ok_zxlfl : okd Tryz.prog an_zxlfl ac_zxlfl Tryz.f81 := ⟨by kernel_rfl, by kernel_rfl⟩

def ac_zqquk : AC := (sr [oo 2 (.mv (cq false))] [0] (.seq (.draw [mq 6 0,oo 7 (.ncheck (tp 6)),fi 8 0 7,fi 9 7 8,lq 10 9,mq 11 0,oo 12 (.ncheck (tp 11)),fi 13 0 12,fi 14 6 13,lq 15 14,mq 3 10,mq 4 15] [0,1,3,7,15,0,32,96,224,480,31,2047] (.take 0 (.take 1 (.take 2 (.take 3 (.take 4 (.take 5 (.take 6 (.take 7 (.take 8 (.take 9 (.take 10 (.take 11 .done)))))))))))) (some [0,3,4])) (sr [mq 16 0,mq 17 0,oo 18 (.ncheck (tp 16)),fi 19 0 18,fi 20 7 19,.mk none none (.store 1 (tp 20) (.const (.slice none 0 0))),oo 21 (.ncheck (tp 17)),fi 22 0 21,fi 23 6 22,.mk none none (.store 1 (tp 23) (.const (.string ⟨#[]⟩)))] [3,4] (sr [oo 5 (.mv (.func 108))] [3,4,5] (sr [mq 24 4,oo 25 (.call 109 [tp 24]),mq 26 25,og 26 true 27 (.mv (tp 3)),og 26 true 28 (.len (tp 27) false),og 26 true 29 (.bin .gtr (tp 28) (ci 0)),oo 30 (.pick (tp 26) (tp 29) (cq false)),mq 31 30,og 31 true 32 (.mv (tp 3)),og 31 true 33 (.call 110 [tp 32,ci 8,.func 111]),oo 34 (.pick (tp 31) (tp 33) (cq false)),mq 35 34,og 35 true 36 (.mv (tp 3)),og 35 true 37 (.mv (tp 5)),og 35 true 38 (.call 112 [tp 36,tp 37]),og 35 true 39 (.un .not (tp 38)),oo 40 (.pick (tp 35) (tp 39) (cq false)),mq 2 40] [2] .ret)))))
def an_zqquk : Ann := ann (List.range 5) ac_zqquk
theorem ok_zqquk : okd Tryz.prog an_zqquk ac_zqquk Tryz.f82 := ⟨by kernel_rfl, by kernel_rfl⟩

def ac_ztpho : AC := (sr [oo 2 (.mv (cq false))] [0] (.seq (.draw [mq 7 0,oo 8 (.ncheck (tp 7)),fi 9 0 8,fi 10 8 9,lq 11 10,mq 12 0,oo 13 (.ncheck (tp 12)),fi 14 0 13,fi 15 9 14,lq 16 15,mq 17 0,oo 18 (.ncheck (tp 17)),fi 19 0 18,fi 20 10 19,lq 21 20,mq 3 11,mq 4 16,mq 5 21] [0,1,3,7,15,0,32,96,224,480,0,1024,3072,7168,15360,31,33791,131071] (.take 0 (.take 1 (.take 2 (.take 3 (.take 4 (.take 5 (.take 6 (.take 7 (.take 8 (.take 9 (.take 10 (.take 11 (.take 12 (.take 13 (.take 14 (.take 15 (.take 16 (.take 17 .done)))))))))))))))))) (some [0,3,4,5])) (sr [mq 22 0,mq 23 0,mq 24 0,oo 25 (.ncheck (tp 22)),fi 26 0 25,fi 27 8 26,.mk none none (.store 1 (tp 27) (.const (.slice none 0 0))),oo 28 (.ncheck (tp 23)),fi 29 0 28,fi 30 9 29,.mk none none (.store 1 (tp 30) (.const (.slice none 0 0))),oo 31 (.ncheck (tp 24)),fi 32 0 31,fi 33 10 32,.mk none none (.store 1 (tp 33) (.const (.slice none 0 0)))] [3,4,5] (.seq (sr [mq 34 3,oo 35 (.call 113 [tp 34,.func 114]),mq 36 35,og 36 false 37 (.mv (tp 4)),og 36 false 38 (.call 115 [tp 37,.func 116]),oo 39 (.pick (tp 36) (cq true) (tp 38))] [3,4,5,39] (.cond (tp 39) (sr [oo 2 (.mv (cq false))] [2] .ret) .skip)) (sr [oo 6 (.mv (.func 117))] [3,4,5,6] (sr [mq 40 3,oo 41 (.call 119 [tp 40,ci 4,.func 120]),mq 42 41,og 42 true 43 (.mv (tp 4)),og 42 true 44 (.mv (tp 6)),og 42 true 45 (.call 121 [tp 43,ci 4,tp 44]),oo 46 (.pick (tp 42) (tp 45) (cq false)),mq 47 46,og 47 true 48 (.mv (tp 5)),og 47 true 49 (.call 122 [tp 48,ci 6,.func 123]),oo 50 (.pick (tp 47) (tp 49) (cq false)),mq 2 50] [2] .ret))))))
def an_ztpho : Ann := ann (List.range 7) ac_ztpho
theorem ok_ztpho : okd Tryz.prog an_ztpho ac_ztpho Tryz.f83 := ⟨by kernel_rfl, by kernel_rfl⟩

def ac_zlbax : AC := (sr [oo 2 (.mv (cq false))] [0] (.seq (.draw [mq 7 0,oo 8 (.ncheck (tp 7)),fi 9 0 8,fi 10 11 9,lq 11 10,mq 12 0,oo 13 (.ncheck (tp 12)),fi 14 0 13,fi 15 12 14,lq 16 15,mq 3 11,mq 4 16] [0,1,3,7,15,0,32,96,224,480,31,2047] (.take 0 (.take 1 (.take 2 (.take 3 (.take 4 (.take 5 (.take 6 (.take 7 (.take 8 (.take 9 (.take 10 (.take 11 .done)))))))))))) (some [0,3,4])) (sr [mq 17 0,mq 18 0,oo 19 (.ncheck (tp 17)),fi 20 0 19,fi 21 11 20,.mk none none (.store 1 (tp 21) (.const (.slice none 0 0))),oo 22 (.ncheck (tp 18)),fi 23 0 22,fi 24 12 23,.mk none none (.store 1 (tp 24) (.const (.slice none 0 0)))] [3,4] (sr [oo 5 (.mv (.func 124))] [3,4,5] (sr [oo 6 (.mv (.func 127))] [3,4,5,6] (sr [mq 25 3,oo 26 (.len (tp 25) false),oo 27 (.bin .gtr (tp 26) (ci 0)),mq 28 27,og 28 true 29 (.mv (tp 4)),og 28 true 30 (.len (tp 29) false),og 28 true 31 (.bin .gtr (tp 30) (ci 0)),oo 32 (.pick (tp 28) (tp 31) (cq false)),mq 33 32,og 33 true 34 (.mv (tp 3)),og 33 true 35 (.mv (tp 5)),og 33 true 36 (.call 128 [tp 34,ci 4,tp 35]),oo 37 (.pick (tp 33) (tp 36) (cq false)),mq 38 37,og 38 true 39 (.mv (tp 4)),og 38 true 40 (.mv (tp 6)),og 38 true 41 (.call 128 [tp 39,ci 4,tp 40]),oo 42 (.pick (tp 38) (tp 41) (cq false)),mq 2 42] [2] .ret))))))
def an_zlbax : Ann := ann (List.range 6) ac_zlbax
theorem ok_zlbax : okd Tryz.prog an_zlbax ac_zlbax Tryz.f84 := ⟨by kernel_rfl, by kernel_rfl⟩

def ac_zkdrf : AC := (sr [oo 1 (.box 23 (tp 0)),oo 2 (.mv (cq false))] [1] (.seq (sr [fi 3 0 1,lq 4 3] [1,4] (.block 0 (sr [oo 6 (.bin .eql (tp 4) (ci 1)),mq 5 6] [1,4,5] (.cond (tp 5) (sr [fi 7 1 1,lq 8 7,oo 9 (.bin .eql (tp 8) (.const (.string ⟨#[]⟩))),mq 10 9,og 10 true 11 (.fieldA 2 (tp 1)),og 10 true 12 (.load none (tp 11)),og 10 true 13 (.call 109 [tp 12]),oo 14 (.pick (tp 10) (tp 13) (cq false)),mq 2 14] [2] .ret) (sr [oo 16 (.bin .eql (tp 4) (ci 2)),mq 15 16] [1,15] (.cond (tp 15) (sr [fi 17 1 1,lq 18 17,oo 19 (.bin .eql (tp 18) (.const (.string ⟨#[]⟩))),mq 20 19,og 20 true 21 (.fieldA 2 (tp 1)),og 20 true 22 (.load none (tp 21)),og 20 true 23 (.call 126 [tp 22]),oo 24 (.pick (tp 20) (tp 23) (cq false)),mq 2 24] [2] .ret) .skip)))))) (sr [fi 25 0 1,lq 26 25,oo 27 (.call 125 [tp 26]),mq 28 27,og 28 true 29 (.fieldA 1 (tp 1)),og 28 true 30 (.load none (tp 29)),og 28 true 31 (.call 126 [tp 30]),oo 32 (.pick (tp 28) (tp 31) (cq false)),mq 33 32,og 33 true 34 (.fieldA 2 (tp 1)),og 33 true 35 (.load none (tp 34)),og 33 true 36 (.call 109 [tp 35]),oo 37 (.pick (tp 33) (tp 36) (cq false)),mq 2 37] [2] .ret)))
def an_zkdrf : Ann := ann (List.range 7) ac_zkdrf
theorem ok_zkdrf : okd Tryz.prog an_zkdrf ac_zkdrf Tryz.f85 := ⟨by kernel_rfl, by kernel_rfl⟩

def ac_zhbvt : AC := (sr [oo 2 (.box 32 (tp 0)),oo 3 (.box 32 (tp 1)),oo 4 (.mv (cq false))] [2,3] (.seq (.block 0 (sr [fi 6 0 2,oo 7 (.load (some 3) (tp 6)),fi 8 0 3,oo 9 (.load (some 3) (tp 8)),oo 10 (.eqs true [.int,.str,.str] (tp 7) (tp 9)),mq 11 10,og 11 false 12 (.fieldA 3 (tp 2)),og 11 false 13 (.load none (tp 12)),og 11 false 14 (.fieldA 3 (tp 3)),og 11 false 15 (.load none (tp 14)),og 11 false 16 (.binB true (tp 13) (tp 15)),oo 17 (.pick (tp 11) (cq true) (tp 16)),mq 18 17,og 18 false 19 (.fieldA 6 (tp 2)),og 18 false 20 (.load none (tp 19)),og 18 false 21 (.fieldA 6 (tp 3)),og 18 false 22 (.load none (tp 21)),og 18 false 23 (.bin .neq (tp 20) (tp 22)),oo 24 (.pick (tp 18) (cq true) (tp 23)),mq 5 24] [2,3,5] (.cond (tp 5) (sr [oo 4 (.mv (cq false))] [4] .ret) (sr [fi 26 4 2,lq 27 26,fi 28 4 3,lq 29 28,oo 30 (.call 129 [tp 27,tp 29]),oo 31 (.un .not (tp 30)),mq 32 31,og 32 false 33 (.fieldA 5 (tp 2)),og 32 false 34 (.load none (tp 33)),og 32 false 35 (.fieldA 5 (tp 3)),og 32 false 36 (.load none (tp 35)),og 32 false 37 (.call 130 [tp 34,tp 36]),og 32 false 38 (.un .not (tp 37)),oo 39 (.pick (tp 32) (cq true) (tp 38)),mq 40 39,og 40 false 41 (.fieldA 9 (tp 2)),og 40 false 42 (.load none (tp 41)),og 40 false 43 (.fieldA 9 (tp 3)),og 40 false 44 (.load none (tp 43)),og 40 false 45 (.call 131 [tp 42,tp 44]),og 40 false 46 (.un .not (tp 45)),oo 47 (.pick (tp 40) (cq true) (tp 46)),mq 25 47] [2,3,25] (.cond (tp 25) (sr [oo 4 (.mv (cq false))] [4] .ret) (sr [fi 49 8 2,lq 50 49,fi 51 8 3,lq 52 51,oo 53 (.call 132 [tp 50,tp 52]),oo 54 (.un .not (tp 53)),mq 55 54,og 55 false 56 (.fieldA 11 (tp 2)),og 55 false 57 (.load none (tp 56)),og 55 false 58 (.fieldA 11 (tp 3)),og 55 false 59 (.load none (tp 58)),og 55 false 60 (.call 133 [tp 57,tp 59]),og 55 false 61 (.un .not (tp 60)),oo 62 (.pick (tp 55) (cq true) (tp 61)),mq 63 62,og 63 false 64 (.fieldA 12 (tp 2)),og 63 false 65 (.load none (tp 64)),og 63 false 66 (.fieldA 12 (tp 3)),og 63 false 67 (.load none (tp 66)),og 63 false 68 (.call 133 [tp 65,tp 67]),og 63 false 69 (.un .not (tp 68)),oo 70 (.pick (tp 63) (cq true) (tp 69)),mq 48 70] [2,3,48] (.cond (tp 48) (sr [oo 4 (.mv (cq false))] [4] .ret) .skip))))))) (sr [fi 71 7 2,lq 72 71,fi 73 7 3,lq 74 73,oo 75 (.call 134 [tp 72,tp 74,.func 135]),mq 76 75,og 76 true 77 (.fieldA 10 (tp 2)),og 76 true 78 (.load none (tp 77)),og 76 true 79 (.fieldA 10 (tp 3)),og 76 true 80 (.load none (tp 79)),og 76 true 81 (.call 136 [tp 78,tp 80,.func 137]),oo 82 (.pick (tp 76) (tp 81) (cq false)),mq 4 82] [4] .ret)))
def an_zhbvt : Ann := ann (List.range 8) ac_zhbvt
theorem ok_zhbvt : okd Tryz.prog an_zhbvt ac_zhbvt Tryz.f86 := ⟨by kernel_rfl, by kernel_rfl⟩

def ac_znt9b : AC := (sr [oo 2 (.mv (cq false))] [0] (sr [mq 3 0,oo 4 (.bin .geq (tp 3) (ci 1)),mq 5 4,og 5 true 6 (.mv (tp 0)),og 5 true 7 (.bin .leq (tp 6) (ci 65535)),oo 8 (.pick (tp 5) (tp 7) (cq false)),mq 2 8] [2] .ret))
def an_znt9b : Ann := ann (List.range 2) ac_znt9b
theorem ok_znt9b : okd Tryz.prog an_znt9b ac_znt9b Tryz.f104 := ⟨by kernel_rfl, by kernel_rfl⟩

def ac_zwdgh : AC := (sr [oo 4 (.mv (cq false))] [0,1] (sr [mq 5 0,mq 6 1,oo 7 (.bin .eql (tp 5) (tp 6)),mq 4 7] [4] .ret))
def an_zwdgh : Ann := ann (List.range 2) ac_zwdgh
theorem ok_zwdgh : okd Tryz.prog an_zwdgh ac_zwdgh Tryz.f107 := ⟨by kernel_rfl, by kernel_rfl⟩

def ac_zpej9 : AC := (sr [oo 2 (.box 78 (tp 0)),oo 3 (.box 78 (tp 1)),oo 4 (.mv (cq false))] [2,3] (sr [fi 5 0 2,lq 6 5,fi 7 0 3,lq 8 7,oo 9 (.bin .eql (tp 6) (tp 8)),mq 4 9] [4] .ret))
def an_zpej9 : Ann := ann (List.range 2) ac_zpej9
theorem ok_zpej9 : okd Tryz.prog an_zpej9 ac_zpej9 Tryz.f108 := ⟨by kernel_rfl, by kernel_rfl⟩

def ac_z5xl6 : AC := (sr [oo 1 (.box 78 (tp 0)),oo 2 (.mv (cq false))] [1] (sr [fi 4 4 1,oo 5 (.load (some 3) (tp 4)),oo 6 (.build [.pd (.raw (.int .i64 0)),.pd (.raw (.string ⟨#[]⟩)),.pd (.raw (.string ⟨#[]⟩))] []),oo 7 (.eqs false [.int,.str,.str] (tp 5) (tp 6)),mq 3 7] [1,3] (.seq (sr [fi 8 2 1,lq 9 8] [1,3,9] (.cond (tp 9) (.region [fi 10 4 1,fi 11 0 10,lq 12 11,oo 13 (.bin .eql (tp 12) (ci 4)),mq 14 13,og 14 true 15 (.fieldA 4 (tp 1)),og 14 true 16 (.fieldA 1 (tp 15)),og 14 true 17 (.load none (tp 16)),og 14 true 18 (.call 152 [tp 17]),oo 19 (.pick (tp 14) (tp 18) (cq false)),mq 20 19,og 20 true 21 (.fieldA 4 (tp 1)),og 20 true 22 (.fieldA 2 (tp 21)),og 20 true 23 (.load none (tp 22)),og 20 true 24 (.call 109 [tp 23]),oo 25 (.pick (tp 20) (tp 24) (cq false)),mq 3 25] (some [1,3])) .skip)) (sr [mq 26 3,mq 27 26,og 27 true 28 (.fieldA 0 (tp 1)),og 27 true 29 (.load none (tp 28)),og 27 true 30 (.call 126 [tp 29]),oo 31 (.pick (tp 27) (tp 30) (cq false)),mq 32 31,og 32 true 33 (.fieldA 1 (tp 1)),og 32 true 34 (.load none (tp 33)),og 32 true 35 (.call 104 [tp 34]),oo 36 (.pick (tp 32) (tp 35) (cq false)),mq 37 36,og 37 true 38 (.fieldA 3 (tp 1)),og 37 true 39 (.load none (tp 38)),og 37 true 40 (.call 118 [tp 39]),oo 41 (.pick (tp 37) (tp 40) (cq false)),mq 42 41,og 42 true 43 (.fieldA 7 (tp 1)),og 42 true 44 (.load none (tp 43)),og 42 true 45 (.bin .geq (tp 44) (ci 0)),oo 46 (.pick (tp 42) (tp 45) (cq false)),mq 47 46,og 47 true 48 (.fieldA 7 (tp 1)),og 47 true 49 (.load none (tp 48)),og 47 true 50 (.bin .leq (tp 49) (ci 2)),oo 51 (.pick (tp 47) (tp 50) (cq false)),mq 52 51,og 52 true 53 (.fieldA 8 (tp 1)),og 52 true 54 (.load none (tp 53)),og 52 true 55 (.call 153 [tp 54]),oo 56 (.pick (tp 52) (tp 55) (cq false)),mq 57 56,og 57 true 58 (.fieldA 7 (tp 1)),og 57 true 59 (.load none (tp 58)),og 57 true 60 (.bin .eql (tp 59) (ci 2)),og 57 true 61 (.mv (tp 60)),og 61 false 62 (.fieldA 8 (tp 1)),og 61 false 63 (.load none (tp 62)),og 61 false 64 (.len (tp 63) false),og 61 false 65 (.bin .eql (tp 64) (ci 0)),og 57 true 66 (.pick (tp 61) (cq true) (tp 65)),oo 67 (.pick (tp 57) (tp 66) (cq false)),mq 2 67] [2] .ret))))
def an_z5xl6 : Ann := ann (List.range 5) ac_z5xl6
theorem ok_z5xl6 : okd Tryz.prog an_z5xl6 ac_z5xl6 Tryz.f111 := ⟨by kernel_rfl, by kernel_rfl⟩

def ac_zh5vi : AC := (sr [oo 2 (.box 81 (tp 0)),oo 3 (.box 81 (tp 1)),oo 4 (.mv (cq false))] [2,3] (sr [oo 5 (.load (some 4) (tp 2)),oo 6 (.load (some 4) (tp 3)),oo 7 (.eqs false [.str,.str,.str,.int] (tp 5) (tp 6)),mq 4 7] [4] .ret))
def an_zh5vi : Ann := ann (List.range 2) ac_zh5vi
theorem ok_zh5vi : okd Tryz.prog an_zh5vi ac_zh5vi Tryz.f114 := ⟨by kernel_rfl, by kernel_rfl⟩

def ac_zkpqc : AC := (sr [oo 4 (.mv (cq false))] [0,1] (sr [mq 5 0,mq 6 1,oo 7 (.bin .eql (tp 5) (tp 6)),mq 4 7] [4] .ret))
def an_zkpqc : Ann := ann (List.range 2) ac_zkpqc
theorem ok_zkpqc : okd Tryz.prog an_zkpqc ac_zkpqc Tryz.f116 := ⟨by kernel_rfl, by kernel_rfl⟩

def ac_z4pg2 : AC := (sr [oo 2 (.mv (cq false))] [0] (sr [mq 3 0,oo 4 (.bin .neq (tp 3) (.const (.string ⟨#[]⟩))),mq 5 4,og 5 true 6 (.mv (tp 0)),og 5 true 7 (.call 118 [tp 6]),oo 8 (.pick (tp 5) (tp 7) (cq false)),mq 2 8] [2] .ret))
def an_z4pg2 : Ann := ann (List.range 2) ac_z4pg2
theorem ok_z4pg2 : okd Tryz.prog an_z4pg2 ac_z4pg2 Tryz.f117 := ⟨by kernel_rfl, by kernel_rfl⟩

def ac_za0y7 : AC := (sr [oo 1 (.box 81 (tp 0)),oo 2 (.mv (cq false))] [1] (sr [fi 3 0 1,lq 4 3,oo 5 (.call 152 [tp 4]),mq 6 5,og 6 true 7 (.fieldA 1 (tp 1)),og 6 true 8 (.load none (tp 7)),og 6 true 9 (.call 109 [tp 8]),oo 10 (.pick (tp 6) (tp 9) (cq false)),mq 11 10,og 11 true 12 (.fieldA 2 (tp 1)),og 11 true 13 (.load none (tp 12)),og 11 true 14 (.call 152 [tp 13]),oo 15 (.pick (tp 11) (tp 14) (cq false)),mq 16 15,og 16 true 17 (.fieldA 3 (tp 1)),og 16 true 18 (.load none (tp 17)),og 16 true 19 (.bin .eql (tp 18) (ci 0)),og 16 true 20 (.mv (tp 19)),og 20 false 21 (.fieldA 3 (tp 1)),og 20 false 22 (.load none (tp 21)),og 20 false 23 (.call 104 [tp 22]),og 16 true 24 (.pick (tp 20) (cq true) (tp 23)),oo 25 (.pick (tp 16) (tp 24) (cq false)),mq 2 25] [2] .ret))
def an_za0y7 : Ann := ann (List.range 2) ac_za0y7
theorem ok_za0y7 : okd Tryz.prog an_za0y7 ac_za0y7 Tryz.f120 := ⟨by kernel_rfl, by kernel_rfl⟩

def ac_zjms9 : AC := (sr [oo 1 (.box 66 (tp 0)),oo 2 (.mv (cq false))] [1] (sr [fi 3 0 1,lq 4 3,oo 5 (.call 164 [tp 4,ci 4,.func 165]),mq 6 5,og 6 true 7 (.fieldA 1 (tp 1)),og 6 true 8 (.load none (tp 7)),og 6 true 9 (.call 166 [tp 8]),oo 10 (.pick (tp 6) (tp 9) (cq false)),mq 11 10,og 11 true 12 (.fieldA 2 (tp 1)),og 11 true 13 (.load none (tp 12)),og 11 true 14 (.call 167 [tp 13,ci 4,.func 168]),oo 15 (.pick (tp 11) (tp 14) (cq false)),mq 2 15] [2] .ret))
def an_zjms9 : Ann := ann (List.range 2) ac_zjms9
theorem ok_zjms9 : okd Tryz.prog an_zjms9 ac_zjms9 Tryz.f123 := ⟨by kernel_rfl, by kernel_rfl⟩

def ac_z9wz0 : AC := (sr [oo 1 (.box 41 (tp 0)),oo 2 (.mv (cq false))] [1] (sr [fi 3 0 1,lq 4 3,oo 5 (.call 125 [tp 4]),mq 6 5,og 6 true 7 (.fieldA 1 (tp 1)),og 6 true 8 (.load none (tp 7)),og 6 true 9 (.call 126 [tp 8]),oo 10 (.pick (tp 6) (tp 9) (cq false)),mq 11 10,og 11 true 12 (.fieldA 2 (tp 1)),og 11 true 13 (.load none (tp 12)),og 11 true 14 (.bin .eql (tp 13) (.const (.string ⟨#[]⟩))),oo 15 (.pick (tp 11) (tp 14) (cq false)),mq 2 15] [2] .ret))
def an_z9wz0 : Ann := ann (List.range 2) ac_z9wz0
theorem ok_z9wz0 : okd Tryz.prog an_z9wz0 ac_z9wz0 Tryz.f124 := ⟨by kernel_rfl, by kernel_rfl⟩

def ac_zavnu : AC := (sr [oo 2 (.mv (cq false))] [0] (sr [mq 3 0,oo 4 (.bin .geq (tp 3) (ci 1)),mq 5 4,og 5 true 6 (.mv (tp 0)),og 5 true 7 (.bin .leq (tp 6) (ci 7)),oo 8 (.pick (tp 5) (tp 7) (cq false)),mq 2 8] [2] .ret))
def an_zavnu : Ann := ann (List.range 2) ac_zavnu
theorem ok_zavnu : okd Tryz.prog an_zavnu ac_zavnu Tryz.f125 := ⟨by kernel_rfl, by kernel_rfl⟩

def ac_z4xw6 : AC := (sr [oo 1 (.box 41 (tp 0)),oo 2 (.mv (cq false))] [1] (sr [fi 3 0 1,lq 4 3,oo 5 (.call 125 [tp 4]),mq 6 5,og 6 true 7 (.fieldA 1 (tp 1)),og 6 true 8 (.load none (tp 7)),og 6 true 9 (.bin .eql (tp 8) (.const (.string ⟨#[]⟩))),oo 10 (.pick (tp 6) (tp 9) (cq false)),mq 11 10,og 11 true 12 (.fieldA 2 (tp 1)),og 11 true 13 (.load none (tp 12)),og 11 true 14 (.bin .eql (tp 13) (.const (.string ⟨#[]⟩))),og 11 true 15 (.mv (tp 14)),og 15 false 16 (.fieldA 2 (tp 1)),og 15 false 17 (.load none (tp 16)),og 15 false 18 (.call 109 [tp 17]),og 11 true 19 (.pick (tp 15) (cq true) (tp 18)),oo 20 (.pick (tp 11) (tp 19) (cq false)),mq 2 20] [2] .ret))
def an_z4xw6 : Ann := ann (List.range 2) ac_z4xw6
theorem ok_z4xw6 : okd Tryz.prog an_z4xw6 ac_z4xw6 Tryz.f127 := ⟨by kernel_rfl, by kernel_rfl⟩

def ac_z1fwi : AC := (sr [oo 2 (.box 78 (tp 0)),oo 3 (.box 78 (tp 1)),oo 4 (.mv (cq false))] [2,3] (sr [fi 5 0 2,lq 6 5,fi 7 0 3,lq 8 7,oo 9 (.bin .eql (tp 6) (tp 8)),mq 10 9,og 10 true 11 (.fieldA 1 (tp 2)),og 10 true 12 (.load none (tp 11)),og 10 true 13 (.fieldA 1 (tp 3)),og 10 true 14 (.load none (tp 13)),og 10 true 15 (.bin .eql (tp 12) (tp 14)),oo 16 (.pick (tp 10) (tp 15) (cq false)),mq 17 16,og 17 true 18 (.fieldA 2 (tp 2)),og 17 true 19 (.load none (tp 18)),og 17 true 20 (.fieldA 2 (tp 3)),og 17 true 21 (.load none (tp 20)),og 17 true 22 (.binB false (tp 19) (tp 21)),oo 23 (.pick (tp 17) (tp 22) (cq false)),mq 24 23,og 24 true 25 (.fieldA 3 (tp 2)),og 24 true 26 (.load none (tp 25)),og 24 true 27 (.fieldA 3 (tp 3)),og 24 true 28 (.load none (tp 27)),og 24 true 29 (.bin .eql (tp 26) (tp 28)),oo 30 (.pick (tp 24) (tp 29) (cq false)),mq 31 30,og 31 true 32 (.fieldA 4 (tp 2)),og 31 true 33 (.load (some 3) (tp 32)),og 31 true 34 (.fieldA 4 (tp 3)),og 31 true 35 (.load (some 3) (tp 34)),og 31 true 36 (.eqs false [.int,.str,.str] (tp 33) (tp 35)),oo 37 (.pick (tp 31) (tp 36) (cq false)),mq 38 37,og 38 true 39 (.fieldA 7 (tp 2)),og 38 true 40 (.load none (tp 39)),og 38 true 41 (.fieldA 7 (tp 3)),og 38 true 42 (.load none (tp 41)),og 38 true 43 (.bin .eql (tp 40) (tp 42)),oo 44 (.pick (tp 38) (tp 43) (cq false)),mq 45 44,og 45 true 46 (.fieldA 8 (tp 2)),og 45 true 47 (.load none (tp 46)),og 45 true 48 (.fieldA 8 (tp 3)),og 45 true 49 (.load none (tp 48)),og 45 true 50 (.call 173 [tp 47,tp 49]),oo 51 (.pick (tp 45) (tp 50) (cq false)),mq 4 51] [4] .ret))
def an_z1fwi : Ann := ann (List.range 2) ac_z1fwi
theorem ok_z1fwi : okd Tryz.prog an_z1fwi ac_z1fwi Tryz.f135 := ⟨by kernel_rfl, by kernel_rfl⟩

def ac_z30xg : AC := (sr [oo 2 (.box 66 (tp 0)),oo 3 (.box 66 (tp 1)),oo 4 (.mv (cq false))] [2,3] (sr [fi 5 0 2,lq 6 5,fi 7 0 3,lq 8 7,oo 9 (.call 174 [tp 6,tp 8,.func 175]),mq 10 9,og 10 true 11 (.fieldA 1 (tp 2)),og 10 true 12 (.load none (tp 11)),og 10 true 13 (.fieldA 1 (tp 3)),og 10 true 14 (.load none (tp 13)),og 10 true 15 (.call 176 [tp 12,tp 14]),oo 16 (.pick (tp 10) (tp 15) (cq false)),mq 17 16,og 17 true 18 (.fieldA 2 (tp 2)),og 17 true 19 (.load none (tp 18)),og 17 true 20 (.fieldA 2 (tp 3)),og 17 true 21 (.load none (tp 20)),og 17 true 22 (.call 177 [tp 19,tp 21]),oo 23 (.pick (tp 17) (tp 22) (cq false)),mq 4 23] [4] .ret))
def an_z30xg : Ann := ann (List.range 2) ac_z30xg
theorem ok_z30xg : okd Tryz.prog an_z30xg ac_z30xg Tryz.f137 := ⟨by kernel_rfl, by kernel_rfl⟩

def ac_zte1c : AC := (sr [oo 4 (.mv (cq false))] [0,1] (sr [mq 5 0,oo 6 (.call 186 [tp 5]),mq 7 6,og 7 true 8 (.mv (tp 1)),og 7 true 9 (.call 186 [tp 8]),og 7 true 10 (.un .not (tp 9)),oo 11 (.pick (tp 7) (tp 10) (cq false)),mq 12 11,og 12 false 13 (.mv (tp 0)),og 12 false 14 (.mv (tp 1)),og 12 false 15 (.bin .lss (tp 13) (tp 14)),oo 16 (.pick (tp 12) (cq true) (tp 15)),mq 4 16] [4] .ret))
def an_zte1c : Ann := ann (List.range 2) ac_zte1c
theorem ok_zte1c : okd Tryz.prog an_zte1c ac_zte1c Tryz.f147 := ⟨by kernel_rfl, by kernel_rfl⟩

def ac_ztrsy : AC := (sr [oo 2 (.mv (cq false))] [0] (sr [mq 3 0,oo 4 (.bin .eql (tp 3) (.const (.string ⟨#[]⟩))),mq 5 4,og 5 false 6 (.mv (tp 0)),og 5 false 7 (.call 126 [tp 6]),oo 8 (.pick (tp 5) (cq true) (tp 7)),mq 2 8] [2] .ret))
def an_ztrsy : Ann := ann (List.range 2) ac_ztrsy
theorem ok_ztrsy : okd Tryz.prog an_ztrsy ac_ztrsy Tryz.f152 := ⟨by kernel_rfl, by kernel_rfl⟩

def ac_zlask : AC := (sr [oo 2 (.mv (cq false))] [0] (sr [mq 3 0,oo 4 (.len (tp 3) false),oo 5 (.bin .leq (tp 4) (ci 8)),mq 6 5,og 6 true 7 (.mv (tp 0)),og 6 true 8 (.call 189 [tp 7,.func 190]),og 6 true 9 (.un .not (tp 8)),oo 10 (.pick (tp 6) (tp 9) (cq false)),mq 2 10] [2] .ret))
def an_zlask : Ann := ann (List.range 2) ac_zlask
theorem ok_zlask : okd Tryz.prog an_zlask ac_zlask Tryz.f153 := ⟨by kernel_rfl, by kernel_rfl⟩

def ac_zi87h : AC := (sr [oo 1 (.box 86 (tp 0)),oo 2 (.mv (cq false))] [1] (sr [oo 3 (.mv (.func 198))] [1,3] (.seq (.block 0 (sr [fi 5 0 1,oo 6 (.load (some 2) (tp 5)),oo 7 (.call 201 [tp 6]),oo 8 (.un .not (tp 7)),mq 9 8,og 9 false 10 (.fieldA 2 (tp 1)),og 9 false 11 (.load none (tp 10)),og 9 false 12 (.bin .neq (tp 11) (.const (.string ⟨#[]⟩))),og 9 false 13 (.mv (tp 12)),og 13 true 14 (.fieldA 2 (tp 1)),og 13 true 15 (.load none (tp 14)),og 13 true 16 (.call 202 [tp 15]),og 13 true 17 (.un .not (tp 16)),og 9 false 18 (.pick (tp 13) (tp 17) (cq false)),oo 19 (.pick (tp 9) (cq true) (tp 18)),mq 4 19] [1,3,4] (.cond (tp 4) (sr [oo 2 (.mv (cq false))] [2] .ret) (sr [fi 21 3 1,lq 22 21,oo 23 (.len (tp 22) false),oo 24 (.bin .gtr (tp 23) (ci 8)),mq 25 24,og 25 false 26 (.fieldA 3 (tp 1)),og 25 false 27 (.load none (tp 26)),og 25 false 28 (.mv (tp 3)),og 25 false 29 (.call 203 [tp 27,tp 28]),oo 30 (.pick (tp 25) (cq true) (tp 29)),mq 31 30,og 31 false 32 (.fieldA 3 (tp 1)),og 31 false 33 (.load none (tp 32)),og 31 false 34 (.call 204 [tp 33,.func 205]),oo 35 (.pick (tp 31) (cq true) (tp 34)),mq 20 35] [1,20] (.cond (tp 20) (sr [oo 2 (.mv (cq false))] [2] .ret) .skip))))) (sr [fi 36 4 1,lq 37 36,oo 38 (.len (tp 37) false),oo 39 (.bin .leq (tp 38) (ci 8)),mq 40 39,og 40 true 41 (.fieldA 4 (tp 1)),og 40 true 42 (.load none (tp 41)),og 40 true 43 (.call 206 [tp 42]),oo 44 (.pick (tp 40) (tp 43) (cq false)),mq 45 44,og 45 true 46 (.fieldA 4 (tp 1)),og 45 true 47 (.load none (tp 46)),og 45 true 48 (.call 204 [tp 47,.func 207]),og 45 true 49 (.un .not (tp 48)),oo 50 (.pick (tp 45) (tp 49) (cq false)),mq 2 50] [2] .ret))))
def an_zi87h : Ann := ann (List.range 7) ac_zi87h
theorem ok_zi87h : okd Tryz.prog an_zi87h ac_zi87h Tryz.f165 := ⟨by kernel_rfl, by kernel_rfl⟩

def ac_zhmnj : AC := (sr [oo 2 (.mv (cq false))] [0] (.seq (sr [mq 6 0,oo 7 (.len (tp 6) false),oo 8 (.mv (ci 0))] [0,6,7,8] (.block 0 (.loop (sr [oo 9 (.bin .lss (tp 8) (tp 7))] [0,6,7,8,9] (.seq (.cond (tp 9) .skip (.exit 0)) (.seq (.block 1 (sr [mq 10 8,oo 11 (.idxA 8 (tp 6) (tp 8)),oo 12 (.load (some 8) (tp 11)),oo 4 (.alloc 126 [.pd (.raw (.int .i64 0)),.pd (.raw (.string ⟨#[]⟩)),.pd (.raw (.string ⟨#[]⟩)),.pd (.raw (.string ⟨#[]⟩)),.pd (.raw (.int .i64 0)),.pd (.raw (.string ⟨#[]⟩)),.pd (.raw (.bool false)),.pd (.raw (.int .i64 0))]),mq 3 10,.mk none none (.store 8 (tp 4) (tp 12))] [0,3,4,6,7,8] (sr [oo 13 (.mkfn 208 [tp 4]),mq 5 13] [0,3,4,5,6,7,8] (sr [oo 14 (.load (some 8) (tp 4)),oo 15 (.call 210 [tp 14]),oo 16 (.un .not (tp 15)),mq 17 16,og 17 false 18 (.mv (tp 0)),og 17 false 19 (.mv (tp 3)),og 17 false 20 (.slcL 8 (tp 18) none (some (tp 19))),og 17 false 21 (.mv (tp 5)),og 17 false 22 (.call 211 [tp 20,tp 21]),oo 23 (.pick (tp 17) (cq true) (tp 22))] [0,6,7,8,23] (.cond (tp 23) (sr [oo 2 (.mv (cq false))] [2] .ret) .skip))))) (.region [oo 24 (.bin .add (tp 8) (ci 1)),mq 8 24] (some [0,6,7,8])))))))) (sr [mq 25 0,oo 26 (.len (tp 25) false),oo 27 (.bin .leq (tp 26) (ci 8)),mq 2 27] [2] .ret)))
def an_zhmnj : Ann := ann (List.range 9) ac_zhmnj
theorem ok_zhmnj : okd Tryz.prog an_zhmnj ac_zhmnj Tryz.f166 := ⟨by kernel_rfl, by kernel_rfl⟩

def ac_z2jf5 : AC := (sr [oo 1 (.box 68 (tp 0)),oo 2 (.mv (cq false))] [1] (sr [fi 3 0 1,fi 4 0 3,lq 5 4,oo 6 (.call 125 [tp 5]),mq 7 6,og 7 true 8 (.fieldA 0 (tp 1)),og 7 true 9 (.fieldA 1 (tp 8)),og 7 true 10 (.load none (tp 9)),og 7 true 11 (.call 152 [tp 10]),oo 12 (.pick (tp 7) (tp 11) (cq false)),mq 13 12,og 13 true 14 (.fieldA 0 (tp 1)),og 13 true 15 (.fieldA 2 (tp 14)),og 13 true 16 (.load none (tp 15)),og 13 true 17 (.call 109 [tp 16]),oo 18 (.pick (tp 13) (tp 17) (cq false)),mq 19 18,og 19 true 20 (.fieldA 3 (tp 1)),og 19 true 21 (.load none (tp 20)),og 19 true 22 (.bin .eql (tp 21) (ci 0)),og 19 true 23 (.mv (tp 22)),og 23 false 24 (.fieldA 3 (tp 1)),og 23 false 25 (.load none (tp 24)),og 23 false 26 (.call 104 [tp 25]),og 19 true 27 (.pick (tp 23) (cq true) (tp 26)),oo 28 (.pick (tp 19) (tp 27) (cq false)),mq 29 28,og 29 true 30 (.fieldA 4 (tp 1)),og 29 true 31 (.load none (tp 30)),og 29 true 32 (.bin .geq (tp 31) (ci 0)),oo 33 (.pick (tp 29) (tp 32) (cq false)),mq 34 33,og 34 true 35 (.fieldA 4 (tp 1)),og 34 true 36 (.load none (tp 35)),og 34 true 37 (.bin .leq (tp 36) (ci 1000)),oo 38 (.pick (tp 34) (tp 37) (cq false)),mq 2 38] [2] .ret))
def an_z2jf5 : Ann := ann (List.range 2) ac_z2jf5
theorem ok_z2jf5 : okd Tryz.prog an_z2jf5 ac_z2jf5 Tryz.f168 := ⟨by kernel_rfl, by kernel_rfl⟩

def ac_zx2gm : AC := (sr [oo 4 (.mv (cq false))] [0,1] (sr [mq 5 0,mq 6 1,oo 7 (.call 215 [tp 5,tp 6,.func 216]),mq 4 7] [4] .ret))
def an_zx2gm : Ann := ann (List.range 2) ac_zx2gm
theorem ok_zx2gm : okd Tryz.prog an_zx2gm ac_zx2gm Tryz.f173 := ⟨by kernel_rfl, by kernel_rfl⟩

def ac_zb37x : AC := (sr [oo 2 (.box 86 (tp 0)),oo 3 (.box 86 (tp 1)),oo 4 (.mv (cq false))] [2,3] (sr [fi 5 0 2,oo 6 (.load (some 2) (tp 5)),fi 7 0 3,oo 8 (.load (some 2) (tp 7)),oo 9 (.eqs false [.int,.str] (tp 6) (tp 8)),mq 10 9,og 10 true 11 (.fieldA 2 (tp 2)),og 10 true 12 (.load none (tp 11)),og 10 true 13 (.fieldA 2 (tp 3)),og 10 true 14 (.load none (tp 13)),og 10 true 15 (.bin .eql (tp 12) (tp 14)),oo 16 (.pick (tp 10) (tp 15) (cq false)),mq 17 16,og 17 true 18 (.fieldA 3 (tp 2)),og 17 true 19 (.load none (tp 18)),og 17 true 20 (.fieldA 3 (tp 3)),og 17 true 21 (.load none (tp 20)),og 17 true 22 (.call 129 [tp 19,tp 21]),oo 23 (.pick (tp 17) (tp 22) (cq false)),mq 24 23,og 24 true 25 (.fieldA 4 (tp 2)),og 24 true 26 (.load none (tp 25)),og 24 true 27 (.fieldA 4 (tp 3)),og 24 true 28 (.load none (tp 27)),og 24 true 29 (.call 129 [tp 26,tp 28]),oo 30 (.pick (tp 24) (tp 29) (cq false)),mq 4 30] [4] .ret))
def an_zb37x : Ann := ann (List.range 2) ac_zb37x
theorem ok_zb37x : okd Tryz.prog an_zb37x ac_zb37x Tryz.f175 := ⟨by kernel_rfl, by kernel_rfl⟩

def ac_zkuzu : AC := (sr [oo 2 (.mv (cq false))] [0] (sr [mq 3 0,mq 4 0,oo 5 (.bin .neq (tp 3) (tp 4)),mq 2 5] [2] .ret))
def an_zkuzu : Ann := ann (List.range 2) ac_zkuzu
theorem ok_zkuzu : okd Tryz.prog an_zkuzu ac_zkuzu Tryz.f186 := ⟨by kernel_rfl, by kernel_rfl⟩

def ac_zdaaj : AC := (sr [oo 1 (.box 124 (tp 0)),oo 2 (.mv (cq false))] [1] (sr [oo 3 (.load (some 3) (tp 1)),oo 4 (.call 191 [tp 3]),oo 5 (.isnil false (tp 4)),mq 2 5] [2] .ret))
def an_zdaaj : Ann := ann (List.range 2) ac_zdaaj
theorem ok_zdaaj : okd Tryz.prog an_zdaaj ac_zdaaj Tryz.f190 := ⟨by kernel_rfl, by kernel_rfl⟩

def ac_zyjit : AC := (sr [oo 1 (.box 124 (tp 0)),oo 2 (.mv (.const .nilIface))] [1] (sr [fi 4 2 1,lq 5 4,oo 6 (.len (tp 5) false),oo 7 (.bin .geq (tp 6) (ci 1)),mq 8 7,og 8 true 9 (.fieldA 2 (tp 1)),og 8 true 10 (.load none (tp 9)),og 8 true 11 (.len (tp 10) false),og 8 true 12 (.bin .leq (tp 11) (ci 8)),oo 13 (.pick (tp 8) (tp 12) (cq false)),mq 14 13,og 14 true 15 (.fieldA 2 (tp 1)),og 14 true 16 (.load none (tp 15)),og 14 true 17 (.call 157 [tp 16,.func 225]),og 14 true 18 (.un .not (tp 17)),oo 19 (.pick (tp 14) (tp 18) (cq false)),mq 3 19] [1,3] (.seq (.block 0 (sr [fi 21 1 1,lq 22 21,oo 23 (.call 109 [tp 22]),oo 24 (.un .not (tp 23)),mq 20 24] [1,3,20] (.cond (tp 20) (sr [oo 2 (.mv (.const .nilIface))] [2] .ret) (sr [fi 26 0 1,lq 27 26,oo 28 (.bin .eql (tp 27) (ci 1)),mq 29 28,og 29 true 30 (.mv (tp 3)),oo 31 (.pick (tp 29) (tp 30) (cq false)),mq 25 31] [1,3,25] (.cond (tp 25) (sr [fi 32 1 1,lq 33 32,fi 34 2 1,lq 35 34,oo 36 (.build [.pd (.raw (.string ⟨#[]⟩)),.nils] [(0,1,tp 33),(1,1,tp 35)]),oo 37 (.mkif 214 (tp 36)),mq 2 37] [2] .ret) (sr [fi 39 0 1,lq 40 39,oo 41 (.bin .eql (tp 40) (ci 2)),mq 42 41,og 42 true 43 (.mv (tp 3)),oo 44 (.pick (tp 42) (tp 43) (cq false)),mq 38 44] [1,38] (.cond (tp 38) (sr [fi 45 1 1,lq 46 45,fi 47 2 1,lq 48 47,oo 49 (.build [.pd (.raw (.string ⟨#[]⟩)),.nils] [(0,1,tp 46),(1,1,tp 48)]),oo 50 (.build [.pd (.raw (.string ⟨#[]⟩)),.nils] [(0,2,tp 49)]),oo 51 (.mkif 216 (tp 50)),mq 2 51] [2] .ret) (sr [fi 53 0 1,lq 54 53,oo 55 (.bin .eql (tp 54) (ci 3)),mq 56 55,og 56 true 57 (.fieldA 2 (tp 1)),og 56 true 58 (.load none (tp 57)),og 56 true 59 (.len (tp 58) false),og 56 true 60 (.bin .eql (tp 59) (ci 0)),oo 61 (.pick (tp 56) (tp 60) (cq false)),mq 52 61] [1,52] (.cond (tp 52) (sr [fi 62 1 1,lq 63 62,oo 64 (.mkif 217 (tp 63)),mq 2 64] [2] .ret) (sr [fi 66 0 1,lq 67 66,oo 68 (.bin .eql (tp 67) (ci 4)),mq 69 68,og 69 true 70 (.fieldA 2 (tp 1)),og 69 true 71 (.load none (tp 70)),og 69 true 72 (.len (tp 71) false),og 69 true 73 (.bin .eql (tp 72) (ci 0)),oo 74 (.pick (tp 69) (tp 73) (cq false)),mq 65 74] [1,65] (.cond (tp 65) (sr [fi 75 1 1,lq 76 75,oo 77 (.build [.pd (.raw (.string ⟨#[]⟩))] [(0,1,tp 76)]),oo 78 (.mkif 219 (tp 77)),mq 2 78] [2] .ret) .skip))))))))))) (sr [oo 2 (.mv (.const .nilIface))] [2] .ret))))
def an_zyjit : Ann := ann (List.range 13) ac_zyjit
theorem ok_zyjit : okd Tryz.prog an_zyjit ac_zyjit Tryz.f191 := ⟨by kernel_rfl, by kernel_rfl⟩

def ac_zqrzx : AC := (sr [oo 1 (.box 122 (tp 0)),oo 2 (.mv (cq false))] [1] (sr [fi 3 0 1,lq 4 3,oo 5 (.call 199 [tp 4]),oo 6 (.un .not (tp 5)),mq 7 6,og 7 false 8 (.fieldA 1 (tp 1)),og 7 false 9 (.load none (tp 8)),og 7 false 10 (.call 200 [tp 9]),og 7 false 11 (.un .not (tp 10)),oo 12 (.pick (tp 7) (cq true) (tp 11)),mq 2 12] [2] .ret))
def an_zqrzx : Ann := ann (List.range 2) ac_zqrzx
theorem ok_zqrzx : okd Tryz.prog an_zqrzx ac_zqrzx Tryz.f198 := ⟨by kernel_rfl, by kernel_rfl⟩

def ac_z6for : AC := (sr [oo 3 (.box 153 (tp 1)),oo 4 (.mv (cq false))] [0,3] (.seq (sr [mq 7 0,oo 8 (.len (tp 7) false),oo 9 (.mv (ci 0))] [0,3,7,8,9] (.block 0 (.loop (sr [oo 10 (.bin .lss (tp 9) (tp 8))] [0,3,7,8,9,10] (.seq (.cond (tp 10) .skip (.exit 0)) (.seq (.block 1 (sr [mq 11 9,oo 12 (.idxA 2 (tp 7) (tp 9)),oo 13 (.load (some 2) (tp 12)),oo 6 (.alloc 122 [.pd (.raw (.string ⟨#[]⟩)),.pd (.raw (.string ⟨#[]⟩))]),mq 5 11,.mk none none (.store 2 (tp 6) (tp 13))] [0,3,5,6,7,8,9] (sr [mq 14 0,mq 15 5,oo 16 (.slcL 2 (tp 14) none (some (tp 15))),oo 17 (.mkfn 234 [tp 3,tp 6]),oo 18 (.call 203 [tp 16,tp 17])] [0,3,7,8,9,18] (.cond (tp 18) (sr [oo 4 (.mv (cq true))] [4] .ret) .skip)))) (.region [oo 19 (.bin .add (tp 9) (ci 1)),mq 9 19] (some [0,3,7,8,9])))))))) (sr [oo 4 (.mv (cq false))] [4] .ret)))
def an_z6for : Ann := ann (List.range 8) ac_z6for
theorem ok_z6for : okd Tryz.prog an_z6for ac_z6for Tryz.f204 := ⟨by kernel_rfl, by kernel_rfl⟩

def ac_zwio7 : AC := (sr [oo 4 (.mv (cq false))] [0,1] (sr [mq 5 0,mq 6 1,oo 7 (.bin .eql (tp 5) (tp 6)),mq 4 7] [4] .ret))
def an_zwio7 : Ann := ann (List.range 2) ac_zwio7
theorem ok_zwio7 : okd Tryz.prog an_zwio7 ac_zwio7 Tryz.f207 := ⟨by kernel_rfl, by kernel_rfl⟩

def ac_z38ed : AC := (sr [oo 2 (.box 126 (tp 0)),oo 3 (.mv (cq false))] [1,2] (sr [oo 4 (.load (some 8) (tp 2)),oo 5 (.call 209 [tp 4]),mq 6 5,og 6 true 7 (.load (some 8) (tp 1)),og 6 true 8 (.call 209 [tp 7]),oo 9 (.pick (tp 6) (tp 8) (cq false)),mq 10 9,og 10 false 11 (.fieldA 0 (tp 2)),og 10 false 12 (.load none (tp 11)),og 10 false 13 (.fieldA 0 (tp 1)),og 10 false 14 (.load none (tp 13)),og 10 false 15 (.bin .eql (tp 12) (tp 14)),og 10 false 16 (.mv (tp 15)),og 16 true 17 (.fieldA 1 (tp 2)),og 16 true 18 (.load none (tp 17)),og 16 true 19 (.fieldA 1 (tp 1)),og 16 true 20 (.load none (tp 19)),og 16 true 21 (.call 205 [tp 18,tp 20]),og 10 false 22 (.pick (tp 16) (tp 21) (cq false)),oo 23 (.pick (tp 10) (cq true) (tp 22)),mq 3 23] [3] .ret))
def an_z38ed : Ann := ann (List.range 2) ac_z38ed
theorem ok_z38ed : okd Tryz.prog an_z38ed ac_z38ed Tryz.f208 := ⟨by kernel_rfl, by kernel_rfl⟩

def ac_zm6be : AC := (sr [oo 1 (.box 126 (tp 0)),oo 2 (.mv (cq false))] [1] (sr [fi 3 0 1,lq 4 3,oo 5 (.bin .eql (tp 4) (ci 4)),mq 6 5,og 6 false 7 (.fieldA 0 (tp 1)),og 6 false 8 (.load none (tp 7)),og 6 false 9 (.bin .eql (tp 8) (ci 5)),oo 10 (.pick (tp 6) (cq true) (tp 9)),mq 2 10] [2] .ret))
def an_zm6be : Ann := ann (List.range 2) ac_zm6be
theorem ok_zm6be : okd Tryz.prog an_zm6be ac_zm6be Tryz.f209 := ⟨by kernel_rfl, by kernel_rfl⟩

def ac_zhj59 : AC := (sr [oo 1 (.box 126 (tp 0)),oo 2 (.mv (cq false))] [1] (.seq (sr [fi 3 0 1,lq 4 3] [1,4] (.block 0 (.seq (sr [oo 6 (.bin .eql (tp 4) (ci 1)),mq 5 6] [1,4,5] (.cond (tp 5) .skip (.region [oo 7 (.bin .eql (tp 4) (ci 2)),mq 5 7] (some [1,4,5])))) (.cond (tp 5) (sr [oo 8 (.load (some 8) (tp 1)),fi 9 0 1,lq 10 9,fi 11 1 1,lq 12 11,fi 13 2 1,lq 14 13,oo 15 (.build [.pd (.raw (.int .i64 0)),.pd (.raw (.string ⟨#[]⟩)),.pd (.raw (.string ⟨#[]⟩)),.pd (.raw (.string ⟨#[]⟩)),.pd (.raw (.int .i64 0)),.pd (.raw (.string ⟨#[]⟩)),.pd (.raw (.bool false)),.pd (.raw (.int .i64 0))] [(0,1,tp 10),(1,1,tp 12),(2,1,tp 14)]),oo 16 (.eqs false [.int,.str,.str,.str,.int,.str,.bool,.int] (tp 8) (tp 15)),mq 17 16,og 17 true 18 (.fieldA 1 (tp 1)),og 17 true 19 (.load none (tp 18)),og 17 true 20 (.call 199 [tp 19]),oo 21 (.pick (tp 17) (tp 20) (cq false)),mq 22 21,og 22 true 23 (.fieldA 2 (tp 1)),og 22 true 24 (.load none (tp 23)),og 22 true 25 (.call 200 [tp 24]),oo 26 (.pick (tp 22) (tp 25) (cq false)),mq 2 26] [2] .ret) (sr [oo 28 (.bin .eql (tp 4) (ci 3)),mq 27 28] [1,4,27] (.cond (tp 27) (sr [oo 29 (.load (some 8) (tp 1)),fi 30 0 1,lq 31 30,fi 32 1 1,lq 33 32,oo 34 (.build [.pd (.raw (.int .i64 0)),.pd (.raw (.string ⟨#[]⟩)),.pd (.raw (.string ⟨#[]⟩)),.pd (.raw (.string ⟨#[]⟩)),.pd (.raw (.int .i64 0)),.pd (.raw (.string ⟨#[]⟩)),.pd (.raw (.bool false)),.pd (.raw (.int .i64 0))] [(0,1,tp 31),(1,1,tp 33)]),oo 35 (.eqs false [.int,.str,.str,.str,.int,.str,.bool,.int] (tp 29) (tp 34)),mq 36 35,og 36 true 37 (.fieldA 1 (tp 1)),og 36 true 38 (.load none (tp 37)),og 36 true 39 (.call 199 [tp 38]),oo 40 (.pick (tp 36) (tp 39) (cq false)),mq 2 40] [2] .ret) (sr [oo 42 (.bin .eql (tp 4) (ci 4)),mq 41 42] [1,4,41] (.cond (tp 41) (sr [fi 43 1 1,lq 44 43,oo 45 (.bin .eql (tp 44) (.const (.string ⟨#[]⟩))),mq 46 45,og 46 true 47 (.fieldA 2 (tp 1)),og 46 true 48 (.load none (tp 47)),og 46 true 49 (.bin .eql (tp 48) (.const (.string ⟨#[]⟩))),oo 50 (.pick (tp 46) (tp 49) (cq false)),mq 51 50,og 51 true 52 (.load (some 8) (tp 1)),og 51 true 53 (.call 236 [tp 52]),oo 54 (.pick (tp 51) (tp 53) (cq false)),mq 55 54,og 55 true 56 (.fieldA 4 (tp 1)),og 55 true 57 (.load none (tp 56)),og 55 true 58 (.bin .geq (tp 57) (ci 0)),oo 59 (.pick (tp 55) (tp 58) (cq false)),mq 60 59,og 60 true 61 (.fieldA 4 (tp 1)),og 60 true 62 (.load none (tp 61)),og 60 true 63 (.bin .leq (tp 62) (ci 65535)),oo 64 (.pick (tp 60) (tp 63) (cq false)),mq 65 64,og 65 true 66 (.fieldA 7 (tp 1)),og 65 true 67 (.load none (tp 66)),og 65 true 68 (.bin .eql (tp 67) (ci 301)),og 65 true 69 (.mv (tp 68)),og 69 false 70 (.fieldA 7 (tp 1)),og 69 false 71 (.load none (tp 70)),og 69 false 72 (.bin .eql (tp 71) (ci 302)),og 65 true 73 (.pick (tp 69) (cq true) (tp 72)),oo 74 (.pick (tp 65) (tp 73) (cq false)),mq 2 74] [2] .ret) (sr [oo 76 (.bin .eql (tp 4) (ci 5)),mq 75 76] [1,75] (.cond (tp 75) (sr [oo 77 (.load (some 8) (tp 1)),fi 78 0 1,lq 79 78,fi 80 3 1,lq 81 80,fi 82 5 1,lq 83 82,fi 84 6 1,lq 85 84,oo 86 (.build [.pd (.raw (.int .i64 0)),.pd (.raw (.string ⟨#[]⟩)),.pd (.raw (.string ⟨#[]⟩)),.pd (.raw (.string ⟨#[]⟩)),.pd (.raw (.int .i64 0)),.pd (.raw (.string ⟨#[]⟩)),.pd (.raw (.bool false)),.pd (.raw (.int .i64 0))] [(0,1,tp 79),(3,1,tp 81),(5,1,tp 83),(6,1,tp 85)]),oo 87 (.eqs false [.int,.str,.str,.str,.int,.str,.bool,.int] (tp 77) (tp 86)),mq 88 87,og 88 true 89 (.load (some 8) (tp 1)),og 88 true 90 (.call 236 [tp 89]),oo 91 (.pick (tp 88) (tp 90) (cq false)),mq 92 91,og 92 true 93 (.fieldA 3 (tp 1)),og 92 true 94 (.load none (tp 93)),og 92 true 95 (.bin .neq (tp 94) (.const (.string ⟨#[]⟩))),og 92 true 96 (.mv (tp 95)),og 96 false 97 (.fieldA 5 (tp 1)),og 96 false 98 (.load none (tp 97)),og 96 false 99 (.bin .neq (tp 98) (.const (.string ⟨#[]⟩))),og 92 true 100 (.pick (tp 96) (cq true) (tp 99)),oo 101 (.pick (tp 92) (tp 100) (cq false)),mq 2 101] [2] .ret) .skip)))))))))) (sr [oo 2 (.mv (cq false))] [2] .ret)))
def an_zhj59 : Ann := ann (List.range 12) ac_zhj59
theorem ok_zhj59 : okd Tryz.prog an_zhj59 ac_zhj59 Tryz.f210 := ⟨by kernel_rfl, by kernel_rfl⟩

def ac_zvpxe : AC := (sr [oo 2 (.box 124 (tp 0)),oo 3 (.box 124 (tp 1)),oo 4 (.mv (cq false))] [2,3] (sr [fi 5 0 2,lq 6 5,fi 7 0 3,lq 8 7,oo 9 (.bin .eql (tp 6) (tp 8)),mq 10 9,og 10 true 11 (.fieldA 1 (tp 2)),og 10 true 12 (.load none (tp 11)),og 10 true 13 (.fieldA 1 (tp 3)),og 10 true 14 (.load none (tp 13)),og 10 true 15 (.bin .eql (tp 12) (tp 14)),oo 16 (.pick (tp 10) (tp 15) (cq false)),mq 17 16,og 17 true 18 (.fieldA 2 (tp 2)),og 17 true 19 (.load none (tp 18)),og 17 true 20 (.fieldA 2 (tp 3)),og 17 true 21 (.load none (tp 20)),og 17 true 22 (.call 131 [tp 19,tp 21]),oo 23 (.pick (tp 17) (tp 22) (cq false)),mq 4 23] [4] .ret))
def an_zvpxe : Ann := ann (List.range 2) ac_zvpxe
theorem ok_zvpxe : okd Tryz.prog an_zvpxe ac_zvpxe Tryz.f216 := ⟨by kernel_rfl, by kernel_rfl⟩

def ac_zuzx4 : AC := (sr [oo 2 (.mv (cq false))] [0] (sr [mq 3 0,oo 4 (.call 144 [tp 3]),oo 5 (.un .not (tp 4)),mq 2 5] [2] .ret))
def an_zuzx4 : Ann := ann (List.range 2) ac_zuzx4
theorem ok_zuzx4 : okd Tryz.prog an_zuzx4 ac_zuzx4 Tryz.f225 := ⟨by kernel_rfl, by kernel_rfl⟩

def ac_zpw6o : AC := (sr [oo 3 (.box 122 (tp 0)),oo 4 (.mv (cq false))] [1,2,3] (sr [lq 5 1,fi 6 0 3,lq 7 6,fi 8 0 2,lq 9 8,oo 10 (.callv (tp 5) [tp 7,tp 9]),mq 4 10] [4] .ret))
def an_zpw6o : Ann := ann (List.range 2) ac_zpw6o
theorem ok_zpw6o : okd Tryz.prog an_zpw6o ac_zpw6o Tryz.f234 := ⟨by kernel_rfl, by kernel_rfl⟩

def ac_z3d8y : AC := (sr [oo 1 (.box 126 (tp 0)),oo 2 (.mv (cq false))] [1] (.seq (sr [fi 3 3 1,lq 4 3,oo 5 (.bin .neq (tp 4) (.const (.string ⟨#[]⟩))),mq 6 5,og 6 true 7 (.fieldA 3 (tp 1)),og 6 true 8 (.load none (tp 7)),og 6 true 9 (.call 109 [tp 8]),og 6 true 10 (.un .not (tp 9)),oo 11 (.pick (tp 6) (tp 10) (cq false))] [1,11] (.cond (tp 11) (sr [oo 2 (.mv (cq false))] [2] .ret) .skip)) (.seq (.block 0 (sr [fi 13 5 1,lq 14 13,oo 15 (.bin .eql (tp 14) (.const (.string ⟨#[]⟩))),mq 12 15] [1,12] (.cond (tp 12) (sr [fi 16 6 1,lq 17 16,oo 18 (.un .not (tp 17)),mq 2 18] [2] .ret) (sr [fi 20 6 1,lq 21 20,mq 19 21] [1,19] (.cond (tp 19) (sr [fi 22 5 1,lq 23 22,oo 24 (.call 230 [tp 23]),mq 2 24] [2] .ret) .skip))))) (sr [fi 25 5 1,lq 26 25,oo 27 (.build [.pd (.raw (.int .i64 0)),.pd (.raw (.string ⟨#[]⟩))] [(0,1,ci 2),(1,1,tp 26)]),oo 28 (.call 201 [tp 27]),mq 2 28] [2] .ret))))
def an_z3d8y : Ann := ann (List.range 8) ac_z3d8y
theorem ok_z3d8y : okd Tryz.prog an_z3d8y ac_z3d8y Tryz.f236 := ⟨by kernel_rfl, by kernel_rfl⟩

end Go.Proofs.YtklolokoaooppaaGreatDoor


namespace Go.Proofs.YtklolokoaooppaaGreatDoor
open Go Go.RowKit
set_option linter.unusedSimpArgs false
set_option linter.unusedVariables false
set_option maxRecDepth 100000

def okind (n : Int) : Bool := decide (1 ≤ n) && decide (n ≤ 7)
def oport (n : Int) : Bool := decide (1 ≤ n) && decide (n ≤ 65535)

theorem object_kind (n : Int) : Pure Tryz.prog 125 [int n] (fun d => d = bln (okind n)) := by
  refine pure_of_run follows an_zavnu Tryz.func125 rfl ok_zavnu.1 ok_zavnu.2 (by simp [Tryz.ntmps125]) ?_
  rw [run_start]
  simp only [ac_zavnu, oo, og, tp, ci, cq, mq, lq, fi, sr, go_sem, contS_seq, simprocAttr]
  (repeat' (first | (refine GifP.mk (fun _ => ?_) (fun _ => ?_)) | (refine Gif.mk (fun _ => ?_) (fun _ => ?_)))) <;> (simp only [retK, resD, St.get, lk, oneD, D.pub, D.pubs, retL, reduceIte, Nat.reduceEqDiff, Nat.reduceAdd, Nat.reduceLeDiff, Tryz.results125]; exact ⟨_, rfl, rfl, congrArg bln (by first | rfl | (rw [Bool.eq_iff_iff]; simp only [okind]; simp; done) | (rw [Bool.eq_iff_iff]; simp only [okind]; simp; omega) | (rw [Bool.eq_iff_iff]; simp only [okind]; simp [*]; done) | (rw [Bool.eq_iff_iff]; simp only [okind]; simp [*]; omega) | (simp_all [okind]; done) | (exfalso; omega))⟩)

theorem object_port (n : Int) : Pure Tryz.prog 104 [int n] (fun d => d = bln (oport n)) := by
  refine pure_of_run follows an_znt9b Tryz.func104 rfl ok_znt9b.1 ok_znt9b.2 (by simp [Tryz.ntmps104]) ?_
  rw [run_start]
  simp only [ac_znt9b, oo, og, tp, ci, cq, mq, lq, fi, sr, go_sem, contS_seq, simprocAttr]
  (repeat' (first | (refine GifP.mk (fun _ => ?_) (fun _ => ?_)) | (refine Gif.mk (fun _ => ?_) (fun _ => ?_)))) <;> (simp only [retK, resD, St.get, lk, oneD, D.pub, D.pubs, retL, reduceIte, Nat.reduceEqDiff, Nat.reduceAdd, Nat.reduceLeDiff, Tryz.results104]; exact ⟨_, rfl, rfl, congrArg bln (by first | rfl | (rw [Bool.eq_iff_iff]; simp only [oport]; simp; done) | (rw [Bool.eq_iff_iff]; simp only [oport]; simp; omega) | (rw [Bool.eq_iff_iff]; simp only [oport]; simp [*]; done) | (rw [Bool.eq_iff_iff]; simp only [oport]; simp [*]; omega) | (simp_all [oport]; done) | (exfalso; omega))⟩)

theorem object_near (s : ByteArray) : Pure Tryz.prog 152 [str s] (fun d => d = bln (labValue s)) := by
  refine pure_of_run follows an_ztrsy Tryz.func152 rfl ok_ztrsy.1 ok_ztrsy.2 (by simp [Tryz.ntmps152]) ?_
  rw [run_start]
  simp only [ac_ztrsy, oo, og, tp, ci, cq, mq, lq, fi, sr, go_sem, contS_seq, simprocAttr]
  (repeat' (first | (refine GifP.mk (fun _ => ?_) (fun _ => ?_)) | (refine Gif.mk (fun _ => ?_) (fun _ => ?_)) | (refine (dns_Label _).callW (enters_of Tryz.func126 rfl rfl) _ rfl rfl ?_; rintro _ rfl; try simp only [go_sem, contS_seq, simprocAttr]))) <;> (simp only [retK, resD, St.get, lk, oneD, D.pub, D.pubs, retL, reduceIte, Nat.reduceEqDiff, Nat.reduceAdd, Nat.reduceLeDiff, Tryz.results152]; exact ⟨_, rfl, rfl, congrArg bln (by first | rfl | (rw [Bool.eq_iff_iff]; simp only [labValue]; simp; done) | (rw [Bool.eq_iff_iff]; simp only [labValue]; simp; omega) | (rw [Bool.eq_iff_iff]; simp only [labValue]; simp [*]; done) | (rw [Bool.eq_iff_iff]; simp only [labValue]; simp [*]; omega) | (simp_all [labValue]; done) | (exfalso; omega))⟩)

def parentMay (p : AParent) : Bool := labValue p.space && dname p.name && labValue p.section_ && (decide (p.port = 0) || oport p.port)

theorem object_parent (p : AParent) : Pure Tryz.prog 120 [p.d] (fun d => d = bln (parentMay p)) := by
  refine pure_of_run follows an_za0y7 Tryz.func120 rfl ok_za0y7.1 ok_za0y7.2 (by simp [Tryz.ntmps120]) ?_
  rw [run_start]
  simp only [ac_za0y7, oo, og, tp, ci, cq, mq, lq, fi, sr, go_sem, contS_seq, simprocAttr]
  (repeat' (first | (refine GifP.mk (fun _ => ?_) (fun _ => ?_)) | (refine Gif.mk (fun _ => ?_) (fun _ => ?_)) | ((first | refine (object_near _).callW (enters_of Tryz.func152 rfl rfl) _ rfl rfl ?_ | refine (dns_Name _).callW (enters_of Tryz.func109 rfl rfl) _ rfl rfl ?_ | refine (object_port _).callW (enters_of Tryz.func104 rfl rfl) _ rfl rfl ?_); rintro _ rfl; try simp only [go_sem, contS_seq, simprocAttr]))) <;> (simp only [retK, resD, St.get, lk, oneD, D.pub, D.pubs, retL, reduceIte, Nat.reduceEqDiff, Nat.reduceAdd, Nat.reduceLeDiff, Tryz.results120]; exact ⟨_, rfl, rfl, congrArg bln (by first | rfl | (rw [Bool.eq_iff_iff]; simp only [parentMay]; simp; done) | (rw [Bool.eq_iff_iff]; simp only [parentMay]; simp; omega) | (rw [Bool.eq_iff_iff]; simp only [parentMay]; simp [*]; done) | (rw [Bool.eq_iff_iff]; simp only [parentMay]; simp [*]; omega) | (simp_all [parentMay]; done) | (exfalso; omega))⟩)

def backendMay (b : ABackend) : Bool := okind b.ref.kind && labValue b.ref.space && dname b.ref.name && (decide (b.port = 0) || oport b.port) && decide (0 ≤ b.weight) && decide (b.weight ≤ 1000)

theorem object_backend (b : ABackend) : Pure Tryz.prog 168 [b.d] (fun d => d = bln (backendMay b)) := by
  refine pure_of_run follows an_z2jf5 Tryz.func168 rfl ok_z2jf5.1 ok_z2jf5.2 (by simp [Tryz.ntmps168]) ?_
  rw [run_start]
  simp only [ac_z2jf5, oo, og, tp, ci, cq, mq, lq, fi, sr, go_sem, contS_seq, simprocAttr]
  (repeat' (first | (refine GifP.mk (fun _ => ?_) (fun _ => ?_)) | (refine Gif.mk (fun _ => ?_) (fun _ => ?_)) | ((first | refine (object_kind _).callW (enters_of Tryz.func125 rfl rfl) _ rfl rfl ?_ | refine (object_near _).callW (enters_of Tryz.func152 rfl rfl) _ rfl rfl ?_ | refine (dns_Name _).callW (enters_of Tryz.func109 rfl rfl) _ rfl rfl ?_ | refine (object_port _).callW (enters_of Tryz.func104 rfl rfl) _ rfl rfl ?_); rintro _ rfl; try simp only [go_sem, contS_seq, simprocAttr]))) <;> (simp only [retK, resD, St.get, lk, oneD, D.pub, D.pubs, retL, reduceIte, Nat.reduceEqDiff, Nat.reduceAdd, Nat.reduceLeDiff, Tryz.results168]; exact ⟨_, rfl, rfl, congrArg bln (by first | rfl | (rw [Bool.eq_iff_iff]; simp only [backendMay]; simp; done) | (rw [Bool.eq_iff_iff]; simp only [backendMay]; simp; omega) | (rw [Bool.eq_iff_iff]; simp only [backendMay]; simp [*]; done) | (rw [Bool.eq_iff_iff]; simp only [backendMay]; simp [*]; omega) | (simp_all [backendMay]; done) | (exfalso; omega))⟩)

def sideFrom (s : ASide) : Bool := okind s.kind && label s.space && decide (s.name = ⟨#[]⟩)
def sideTo (s : ASide) : Bool := okind s.kind && decide (s.space = ⟨#[]⟩) && (decide (s.name = ⟨#[]⟩) || dname s.name)

theorem thing_grant_1 (s : ASide) : Pure Tryz.prog 124 [s.d] (fun d => d = bln (sideFrom s)) := by
  refine pure_of_run follows an_z9wz0 Tryz.func124 rfl ok_z9wz0.1 ok_z9wz0.2 (by simp [Tryz.ntmps124]) ?_
  rw [run_start]
  simp only [ac_z9wz0, oo, og, tp, ci, cq, mq, lq, fi, sr, go_sem, contS_seq, simprocAttr]
  (repeat' (first | (refine GifP.mk (fun _ => ?_) (fun _ => ?_)) | (refine Gif.mk (fun _ => ?_) (fun _ => ?_)) | ((first | refine (object_kind _).callW (enters_of Tryz.func125 rfl rfl) _ rfl rfl ?_ | refine (dns_Label _).callW (enters_of Tryz.func126 rfl rfl) _ rfl rfl ?_); rintro _ rfl; try simp only [go_sem, contS_seq, simprocAttr]))) <;> (simp only [retK, resD, St.get, lk, oneD, D.pub, D.pubs, retL, reduceIte, Nat.reduceEqDiff, Nat.reduceAdd, Nat.reduceLeDiff, Tryz.results124]; exact ⟨_, rfl, rfl, congrArg bln (by first | rfl | (rw [Bool.eq_iff_iff]; simp only [sideFrom]; simp; done) | (rw [Bool.eq_iff_iff]; simp only [sideFrom]; simp; omega) | (rw [Bool.eq_iff_iff]; simp only [sideFrom]; simp [*]; done) | (rw [Bool.eq_iff_iff]; simp only [sideFrom]; simp [*]; omega) | (simp_all [sideFrom]; done) | (exfalso; omega))⟩)

theorem thing_grant_2 (s : ASide) : Pure Tryz.prog 127 [s.d] (fun d => d = bln (sideTo s)) := by
  refine pure_of_run follows an_z4xw6 Tryz.func127 rfl ok_z4xw6.1 ok_z4xw6.2 (by simp [Tryz.ntmps127]) ?_
  rw [run_start]
  simp only [ac_z4xw6, oo, og, tp, ci, cq, mq, lq, fi, sr, go_sem, contS_seq, simprocAttr]
  (repeat' (first | (refine GifP.mk (fun _ => ?_) (fun _ => ?_)) | (refine Gif.mk (fun _ => ?_) (fun _ => ?_)) | ((first | refine (object_kind _).callW (enters_of Tryz.func125 rfl rfl) _ rfl rfl ?_ | refine (dns_Name _).callW (enters_of Tryz.func109 rfl rfl) _ rfl rfl ?_); rintro _ rfl; try simp only [go_sem, contS_seq, simprocAttr]))) <;> (simp only [retK, resD, St.get, lk, oneD, D.pub, D.pubs, retL, reduceIte, Nat.reduceEqDiff, Nat.reduceAdd, Nat.reduceLeDiff, Tryz.results127]; exact ⟨_, rfl, rfl, congrArg bln (by first | rfl | (rw [Bool.eq_iff_iff]; simp only [sideTo]; simp; done) | (rw [Bool.eq_iff_iff]; simp only [sideTo]; simp; omega) | (rw [Bool.eq_iff_iff]; simp only [sideTo]; simp [*]; done) | (rw [Bool.eq_iff_iff]; simp only [sideTo]; simp [*]; omega) | (simp_all [sideTo]; done) | (exfalso; omega))⟩)

def intSame (a b : Int) : Bool := decide (a = b)
def strSame (a b : ByteArray) : Bool := decide (a = b)
def lisName (a b : AListener) : Bool := decide (a.name = b.name)
def parSame (a b : AParent) : Bool := decide (a = b)
def patMay (s : ByteArray) : Bool := !decide (s = ⟨#[]⟩) && hostMay s

theorem thing_service_1 (a b : Int) : Pure Tryz.prog 107 [int a, int b] (fun d => d = bln (intSame a b)) := by
  refine pure_of_run follows an_zwdgh Tryz.func107 rfl ok_zwdgh.1 ok_zwdgh.2 (by simp [Tryz.ntmps107]) ?_
  rw [run_start]
  simp only [ac_zwdgh, oo, og, tp, ci, cq, mq, lq, fi, sr, go_sem, contS_seq, simprocAttr]
  (repeat' (first | (refine GifP.mk (fun _ => ?_) (fun _ => ?_)) | (refine Gif.mk (fun _ => ?_) (fun _ => ?_)))) <;> (simp only [retK, resD, St.get, lk, oneD, D.pub, D.pubs, retL, reduceIte, Nat.reduceEqDiff, Nat.reduceAdd, Nat.reduceLeDiff, Tryz.results107]; exact ⟨_, rfl, rfl, congrArg bln (by first | rfl | (rw [Bool.eq_iff_iff]; simp only [intSame]; simp; done) | (rw [Bool.eq_iff_iff]; simp only [intSame]; simp; omega) | (rw [Bool.eq_iff_iff]; simp only [intSame]; simp [*]; done) | (rw [Bool.eq_iff_iff]; simp only [intSame]; simp [*]; omega) | (simp_all [intSame]; done) | (exfalso; omega))⟩)

theorem thing_gateway_1 (a b : AListener) : Pure Tryz.prog 108 [a.d, b.d] (fun d => d = bln (lisName a b)) := by
  refine pure_of_run follows an_zpej9 Tryz.func108 rfl ok_zpej9.1 ok_zpej9.2 (by simp [Tryz.ntmps108]) ?_
  rw [run_start]
  simp only [ac_zpej9, oo, og, tp, ci, cq, mq, lq, fi, sr, go_sem, contS_seq, simprocAttr]
  (repeat' (first | (refine GifP.mk (fun _ => ?_) (fun _ => ?_)) | (refine Gif.mk (fun _ => ?_) (fun _ => ?_)))) <;> (simp only [retK, resD, St.get, lk, oneD, D.pub, D.pubs, retL, reduceIte, Nat.reduceEqDiff, Nat.reduceAdd, Nat.reduceLeDiff, Tryz.results108]; exact ⟨_, rfl, rfl, congrArg bln (by first | rfl | (rw [Bool.eq_iff_iff]; simp only [lisName]; simp; done) | (rw [Bool.eq_iff_iff]; simp only [lisName]; simp; omega) | (rw [Bool.eq_iff_iff]; simp only [lisName]; simp [*]; done) | (rw [Bool.eq_iff_iff]; simp only [lisName]; simp [*]; omega) | (simp_all [lisName]; done) | (exfalso; omega))⟩)

theorem thing_route_1 (a b : AParent) : Pure Tryz.prog 114 [a.d, b.d] (fun d => d = bln (parSame a b)) := by
  refine pure_of_run follows an_zh5vi Tryz.func114 rfl ok_zh5vi.1 ok_zh5vi.2 (by simp [Tryz.ntmps114]) ?_
  rw [run_start]
  simp only [ac_zh5vi, oo, og, tp, ci, cq, mq, lq, fi, sr, go_sem, contS_seq, simprocAttr, eqVs, eqV, eq_Parent]
  simp only [retK, resD, St.get, lk, oneD, D.pub, D.pubs, retL, reduceIte, Nat.reduceEqDiff, Nat.reduceAdd, Nat.reduceLeDiff, Tryz.results114]
  exact ⟨_, rfl, rfl, rfl⟩

theorem thing_route_2 (a b : ByteArray) : Pure Tryz.prog 116 [str a, str b] (fun d => d = bln (strSame a b)) := by
  refine pure_of_run follows an_zkpqc Tryz.func116 rfl ok_zkpqc.1 ok_zkpqc.2 (by simp [Tryz.ntmps116]) ?_
  rw [run_start]
  simp only [ac_zkpqc, oo, og, tp, ci, cq, mq, lq, fi, sr, go_sem, contS_seq, simprocAttr]
  (repeat' (first | (refine GifP.mk (fun _ => ?_) (fun _ => ?_)) | (refine Gif.mk (fun _ => ?_) (fun _ => ?_)))) <;> (simp only [retK, resD, St.get, lk, oneD, D.pub, D.pubs, retL, reduceIte, Nat.reduceEqDiff, Nat.reduceAdd, Nat.reduceLeDiff, Tryz.results116]; exact ⟨_, rfl, rfl, congrArg bln (by first | rfl | (rw [Bool.eq_iff_iff]; simp only [strSame]; simp; done) | (rw [Bool.eq_iff_iff]; simp only [strSame]; simp; omega) | (rw [Bool.eq_iff_iff]; simp only [strSame]; simp [*]; done) | (rw [Bool.eq_iff_iff]; simp only [strSame]; simp [*]; omega) | (simp_all [strSame]; done) | (exfalso; omega))⟩)

theorem thing_route_3 (s : ByteArray) : Pure Tryz.prog 117 [str s] (fun d => d = bln (patMay s)) := by
  refine pure_of_run follows an_z4pg2 Tryz.func117 rfl ok_z4pg2.1 ok_z4pg2.2 (by simp [Tryz.ntmps117]) ?_
  rw [run_start]
  simp only [ac_z4pg2, oo, og, tp, ci, cq, mq, lq, fi, sr, go_sem, contS_seq, simprocAttr]
  (repeat' (first | (refine GifP.mk (fun _ => ?_) (fun _ => ?_)) | (refine Gif.mk (fun _ => ?_) (fun _ => ?_)) | (refine (host_May _).callW (enters_of Tryz.func118 rfl rfl) _ rfl rfl ?_; rintro _ rfl; try simp only [go_sem, contS_seq, simprocAttr]))) <;> (simp only [retK, resD, St.get, lk, oneD, D.pub, D.pubs, retL, reduceIte, Nat.reduceEqDiff, Nat.reduceAdd, Nat.reduceLeDiff, Tryz.results117]; exact ⟨_, rfl, rfl, congrArg bln (by first | rfl | (rw [Bool.eq_iff_iff]; simp only [patMay]; simp; done) | (rw [Bool.eq_iff_iff]; simp only [patMay]; simp; omega) | (rw [Bool.eq_iff_iff]; simp only [patMay]; simp [*]; done) | (rw [Bool.eq_iff_iff]; simp only [patMay]; simp [*]; omega) | (simp_all [patMay]; done) | (exfalso; omega))⟩)

def notNaN (_ : Int) : Bool := false
def intLess (a b : Int) : Bool := decide (a < b)

theorem cmp_isNaN (a : Int) : Pure Tryz.prog 186 [int a] (fun d => d = bln (notNaN a)) := by
  refine pure_of_run follows an_zkuzu Tryz.func186 rfl ok_zkuzu.1 ok_zkuzu.2 (by simp [Tryz.ntmps186]) ?_
  rw [run_start]
  simp only [ac_zkuzu, oo, og, tp, ci, cq, mq, lq, fi, sr, go_sem, contS_seq, simprocAttr]
  (repeat' (first | (refine GifP.mk (fun _ => ?_) (fun _ => ?_)) | (refine Gif.mk (fun _ => ?_) (fun _ => ?_)))) <;> (simp only [retK, resD, St.get, lk, oneD, D.pub, D.pubs, retL, reduceIte, Nat.reduceEqDiff, Nat.reduceAdd, Nat.reduceLeDiff, Tryz.results186]; exact ⟨_, rfl, rfl, congrArg bln (by first | rfl | (rw [Bool.eq_iff_iff]; simp only [notNaN]; simp; done) | (rw [Bool.eq_iff_iff]; simp only [notNaN]; simp; omega) | (rw [Bool.eq_iff_iff]; simp only [notNaN]; simp [*]; done) | (rw [Bool.eq_iff_iff]; simp only [notNaN]; simp [*]; omega) | (simp_all [notNaN]; done) | (exfalso; omega))⟩)

theorem cmp_Less (a b : Int) : Pure Tryz.prog 147 [int a, int b] (fun d => d = bln (intLess a b)) := by
  refine pure_of_run follows an_zte1c Tryz.func147 rfl ok_zte1c.1 ok_zte1c.2 (by simp [Tryz.ntmps147]) ?_
  rw [run_start]
  simp only [ac_zte1c, oo, og, tp, ci, cq, mq, lq, fi, sr, go_sem, contS_seq, simprocAttr]
  refine (cmp_isNaN a).callW (enters_of Tryz.func186 rfl rfl) _ rfl rfl ?_
  rintro d rfl
  simp only [go_sem, contS_seq, simprocAttr, notNaN]
  simp only [retK, resD, St.get, lk, oneD, D.pub, D.pubs, retL, reduceIte, Nat.reduceEqDiff, Nat.reduceAdd, Nat.reduceLeDiff, Tryz.results147]
  exact ⟨_, rfl, rfl, rfl⟩

def mayRef (r : ARef) : Bool := if r.kind = 1 then decide (r.space = ⟨#[]⟩) && dname r.name else if r.kind = 2 then decide (r.space = ⟨#[]⟩) && label r.name else okind r.kind && label r.space && dname r.name

theorem object_MayRef (r : ARef) : Pure Tryz.prog 85 [r.d] (fun d => d = bln (mayRef r)) := by
  refine pure_of_run follows an_zkdrf Tryz.func85 rfl ok_zkdrf.1 ok_zkdrf.2 (by simp [Tryz.ntmps85]) ?_
  rw [run_start]
  simp only [ac_zkdrf, oo, og, tp, ci, cq, mq, lq, fi, sr, go_sem, contS_seq, simprocAttr]
  (repeat' (first | (refine GifP.mk (fun _ => ?_) (fun _ => ?_)) | (refine Gif.mk (fun _ => ?_) (fun _ => ?_)) | ((first | refine (object_kind _).callW (enters_of Tryz.func125 rfl rfl) _ rfl rfl ?_ | refine (dns_Label _).callW (enters_of Tryz.func126 rfl rfl) _ rfl rfl ?_ | refine (dns_Name _).callW (enters_of Tryz.func109 rfl rfl) _ rfl rfl ?_); rintro _ rfl; try simp only [go_sem, contS_seq, simprocAttr]))) <;> (simp only [retK, resD, St.get, lk, oneD, D.pub, D.pubs, retL, reduceIte, Nat.reduceEqDiff, Nat.reduceAdd, Nat.reduceLeDiff, Tryz.results85]; exact ⟨_, rfl, rfl, congrArg bln (by first | rfl | (rw [Bool.eq_iff_iff]; simp only [mayRef]; simp; done) | (rw [Bool.eq_iff_iff]; simp only [mayRef]; simp; omega) | (rw [Bool.eq_iff_iff]; simp only [mayRef]; simp [*]; done) | (rw [Bool.eq_iff_iff]; simp only [mayRef]; simp [*]; omega) | (simp_all [mayRef]; done) | (exfalso; omega))⟩)

def fewVals (n : ANeed) : Bool := decide (1 ≤ n.vals.length) && decide (n.vals.length ≤ 8) && !n.vals.any (fun s => !labValue s)

theorem label_asks_1 (s : ByteArray) : Pure Tryz.prog 225 [str s] (fun d => d = bln (!labValue s)) := by
  refine pure_of_run follows an_zuzx4 Tryz.func225 rfl ok_zuzx4.1 ok_zuzx4.2 (by simp [Tryz.ntmps225]) ?_
  rw [run_start]
  simp only [ac_zuzx4, oo, og, tp, ci, cq, mq, lq, fi, sr, go_sem, contS_seq, simprocAttr]
  (repeat' (first | (refine GifP.mk (fun _ => ?_) (fun _ => ?_)) | (refine Gif.mk (fun _ => ?_) (fun _ => ?_)) | (refine (label_value _).callW (enters_of Tryz.func144 rfl rfl) _ rfl rfl ?_; rintro _ rfl; try simp only [go_sem, contS_seq, simprocAttr]))) <;> (simp only [retK, resD, St.get, lk, oneD, D.pub, D.pubs, retL, reduceIte, Nat.reduceEqDiff, Nat.reduceAdd, Nat.reduceLeDiff, Tryz.results225]; exact ⟨_, rfl, rfl, congrArg bln (by first | rfl | (rw [Bool.eq_iff_iff]; simp only [labValue]; simp; done) | (rw [Bool.eq_iff_iff]; simp only [labValue]; simp; omega) | (rw [Bool.eq_iff_iff]; simp only [labValue]; simp [*]; done) | (rw [Bool.eq_iff_iff]; simp only [labValue]; simp [*]; omega) | (simp_all [labValue]; done) | (exfalso; omega))⟩)

def asksD (n : ANeed) : D :=
  if dname n.name = false then .pd (.raw .nilIface)
  else if n.kind = 1 ∧ fewVals n = true then .pd (.iface 214 true [pStr n.name, .slice (strs n.vals)])
  else if n.kind = 2 ∧ fewVals n = true then .pd (.iface 216 true [pStr n.name, .slice (strs n.vals)])
  else if n.kind = 3 ∧ n.vals.length = 0 then .pd (.iface 217 false [pStr n.name])
  else if n.kind = 4 ∧ n.vals.length = 0 then .pd (.iface 219 true [pStr n.name])
  else .pd (.raw .nilIface)

def askMay (n : ANeed) : Bool := dname n.name && ((decide (n.kind = 1) && fewVals n) || (decide (n.kind = 2) && fewVals n) || (decide (n.kind = 3) && decide (n.vals.length = 0)) || (decide (n.kind = 4) && decide (n.vals.length = 0)))

set_option maxHeartbeats 2000000 in
theorem label_asks (n : ANeed) (hv : n.vals.length ≤ 1000000) : Pure Tryz.prog 191 [n.d] (fun d => d = asksD n) := by
  refine pure_of_run follows an_zyjit Tryz.func191 rfl ok_zyjit.1 ok_zyjit.2 (by simp [Tryz.ntmps191]) ?_
  rw [run_start]
  simp only [ac_zyjit, oo, og, tp, ci, cq, mq, lq, fi, sr, go_sem, contS_seq, simprocAttr, rows_len]
  have key : ∀ b : Bool, fewVals n = b → ∀ d : D, (d = if dname n.name = false then .pd (.raw .nilIface)
      else if n.kind = 1 ∧ b = true then .pd (.iface 214 true [pStr n.name, .slice (strs n.vals)])
      else if n.kind = 2 ∧ b = true then .pd (.iface 216 true [pStr n.name, .slice (strs n.vals)])
      else if n.kind = 3 ∧ n.vals.length = 0 then .pd (.iface 217 false [pStr n.name])
      else if n.kind = 4 ∧ n.vals.length = 0 then .pd (.iface 219 true [pStr n.name])
      else .pd (.raw .nilIface)) → d = asksD n := fun b h d hd => by
    rw [hd]; unfold asksD; rw [h]
  refine GifP.mk (fun h1 => ?_) (fun h1 => ?_)
  · refine GifP.mk (fun h2 => ?_) (fun h2 => ?_)
    · refine (ContainsP_string (fun s => !labValue s) _ (enters_of Tryz.func225 rfl rfl) n.vals hv (fun s _ => label_asks_1 s)).callW (enters_of Tryz.func157 rfl rfl) _ rfl rfl ?_
      rintro d rfl
      have hf : fewVals n = !n.vals.any (fun s => !labValue s) := by
        have h3 : 1 ≤ n.vals.length := by omega
        have h4 : n.vals.length ≤ 8 := by omega
        simp [fewVals, h3, h4]
      obtain ⟨q, hq⟩ : ∃ q, n.vals.any (fun s => !labValue s) = q := ⟨_, rfl⟩
      rw [hq] at hf ⊢
      cases q
      all_goals
        have key' := key _ hf
        simp only [go_sem, contS_seq, simprocAttr, rows_len]
        (repeat' (first | (refine GifP.mk (fun _ => ?_) (fun _ => ?_)) | (refine Gif.mk (fun _ => ?_) (fun _ => ?_)) | (refine (dns_Name _).callW (enters_of Tryz.func109 rfl rfl) _ rfl rfl ?_; rintro _ rfl; try simp only [go_sem, contS_seq, simprocAttr, rows_len]))) <;> (simp only [retK, resD, St.get, lk, oneD, D.pub, D.pubs, retL, reduceIte, Nat.reduceEqDiff, Nat.reduceAdd, Nat.reduceLeDiff, Tryz.results191]; refine ⟨_, rfl, rfl, ?_⟩; refine key' _ ?_; clear key key'; dsimp only [D.pub]; (repeat' split) <;> first | rfl | (exfalso; omega) | (exfalso; simp_all; done) | (exfalso; simp_all; omega))
    · have hf : fewVals n = false := by
        have h4 : ¬ n.vals.length ≤ 8 := by omega
        simp [fewVals, h4]
      have key' := key _ hf
      (repeat' (first | (refine GifP.mk (fun _ => ?_) (fun _ => ?_)) | (refine Gif.mk (fun _ => ?_) (fun _ => ?_)) | (refine (dns_Name _).callW (enters_of Tryz.func109 rfl rfl) _ rfl rfl ?_; rintro _ rfl; try simp only [go_sem, contS_seq, simprocAttr, rows_len]))) <;> (simp only [retK, resD, St.get, lk, oneD, D.pub, D.pubs, retL, reduceIte, Nat.reduceEqDiff, Nat.reduceAdd, Nat.reduceLeDiff, Tryz.results191]; refine ⟨_, rfl, rfl, ?_⟩; refine key' _ ?_; clear key key'; dsimp only [D.pub]; (repeat' split) <;> first | rfl | (exfalso; omega) | (exfalso; simp_all; done) | (exfalso; simp_all; omega))
  · have hf : fewVals n = false := by
      have h4 : ¬ 1 ≤ n.vals.length := by omega
      simp [fewVals, h4]
    have key' := key _ hf
    (repeat' (first | (refine GifP.mk (fun _ => ?_) (fun _ => ?_)) | (refine Gif.mk (fun _ => ?_) (fun _ => ?_)) | (refine (dns_Name _).callW (enters_of Tryz.func109 rfl rfl) _ rfl rfl ?_; rintro _ rfl; try simp only [go_sem, contS_seq, simprocAttr, rows_len]))) <;> (simp only [retK, resD, St.get, lk, oneD, D.pub, D.pubs, retL, reduceIte, Nat.reduceEqDiff, Nat.reduceAdd, Nat.reduceLeDiff, Tryz.results191]; refine ⟨_, rfl, rfl, ?_⟩; refine key' _ ?_; clear key key'; dsimp only [D.pub]; (repeat' split) <;> first | rfl | (exfalso; omega) | (exfalso; simp_all; done) | (exfalso; simp_all; omega))

theorem askMay_isnil (n : ANeed) : (∃ t a cs, asksD n = .pd (.iface t a cs) ∧ askMay n = true) ∨ (asksD n = .pd (.raw .nilIface) ∧ askMay n = false) := by
  unfold asksD askMay
  repeat' split
  all_goals first
    | exact .inl ⟨_, _, _, rfl, by simp_all⟩
    | exact .inr ⟨rfl, by simp_all⟩

theorem label_Needs_1 (n : ANeed) (hv : n.vals.length ≤ 1000000) : Pure Tryz.prog 190 [n.d] (fun d => d = bln (!askMay n)) := by
  refine pure_of_run follows an_zdaaj Tryz.func190 rfl ok_zdaaj.1 ok_zdaaj.2 (by simp [Tryz.ntmps190]) ?_
  rw [run_start]
  simp only [ac_zdaaj, oo, og, tp, ci, cq, mq, lq, fi, sr, go_sem, contS_seq, simprocAttr, rows_len]
  refine (label_asks n hv).callW (enters_of Tryz.func191 rfl rfl) _ rfl rfl ?_
  rintro d rfl
  rcases askMay_isnil n with ⟨t, a, cs, h1, h2⟩ | ⟨h1, h2⟩
  all_goals
    rw [h1]
    simp only [go_sem, contS_seq, simprocAttr]
    simp only [retK, resD, St.get, lk, oneD, D.pub, D.pubs, retL, reduceIte, Nat.reduceEqDiff, Nat.reduceAdd, Nat.reduceLeDiff, Tryz.results190]
    exact ⟨_, rfl, rfl, congrArg bln (by rw [h2]; rfl)⟩

def ANeed.ok (n : ANeed) : Prop := n.vals.length ≤ 1000000

def needsMay (l : List ANeed) : Bool := decide (l.length ≤ 8) && !l.any (fun n => !askMay n)

theorem label_Needs (l : List ANeed) (hl : l.length ≤ 1000000) (hv : ∀ n ∈ l, n.ok) : Pure Tryz.prog 153 [.pd (.slice (rows ANeed.pd l))] (fun d => d = bln (needsMay l)) := by
  refine pure_of_run follows an_zlask Tryz.func153 rfl ok_zlask.1 ok_zlask.2 (by simp [Tryz.ntmps153]) ?_
  rw [run_start]
  simp only [ac_zlask, oo, og, tp, ci, cq, mq, lq, fi, sr, go_sem, contS_seq, simprocAttr, rows_len]
  (repeat' (first | (refine GifP.mk (fun _ => ?_) (fun _ => ?_)) | (refine Gif.mk (fun _ => ?_) (fun _ => ?_)) | (refine (ContainsP_Need (fun n => !askMay n) _ (enters_of Tryz.func190 rfl rfl) l hl (fun n hn => label_Needs_1 n (hv n hn))).callW (enters_of Tryz.func189 rfl rfl) _ rfl rfl ?_; rintro _ rfl; try simp only [go_sem, contS_seq, simprocAttr, rows_len]))) <;> (simp only [retK, resD, St.get, lk, oneD, D.pub, D.pubs, retL, reduceIte, Nat.reduceEqDiff, Nat.reduceAdd, Nat.reduceLeDiff, Tryz.results153]; exact ⟨_, rfl, rfl, congrArg bln (by first | rfl | (rw [Bool.eq_iff_iff]; simp only [needsMay]; simp; done) | (rw [Bool.eq_iff_iff]; simp only [needsMay]; simp; omega) | (rw [Bool.eq_iff_iff]; simp only [needsMay]; simp [*]; done) | (rw [Bool.eq_iff_iff]; simp only [needsMay]; simp [*]; omega) | (simp_all [needsMay]; done) | (exfalso; omega))⟩)

def needSame (a b : ANeed) : Bool := decide (a.kind = b.kind) && decide (a.name = b.name) && decide (a.vals = b.vals)

theorem label_Same_1 (a b : ANeed) (ha : a.ok) (hb : b.ok) : Pure Tryz.prog 216 [a.d, b.d] (fun d => d = bln (needSame a b)) := by
  refine pure_of_run follows an_zvpxe Tryz.func216 rfl ok_zvpxe.1 ok_zvpxe.2 (by simp [Tryz.ntmps216]) ?_
  rw [run_start]
  simp only [ac_zvpxe, oo, og, tp, ci, cq, mq, lq, fi, sr, go_sem, contS_seq, simprocAttr]
  (repeat' (first | (refine GifP.mk (fun _ => ?_) (fun _ => ?_)) | (refine Gif.mk (fun _ => ?_) (fun _ => ?_)) | (refine (Equal_string a.vals b.vals ha hb).callW (enters_of Tryz.func131 rfl rfl) _ rfl rfl ?_; rintro _ rfl; try simp only [go_sem, contS_seq, simprocAttr]))) <;> (simp only [retK, resD, St.get, lk, oneD, D.pub, D.pubs, retL, reduceIte, Nat.reduceEqDiff, Nat.reduceAdd, Nat.reduceLeDiff, Tryz.results216]; exact ⟨_, rfl, rfl, congrArg bln (by first | rfl | (rw [Bool.eq_iff_iff]; simp only [needSame]; simp; done) | (rw [Bool.eq_iff_iff]; simp only [needSame]; simp; omega) | (rw [Bool.eq_iff_iff]; simp only [needSame]; simp [*]; done) | (rw [Bool.eq_iff_iff]; simp only [needSame]; simp [*]; omega) | (simp_all [needSame]; done) | (exfalso; omega))⟩)

theorem label_Same (l m : List ANeed) (hl : l.length ≤ 1000000) (hm : m.length ≤ 1000000) (h1 : ∀ n ∈ l, n.ok) (h2 : ∀ n ∈ m, n.ok) : Pure Tryz.prog 173 [.pd (.slice (rows ANeed.pd l)), .pd (.slice (rows ANeed.pd m))] (fun d => d = bln (eqf needSame l m)) := by
  refine pure_of_run follows an_zx2gm Tryz.func173 rfl ok_zx2gm.1 ok_zx2gm.2 (by simp [Tryz.ntmps173]) ?_
  rw [run_start]
  simp only [ac_zx2gm, oo, og, tp, ci, cq, mq, lq, fi, sr, go_sem, contS_seq, simprocAttr]
  (repeat' (first | (refine GifP.mk (fun _ => ?_) (fun _ => ?_)) | (refine Gif.mk (fun _ => ?_) (fun _ => ?_)) | (refine (EqualFunc_Need needSame _ (enters_of Tryz.func216 rfl rfl) l m hl hm (fun x hx y hy => label_Same_1 x y (h1 x hx) (h2 y hy))).callW (enters_of Tryz.func215 rfl rfl) _ rfl rfl ?_; rintro _ rfl; try simp only [go_sem, contS_seq, simprocAttr]))) <;> (simp only [retK, resD, St.get, lk, oneD, D.pub, D.pubs, retL, reduceIte, Nat.reduceEqDiff, Nat.reduceAdd, Nat.reduceLeDiff, Tryz.results173]; exact ⟨_, rfl, rfl, congrArg bln (by first | rfl | (rw [Bool.eq_iff_iff]; simp only [id]; simp; done) | (rw [Bool.eq_iff_iff]; simp only [id]; simp; omega) | (rw [Bool.eq_iff_iff]; simp only [id]; simp [*]; done) | (rw [Bool.eq_iff_iff]; simp only [id]; simp [*]; omega) | (simp_all [id]; done) | (exfalso; omega))⟩)


def valOct (b : UInt8) : Bool := decide (32 ≤ b.toNat) && decide (b.toNat ≤ 126)

def fvalue (s : ByteArray) : Bool := s.data.toList.all valOct && decide (s.size ≤ 40) && decide (trim s = s)

theorem pairs_Value (s : ByteArray) (hs : s.size ≤ 1000000) : Pure Tryz.prog 200 [str s] (fun d => d = bln (fvalue s)) := by
  refine pure_of_run follows an_z4wze Tryz.func200 rfl ok_z4wze.1 ok_z4wze.2 (by simp [Tryz.ntmps200]) ?_
  rw [run_start]
  simp only [ac_z4wze, oo, og, tp, ci, cq, mq, lq, fi, sr, go_sem, contS_seq, simprocAttr, rows_len]
  refine loopS (fun k st => ∃ i : Nat, k = s.size - i ∧ i ≤ s.size ∧ (s.data.toList.drop i).all valOct = s.data.toList.all valOct ∧
    st = ⟨[(0, str s), (5, int s.size), (6, int i)], [], [], .no⟩) s.size _ (Weak.refl _ _) ⟨0, rfl, Nat.zero_le _, rfl, rfl⟩ ?_
  rintro k st ⟨i, rfl, hi, hr, rfl⟩
  by_cases hlt : i < s.size
  · obtain ⟨b, hb, hd⟩ := byte_at hlt
    have hlt' : ((i : Int) < (s.size : Int)) = True := eq_true (by omega)
    rw [hd, List.all_cons] at hr
    have bad : valOct b = false → fvalue s = false := fun h => by
      rw [h, Bool.false_and] at hr
      simp only [fvalue, ← hr, Bool.false_and]
    have hw := i64_succ (show i < 1000000000 by omega)
    simp only [go_sem, contS_seq, simprocAttr, hlt', hb, hw]
    repeat' (first | refine GifP.mk (fun _ => ?_) (fun _ => ?_) | refine Gif.mk (fun _ => ?_) (fun _ => ?_))
    iterate 2
      · simp only [retK, iterK, resD, St.get, lk, oneD, D.pub, D.pubs, retL, reduceIte, Nat.reduceEqDiff, Nat.reduceAdd, Nat.reduceLeDiff, Tryz.results200]
        exact ⟨_, rfl, rfl, congrArg bln (bad (by simp [valOct]; omega)).symm⟩
    · have hg : valOct b = true := by simp [valOct]; omega
      rw [hg, Bool.true_and] at hr
      refine ⟨s.size - (i + 1), _, ?_, ?_, i + 1, rfl, ?_, hr, rfl⟩
      · omega
      · exact lessA
      · omega
  · have hlt' : ((i : Int) < (s.size : Int)) = False := eq_false (by omega)
    rw [byte_end hlt] at hr
    have hr' := hr.symm
    rw [List.all_nil] at hr'
    simp only [go_sem, contS_seq, simprocAttr, rows_len, hlt']
    (repeat' (first | (refine GifP.mk (fun _ => ?_) (fun _ => ?_)) | (refine Gif.mk (fun _ => ?_) (fun _ => ?_)) | (refine (strings_Trim s hs).callW (enters_of Tryz.func229 rfl rfl) _ rfl rfl ?_; rintro _ rfl; try simp only [go_sem, contS_seq, simprocAttr]))) <;> (simp only [retK, iterK, resD, St.get, lk, oneD, D.pub, D.pubs, retL, reduceIte, Nat.reduceEqDiff, Nat.reduceAdd, Nat.reduceLeDiff, Tryz.results200]; exact ⟨_, rfl, rfl, congrArg bln (by first | rfl | (rw [Bool.eq_iff_iff]; simp only [fvalue, hr']; simp; done) | (rw [Bool.eq_iff_iff]; simp only [fvalue, hr']; simp; omega) | (rw [Bool.eq_iff_iff]; simp only [fvalue, hr']; simp [*]; done) | (rw [Bool.eq_iff_iff]; simp only [fvalue, hr']; simp [*]; omega) | (simp_all [fvalue, hr']; done) | (exfalso; omega))⟩)

def foldSame (a b : ByteArray) : Bool := decide (fold a = fold b)

theorem pairs_Same (a b : ByteArray) (ha : a.size ≤ 1000000) (hb : b.size ≤ 1000000) : Pure Tryz.prog 205 [str a, str b] (fun d => d = bln (foldSame a b)) := by
  refine pure_of_run follows an_zrrew Tryz.func205 rfl ok_zrrew.1 ok_zrrew.2 (by simp [Tryz.ntmps205]) ?_
  rw [run_start]
  simp only [ac_zrrew, oo, og, tp, ci, cq, mq, lq, fi, sr, go_sem, contS_seq, simprocAttr]
  (repeat' (first | (refine GifP.mk (fun _ => ?_) (fun _ => ?_)) | (refine Gif.mk (fun _ => ?_) (fun _ => ?_)) | ((first | refine (dns_Fold a ha).callW (enters_of Tryz.func235 rfl rfl) _ rfl rfl ?_ | refine (dns_Fold b hb).callW (enters_of Tryz.func235 rfl rfl) _ rfl rfl ?_); rintro _ rfl; try simp only [go_sem, contS_seq, simprocAttr]))) <;> (simp only [retK, resD, St.get, lk, oneD, D.pub, D.pubs, retL, reduceIte, Nat.reduceEqDiff, Nat.reduceAdd, Nat.reduceLeDiff, Tryz.results205]; exact ⟨_, rfl, rfl, congrArg bln (by first | rfl | (rw [Bool.eq_iff_iff]; simp only [foldSame]; simp; done) | (rw [Bool.eq_iff_iff]; simp only [foldSame]; simp; omega) | (rw [Bool.eq_iff_iff]; simp only [foldSame]; simp [*]; done) | (rw [Bool.eq_iff_iff]; simp only [foldSame]; simp [*]; omega) | (simp_all [foldSame]; done) | (exfalso; omega))⟩)

def APair.ok (p : APair) : Prop := p.name.size ≤ 1000000 ∧ p.val.size ≤ 1000000
def AFilter.ok (f : AFilter) : Prop := f.name.size ≤ 1000000 ∧ f.val.size ≤ 1000000
structure AMatch.ok (m : AMatch) : Prop where
  hl : m.head.length ≤ 1000000
  ql : m.query.length ≤ 1000000
  h : ∀ p ∈ m.head, p.ok
  q : ∀ p ∈ m.query, p.ok

def pairOdd (p : APair) : Bool := !token p.name || !fvalue p.val

theorem rule_May_1 (p : APair) (h : p.ok) : Pure Tryz.prog 198 [p.d] (fun d => d = bln (pairOdd p)) := by
  refine pure_of_run follows an_zqrzx Tryz.func198 rfl ok_zqrzx.1 ok_zqrzx.2 (by simp [Tryz.ntmps198]) ?_
  rw [run_start]
  simp only [ac_zqrzx, oo, og, tp, ci, cq, mq, lq, fi, sr, go_sem, contS_seq, simprocAttr]
  (repeat' (first | (refine GifP.mk (fun _ => ?_) (fun _ => ?_)) | (refine Gif.mk (fun _ => ?_) (fun _ => ?_)) | ((first | refine (pairs_Token p.name h.1).callW (enters_of Tryz.func199 rfl rfl) _ rfl rfl ?_ | refine (pairs_Value p.val h.2).callW (enters_of Tryz.func200 rfl rfl) _ rfl rfl ?_); rintro _ rfl; try simp only [go_sem, contS_seq, simprocAttr]))) <;> (simp only [retK, resD, St.get, lk, oneD, D.pub, D.pubs, retL, reduceIte, Nat.reduceEqDiff, Nat.reduceAdd, Nat.reduceLeDiff, Tryz.results198]; exact ⟨_, rfl, rfl, congrArg bln (by first | rfl | (rw [Bool.eq_iff_iff]; simp only [pairOdd]; simp; done) | (rw [Bool.eq_iff_iff]; simp only [pairOdd]; simp; omega) | (rw [Bool.eq_iff_iff]; simp only [pairOdd]; simp [*]; done) | (rw [Bool.eq_iff_iff]; simp only [pairOdd]; simp [*]; omega) | (simp_all [pairOdd]; done) | (exfalso; omega))⟩)

theorem rule_May_2 (a b : ByteArray) : Pure Tryz.prog 207 [str a, str b] (fun d => d = bln (strSame a b)) := by
  refine pure_of_run follows an_zwio7 Tryz.func207 rfl ok_zwio7.1 ok_zwio7.2 (by simp [Tryz.ntmps207]) ?_
  rw [run_start]
  simp only [ac_zwio7, oo, og, tp, ci, cq, mq, lq, fi, sr, go_sem, contS_seq, simprocAttr]
  (repeat' (first | (refine GifP.mk (fun _ => ?_) (fun _ => ?_)) | (refine Gif.mk (fun _ => ?_) (fun _ => ?_)))) <;> (simp only [retK, resD, St.get, lk, oneD, D.pub, D.pubs, retL, reduceIte, Nat.reduceEqDiff, Nat.reduceAdd, Nat.reduceLeDiff, Tryz.results207]; exact ⟨_, rfl, rfl, congrArg bln (by first | rfl | (rw [Bool.eq_iff_iff]; simp only [strSame]; simp; done) | (rw [Bool.eq_iff_iff]; simp only [strSame]; simp; omega) | (rw [Bool.eq_iff_iff]; simp only [strSame]; simp [*]; done) | (rw [Bool.eq_iff_iff]; simp only [strSame]; simp [*]; omega) | (simp_all [strSame]; done) | (exfalso; omega))⟩)

theorem rule_twice_1 (q : ByteArray → ByteArray → Bool) (f : FuncId) (he : Enters Tryz.prog f) (x y : APair) (hp : Pure Tryz.prog f [str y.name, str x.name] (fun d => d = bln (q y.name x.name))) :
    PureB Tryz.prog 234 [y.d, .ptr 1000001 0, .ptr 1000002 0] [(1000001, [.fn f []]), (1000002, [str x.name, str x.val])] (fun d => d = bln (q y.name x.name)) := by
  refine pureB_of_run follows an_zpw6o Tryz.func234 rfl ok_zpw6o.1 ok_zpw6o.2 (by simp [Tryz.ntmps234]) ?_
  rw [run_start]
  simp only [ac_zpw6o, oo, og, tp, ci, cq, mq, lq, fi, sr, go_sem, contS_seq, simprocAttr]
  refine hp.callW he _ rfl rfl ?_
  rintro d rfl
  simp only [go_sem, contS_seq, simprocAttr]
  simp only [retK, resD, St.get, lk, oneD, D.pub, D.pubs, retL, reduceIte, Nat.reduceEqDiff, Nat.reduceAdd, Nat.reduceLeDiff, Tryz.results234]
  exact ⟨_, rfl, rfl, rfl⟩

def pairTwice (q : ByteArray → ByteArray → Bool) (l : List APair) : Bool := twice (fun x y => q y.name x.name) l

theorem rule_twice (q : ByteArray → ByteArray → Bool) (f : FuncId) (he : Enters Tryz.prog f) (l : List APair) (hl : l.length ≤ 1000000) (hp : ∀ x ∈ l, ∀ y ∈ l, Pure Tryz.prog f [str y.name, str x.name] (fun d => d = bln (q y.name x.name))) :
    Pure Tryz.prog 204 [.pd (.slice (rows APair.pd l)), .fn f []] (fun d => d = bln (pairTwice q l)) := by
  refine pure_of_run follows an_z6for Tryz.func204 rfl ok_z6for.1 ok_z6for.2 (by simp [Tryz.ntmps204]) ?_
  rw [run_start]
  simp only [ac_z6for, oo, og, tp, ci, cq, mq, lq, fi, sr, go_sem, contS_seq, simprocAttr, rows_len]
  refine loopS (fun k st => ∃ i : Nat, k = l.length - i ∧ i ≤ l.length ∧ twiceFrom (fun x y : APair => q y.name x.name) l k i = pairTwice q l ∧
    st = ⟨[(0, .pd (.slice (rows APair.pd l))), (3, .ptr 3 0), (7, .pd (.slice (rows APair.pd l))), (8, int l.length), (9, int i)], [(3, [.fn f []])], [], .no⟩) l.length _ (Weak.refl _ _) ⟨0, rfl, Nat.zero_le _, rfl, rfl⟩ ?_
  rintro k st ⟨i, rfl, hi, hr, rfl⟩
  by_cases hlt : i < l.length
  · obtain ⟨x, hx⟩ := at_lt hlt
    have hlt' : ((i : Int) < (l.length : Int)) = True := eq_true (by omega)
    have hle : (i ≤ l.length) = True := eq_true (by omega)
    have hw := i64_succ (show i < 1000000000 by omega)
    have hmx := List.mem_of_getElem? hx
    obtain ⟨m, hm⟩ : ∃ m, l.length - i = m + 1 := ⟨l.length - i - 1, by omega⟩
    rw [hm, twiceFrom, hx] at hr
    have hrows : rowsOK 2 (rows APair.pd l) = True := rowsOK_rows (f := APair.pd) (n := 2) (fun _ => rfl) l
    have htk : (rows APair.pd l).take i = rows APair.pd (l.take i) := by simp [rows, List.map_take]
    simp only [go_sem, contS_seq, simprocAttr, hlt', rows_get hx, rows_len, hrows, hle, htk]
    refine (ContainsFunc_Pair (fun y => q y.name x.name) 234 (enters_of Tryz.func234 rfl rfl) [(1000001, 0), (1000002, 0)] [(1000001, [.fn f []]), (1000002, [str x.name, str x.val])] (Cl.of rfl rfl rfl rfl rfl) (l.take i) (by simp; omega)
      (fun y hy => rule_twice_1 q f he x y (hp x hmx y (List.mem_of_mem_take hy)))).callW (enters_of Tryz.func203 rfl rfl) _ [(3, 1000001), (6, 1000002)] rfl rfl rfl ?_
    rintro d rfl
    simp only [go_sem, contS_seq, simprocAttr, hw]
    refine Gif.mk (fun h => ?_) (fun h => ?_)
    · simp only [h, Bool.true_or] at hr
      simp only [retK, resD, St.get, lk, oneD, D.pub, D.pubs, retL, reduceIte, Nat.reduceEqDiff, Nat.reduceAdd, Nat.reduceLeDiff, Tryz.results204]
      exact ⟨_, rfl, rfl, congrArg bln hr⟩
    · simp only [h, Bool.false_or] at hr
      refine ⟨m, _, ?_, ?_, i + 1, ?_, ?_, hr, rfl⟩
      · omega
      · exact lessA
      · omega
      · omega
  · have hlt' : ((i : Int) < (l.length : Int)) = False := eq_false (by omega)
    rw [show l.length - i = 0 by omega, twiceFrom] at hr
    simp only [go_sem, contS_seq, simprocAttr, rows_len, hlt']
    simp only [retK, resD, St.get, lk, oneD, D.pub, D.pubs, retL, reduceIte, Nat.reduceEqDiff, Nat.reduceAdd, Nat.reduceLeDiff, Tryz.results204]
    exact ⟨_, rfl, rfl, congrArg bln hr⟩

def matchMay (m : AMatch) : Bool :=
  pathMay m.pkind m.pval && (decide (m.method = ⟨#[]⟩) || method m.method) && decide (m.head.length ≤ 8) && !m.head.any pairOdd && !pairTwice foldSame m.head && decide (m.query.length ≤ 8) && queryMay m.query && !pairTwice strSame m.query

set_option maxHeartbeats 1000000 in
theorem rule_May (m : AMatch) (h : m.ok) : Pure Tryz.prog 165 [m.d] (fun d => d = bln (matchMay m)) := by
  refine pure_of_run follows an_zi87h Tryz.func165 rfl ok_zi87h.1 ok_zi87h.2 (by simp [Tryz.ntmps165]) ?_
  rw [run_start]
  simp only [ac_zi87h, oo, og, tp, ci, cq, mq, lq, fi, sr, go_sem, contS_seq, simprocAttr, rows_len]
  (repeat' (first | (refine GifP.mk (fun _ => ?_) (fun _ => ?_)) | (refine Gif.mk (fun _ => ?_) (fun _ => ?_)) | ((first | refine (path_May _ _).callW (enters_of Tryz.func201 rfl rfl) _ rfl rfl ?_ | refine (rule_Method _).callW (enters_of Tryz.func202 rfl rfl) _ rfl rfl ?_ | refine (ContainsP_Pair pairOdd _ (enters_of Tryz.func198 rfl rfl) m.head h.hl (fun p hp => rule_May_1 p (h.h p hp))).callW (enters_of Tryz.func203 rfl rfl) _ rfl rfl ?_ | refine (rule_twice foldSame _ (enters_of Tryz.func205 rfl rfl) m.head h.hl (fun x hx y hy => pairs_Same _ _ (h.h y hy).1 (h.h x hx).1)).callW (enters_of Tryz.func204 rfl rfl) _ rfl rfl ?_ | refine (rule_twice strSame _ (enters_of Tryz.func207 rfl rfl) m.query h.ql (fun x hx y hy => rule_May_2 _ _)).callW (enters_of Tryz.func204 rfl rfl) _ rfl rfl ?_ | refine (query_May m.query h.ql).callW (enters_of Tryz.func206 rfl rfl) _ rfl rfl ?_); rintro _ rfl; try simp only [go_sem, contS_seq, simprocAttr, rows_len]))) <;> (simp only [retK, resD, St.get, lk, oneD, D.pub, D.pubs, retL, reduceIte, Nat.reduceEqDiff, Nat.reduceAdd, Nat.reduceLeDiff, Tryz.results165]; exact ⟨_, rfl, rfl, congrArg bln (by first | rfl | (rw [Bool.eq_iff_iff]; simp only [matchMay]; simp; done) | (rw [Bool.eq_iff_iff]; simp only [matchMay]; simp; omega) | (rw [Bool.eq_iff_iff]; simp only [matchMay]; simp [*]; done) | (rw [Bool.eq_iff_iff]; simp only [matchMay]; simp [*]; omega) | (simp_all [matchMay]; done) | (exfalso; omega))⟩)

def matchSame (a b : AMatch) : Bool := decide (a.pkind = b.pkind) && decide (a.pval = b.pval) && decide (a.method = b.method) && decide (a.head = b.head) && decide (a.query = b.query)

theorem rule_Same (a b : AMatch) (ha : a.ok) (hb : b.ok) : Pure Tryz.prog 175 [a.d, b.d] (fun d => d = bln (matchSame a b)) := by
  refine pure_of_run follows an_zb37x Tryz.func175 rfl ok_zb37x.1 ok_zb37x.2 (by simp [Tryz.ntmps175]) ?_
  rw [run_start]
  simp only [ac_zb37x, oo, og, tp, ci, cq, mq, lq, fi, sr, go_sem, contS_seq, simprocAttr, eqVs, eqV]
  (repeat' (first | (refine GifP.mk (fun _ => ?_) (fun _ => ?_)) | (refine Gif.mk (fun _ => ?_) (fun _ => ?_)) | ((first | refine (Equal_Pair a.head b.head ha.hl hb.hl).callW (enters_of Tryz.func129 rfl rfl) _ rfl rfl ?_ | refine (Equal_Pair a.query b.query ha.ql hb.ql).callW (enters_of Tryz.func129 rfl rfl) _ rfl rfl ?_); rintro _ rfl; try simp only [go_sem, contS_seq, simprocAttr, eqVs, eqV]))) <;> (simp only [retK, resD, St.get, lk, oneD, D.pub, D.pubs, retL, reduceIte, Nat.reduceEqDiff, Nat.reduceAdd, Nat.reduceLeDiff, Tryz.results175]; exact ⟨_, rfl, rfl, congrArg bln (by first | rfl | (rw [Bool.eq_iff_iff]; simp only [matchSame]; simp; done) | (rw [Bool.eq_iff_iff]; simp only [matchSame]; simp; omega) | (rw [Bool.eq_iff_iff]; simp only [matchSame]; simp [*]; done) | (rw [Bool.eq_iff_iff]; simp only [matchSame]; simp [*]; omega) | (simp_all [matchSame]; done) | (exfalso; omega))⟩)


def fturner (f : AFilter) : Bool := decide (f.kind = 4) || decide (f.kind = 5)

theorem filter_turner (f : AFilter) : Pure Tryz.prog 209 [f.d] (fun d => d = bln (fturner f)) := by
  refine pure_of_run follows an_zm6be Tryz.func209 rfl ok_zm6be.1 ok_zm6be.2 (by simp [Tryz.ntmps209]) ?_
  rw [run_start]
  simp only [ac_zm6be, oo, og, tp, ci, cq, mq, lq, fi, sr, go_sem, contS_seq, simprocAttr]
  (repeat' (first | (refine GifP.mk (fun _ => ?_) (fun _ => ?_)) | (refine Gif.mk (fun _ => ?_) (fun _ => ?_)))) <;> (simp only [retK, resD, St.get, lk, oneD, D.pub, D.pubs, retL, reduceIte, Nat.reduceEqDiff, Nat.reduceAdd, Nat.reduceLeDiff, Tryz.results209]; exact ⟨_, rfl, rfl, congrArg bln (by first | rfl | (rw [Bool.eq_iff_iff]; simp only [fturner]; simp; done) | (rw [Bool.eq_iff_iff]; simp only [fturner]; simp; omega) | (rw [Bool.eq_iff_iff]; simp only [fturner]; simp [*]; done) | (rw [Bool.eq_iff_iff]; simp only [fturner]; simp [*]; omega) | (simp_all [fturner]; done) | (exfalso; omega))⟩)

def fturns (f : AFilter) : Bool :=
  !(!decide (f.host = ⟨#[]⟩) && !dname f.host) && (if f.path = ⟨#[]⟩ then !f.whole else if f.whole = true then pathIs f.path else pathMay 2 f.path)

theorem filter_turns (f : AFilter) : Pure Tryz.prog 236 [f.d] (fun d => d = bln (fturns f)) := by
  refine pure_of_run follows an_z3d8y Tryz.func236 rfl ok_z3d8y.1 ok_z3d8y.2 (by simp [Tryz.ntmps236]) ?_
  rw [run_start]
  simp only [ac_z3d8y, oo, og, tp, ci, cq, mq, lq, fi, sr, go_sem, contS_seq, simprocAttr]
  (repeat' (first | (refine GifP.mk (fun _ => ?_) (fun _ => ?_)) | (refine Gif.mk (fun _ => ?_) (fun _ => ?_)) | ((first | refine (dns_Name _).callW (enters_of Tryz.func109 rfl rfl) _ rfl rfl ?_ | refine (path_Is _).callW (enters_of Tryz.func230 rfl rfl) _ rfl rfl ?_ | refine (path_May _ _).callW (enters_of Tryz.func201 rfl rfl) _ rfl rfl ?_); rintro _ rfl; try simp only [go_sem, contS_seq, simprocAttr]))) <;> (simp only [retK, resD, St.get, lk, oneD, D.pub, D.pubs, retL, reduceIte, Nat.reduceEqDiff, Nat.reduceAdd, Nat.reduceLeDiff, Tryz.results236]; exact ⟨_, rfl, rfl, congrArg bln (by first | rfl | (rw [Bool.eq_iff_iff]; simp only [fturns]; simp; done) | (rw [Bool.eq_iff_iff]; simp only [fturns]; simp; omega) | (rw [Bool.eq_iff_iff]; simp only [fturns]; simp [*]; done) | (rw [Bool.eq_iff_iff]; simp only [fturns]; simp [*]; omega) | (simp_all [fturns]; done) | (exfalso; omega))⟩)

def fzero (n v h p t w c : Bool) (f : AFilter) : Bool :=
  (n || decide (f.name = ⟨#[]⟩)) && (v || decide (f.val = ⟨#[]⟩)) && (h || decide (f.host = ⟨#[]⟩)) && (p || decide (f.port = 0)) && (t || decide (f.path = ⟨#[]⟩)) && (w || !f.whole) && (c || decide (f.code = 0))

def filterMay (f : AFilter) : Bool :=
  if f.kind = 1 ∨ f.kind = 2 then fzero true true false false false false false f && token f.name && fvalue f.val
  else if f.kind = 3 then fzero true false false false false false false f && token f.name
  else if f.kind = 4 then decide (f.name = ⟨#[]⟩) && decide (f.val = ⟨#[]⟩) && fturns f && decide (0 ≤ f.port) && decide (f.port ≤ 65535) && (decide (f.code = 301) || decide (f.code = 302))
  else if f.kind = 5 then fzero false false true false true true false f && fturns f && (!decide (f.host = ⟨#[]⟩) || !decide (f.path = ⟨#[]⟩))
  else false

theorem beq_self_true {b : Bool} : (b == b) = true := by cases b <;> rfl

set_option maxHeartbeats 1000000 in
theorem filter_May (f : AFilter) (h : f.ok) : Pure Tryz.prog 210 [f.d] (fun d => d = bln (filterMay f)) := by
  refine pure_of_run follows an_zhj59 Tryz.func210 rfl ok_zhj59.1 ok_zhj59.2 (by simp [Tryz.ntmps210]) ?_
  rw [run_start]
  simp only [ac_zhj59, oo, og, tp, ci, cq, mq, lq, fi, sr, go_sem, contS_seq, simprocAttr, eqVs, eqV, beq_self_true]
  (repeat' (first | (refine GifP.mk (fun _ => ?_) (fun _ => ?_)) | (refine Gif.mk (fun _ => ?_) (fun _ => ?_)) | ((first | refine (pairs_Token f.name h.1).callW (enters_of Tryz.func199 rfl rfl) _ rfl rfl ?_ | refine (pairs_Value f.val h.2).callW (enters_of Tryz.func200 rfl rfl) _ rfl rfl ?_ | refine (filter_turns f).callW (enters_of Tryz.func236 rfl rfl) _ rfl rfl ?_); rintro _ rfl; try simp only [go_sem, contS_seq, simprocAttr, eqVs, eqV, beq_self_true]))) <;> (simp only [retK, resD, St.get, lk, oneD, D.pub, D.pubs, retL, reduceIte, Nat.reduceEqDiff, Nat.reduceAdd, Nat.reduceLeDiff, Tryz.results210]; exact ⟨_, rfl, rfl, congrArg bln (by first | rfl | (rw [Bool.eq_iff_iff]; simp only [filterMay, fzero]; simp; done) | (rw [Bool.eq_iff_iff]; simp only [filterMay, fzero]; simp; omega) | (rw [Bool.eq_iff_iff]; simp only [filterMay, fzero]; simp [*]; done) | (rw [Bool.eq_iff_iff]; simp only [filterMay, fzero]; simp [*]; omega) | (simp_all [filterMay, fzero]; done) | (exfalso; omega))⟩)

def likeF (f x : AFilter) : Bool := (fturner x && fturner f) || (decide (x.kind = f.kind) && foldSame x.name f.name)

abbrev AFilter.ds (f : AFilter) : List D := [int f.kind, str f.name, str f.val, str f.host, int f.port, str f.path, bln f.whole, int f.code]

theorem filter_All_1 (f x : AFilter) (hf : f.ok) (hx : x.ok) : PureB Tryz.prog 208 [x.d, .ptr 1000001 0] [(1000001, f.ds)] (fun d => d = bln (likeF f x)) := by
  refine pureB_of_run follows an_z38ed Tryz.func208 rfl ok_z38ed.1 ok_z38ed.2 (by simp [Tryz.ntmps208]) ?_
  rw [run_start]
  simp only [ac_z38ed, oo, og, tp, ci, cq, mq, lq, fi, sr, go_sem, contS_seq, simprocAttr]
  (repeat' (first | (refine GifP.mk (fun _ => ?_) (fun _ => ?_)) | (refine Gif.mk (fun _ => ?_) (fun _ => ?_)) | ((first | refine (filter_turner x).callW (enters_of Tryz.func209 rfl rfl) _ rfl rfl ?_ | refine (filter_turner f).callW (enters_of Tryz.func209 rfl rfl) _ rfl rfl ?_ | refine (pairs_Same _ _ hx.1 hf.1).callW (enters_of Tryz.func205 rfl rfl) _ rfl rfl ?_); rintro _ rfl; try simp only [go_sem, contS_seq, simprocAttr]))) <;> (simp only [retK, resD, St.get, lk, oneD, D.pub, D.pubs, retL, reduceIte, Nat.reduceEqDiff, Nat.reduceAdd, Nat.reduceLeDiff, Tryz.results208]; exact ⟨_, rfl, rfl, congrArg bln (by first | rfl | (rw [Bool.eq_iff_iff]; simp only [likeF]; simp; done) | (rw [Bool.eq_iff_iff]; simp only [likeF]; simp; omega) | (rw [Bool.eq_iff_iff]; simp only [likeF]; simp [*]; done) | (rw [Bool.eq_iff_iff]; simp only [likeF]; simp [*]; omega) | (simp_all [likeF]; done) | (exfalso; omega))⟩)

def filtersFrom (l : List AFilter) : Nat → Nat → Bool
  | 0, _ => true
  | k + 1, i => (match l[i]? with
    | some f => filterMay f && !(l.take i).any (likeF f)
    | none => true) && filtersFrom l k (i + 1)

def filtersAll (l : List AFilter) : Bool := filtersFrom l l.length 0 && decide (l.length ≤ 8)

theorem filter_All (l : List AFilter) (hl : l.length ≤ 1000000) (ho : ∀ f ∈ l, f.ok) : Pure Tryz.prog 166 [.pd (.slice (rows AFilter.pd l))] (fun d => d = bln (filtersAll l)) := by
  refine pure_of_run follows an_zhmnj Tryz.func166 rfl ok_zhmnj.1 ok_zhmnj.2 (by simp [Tryz.ntmps166]) ?_
  rw [run_start]
  simp only [ac_zhmnj, oo, og, tp, ci, cq, mq, lq, fi, sr, go_sem, contS_seq, simprocAttr, rows_len]
  refine loopS (fun k st => ∃ i : Nat, k = l.length - i ∧ i ≤ l.length ∧ filtersFrom l k i = filtersFrom l l.length 0 ∧
    st = ⟨[(0, .pd (.slice (rows AFilter.pd l))), (6, .pd (.slice (rows AFilter.pd l))), (7, int l.length), (8, int i)], [], [], .no⟩) l.length _ (Weak.refl _ _) ⟨0, rfl, Nat.zero_le _, rfl, rfl⟩ ?_
  rintro k st ⟨i, rfl, hi, hr, rfl⟩
  by_cases hlt : i < l.length
  · obtain ⟨x, hx⟩ := at_lt hlt
    have hlt' : ((i : Int) < (l.length : Int)) = True := eq_true (by omega)
    have hle : (i ≤ l.length) = True := eq_true (by omega)
    have hw := i64_succ (show i < 1000000000 by omega)
    have hmx := List.mem_of_getElem? hx
    obtain ⟨m, hm⟩ : ∃ m, l.length - i = m + 1 := ⟨l.length - i - 1, by omega⟩
    rw [hm, filtersFrom, hx] at hr
    have hrows : rowsOK 8 (rows AFilter.pd l) = True := rowsOK_rows (f := AFilter.pd) (n := 8) (fun _ => rfl) l
    have htk : (rows AFilter.pd l).take i = rows AFilter.pd (l.take i) := by simp [rows, List.map_take]
    have bad : filtersFrom l l.length 0 = false → filtersAll l = false := fun h => by simp [filtersAll, h]
    simp only [go_sem, contS_seq, simprocAttr, hlt', rows_get hx, rows_len, hrows, hle, htk]
    refine (filter_May x (ho x hmx)).callW (enters_of Tryz.func210 rfl rfl) _ rfl rfl ?_
    rintro d rfl
    simp only [go_sem, contS_seq, simprocAttr, hrows, hle, htk, rows_len]
    refine Gif.mk (fun h => ?_) (fun h => ?_)
    · refine (ContainsFunc_Filter (likeF x) 208 (enters_of Tryz.func208 rfl rfl) [(1000001, 0)] [(1000001, x.ds)] (Cl.of rfl rfl rfl rfl rfl) (l.take i) (by simp; omega)
        (fun y hy => filter_All_1 x y (ho x hmx) (ho y (List.mem_of_mem_take hy)))).callW (enters_of Tryz.func211 rfl rfl) _ [(4, 1000001)] rfl rfl rfl ?_
      rintro d rfl
      simp only [go_sem, contS_seq, simprocAttr, hw]
      refine Gif.mk (fun h2 => ?_) (fun h2 => ?_)
      · simp only [h, h2, Bool.not_true, Bool.and_false, Bool.false_and] at hr
        simp only [retK, resD, St.get, lk, oneD, D.pub, D.pubs, retL, reduceIte, Nat.reduceEqDiff, Nat.reduceAdd, Nat.reduceLeDiff, Tryz.results166]
        exact ⟨_, rfl, rfl, congrArg bln (bad hr.symm).symm⟩
      · simp only [h, h2, Bool.not_false, Bool.and_true, Bool.true_and] at hr
        refine ⟨m, _, ?_, ?_, i + 1, ?_, ?_, hr, rfl⟩
        · omega
        · exact lessA
        · omega
        · omega
    · simp only [h, Bool.false_and] at hr
      simp only [retK, resD, St.get, lk, oneD, D.pub, D.pubs, retL, reduceIte, Nat.reduceEqDiff, Nat.reduceAdd, Nat.reduceLeDiff, Tryz.results166]
      exact ⟨_, rfl, rfl, congrArg bln (bad hr.symm).symm⟩
  · have hlt' : ((i : Int) < (l.length : Int)) = False := eq_false (by omega)
    rw [show l.length - i = 0 by omega, filtersFrom] at hr
    simp only [go_sem, contS_seq, simprocAttr, rows_len, hlt']
    repeat' (first | refine GifP.mk (fun _ => ?_) (fun _ => ?_) | refine Gif.mk (fun _ => ?_) (fun _ => ?_))
    all_goals
      simp only [retK, resD, St.get, lk, oneD, D.pub, D.pubs, retL, reduceIte, Nat.reduceEqDiff, Nat.reduceAdd, Nat.reduceLeDiff, Tryz.results166]
      exact ⟨_, rfl, rfl, congrArg bln (by first | rfl | (rw [Bool.eq_iff_iff]; simp only [filtersAll, ← hr]; simp; done) | (rw [Bool.eq_iff_iff]; simp only [filtersAll, ← hr]; simp; omega) | (rw [Bool.eq_iff_iff]; simp only [filtersAll, ← hr]; simp [*]; done) | (rw [Bool.eq_iff_iff]; simp only [filtersAll, ← hr]; simp [*]; omega) | (simp_all [filtersAll, ← hr]; done) | (exfalso; omega))⟩

def listenerMay (l : AListener) : Bool :=
  (if l.tls = true then decide (l.cert.kind = 4) && labValue l.cert.space && dname l.cert.name else decide (l.cert.kind = 0) && decide (l.cert.space = ⟨#[]⟩) && decide (l.cert.name = ⟨#[]⟩)) &&
  label l.name && oport l.port && hostMay l.host && decide (0 ≤ l.from_) && decide (l.from_ ≤ 2) && needsMay l.needs && (decide (l.from_ = 2) || decide (l.needs.length = 0))

structure AListener.ok (l : AListener) : Prop where
  nl : l.needs.length ≤ 1000000
  n : ∀ x ∈ l.needs, x.ok

set_option maxHeartbeats 1000000 in
theorem object_listener (l : AListener) (h : l.ok) : Pure Tryz.prog 111 [l.d] (fun d => d = bln (listenerMay l)) := by
  refine pure_of_run follows an_z5xl6 Tryz.func111 rfl ok_z5xl6.1 ok_z5xl6.2 (by simp [Tryz.ntmps111]) ?_
  rw [run_start]
  simp only [ac_z5xl6, oo, og, tp, ci, cq, mq, lq, fi, sr, go_sem, contS_seq, simprocAttr, rows_len, eqVs, eqV]
  (repeat' (first | (refine GifP.mk (fun _ => ?_) (fun _ => ?_)) | (refine Gif.mk (fun _ => ?_) (fun _ => ?_)) | ((first | refine (object_near _).callW (enters_of Tryz.func152 rfl rfl) _ rfl rfl ?_ | refine (dns_Name _).callW (enters_of Tryz.func109 rfl rfl) _ rfl rfl ?_ | refine (dns_Label _).callW (enters_of Tryz.func126 rfl rfl) _ rfl rfl ?_ | refine (object_port _).callW (enters_of Tryz.func104 rfl rfl) _ rfl rfl ?_ | refine (host_May _).callW (enters_of Tryz.func118 rfl rfl) _ rfl rfl ?_ | refine (label_Needs l.needs h.nl h.n).callW (enters_of Tryz.func153 rfl rfl) _ rfl rfl ?_); rintro _ rfl; try simp only [go_sem, contS_seq, simprocAttr, rows_len, eqVs, eqV]))) <;> (simp only [retK, resD, St.get, lk, oneD, D.pub, D.pubs, retL, reduceIte, Nat.reduceEqDiff, Nat.reduceAdd, Nat.reduceLeDiff, Tryz.results111]; exact ⟨_, rfl, rfl, congrArg bln (by first | rfl | (rw [Bool.eq_iff_iff]; simp only [listenerMay]; simp; done) | (rw [Bool.eq_iff_iff]; simp only [listenerMay]; simp; omega) | (rw [Bool.eq_iff_iff]; simp only [listenerMay]; simp [*]; done) | (rw [Bool.eq_iff_iff]; simp only [listenerMay]; simp [*]; omega) | (simp_all [listenerMay]; done) | (exfalso; omega))⟩)

structure ARule.ok (r : ARule) : Prop where
  ml : r.matches_.length ≤ 1000000
  fl : r.filters.length ≤ 1000000
  bl : r.backends.length ≤ 1000000
  m : ∀ x ∈ r.matches_, x.ok
  f : ∀ x ∈ r.filters, x.ok

def ruleMay (r : ARule) : Bool := every matchMay r.matches_ 4 && filtersAll r.filters && every backendMay r.backends 4

theorem object_ruled (r : ARule) (h : r.ok) : Pure Tryz.prog 123 [r.d] (fun d => d = bln (ruleMay r)) := by
  refine pure_of_run follows an_zjms9 Tryz.func123 rfl ok_zjms9.1 ok_zjms9.2 (by simp [Tryz.ntmps123]) ?_
  rw [run_start]
  simp only [ac_zjms9, oo, og, tp, ci, cq, mq, lq, fi, sr, go_sem, contS_seq, simprocAttr]
  (repeat' (first | (refine GifP.mk (fun _ => ?_) (fun _ => ?_)) | (refine Gif.mk (fun _ => ?_) (fun _ => ?_)) | ((first | refine (every_Match matchMay _ (enters_of Tryz.func165 rfl rfl) r.matches_ h.ml 4 (fun x hx => rule_May x (h.m x hx))).callW (enters_of Tryz.func164 rfl rfl) _ rfl rfl ?_ | refine (filter_All r.filters h.fl h.f).callW (enters_of Tryz.func166 rfl rfl) _ rfl rfl ?_ | refine (every_Backend backendMay _ (enters_of Tryz.func168 rfl rfl) r.backends h.bl 4 (fun x _ => object_backend x)).callW (enters_of Tryz.func167 rfl rfl) _ rfl rfl ?_); rintro _ rfl; try simp only [go_sem, contS_seq, simprocAttr]))) <;> (simp only [retK, resD, St.get, lk, oneD, D.pub, D.pubs, retL, reduceIte, Nat.reduceEqDiff, Nat.reduceAdd, Nat.reduceLeDiff, Tryz.results123]; exact ⟨_, rfl, rfl, congrArg bln (by first | rfl | (rw [Bool.eq_iff_iff]; simp only [ruleMay]; simp; done) | (rw [Bool.eq_iff_iff]; simp only [ruleMay]; simp; omega) | (rw [Bool.eq_iff_iff]; simp only [ruleMay]; simp [*]; done) | (rw [Bool.eq_iff_iff]; simp only [ruleMay]; simp [*]; omega) | (simp_all [ruleMay]; done) | (exfalso; omega))⟩)

def listenerSame (a b : AListener) : Bool :=
  decide (a.name = b.name) && decide (a.port = b.port) && (a.tls == b.tls) && decide (a.host = b.host) && decide (a.cert = b.cert) && decide (a.from_ = b.from_) && eqf needSame a.needs b.needs

theorem object_sameListener (a b : AListener) (ha : a.ok) (hb : b.ok) : Pure Tryz.prog 135 [a.d, b.d] (fun d => d = bln (listenerSame a b)) := by
  refine pure_of_run follows an_z1fwi Tryz.func135 rfl ok_z1fwi.1 ok_z1fwi.2 (by simp [Tryz.ntmps135]) ?_
  rw [run_start]
  simp only [ac_z1fwi, oo, og, tp, ci, cq, mq, lq, fi, sr, go_sem, contS_seq, simprocAttr, eqVs, eqV, eq_Ref]
  (repeat' (first | (refine GifP.mk (fun _ => ?_) (fun _ => ?_)) | (refine Gif.mk (fun _ => ?_) (fun _ => ?_)) | (refine (label_Same a.needs b.needs ha.nl hb.nl ha.n hb.n).callW (enters_of Tryz.func173 rfl rfl) _ rfl rfl ?_; rintro _ rfl; try simp only [go_sem, contS_seq, simprocAttr, eqVs, eqV, eq_Ref]))) <;> (simp only [retK, resD, St.get, lk, oneD, D.pub, D.pubs, retL, reduceIte, Nat.reduceEqDiff, Nat.reduceAdd, Nat.reduceLeDiff, Tryz.results135]; exact ⟨_, rfl, rfl, congrArg bln (by first | rfl | (rw [Bool.eq_iff_iff]; simp only [listenerSame]; simp; done) | (rw [Bool.eq_iff_iff]; simp only [listenerSame]; simp; omega) | (rw [Bool.eq_iff_iff]; simp only [listenerSame]; simp [*]; done) | (rw [Bool.eq_iff_iff]; simp only [listenerSame]; simp [*]; omega) | (simp_all [listenerSame]; done) | (exfalso; omega))⟩)

def ruleSame (a b : ARule) : Bool := eqf matchSame a.matches_ b.matches_ && decide (a.filters = b.filters) && decide (a.backends = b.backends)

theorem object_sameRule (a b : ARule) (ha : a.ok) (hb : b.ok) : Pure Tryz.prog 137 [a.d, b.d] (fun d => d = bln (ruleSame a b)) := by
  refine pure_of_run follows an_z30xg Tryz.func137 rfl ok_z30xg.1 ok_z30xg.2 (by simp [Tryz.ntmps137]) ?_
  rw [run_start]
  simp only [ac_z30xg, oo, og, tp, ci, cq, mq, lq, fi, sr, go_sem, contS_seq, simprocAttr]
  (repeat' (first | (refine GifP.mk (fun _ => ?_) (fun _ => ?_)) | (refine Gif.mk (fun _ => ?_) (fun _ => ?_)) | ((first | refine (EqualFunc_Match matchSame _ (enters_of Tryz.func175 rfl rfl) a.matches_ b.matches_ ha.ml hb.ml (fun x hx y hy => rule_Same x y (ha.m x hx) (hb.m y hy))).callW (enters_of Tryz.func174 rfl rfl) _ rfl rfl ?_ | refine (Equal_Filter a.filters b.filters ha.fl hb.fl).callW (enters_of Tryz.func176 rfl rfl) _ rfl rfl ?_ | refine (Equal_Backend a.backends b.backends ha.bl hb.bl).callW (enters_of Tryz.func177 rfl rfl) _ rfl rfl ?_); rintro _ rfl; try simp only [go_sem, contS_seq, simprocAttr]))) <;> (simp only [retK, resD, St.get, lk, oneD, D.pub, D.pubs, retL, reduceIte, Nat.reduceEqDiff, Nat.reduceAdd, Nat.reduceLeDiff, Tryz.results137]; exact ⟨_, rfl, rfl, congrArg bln (by first | rfl | (rw [Bool.eq_iff_iff]; simp only [ruleSame]; simp; done) | (rw [Bool.eq_iff_iff]; simp only [ruleSame]; simp; omega) | (rw [Bool.eq_iff_iff]; simp only [ruleSame]; simp [*]; done) | (rw [Bool.eq_iff_iff]; simp only [ruleSame]; simp [*]; omega) | (simp_all [ruleSame]; done) | (exfalso; omega))⟩)


def labelsFrom (l : List APair) : Nat → Nat → Bool
  | 0, _ => true
  | k + 1, i => (match l[i]? with
    | some p => dname p.name && labValue p.val && (decide (i = 0) || (match l[i - 1]? with | some q => Op.bytesLess q.name.toList p.name.toList | none => false))
    | none => true) && labelsFrom l k (i + 1)

def labelsMay (l : List APair) : Bool := labelsFrom l l.length 0 && decide (l.length ≤ 8)

set_option maxHeartbeats 1000000 in
theorem label_May (l : List APair) (hl : l.length ≤ 1000000) : Pure Tryz.prog 102 [.pd (.slice (rows APair.pd l))] (fun d => d = bln (labelsMay l)) := by
  refine pure_of_run follows an_z2iq3 Tryz.func102 rfl ok_z2iq3.1 ok_z2iq3.2 (by simp [Tryz.ntmps102]) ?_
  rw [run_start]
  simp only [ac_z2iq3, oo, og, tp, ci, cq, mq, lq, fi, sr, go_sem, contS_seq, simprocAttr, rows_len]
  refine loopS (fun k st => ∃ i : Nat, k = l.length - i ∧ i ≤ l.length ∧ labelsFrom l k i = labelsFrom l l.length 0 ∧
    st = ⟨[(0, .pd (.slice (rows APair.pd l))), (5, .pd (.slice (rows APair.pd l))), (6, int l.length), (7, int i)], [], [], .no⟩) l.length _ (Weak.refl _ _) ⟨0, rfl, Nat.zero_le _, rfl, rfl⟩ ?_
  rintro k st ⟨i, rfl, hi, hr, rfl⟩
  by_cases hlt : i < l.length
  · obtain ⟨x, hx⟩ := at_lt hlt
    have hlt' : ((i : Int) < (l.length : Int)) = True := eq_true (by omega)
    have hw := i64_succ (show i < 1000000000 by omega)
    obtain ⟨m, hm⟩ : ∃ m, l.length - i = m + 1 := ⟨l.length - i - 1, by omega⟩
    rw [hm, labelsFrom, hx] at hr
    have bad : labelsFrom l l.length 0 = false → labelsMay l = false := fun h => by simp [labelsMay, h]
    have good : ∀ st, Weak Tryz.prog st ⟨[(0, .pd (.slice (rows APair.pd l))), (5, .pd (.slice (rows APair.pd l))), (6, int l.length), (7, int (i + 1 : Nat))], [], [], .no⟩ → labelsFrom l m (i + 1) = labelsFrom l l.length 0 →
        Round Tryz.prog (fun k st => ∃ i : Nat, k = l.length - i ∧ i ≤ l.length ∧ labelsFrom l k i = labelsFrom l l.length 0 ∧
          st = ⟨[(0, .pd (.slice (rows APair.pd l))), (5, .pd (.slice (rows APair.pd l))), (6, int l.length), (7, int i)], [], [], .no⟩) (l.length - i) st := fun st hst hr =>
      ⟨m, _, by omega, hst, i + 1, by omega, by omega, hr, rfl⟩
    simp (maxSteps := 2000000) only [go_sem, contS_seq, simprocAttr, go_sem, hlt', rows_get hx, rows_len]
    refine (dns_Name x.name).callX (enters_of Tryz.func109 rfl rfl) _ rfl rfl ?_
    rintro d rfl
    simp (maxSteps := 2000000) only [go_sem, contS_seq, simprocAttr, go_sem, rows_len]
    refine Gif.mk (fun h1 => ?_) (fun h1 => ?_)
    · refine (label_value x.val).callX (enters_of Tryz.func144 rfl rfl) _ rfl rfl ?_
      rintro d rfl
      by_cases hi0 : 0 < i
      · obtain ⟨q, hq⟩ := at_lt (show i - 1 < l.length by omega)
        have h0 : ((0 : Int) < (i : Int)) = True := eq_true (by omega)
        have hw1 : IntKind.i64.wrap ((i : Int) - 1) = ((i - 1 : Nat) : Int) := by rw [IntWalk.i64_in _ (by omega)]; omega
        simp (maxSteps := 2000000) only [go_sem, contS_seq, simprocAttr, go_sem, rows_len, h0, hw1, rows_get hq, hw]
        refine Gif.mk (fun h2 => ?_) (fun h2 => ?_)
        · refine Gif.mk (fun h3 => ?_) (fun h3 => ?_)
          · refine good _ (lessA) ?_
            simpa [h1, h2, h3, hq] using hr
          · simp only [retK, resD, St.get, lk, oneD, D.pub, D.pubs, retL, reduceIte, Nat.reduceEqDiff, Nat.reduceAdd, Nat.reduceLeDiff, Tryz.results102]
            refine ⟨_, rfl, rfl, congrArg bln (bad ?_).symm⟩
            rw [← hr]; simp [h1, h2, h3, hq]; omega
        · simp only [retK, resD, St.get, lk, oneD, D.pub, D.pubs, retL, reduceIte, Nat.reduceEqDiff, Nat.reduceAdd, Nat.reduceLeDiff, Tryz.results102]
          refine ⟨_, rfl, rfl, congrArg bln (bad ?_).symm⟩
          rw [← hr]; simp [h1, h2]
      · have h0 : ((0 : Int) < (i : Int)) = False := eq_false (by omega)
        simp (maxSteps := 2000000) only [go_sem, contS_seq, simprocAttr, go_sem, rows_len, h0, hw]
        refine Gif.mk (fun h2 => ?_) (fun h2 => ?_)
        · refine good _ (lessA) ?_
          simpa [h1, h2, show i = 0 by omega] using hr
        · simp only [retK, resD, St.get, lk, oneD, D.pub, D.pubs, retL, reduceIte, Nat.reduceEqDiff, Nat.reduceAdd, Nat.reduceLeDiff, Tryz.results102]
          refine ⟨_, rfl, rfl, congrArg bln (bad ?_).symm⟩
          rw [← hr]; simp [h1, h2]
    · simp only [retK, resD, St.get, lk, oneD, D.pub, D.pubs, retL, reduceIte, Nat.reduceEqDiff, Nat.reduceAdd, Nat.reduceLeDiff, Tryz.results102]
      refine ⟨_, rfl, rfl, congrArg bln (bad ?_).symm⟩
      rw [← hr]; simp [h1]
  · have hlt' : ((i : Int) < (l.length : Int)) = False := eq_false (by omega)
    rw [show l.length - i = 0 by omega, labelsFrom] at hr
    simp only [go_sem, contS_seq, simprocAttr, rows_len, hlt']
    repeat' (first | refine GifP.mk (fun _ => ?_) (fun _ => ?_) | refine Gif.mk (fun _ => ?_) (fun _ => ?_))
    all_goals
      simp only [retK, resD, St.get, lk, oneD, D.pub, D.pubs, retL, reduceIte, Nat.reduceEqDiff, Nat.reduceAdd, Nat.reduceLeDiff, Tryz.results102]
      exact ⟨_, rfl, rfl, congrArg bln (by first | rfl | (rw [Bool.eq_iff_iff]; simp only [labelsMay, ← hr]; simp; done) | (rw [Bool.eq_iff_iff]; simp only [labelsMay, ← hr]; simp; omega) | (rw [Bool.eq_iff_iff]; simp only [labelsMay, ← hr]; simp [*]; done) | (rw [Bool.eq_iff_iff]; simp only [labelsMay, ← hr]; simp [*]; omega) | (simp_all [labelsMay, ← hr]; done) | (exfalso; omega))⟩

def sortFrom (l : List Int) : Nat → Bool
  | 0 => true
  | i + 1 => (match l[i + 1]?, l[i]? with
    | some a, some b => !intLess a b
    | _, _ => true) && sortFrom l i

def sortedInts (l : List Int) : Bool := sortFrom l (l.length - 1)

theorem slices_IsSorted_int (l : List Int) (hl : l.length ≤ 1000000) : Pure Tryz.prog 105 [.pd (.slice (ints l))] (fun d => d = bln (sortedInts l)) := by
  refine pure_of_run follows an_zhfyj Tryz.func105 rfl ok_zhfyj.1 ok_zhfyj.2 (by simp [Tryz.ntmps105]) ?_
  rw [run_start]
  have hw0 : IntKind.i64.wrap ((l.length : Int) - 1) = (l.length : Int) - 1 := IntWalk.i64_in _ (by omega)
  simp only [ac_zhfyj, oo, og, tp, ci, cq, mq, lq, fi, sr, go_sem, contS_seq, simprocAttr, go_sem, rows_len, hw0]
  refine loopS (fun k st => ∃ i : Int, k = i.toNat ∧ -1 ≤ i ∧ i < (l.length : Int) ∧ sortFrom l i.toNat = sortedInts l ∧
    st = ⟨[(0, .pd (.slice (ints l))), (3, int i)], [], [], .no⟩) ((l.length : Int) - 1).toNat _ (Weak.refl _ _) ⟨(l.length : Int) - 1, rfl, by omega, by omega, by
      rw [sortedInts]; congr 1; omega, rfl⟩ ?_
  rintro k st ⟨i, rfl, hi, hi2, hr, rfl⟩
  by_cases hlt : 0 < i
  · obtain ⟨j, rfl⟩ : ∃ j : Nat, i = (j + 1 : Nat) := ⟨(i - 1).toNat, by omega⟩
    obtain ⟨x, hx⟩ := at_lt (show j + 1 < l.length by omega)
    obtain ⟨y, hy⟩ := at_lt (show j < l.length by omega)
    have hlt' : ((0 : Int) < ((j + 1 : Nat) : Int)) = True := eq_true (by omega)
    have hw : IntKind.i64.wrap (((j + 1 : Nat) : Int) - 1) = (j : Int) := by rw [IntWalk.i64_in _ (by omega)]; omega
    rw [Int.toNat_natCast, sortFrom, hx, hy] at hr
    simp only [go_sem, contS_seq, simprocAttr, go_sem, hlt', rows_get hx, rows_get hy, hw]
    refine (cmp_Less x y).callX (enters_of Tryz.func147 rfl rfl) _ rfl rfl ?_
    rintro d rfl
    simp only [go_sem, contS_seq, simprocAttr, go_sem, hw]
    refine Gif.mk (fun h => ?_) (fun h => ?_)
    · simp only [h, Bool.not_true, Bool.false_and] at hr
      simp only [retK, resD, St.get, lk, oneD, D.pub, D.pubs, retL, reduceIte, Nat.reduceEqDiff, Nat.reduceAdd, Nat.reduceLeDiff, Tryz.results105]
      exact ⟨_, rfl, rfl, congrArg bln hr⟩
    · simp only [h, Bool.not_false, Bool.true_and] at hr
      refine ⟨j, _, ?_, ?_, (j : Int), by simp, by omega, by omega, by simpa using hr, rfl⟩
      · omega
      · exact lessA
  · have hlt' : ((0 : Int) < i) = False := eq_false hlt
    rw [show i.toNat = 0 by omega, sortFrom] at hr
    simp only [go_sem, contS_seq, simprocAttr, go_sem, hlt']
    simp only [retK, resD, St.get, lk, oneD, D.pub, D.pubs, retL, reduceIte, Nat.reduceEqDiff, Nat.reduceAdd, Nat.reduceLeDiff, Tryz.results105]
    exact ⟨_, rfl, rfl, congrArg bln hr⟩

structure AObj.ok (o : AObj) : Prop where
  la : o.labels.length ≤ 1000000
  po : o.ports.length ≤ 1000000
  li : o.listeners.length ≤ 1000000
  pa : o.parents.length ≤ 1000000
  ho : o.hosts.length ≤ 1000000
  ru : o.rules.length ≤ 1000000
  fr : o.from_.length ≤ 1000000
  to : o.to_.length ≤ 1000000
  lis : ∀ x ∈ o.listeners, x.ok
  rus : ∀ x ∈ o.rules, x.ok

abbrev AObj.ds (o : AObj) : List D := [int o.ref.kind, str o.ref.space, str o.ref.name, bln o.good, .pd (.slice (rows APair.pd o.labels)), .pd (.slice (ints o.ports)), str o.cls, .pd (.slice (rows AListener.pd o.listeners)),
  .pd (.slice (rows AParent.pd o.parents)), .pd (.slice (strs o.hosts)), .pd (.slice (rows ARule.pd o.rules)), .pd (.slice (rows ASide.pd o.from_)), .pd (.slice (rows ASide.pd o.to_))]


theorem thing_class (o : AObj) : Full Tryz.prog 79 [.ptr 500001 0] [(500001, o.ds)] true (fun d bs => d = bln true ∧ bs = [(500001,
    [int o.ref.kind, str o.ref.space, str o.ref.name, bln false, .pd (.slice (rows APair.pd o.labels)), .pd (.slice (ints o.ports)), str o.cls, .pd (.slice (rows AListener.pd o.listeners)),
      .pd (.slice (rows AParent.pd o.parents)), .pd (.slice (strs o.hosts)), .pd (.slice (rows ARule.pd o.rules)), .pd (.slice (rows ASide.pd o.from_)), .pd (.slice (rows ASide.pd o.to_))])]) := by
  refine full_of_run follows an_zk71m Tryz.func79 rfl ok_zk71m.1 ok_zk71m.2 (by simp [Tryz.ntmps79]) (by simp [Tryz.ntmps79]) (.inl rfl) ?_
  rw [run_start]
  simp only [ac_zk71m, oo, og, tp, ci, cq, mq, lq, fi, sr, go_sem, contS_seq, simprocAttr]
  simp only [retK, fullK, resD, St.get, lk, oneD, D.pub, D.pubs, retL, reduceIte, Nat.reduceEqDiff, Nat.reduceAdd, Nat.reduceLeDiff, Tryz.results79]
  exact ⟨_, _, rfl, by simp [lessL, lk], rfl, rfl⟩

theorem thing_space (o : AObj) (h : o.ok) : Full Tryz.prog 80 [.ptr 500001 0] [(500001, o.ds)] true (fun d bs => d = bln (labelsMay o.labels) ∧ bs = [(500001,
    [int o.ref.kind, str o.ref.space, str o.ref.name, bln o.good, .nils, .pd (.slice (ints o.ports)), str o.cls, .pd (.slice (rows AListener.pd o.listeners)),
      .pd (.slice (rows AParent.pd o.parents)), .pd (.slice (strs o.hosts)), .pd (.slice (rows ARule.pd o.rules)), .pd (.slice (rows ASide.pd o.from_)), .pd (.slice (rows ASide.pd o.to_))])]) := by
  refine full_of_run follows an_zag3z Tryz.func80 rfl ok_zag3z.1 ok_zag3z.2 (by simp [Tryz.ntmps80]) (by simp [Tryz.ntmps80]) (.inl rfl) ?_
  rw [run_start]
  simp only [ac_zag3z, oo, og, tp, ci, cq, mq, lq, fi, sr, go_sem, contS_seq, simprocAttr]
  refine (label_May o.labels h.la).callW (enters_of Tryz.func102 rfl rfl) _ rfl rfl ?_
  rintro d rfl
  simp only [go_sem, contS_seq, simprocAttr]
  simp only [retK, fullK, resD, St.get, lk, oneD, D.pub, D.pubs, retL, reduceIte, Nat.reduceEqDiff, Nat.reduceAdd, Nat.reduceLeDiff, Tryz.results80]
  exact ⟨_, _, rfl, by simp [lessL, lk], rfl, rfl⟩

def serviceMay (l : List Int) : Bool := decide (0 < l.length) && every oport l 8 && sortedInts l && !twice intSame l

theorem thing_service (o : AObj) (h : o.ok) : Full Tryz.prog 81 [.ptr 500001 0] [(500001, o.ds)] true (fun d bs => d = bln (serviceMay o.ports) ∧ bs = [(500001,
    [int o.ref.kind, str o.ref.space, str o.ref.name, bln o.good, .pd (.slice (rows APair.pd o.labels)), .nils, str o.cls, .pd (.slice (rows AListener.pd o.listeners)),
      .pd (.slice (rows AParent.pd o.parents)), .pd (.slice (strs o.hosts)), .pd (.slice (rows ARule.pd o.rules)), .pd (.slice (rows ASide.pd o.from_)), .pd (.slice (rows ASide.pd o.to_))])]) := by
  refine full_of_run follows an_zxlfl Tryz.func81 rfl ok_zxlfl.1 ok_zxlfl.2 (by simp [Tryz.ntmps81]) (by simp [Tryz.ntmps81]) (.inl rfl) ?_
  rw [run_start]
  simp only [ac_zxlfl, oo, og, tp, ci, cq, mq, lq, fi, sr, go_sem, contS_seq, simprocAttr, rows_len]
  (repeat' (first | (refine GifP.mk (fun _ => ?_) (fun _ => ?_)) | (refine Gif.mk (fun _ => ?_) (fun _ => ?_)) | ((first | refine (every_int oport _ (enters_of Tryz.func104 rfl rfl) o.ports h.po 8 (fun x _ => object_port x)).callW (enters_of Tryz.func103 rfl rfl) _ rfl rfl ?_ | refine (slices_IsSorted_int o.ports h.po).callW (enters_of Tryz.func105 rfl rfl) _ rfl rfl ?_ | refine (twice_int intSame _ (enters_of Tryz.func107 rfl rfl) o.ports h.po (fun x _ y _ => thing_service_1 x y)).callW (enters_of Tryz.func106 rfl rfl) _ rfl rfl ?_); rintro _ rfl; try simp only [go_sem, contS_seq, simprocAttr]))) <;> (simp only [retK, fullK, resD, St.get, lk, oneD, D.pub, D.pubs, retL, reduceIte, Nat.reduceEqDiff, Nat.reduceAdd, Nat.reduceLeDiff, Tryz.results81]; exact ⟨_, _, rfl, by simp [lessL, lk], congrArg bln (by first | rfl | (rw [Bool.eq_iff_iff]; simp only [serviceMay]; simp; done) | (rw [Bool.eq_iff_iff]; simp only [serviceMay]; simp; omega) | (rw [Bool.eq_iff_iff]; simp only [serviceMay]; simp [*]; done) | (rw [Bool.eq_iff_iff]; simp only [serviceMay]; simp [*]; omega) | (simp_all [serviceMay]; done) | (exfalso; omega)), rfl⟩)

def gatewayMay (s : ByteArray) (l : List AListener) : Bool := dname s && decide (0 < l.length) && every listenerMay l 8 && !twice lisName l

theorem thing_gateway (o : AObj) (h : o.ok) : Full Tryz.prog 82 [.ptr 500001 0] [(500001, o.ds)] true (fun d bs => d = bln (gatewayMay o.cls o.listeners) ∧ bs = [(500001,
    [int o.ref.kind, str o.ref.space, str o.ref.name, bln o.good, .pd (.slice (rows APair.pd o.labels)), .pd (.slice (ints o.ports)), str ⟨#[]⟩, .nils,
      .pd (.slice (rows AParent.pd o.parents)), .pd (.slice (strs o.hosts)), .pd (.slice (rows ARule.pd o.rules)), .pd (.slice (rows ASide.pd o.from_)), .pd (.slice (rows ASide.pd o.to_))])]) := by
  refine full_of_run follows an_zqquk Tryz.func82 rfl ok_zqquk.1 ok_zqquk.2 (by simp [Tryz.ntmps82]) (by simp [Tryz.ntmps82]) (.inl rfl) ?_
  rw [run_start]
  simp only [ac_zqquk, oo, og, tp, ci, cq, mq, lq, fi, sr, go_sem, contS_seq, simprocAttr, go_sem, rows_len]
  (repeat' (first | (refine GifP.mk (fun _ => ?_) (fun _ => ?_)) | (refine Gif.mk (fun _ => ?_) (fun _ => ?_)) | ((first | refine (dns_Name _).callW (enters_of Tryz.func109 rfl rfl) _ rfl rfl ?_ | refine (every_Listener listenerMay _ (enters_of Tryz.func111 rfl rfl) o.listeners h.li 8 (fun x hx => object_listener x (h.lis x hx))).callW (enters_of Tryz.func110 rfl rfl) _ rfl rfl ?_ | refine (twice_Listener lisName _ (enters_of Tryz.func108 rfl rfl) o.listeners h.li (fun x _ y _ => thing_gateway_1 x y)).callW (enters_of Tryz.func112 rfl rfl) _ rfl rfl ?_); rintro _ rfl; try simp only [go_sem, contS_seq, simprocAttr, rows_len]))) <;> (simp only [retK, fullK, resD, St.get, lk, oneD, D.pub, D.pubs, retL, reduceIte, Nat.reduceEqDiff, Nat.reduceAdd, Nat.reduceLeDiff, Tryz.results82]; exact ⟨_, _, rfl, by simp [lessL, lk], congrArg bln (by first | rfl | (rw [Bool.eq_iff_iff]; simp only [gatewayMay]; simp; done) | (rw [Bool.eq_iff_iff]; simp only [gatewayMay]; simp; omega) | (rw [Bool.eq_iff_iff]; simp only [gatewayMay]; simp [*]; done) | (rw [Bool.eq_iff_iff]; simp only [gatewayMay]; simp [*]; omega) | (simp_all [gatewayMay]; done) | (exfalso; omega)), rfl⟩)

def routeMay (ps : List AParent) (hs : List ByteArray) (rs : List ARule) : Bool :=
  !(twice parSame ps || twice strSame hs) && every parentMay ps 4 && every patMay hs 4 && every ruleMay rs 6

theorem thing_route (o : AObj) (h : o.ok) : Full Tryz.prog 83 [.ptr 500001 0] [(500001, o.ds)] true (fun d bs => d = bln (routeMay o.parents o.hosts o.rules) ∧ bs = [(500001,
    [int o.ref.kind, str o.ref.space, str o.ref.name, bln o.good, .pd (.slice (rows APair.pd o.labels)), .pd (.slice (ints o.ports)), str o.cls, .pd (.slice (rows AListener.pd o.listeners)),
      .nils, .nils, .nils, .pd (.slice (rows ASide.pd o.from_)), .pd (.slice (rows ASide.pd o.to_))])]) := by
  refine full_of_run follows an_ztpho Tryz.func83 rfl ok_ztpho.1 ok_ztpho.2 (by simp [Tryz.ntmps83]) (by simp [Tryz.ntmps83]) (.inl rfl) ?_
  rw [run_start]
  simp (maxSteps := 5000000) only [ac_ztpho, oo, og, tp, ci, cq, mq, lq, fi, sr, go_sem, contS_seq, simprocAttr, go_sem, rows_len]
  (repeat' (first | (refine GifP.mk (fun _ => ?_) (fun _ => ?_)) | (refine Gif.mk (fun _ => ?_) (fun _ => ?_)) | ((first | refine (twice_Parent parSame _ (enters_of Tryz.func114 rfl rfl) o.parents h.pa (fun x _ y _ => thing_route_1 x y)).callW (enters_of Tryz.func113 rfl rfl) _ rfl rfl ?_ | refine (twice_string strSame _ (enters_of Tryz.func116 rfl rfl) o.hosts h.ho (fun x _ y _ => thing_route_2 x y)).callW (enters_of Tryz.func115 rfl rfl) _ rfl rfl ?_ | refine (every_Parent parentMay _ (enters_of Tryz.func120 rfl rfl) o.parents h.pa 4 (fun x _ => object_parent x)).callW (enters_of Tryz.func119 rfl rfl) _ rfl rfl ?_ | refine (every_string patMay _ (enters_of Tryz.func117 rfl rfl) o.hosts h.ho 4 (fun x _ => thing_route_3 x)).callW (enters_of Tryz.func121 rfl rfl) _ rfl rfl ?_ | refine (every_Rule ruleMay _ (enters_of Tryz.func123 rfl rfl) o.rules h.ru 6 (fun x hx => object_ruled x (h.rus x hx))).callW (enters_of Tryz.func122 rfl rfl) _ rfl rfl ?_); rintro _ rfl; try simp only [go_sem, contS_seq, simprocAttr, rows_len]))) <;> (simp only [retK, fullK, resD, St.get, lk, oneD, D.pub, D.pubs, retL, reduceIte, Nat.reduceEqDiff, Nat.reduceAdd, Nat.reduceLeDiff, Tryz.results83]; exact ⟨_, _, rfl, by simp [lessL, lk], congrArg bln (by first | rfl | (rw [Bool.eq_iff_iff]; simp only [routeMay]; simp; done) | (rw [Bool.eq_iff_iff]; simp only [routeMay]; simp; omega) | (rw [Bool.eq_iff_iff]; simp only [routeMay]; simp [*]; done) | (rw [Bool.eq_iff_iff]; simp only [routeMay]; simp [*]; omega) | (simp_all [routeMay]; done) | (exfalso; omega)), rfl⟩)

def grantMay (f t : List ASide) : Bool := decide (0 < f.length) && decide (0 < t.length) && every sideFrom f 4 && every sideTo t 4

theorem thing_grant (o : AObj) (h : o.ok) : Full Tryz.prog 84 [.ptr 500001 0] [(500001, o.ds)] true (fun d bs => d = bln (grantMay o.from_ o.to_) ∧ bs = [(500001,
    [int o.ref.kind, str o.ref.space, str o.ref.name, bln o.good, .pd (.slice (rows APair.pd o.labels)), .pd (.slice (ints o.ports)), str o.cls, .pd (.slice (rows AListener.pd o.listeners)),
      .pd (.slice (rows AParent.pd o.parents)), .pd (.slice (strs o.hosts)), .pd (.slice (rows ARule.pd o.rules)), .nils, .nils])]) := by
  refine full_of_run follows an_zlbax Tryz.func84 rfl ok_zlbax.1 ok_zlbax.2 (by simp [Tryz.ntmps84]) (by simp [Tryz.ntmps84]) (.inl rfl) ?_
  rw [run_start]
  simp only [ac_zlbax, oo, og, tp, ci, cq, mq, lq, fi, sr, go_sem, contS_seq, simprocAttr, go_sem, rows_len]
  (repeat' (first | (refine GifP.mk (fun _ => ?_) (fun _ => ?_)) | (refine Gif.mk (fun _ => ?_) (fun _ => ?_)) | ((first | refine (every_Side sideFrom _ (enters_of Tryz.func124 rfl rfl) o.from_ h.fr 4 (fun x _ => thing_grant_1 x)).callW (enters_of Tryz.func128 rfl rfl) _ rfl rfl ?_ | refine (every_Side sideTo _ (enters_of Tryz.func127 rfl rfl) o.to_ h.to 4 (fun x _ => thing_grant_2 x)).callW (enters_of Tryz.func128 rfl rfl) _ rfl rfl ?_); rintro _ rfl; try simp only [go_sem, contS_seq, simprocAttr, rows_len]))) <;> (simp only [retK, fullK, resD, St.get, lk, oneD, D.pub, D.pubs, retL, reduceIte, Nat.reduceEqDiff, Nat.reduceAdd, Nat.reduceLeDiff, Tryz.results84]; exact ⟨_, _, rfl, by simp [lessL, lk], congrArg bln (by first | rfl | (rw [Bool.eq_iff_iff]; simp only [grantMay]; simp; done) | (rw [Bool.eq_iff_iff]; simp only [grantMay]; simp; omega) | (rw [Bool.eq_iff_iff]; simp only [grantMay]; simp [*]; done) | (rw [Bool.eq_iff_iff]; simp only [grantMay]; simp [*]; omega) | (simp_all [grantMay]; done) | (exfalso; omega)), rfl⟩)


def objSame (a b : AObj) : Bool :=
  decide (a.ref = b.ref) && (a.good == b.good) && decide (a.cls = b.cls) && decide (a.labels = b.labels) && decide (a.ports = b.ports) && decide (a.hosts = b.hosts) && decide (a.parents = b.parents) && decide (a.from_ = b.from_) && decide (a.to_ = b.to_) &&
  eqf listenerSame a.listeners b.listeners && eqf ruleSame a.rules b.rules

set_option maxHeartbeats 1000000 in
theorem object_Same (a b : AObj) (ha : a.ok) (hb : b.ok) : Pure Tryz.prog 86 [a.d, b.d] (fun d => d = bln (objSame a b)) := by
  refine pure_of_run follows an_zhbvt Tryz.func86 rfl ok_zhbvt.1 ok_zhbvt.2 (by simp [Tryz.ntmps86]) ?_
  rw [run_start]
  simp only [ac_zhbvt, oo, og, tp, ci, cq, mq, lq, fi, sr, go_sem, contS_seq, simprocAttr, eqVs, eqV, eq_Ref]
  (repeat' (first | (refine GifP.mk (fun _ => ?_) (fun _ => ?_)) | (refine Gif.mk (fun _ => ?_) (fun _ => ?_)) | ((first | refine (Equal_Pair a.labels b.labels ha.la hb.la).callW (enters_of Tryz.func129 rfl rfl) _ rfl rfl ?_ | refine (Equal_int a.ports b.ports ha.po hb.po).callW (enters_of Tryz.func130 rfl rfl) _ rfl rfl ?_ | refine (Equal_string a.hosts b.hosts ha.ho hb.ho).callW (enters_of Tryz.func131 rfl rfl) _ rfl rfl ?_ | refine (Equal_Parent a.parents b.parents ha.pa hb.pa).callW (enters_of Tryz.func132 rfl rfl) _ rfl rfl ?_ | refine (Equal_Side a.from_ b.from_ ha.fr hb.fr).callW (enters_of Tryz.func133 rfl rfl) _ rfl rfl ?_ | refine (Equal_Side a.to_ b.to_ ha.to hb.to).callW (enters_of Tryz.func133 rfl rfl) _ rfl rfl ?_ | refine (EqualFunc_Listener listenerSame _ (enters_of Tryz.func135 rfl rfl) a.listeners b.listeners ha.li hb.li (fun x hx y hy => object_sameListener x y (ha.lis x hx) (hb.lis y hy))).callW (enters_of Tryz.func134 rfl rfl) _ rfl rfl ?_ | refine (EqualFunc_Rule ruleSame _ (enters_of Tryz.func137 rfl rfl) a.rules b.rules ha.ru hb.ru (fun x hx y hy => object_sameRule x y (ha.rus x hx) (hb.rus y hy))).callW (enters_of Tryz.func136 rfl rfl) _ rfl rfl ?_); rintro _ rfl; try simp only [go_sem, contS_seq, simprocAttr, eqVs, eqV, eq_Ref]))) <;> (simp only [retK, resD, St.get, lk, oneD, D.pub, D.pubs, retL, reduceIte, Nat.reduceEqDiff, Nat.reduceAdd, Nat.reduceLeDiff, Tryz.results86]; exact ⟨_, rfl, rfl, congrArg bln (by first | rfl | (rw [Bool.eq_iff_iff]; simp only [objSame]; simp; done) | (rw [Bool.eq_iff_iff]; simp only [objSame]; simp; omega) | (rw [Bool.eq_iff_iff]; simp only [objSame]; simp [*]; done) | (rw [Bool.eq_iff_iff]; simp only [objSame]; simp [*]; omega) | (simp_all [objSame]; done) | (exfalso; omega))⟩)

end Go.Proofs.YtklolokoaooppaaGreatDoor


