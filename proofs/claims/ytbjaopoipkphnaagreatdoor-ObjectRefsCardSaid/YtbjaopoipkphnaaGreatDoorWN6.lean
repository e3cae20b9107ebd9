/- Texts of the prover's, joined: G3 G4 G5 F6 F7 JA F8 F9 FC JB Q0 Q1 FB FA Q2 Q3. -/
import Derived.Test.YtbjaopoipkphnaaGreatDoorWN5
import Derived.Lib.DecodeN
import Derived.Lib.IndexLaws
import Derived.Shelf.SlSortCmp.InsertionK
import Derived.Lib.Small
import Derived.Deep.LoopGhost
import Derived.StillTailTactics
import Derived.Shelf.SlSortCmp.NoneTotal

namespace Go.Proofs.YtbjaopoipkphnaaGreatDoor
open Go Go.RowKit
set_option linter.unusedSimpArgs false
set_option linter.unusedVariables false
set_option maxRecDepth 100000

theorem ContainsFunc_Side (p : ASide → Bool) (g : FuncId) (he : Enters Tryz.prog g) (caps : List (Nat × Nat)) (bs : List (Nat × List D)) (hc : Cl bs caps) (l : List ASide) (hl : l.length ≤ 1000000)
 (hp : ∀ x ∈ l, PureB Tryz.prog g (ASide.d x :: capD caps) bs (fun d => d = bln (p x))) :
 PureB Tryz.prog 146 [.pd (.slice (rows ASide.pd l)), .fn g caps] bs (fun d => d = bln (l.any p)) := by
 refine pureB_of_run follows an_zkgk0 Tryz.func146 rfl ok_zkgk0.1 ok_zkgk0.2 (by simp [Tryz.ntmps146]) ?_
 rw [run_start]
 simp only [ac_zkgk0, go_sem, simprocAttr]
 refine (IndexFunc_Side p g he caps bs hc l hl hp).callW (enters_of Tryz.func194 rfl rfl) _ (idr bs) hc.ok hc.two hc.see ?_
 rintro d rfl
 simp only [go_sem, simprocAttr]
 simp only [retK, resD, retL, oneD, simprocAttr, Tryz.results146]
 exact ⟨_, rfl, rfl, congrArg bln (lidx_any p l)⟩

theorem ContainsFunc_int (p : Int → Bool) (g : FuncId) (he : Enters Tryz.prog g) (caps : List (Nat × Nat)) (bs : List (Nat × List D)) (hc : Cl bs caps) (l : List Int) (hl : l.length ≤ 1000000)
 (hp : ∀ x ∈ l, PureB Tryz.prog g (int x :: capD caps) bs (fun d => d = bln (p x))) :
 PureB Tryz.prog 123 [.pd (.slice (rows cInt l)), .fn g caps] bs (fun d => d = bln (l.any p)) := by
 refine pureB_of_run follows an_z2spj Tryz.func123 rfl ok_z2spj.1 ok_z2spj.2 (by simp [Tryz.ntmps123]) ?_
 rw [run_start]
 simp only [ac_z2spj, go_sem, simprocAttr]
 refine (IndexFunc_int p g he caps bs hc l hl hp).callW (enters_of Tryz.func167 rfl rfl) _ (idr bs) hc.ok hc.two hc.see ?_
 rintro d rfl
 simp only [go_sem, simprocAttr]
 simp only [retK, resD, retL, oneD, simprocAttr, Tryz.results123]
 exact ⟨_, rfl, rfl, congrArg bln (lidx_any p l)⟩

theorem ContainsFunc_Listener (p : AListener → Bool) (g : FuncId) (he : Enters Tryz.prog g) (caps : List (Nat × Nat)) (bs : List (Nat × List D)) (hc : Cl bs caps) (l : List AListener) (hl : l.length ≤ 1000000)
 (hp : ∀ x ∈ l, PureB Tryz.prog g (AListener.d x :: capD caps) bs (fun d => d = bln (p x))) :
 PureB Tryz.prog 127 [.pd (.slice (rows AListener.pd l)), .fn g caps] bs (fun d => d = bln (l.any p)) := by
 refine pureB_of_run follows an_zosgm Tryz.func127 rfl ok_zosgm.1 ok_zosgm.2 (by simp [Tryz.ntmps127]) ?_
 rw [run_start]
 simp only [ac_zosgm, go_sem, simprocAttr]
 refine (IndexFunc_Listener p g he caps bs hc l hl hp).callW (enters_of Tryz.func168 rfl rfl) _ (idr bs) hc.ok hc.two hc.see ?_
 rintro d rfl
 simp only [go_sem, simprocAttr]
 simp only [retK, resD, retL, oneD, simprocAttr, Tryz.results127]
 exact ⟨_, rfl, rfl, congrArg bln (lidx_any p l)⟩

theorem ContainsFunc_Need (p : ANeed → Bool) (g : FuncId) (he : Enters Tryz.prog g) (caps : List (Nat × Nat)) (bs : List (Nat × List D)) (hc : Cl bs caps) (l : List ANeed) (hl : l.length ≤ 1000000)
 (hp : ∀ x ∈ l, PureB Tryz.prog g (ANeed.d x :: capD caps) bs (fun d => d = bln (p x))) :
 PureB Tryz.prog 169 [.pd (.slice (rows ANeed.pd l)), .fn g caps] bs (fun d => d = bln (l.any p)) := by
 refine pureB_of_run follows an_zy4fu Tryz.func169 rfl ok_zy4fu.1 ok_zy4fu.2 (by simp [Tryz.ntmps169]) ?_
 rw [run_start]
 simp only [ac_zy4fu, go_sem, simprocAttr]
 refine (IndexFunc_Need p g he caps bs hc l hl hp).callW (enters_of Tryz.func211 rfl rfl) _ (idr bs) hc.ok hc.two hc.see ?_
 rintro d rfl
 simp only [go_sem, simprocAttr]
 simp only [retK, resD, retL, oneD, simprocAttr, Tryz.results169]
 exact ⟨_, rfl, rfl, congrArg bln (lidx_any p l)⟩

theorem ContainsFunc_Parent (p : AParent → Bool) (g : FuncId) (he : Enters Tryz.prog g) (caps : List (Nat × Nat)) (bs : List (Nat × List D)) (hc : Cl bs caps) (l : List AParent) (hl : l.length ≤ 1000000)
 (hp : ∀ x ∈ l, PureB Tryz.prog g (AParent.d x :: capD caps) bs (fun d => d = bln (p x))) :
 PureB Tryz.prog 132 [.pd (.slice (rows AParent.pd l)), .fn g caps] bs (fun d => d = bln (l.any p)) := by
 refine pureB_of_run follows an_zic3s Tryz.func132 rfl ok_zic3s.1 ok_zic3s.2 (by simp [Tryz.ntmps132]) ?_
 rw [run_start]
 simp only [ac_zic3s, go_sem, simprocAttr]
 refine (IndexFunc_Parent p g he caps bs hc l hl hp).callW (enters_of Tryz.func172 rfl rfl) _ (idr bs) hc.ok hc.two hc.see ?_
 rintro d rfl
 simp only [go_sem, simprocAttr]
 simp only [retK, resD, retL, oneD, simprocAttr, Tryz.results132]
 exact ⟨_, rfl, rfl, congrArg bln (lidx_any p l)⟩

theorem ContainsFunc_string (p : ByteArray → Bool) (g : FuncId) (he : Enters Tryz.prog g) (caps : List (Nat × Nat)) (bs : List (Nat × List D)) (hc : Cl bs caps) (l : List ByteArray) (hl : l.length ≤ 1000000)
 (hp : ∀ x ∈ l, PureB Tryz.prog g (str x :: capD caps) bs (fun d => d = bln (p x))) :
 PureB Tryz.prog 134 [.pd (.slice (rows cStr l)), .fn g caps] bs (fun d => d = bln (l.any p)) := by
 refine pureB_of_run follows an_zyx5 Tryz.func134 rfl ok_zyx5.1 ok_zyx5.2 (by simp [Tryz.ntmps134]) ?_
 rw [run_start]
 simp only [ac_zyx5, go_sem, simprocAttr]
 refine (IndexFunc_string p g he caps bs hc l hl hp).callW (enters_of Tryz.func173 rfl rfl) _ (idr bs) hc.ok hc.two hc.see ?_
 rintro d rfl
 simp only [go_sem, simprocAttr]
 simp only [retK, resD, retL, oneD, simprocAttr, Tryz.results134]
 exact ⟨_, rfl, rfl, congrArg bln (lidx_any p l)⟩

theorem ContainsFunc_Rule (p : ARule → Bool) (g : FuncId) (he : Enters Tryz.prog g) (caps : List (Nat × Nat)) (bs : List (Nat × List D)) (hc : Cl bs caps) (l : List ARule) (hl : l.length ≤ 1000000)
 (hp : ∀ x ∈ l, PureB Tryz.prog g (ARule.d x :: capD caps) bs (fun d => d = bln (p x))) :
 PureB Tryz.prog 139 [.pd (.slice (rows ARule.pd l)), .fn g caps] bs (fun d => d = bln (l.any p)) := by
 refine pureB_of_run follows an_zwd90 Tryz.func139 rfl ok_zwd90.1 ok_zwd90.2 (by simp [Tryz.ntmps139]) ?_
 rw [run_start]
 simp only [ac_zwd90, go_sem, simprocAttr]
 refine (IndexFunc_Rule p g he caps bs hc l hl hp).callW (enters_of Tryz.func175 rfl rfl) _ (idr bs) hc.ok hc.two hc.see ?_
 rintro d rfl
 simp only [go_sem, simprocAttr]
 simp only [retK, resD, retL, oneD, simprocAttr, Tryz.results139]
 exact ⟨_, rfl, rfl, congrArg bln (lidx_any p l)⟩

theorem ContainsFunc_Match (p : AMatch → Bool) (g : FuncId) (he : Enters Tryz.prog g) (caps : List (Nat × Nat)) (bs : List (Nat × List D)) (hc : Cl bs caps) (l : List AMatch) (hl : l.length ≤ 1000000)
 (hp : ∀ x ∈ l, PureB Tryz.prog g (AMatch.d x :: capD caps) bs (fun d => d = bln (p x))) :
 PureB Tryz.prog 176 [.pd (.slice (rows AMatch.pd l)), .fn g caps] bs (fun d => d = bln (l.any p)) := by
 refine pureB_of_run follows an_zmyh8 Tryz.func176 rfl ok_zmyh8.1 ok_zmyh8.2 (by simp [Tryz.ntmps176]) ?_
 rw [run_start]
 simp only [ac_zmyh8, go_sem, simprocAttr]
 refine (IndexFunc_Match p g he caps bs hc l hl hp).callW (enters_of Tryz.func214 rfl rfl) _ (idr bs) hc.ok hc.two hc.see ?_
 rintro d rfl
 simp only [go_sem, simprocAttr]
 simp only [retK, resD, retL, oneD, simprocAttr, Tryz.results176]
 exact ⟨_, rfl, rfl, congrArg bln (lidx_any p l)⟩

theorem ContainsFunc_Pair (p : APair → Bool) (g : FuncId) (he : Enters Tryz.prog g) (caps : List (Nat × Nat)) (bs : List (Nat × List D)) (hc : Cl bs caps) (l : List APair) (hl : l.length ≤ 1000000)
 (hp : ∀ x ∈ l, PureB Tryz.prog g (APair.d x :: capD caps) bs (fun d => d = bln (p x))) :
 PureB Tryz.prog 183 [.pd (.slice (rows APair.pd l)), .fn g caps] bs (fun d => d = bln (l.any p)) := by
 refine pureB_of_run follows an_zr7hm Tryz.func183 rfl ok_zr7hm.1 ok_zr7hm.2 (by simp [Tryz.ntmps183]) ?_
 rw [run_start]
 simp only [ac_zr7hm, go_sem, simprocAttr]
 refine (IndexFunc_Pair p g he caps bs hc l hl hp).callW (enters_of Tryz.func220 rfl rfl) _ (idr bs) hc.ok hc.two hc.see ?_
 rintro d rfl
 simp only [go_sem, simprocAttr]
 simp only [retK, resD, retL, oneD, simprocAttr, Tryz.results183]
 exact ⟨_, rfl, rfl, congrArg bln (lidx_any p l)⟩

theorem ContainsFunc_Filter (p : AFilter → Bool) (g : FuncId) (he : Enters Tryz.prog g) (caps : List (Nat × Nat)) (bs : List (Nat × List D)) (hc : Cl bs caps) (l : List AFilter) (hl : l.length ≤ 1000000)
 (hp : ∀ x ∈ l, PureB Tryz.prog g (AFilter.d x :: capD caps) bs (fun d => d = bln (p x))) :
 PureB Tryz.prog 191 [.pd (.slice (rows AFilter.pd l)), .fn g caps] bs (fun d => d = bln (l.any p)) := by
 refine pureB_of_run follows an_zi3lv Tryz.func191 rfl ok_zi3lv.1 ok_zi3lv.2 (by simp [Tryz.ntmps191]) ?_
 rw [run_start]
 simp only [ac_zi3lv, go_sem, simprocAttr]
 refine (IndexFunc_Filter p g he caps bs hc l hl hp).callW (enters_of Tryz.func224 rfl rfl) _ (idr bs) hc.ok hc.two hc.see ?_
 rintro d rfl
 simp only [go_sem, simprocAttr]
 simp only [retK, resD, retL, oneD, simprocAttr, Tryz.results191]
 exact ⟨_, rfl, rfl, congrArg bln (lidx_any p l)⟩

theorem ContainsFunc_Backend (p : ABackend → Bool) (g : FuncId) (he : Enters Tryz.prog g) (caps : List (Nat × Nat)) (bs : List (Nat × List D)) (hc : Cl bs caps) (l : List ABackend) (hl : l.length ≤ 1000000)
 (hp : ∀ x ∈ l, PureB Tryz.prog g (ABackend.d x :: capD caps) bs (fun d => d = bln (p x))) :
 PureB Tryz.prog 192 [.pd (.slice (rows ABackend.pd l)), .fn g caps] bs (fun d => d = bln (l.any p)) := by
 refine pureB_of_run follows an_z7rwg Tryz.func192 rfl ok_z7rwg.1 ok_z7rwg.2 (by simp [Tryz.ntmps192]) ?_
 rw [run_start]
 simp only [ac_z7rwg, go_sem, simprocAttr]
 refine (IndexFunc_Backend p g he caps bs hc l hl hp).callW (enters_of Tryz.func225 rfl rfl) _ (idr bs) hc.ok hc.two hc.see ?_
 rintro d rfl
 simp only [go_sem, simprocAttr]
 simp only [retK, resD, retL, oneD, simprocAttr, Tryz.results192]
 exact ⟨_, rfl, rfl, congrArg bln (lidx_any p l)⟩

theorem ContainsP_Need (p : ANeed → Bool) (f : FuncId) (he : Enters Tryz.prog f) (l : List ANeed) (hl : l.length ≤ 1000000) (hp : ∀ x ∈ l, Pure Tryz.prog f [ANeed.d x] (fun d => d = bln (p x))) :
 Pure Tryz.prog 169 [.pd (.slice (rows ANeed.pd l)), .fn f []] (fun d => d = bln (l.any p)) :=
 (ContainsFunc_Need p f he [] [] (Cl.of rfl rfl rfl rfl rfl) l hl (fun x hx => (hp x hx).pureB rfl)).pure

theorem ContainsP_string (p : ByteArray → Bool) (f : FuncId) (he : Enters Tryz.prog f) (l : List ByteArray) (hl : l.length ≤ 1000000) (hp : ∀ x ∈ l, Pure Tryz.prog f [str x] (fun d => d = bln (p x))) :
 Pure Tryz.prog 134 [.pd (.slice (rows cStr l)), .fn f []] (fun d => d = bln (l.any p)) :=
 (ContainsFunc_string p f he [] [] (Cl.of rfl rfl rfl rfl rfl) l hl (fun x hx => (hp x hx).pureB rfl)).pure

theorem ContainsP_Pair (p : APair → Bool) (f : FuncId) (he : Enters Tryz.prog f) (l : List APair) (hl : l.length ≤ 1000000) (hp : ∀ x ∈ l, Pure Tryz.prog f [APair.d x] (fun d => d = bln (p x))) :
 Pure Tryz.prog 183 [.pd (.slice (rows APair.pd l)), .fn f []] (fun d => d = bln (l.any p)) :=
 (ContainsFunc_Pair p f he [] [] (Cl.of rfl rfl rfl rfl rfl) l hl (fun x hx => (hp x hx).pureB rfl)).pure


theorem every_int_1 (p : Int → Bool) (f : FuncId) (he : Enters Tryz.prog f) (x : Int) (hp : Pure Tryz.prog f [int x] (fun d => d = bln (p x))) :
 PureB Tryz.prog 124 [int x, .ptr 1000001 0] [(1000001, [.fn f []])] (fun d => d = bln (!p x)) := by
 refine pureB_of_run follows an_zkvy2 Tryz.func124 rfl ok_zkvy2.1 ok_zkvy2.2 (by simp [Tryz.ntmps124]) ?_
 rw [run_start]
 simp only [ac_zkvy2, go_sem, simprocAttr]
 refine hp.callW he _ rfl rfl ?_
 rintro d rfl
 simp only [go_sem, simprocAttr]
 simp only [retK, resD, retL, oneD, simprocAttr, Tryz.results124]
 exact ⟨_, rfl, rfl, rfl⟩

theorem every_int (p : Int → Bool) (f : FuncId) (he : Enters Tryz.prog f) (l : List Int) (hl : l.length ≤ 1000000) (n : Int) (hp : ∀ x ∈ l, Pure Tryz.prog f [int x] (fun d => d = bln (p x))) :
 Pure Tryz.prog 77 [.pd (.slice (rows cInt l)), int n, .fn f []] (fun d => d = bln (every p l n)) := by
 refine pure_of_run follows an_z5yno Tryz.func77 rfl ok_z5yno.1 ok_z5yno.2 (by simp [Tryz.ntmps77]) ?_
 rw [run_start]
 simp only [ac_z5yno, go_sem, simprocAttr]
 refine GifP.mk (fun h => ?_) (fun h => ?_)
 ·refine (ContainsFunc_int (fun x => !p x) 124 (enters_of Tryz.func124 rfl rfl) [(1000001, 0)] [(1000001, [.fn f []])] (Cl.of rfl rfl rfl rfl rfl) l hl (fun x hx => every_int_1 p f he x (hp x hx))).callW (enters_of Tryz.func123 rfl rfl) _ [(5, 1000001)] rfl rfl rfl ?_
  rintro d rfl
  simp only [go_sem, simprocAttr]
  simp only [retK, resD, retL, oneD, simprocAttr, Tryz.results77]
  exact ⟨_, rfl, rfl, congrArg bln (by simp [every, h, List.all_eq_not_any_not])⟩
 ·simp only [retK, resD, retL, oneD, simprocAttr, Tryz.results77]
  exact ⟨_, rfl, rfl, congrArg bln (by simp [every, h])⟩

theorem every_Listener_1 (p : AListener → Bool) (f : FuncId) (he : Enters Tryz.prog f) (x : AListener) (hp : Pure Tryz.prog f [AListener.d x] (fun d => d = bln (p x))) :
 PureB Tryz.prog 128 [AListener.d x, .ptr 1000001 0] [(1000001, [.fn f []])] (fun d => d = bln (!p x)) := by
 refine pureB_of_run follows an_zir97 Tryz.func128 rfl ok_zir97.1 ok_zir97.2 (by simp [Tryz.ntmps128]) ?_
 rw [run_start]
 simp only [ac_zir97, go_sem, simprocAttr]
 refine hp.callW he _ rfl rfl ?_
 rintro d rfl
 simp only [go_sem, simprocAttr]
 simp only [retK, resD, retL, oneD, simprocAttr, Tryz.results128]
 exact ⟨_, rfl, rfl, rfl⟩

theorem every_Listener (p : AListener → Bool) (f : FuncId) (he : Enters Tryz.prog f) (l : List AListener) (hl : l.length ≤ 1000000) (n : Int) (hp : ∀ x ∈ l, Pure Tryz.prog f [AListener.d x] (fun d => d = bln (p x))) :
 Pure Tryz.prog 83 [.pd (.slice (rows AListener.pd l)), int n, .fn f []] (fun d => d = bln (every p l n)) := by
 refine pure_of_run follows an_zpo9w Tryz.func83 rfl ok_zpo9w.1 ok_zpo9w.2 (by simp [Tryz.ntmps83]) ?_
 rw [run_start]
 simp only [ac_zpo9w, go_sem, simprocAttr]
 refine GifP.mk (fun h => ?_) (fun h => ?_)
 ·refine (ContainsFunc_Listener (fun x => !p x) 128 (enters_of Tryz.func128 rfl rfl) [(1000001, 0)] [(1000001, [.fn f []])] (Cl.of rfl rfl rfl rfl rfl) l hl (fun x hx => every_Listener_1 p f he x (hp x hx))).callW (enters_of Tryz.func127 rfl rfl) _ [(5, 1000001)] rfl rfl rfl ?_
  rintro d rfl
  simp only [go_sem, simprocAttr]
  simp only [retK, resD, retL, oneD, simprocAttr, Tryz.results83]
  exact ⟨_, rfl, rfl, congrArg bln (by simp [every, h, List.all_eq_not_any_not])⟩
 ·simp only [retK, resD, retL, oneD, simprocAttr, Tryz.results83]
  exact ⟨_, rfl, rfl, congrArg bln (by simp [every, h])⟩

theorem every_Parent_1 (p : AParent → Bool) (f : FuncId) (he : Enters Tryz.prog f) (x : AParent) (hp : Pure Tryz.prog f [AParent.d x] (fun d => d = bln (p x))) :
 PureB Tryz.prog 137 [AParent.d x, .ptr 1000001 0] [(1000001, [.fn f []])] (fun d => d = bln (!p x)) := by
 refine pureB_of_run follows an_z31hg Tryz.func137 rfl ok_z31hg.1 ok_z31hg.2 (by simp [Tryz.ntmps137]) ?_
 rw [run_start]
 simp only [ac_z31hg, go_sem, simprocAttr]
 refine hp.callW he _ rfl rfl ?_
 rintro d rfl
 simp only [go_sem, simprocAttr]
 simp only [retK, resD, retL, oneD, simprocAttr, Tryz.results137]
 exact ⟨_, rfl, rfl, rfl⟩

theorem every_Parent (p : AParent → Bool) (f : FuncId) (he : Enters Tryz.prog f) (l : List AParent) (hl : l.length ≤ 1000000) (n : Int) (hp : ∀ x ∈ l, Pure Tryz.prog f [AParent.d x] (fun d => d = bln (p x))) :
 Pure Tryz.prog 92 [.pd (.slice (rows AParent.pd l)), int n, .fn f []] (fun d => d = bln (every p l n)) := by
 refine pure_of_run follows an_zblzf Tryz.func92 rfl ok_zblzf.1 ok_zblzf.2 (by simp [Tryz.ntmps92]) ?_
 rw [run_start]
 simp only [ac_zblzf, go_sem, simprocAttr]
 refine GifP.mk (fun h => ?_) (fun h => ?_)
 ·refine (ContainsFunc_Parent (fun x => !p x) 137 (enters_of Tryz.func137 rfl rfl) [(1000001, 0)] [(1000001, [.fn f []])] (Cl.of rfl rfl rfl rfl rfl) l hl (fun x hx => every_Parent_1 p f he x (hp x hx))).callW (enters_of Tryz.func132 rfl rfl) _ [(5, 1000001)] rfl rfl rfl ?_
  rintro d rfl
  simp only [go_sem, simprocAttr]
  simp only [retK, resD, retL, oneD, simprocAttr, Tryz.results92]
  exact ⟨_, rfl, rfl, congrArg bln (by simp [every, h, List.all_eq_not_any_not])⟩
 ·simp only [retK, resD, retL, oneD, simprocAttr, Tryz.results92]
  exact ⟨_, rfl, rfl, congrArg bln (by simp [every, h])⟩

theorem every_string_1 (p : ByteArray → Bool) (f : FuncId) (he : Enters Tryz.prog f) (x : ByteArray) (hp : Pure Tryz.prog f [str x] (fun d => d = bln (p x))) :
 PureB Tryz.prog 138 [str x, .ptr 1000001 0] [(1000001, [.fn f []])] (fun d => d = bln (!p x)) := by
 refine pureB_of_run follows an_z1wya Tryz.func138 rfl ok_z1wya.1 ok_z1wya.2 (by simp [Tryz.ntmps138]) ?_
 rw [run_start]
 simp only [ac_z1wya, go_sem, simprocAttr]
 refine hp.callW he _ rfl rfl ?_
 rintro d rfl
 simp only [go_sem, simprocAttr]
 simp only [retK, resD, retL, oneD, simprocAttr, Tryz.results138]
 exact ⟨_, rfl, rfl, rfl⟩

theorem every_string (p : ByteArray → Bool) (f : FuncId) (he : Enters Tryz.prog f) (l : List ByteArray) (hl : l.length ≤ 1000000) (n : Int) (hp : ∀ x ∈ l, Pure Tryz.prog f [str x] (fun d => d = bln (p x))) :
 Pure Tryz.prog 94 [.pd (.slice (rows cStr l)), int n, .fn f []] (fun d => d = bln (every p l n)) := by
 refine pure_of_run follows an_zch4 Tryz.func94 rfl ok_zch4.1 ok_zch4.2 (by simp [Tryz.ntmps94]) ?_
 rw [run_start]
 simp only [ac_zch4, go_sem, simprocAttr]
 refine GifP.mk (fun h => ?_) (fun h => ?_)
 ·refine (ContainsFunc_string (fun x => !p x) 138 (enters_of Tryz.func138 rfl rfl) [(1000001, 0)] [(1000001, [.fn f []])] (Cl.of rfl rfl rfl rfl rfl) l hl (fun x hx => every_string_1 p f he x (hp x hx))).callW (enters_of Tryz.func134 rfl rfl) _ [(5, 1000001)] rfl rfl rfl ?_
  rintro d rfl
  simp only [go_sem, simprocAttr]
  simp only [retK, resD, retL, oneD, simprocAttr, Tryz.results94]
  exact ⟨_, rfl, rfl, congrArg bln (by simp [every, h, List.all_eq_not_any_not])⟩
 ·simp only [retK, resD, retL, oneD, simprocAttr, Tryz.results94]
  exact ⟨_, rfl, rfl, congrArg bln (by simp [every, h])⟩

theorem every_Rule_1 (p : ARule → Bool) (f : FuncId) (he : Enters Tryz.prog f) (x : ARule) (hp : Pure Tryz.prog f [ARule.d x] (fun d => d = bln (p x))) :
 PureB Tryz.prog 140 [ARule.d x, .ptr 1000001 0] [(1000001, [.fn f []])] (fun d => d = bln (!p x)) := by
 refine pureB_of_run follows an_z8keb Tryz.func140 rfl ok_z8keb.1 ok_z8keb.2 (by simp [Tryz.ntmps140]) ?_
 rw [run_start]
 simp only [ac_z8keb, go_sem, simprocAttr]
 refine hp.callW he _ rfl rfl ?_
 rintro d rfl
 simp only [go_sem, simprocAttr]
 simp only [retK, resD, retL, oneD, simprocAttr, Tryz.results140]
 exact ⟨_, rfl, rfl, rfl⟩

theorem every_Rule (p : ARule → Bool) (f : FuncId) (he : Enters Tryz.prog f) (l : List ARule) (hl : l.length ≤ 1000000) (n : Int) (hp : ∀ x ∈ l, Pure Tryz.prog f [ARule.d x] (fun d => d = bln (p x))) :
 Pure Tryz.prog 95 [.pd (.slice (rows ARule.pd l)), int n, .fn f []] (fun d => d = bln (every p l n)) := by
 refine pure_of_run follows an_z2qr7 Tryz.func95 rfl ok_z2qr7.1 ok_z2qr7.2 (by simp [Tryz.ntmps95]) ?_
 rw [run_start]
 simp only [ac_z2qr7, go_sem, simprocAttr]
 refine GifP.mk (fun h => ?_) (fun h => ?_)
 ·refine (ContainsFunc_Rule (fun x => !p x) 140 (enters_of Tryz.func140 rfl rfl) [(1000001, 0)] [(1000001, [.fn f []])] (Cl.of rfl rfl rfl rfl rfl) l hl (fun x hx => every_Rule_1 p f he x (hp x hx))).callW (enters_of Tryz.func139 rfl rfl) _ [(5, 1000001)] rfl rfl rfl ?_
  rintro d rfl
  simp only [go_sem, simprocAttr]
  simp only [retK, resD, retL, oneD, simprocAttr, Tryz.results95]
  exact ⟨_, rfl, rfl, congrArg bln (by simp [every, h, List.all_eq_not_any_not])⟩
 ·simp only [retK, resD, retL, oneD, simprocAttr, Tryz.results95]
  exact ⟨_, rfl, rfl, congrArg bln (by simp [every, h])⟩

theorem every_Side_1 (p : ASide → Bool) (f : FuncId) (he : Enters Tryz.prog f) (x : ASide) (hp : Pure Tryz.prog f [ASide.d x] (fun d => d = bln (p x))) :
 PureB Tryz.prog 147 [ASide.d x, .ptr 1000001 0] [(1000001, [.fn f []])] (fun d => d = bln (!p x)) := by
 refine pureB_of_run follows an_z7q8a Tryz.func147 rfl ok_z7q8a.1 ok_z7q8a.2 (by simp [Tryz.ntmps147]) ?_
 rw [run_start]
 simp only [ac_z7q8a, go_sem, simprocAttr]
 refine hp.callW he _ rfl rfl ?_
 rintro d rfl
 simp only [go_sem, simprocAttr]
 simp only [retK, resD, retL, oneD, simprocAttr, Tryz.results147]
 exact ⟨_, rfl, rfl, rfl⟩

theorem every_Side (p : ASide → Bool) (f : FuncId) (he : Enters Tryz.prog f) (l : List ASide) (hl : l.length ≤ 1000000) (n : Int) (hp : ∀ x ∈ l, Pure Tryz.prog f [ASide.d x] (fun d => d = bln (p x))) :
 Pure Tryz.prog 99 [.pd (.slice (rows ASide.pd l)), int n, .fn f []] (fun d => d = bln (every p l n)) := by
 refine pure_of_run follows an_zqdfu Tryz.func99 rfl ok_zqdfu.1 ok_zqdfu.2 (by simp [Tryz.ntmps99]) ?_
 rw [run_start]
 simp only [ac_zqdfu, go_sem, simprocAttr]
 refine GifP.mk (fun h => ?_) (fun h => ?_)
 ·refine (ContainsFunc_Side (fun x => !p x) 147 (enters_of Tryz.func147 rfl rfl) [(1000001, 0)] [(1000001, [.fn f []])] (Cl.of rfl rfl rfl rfl rfl) l hl (fun x hx => every_Side_1 p f he x (hp x hx))).callW (enters_of Tryz.func146 rfl rfl) _ [(5, 1000001)] rfl rfl rfl ?_
  rintro d rfl
  simp only [go_sem, simprocAttr]
  simp only [retK, resD, retL, oneD, simprocAttr, Tryz.results99]
  exact ⟨_, rfl, rfl, congrArg bln (by simp [every, h, List.all_eq_not_any_not])⟩
 ·simp only [retK, resD, retL, oneD, simprocAttr, Tryz.results99]
  exact ⟨_, rfl, rfl, congrArg bln (by simp [every, h])⟩

theorem every_Match_1 (p : AMatch → Bool) (f : FuncId) (he : Enters Tryz.prog f) (x : AMatch) (hp : Pure Tryz.prog f [AMatch.d x] (fun d => d = bln (p x))) :
 PureB Tryz.prog 177 [AMatch.d x, .ptr 1000001 0] [(1000001, [.fn f []])] (fun d => d = bln (!p x)) := by
 refine pureB_of_run follows an_z7wca Tryz.func177 rfl ok_z7wca.1 ok_z7wca.2 (by simp [Tryz.ntmps177]) ?_
 rw [run_start]
 simp only [ac_z7wca, go_sem, simprocAttr]
 refine hp.callW he _ rfl rfl ?_
 rintro d rfl
 simp only [go_sem, simprocAttr]
 simp only [retK, resD, retL, oneD, simprocAttr, Tryz.results177]
 exact ⟨_, rfl, rfl, rfl⟩

theorem every_Match (p : AMatch → Bool) (f : FuncId) (he : Enters Tryz.prog f) (l : List AMatch) (hl : l.length ≤ 1000000) (n : Int) (hp : ∀ x ∈ l, Pure Tryz.prog f [AMatch.d x] (fun d => d = bln (p x))) :
 Pure Tryz.prog 141 [.pd (.slice (rows AMatch.pd l)), int n, .fn f []] (fun d => d = bln (every p l n)) := by
 refine pure_of_run follows an_ziqd0 Tryz.func141 rfl ok_ziqd0.1 ok_ziqd0.2 (by simp [Tryz.ntmps141]) ?_
 rw [run_start]
 simp only [ac_ziqd0, go_sem, simprocAttr]
 refine GifP.mk (fun h => ?_) (fun h => ?_)
 ·refine (ContainsFunc_Match (fun x => !p x) 177 (enters_of Tryz.func177 rfl rfl) [(1000001, 0)] [(1000001, [.fn f []])] (Cl.of rfl rfl rfl rfl rfl) l hl (fun x hx => every_Match_1 p f he x (hp x hx))).callW (enters_of Tryz.func176 rfl rfl) _ [(5, 1000001)] rfl rfl rfl ?_
  rintro d rfl
  simp only [go_sem, simprocAttr]
  simp only [retK, resD, retL, oneD, simprocAttr, Tryz.results141]
  exact ⟨_, rfl, rfl, congrArg bln (by simp [every, h, List.all_eq_not_any_not])⟩
 ·simp only [retK, resD, retL, oneD, simprocAttr, Tryz.results141]
  exact ⟨_, rfl, rfl, congrArg bln (by simp [every, h])⟩

theorem every_Backend_1 (p : ABackend → Bool) (f : FuncId) (he : Enters Tryz.prog f) (x : ABackend) (hp : Pure Tryz.prog f [ABackend.d x] (fun d => d = bln (p x))) :
 PureB Tryz.prog 193 [ABackend.d x, .ptr 1000001 0] [(1000001, [.fn f []])] (fun d => d = bln (!p x)) := by
 refine pureB_of_run follows an_zi55u Tryz.func193 rfl ok_zi55u.1 ok_zi55u.2 (by simp [Tryz.ntmps193]) ?_
 rw [run_start]
 simp only [ac_zi55u, go_sem, simprocAttr]
 refine hp.callW he _ rfl rfl ?_
 rintro d rfl
 simp only [go_sem, simprocAttr]
 simp only [retK, resD, retL, oneD, simprocAttr, Tryz.results193]
 exact ⟨_, rfl, rfl, rfl⟩

theorem every_Backend (p : ABackend → Bool) (f : FuncId) (he : Enters Tryz.prog f) (l : List ABackend) (hl : l.length ≤ 1000000) (n : Int) (hp : ∀ x ∈ l, Pure Tryz.prog f [ABackend.d x] (fun d => d = bln (p x))) :
 Pure Tryz.prog 144 [.pd (.slice (rows ABackend.pd l)), int n, .fn f []] (fun d => d = bln (every p l n)) := by
 refine pure_of_run follows an_zb5o4 Tryz.func144 rfl ok_zb5o4.1 ok_zb5o4.2 (by simp [Tryz.ntmps144]) ?_
 rw [run_start]
 simp only [ac_zb5o4, go_sem, simprocAttr]
 refine GifP.mk (fun h => ?_) (fun h => ?_)
 ·refine (ContainsFunc_Backend (fun x => !p x) 193 (enters_of Tryz.func193 rfl rfl) [(1000001, 0)] [(1000001, [.fn f []])] (Cl.of rfl rfl rfl rfl rfl) l hl (fun x hx => every_Backend_1 p f he x (hp x hx))).callW (enters_of Tryz.func192 rfl rfl) _ [(5, 1000001)] rfl rfl rfl ?_
  rintro d rfl
  simp only [go_sem, simprocAttr]
  simp only [retK, resD, retL, oneD, simprocAttr, Tryz.results144]
  exact ⟨_, rfl, rfl, congrArg bln (by simp [every, h, List.all_eq_not_any_not])⟩
 ·simp only [retK, resD, retL, oneD, simprocAttr, Tryz.results144]
  exact ⟨_, rfl, rfl, congrArg bln (by simp [every, h])⟩

theorem twice_int_1 (q : Int → Int → Bool) (f : FuncId) (he : Enters Tryz.prog f) (x y : Int) (hp : Pure Tryz.prog f [int x, int y] (fun d => d = bln (q x y))) :
 PureB Tryz.prog 126 [int y, .ptr 1000001 0, .ptr 1000002 0] [(1000001, [.fn f []]), (1000002, [int x])] (fun d => d = bln (q x y)) := by
 refine pureB_of_run follows an_zovpw Tryz.func126 rfl ok_zovpw.1 ok_zovpw.2 (by simp [Tryz.ntmps126]) ?_
 rw [run_start]
 simp only [ac_zovpw, go_sem, simprocAttr]
 refine hp.callW he _ rfl rfl ?_
 rintro d rfl
 simp only [go_sem, simprocAttr]
 simp only [retK, resD, retL, oneD, simprocAttr, Tryz.results126]
 exact ⟨_, rfl, rfl, rfl⟩

theorem twice_int (q : Int → Int → Bool) (f : FuncId) (he : Enters Tryz.prog f) (l : List Int) (hl : l.length ≤ 1000000) (hp : ∀ x ∈ l, ∀ y ∈ l, Pure Tryz.prog f [int x, int y] (fun d => d = bln (q x y))) :
 Pure Tryz.prog 80 [.pd (.slice (rows cInt l)), .fn f []] (fun d => d = bln (twice q l)) := by
 refine pure_of_run follows an_zb3kh Tryz.func80 rfl ok_zb3kh.1 ok_zb3kh.2 (by simp [Tryz.ntmps80]) ?_
 rw [run_start]
 simp only [ac_zb3kh, go_sem, simprocAttr]
 refine loopS (fun k st => ∃ i : Nat, k = l.length - i ∧ i ≤ l.length ∧ twiceFrom q l k i = twice q l ∧
  st = ⟨[(0, .pd (.slice (rows cInt l))), (3, .ptr 3 0), (7, .pd (.slice (rows cInt l))), (8, int l.length), (9, int i)], [(3, [.fn f []])], [], .no⟩) l.length _ (Weak.refl _ _) ⟨0, rfl, Nat.zero_le _, rfl, rfl⟩ ?_
 rintro k st ⟨i, rfl, hi, hr, rfl⟩
 by_cases hlt : i < l.length
 ·obtain ⟨x, hx⟩ := at_lt hlt
  have hlt' : ((i : Int) < (l.length : Int)) = True := eq_true (by omega)
  have hle : (i ≤ l.length) = True := eq_true (by omega)
  have hw := i64_succ (show i < 1000000000 by omega)
  have hmx := List.mem_of_getElem? hx
  obtain ⟨m, hm⟩ : ∃ m, l.length - i = m + 1 := ⟨l.length - i - 1, by omega⟩
  rw [hm, twiceFrom, hx] at hr
  have hrows : rowsOK 1 (rows cInt l) = True := rowsOK_rows (f := cInt) (n := 1) (fun _ => rfl) l
  have htk : (rows cInt l).take i = rows cInt (l.take i) := by simp [rows, List.map_take]
  simp only [go_sem, simprocAttr, hlt', rows_get hx, rows_len, hrows, hle, htk]
  refine (ContainsFunc_int (fun y => q x y) 126 (enters_of Tryz.func126 rfl rfl) [(1000001, 0), (1000002, 0)] [(1000001, [.fn f []]), (1000002, [int x])] (Cl.of rfl rfl rfl rfl rfl) (l.take i) (by simp; omega)
   (fun y hy => twice_int_1 q f he x y (hp x hmx y (List.mem_of_mem_take hy)))).callW (enters_of Tryz.func123 rfl rfl) _ [(3, 1000001), (6, 1000002)] rfl rfl rfl ?_
  rintro d rfl
  simp only [go_sem, simprocAttr, hw]
  refine Gif.mk (fun h => ?_) (fun h => ?_)
  ·simp only [h, Bool.true_or] at hr
   simp only [retK, resD, retL, oneD, simprocAttr, Tryz.results80]
   exact ⟨_, rfl, rfl, congrArg bln hr⟩
  ·simp only [h, Bool.false_or] at hr
   refine ⟨m, _, ?_, ?_, i + 1, ?_, ?_, hr, rfl⟩
   ·omega
   ·exact lessA
   ·omega
   ·omega
 ·have hlt' : ((i : Int) < (l.length : Int)) = False := eq_false (by omega)
  rw [show l.length - i = 0 by omega, twiceFrom] at hr
  simp only [go_sem, simprocAttr, hlt']
  simp only [retK, resD, retL, oneD, simprocAttr, Tryz.results80]
  exact ⟨_, rfl, rfl, congrArg bln hr⟩

theorem twice_Listener_1 (q : AListener → AListener → Bool) (f : FuncId) (he : Enters Tryz.prog f) (x y : AListener) (hp : Pure Tryz.prog f [AListener.d x, AListener.d y] (fun d => d = bln (q x y))) :
 PureB Tryz.prog 131 [AListener.d y, .ptr 1000001 0, .ptr 1000002 0] [(1000001, [.fn f []]), (1000002, AListener.ds x)] (fun d => d = bln (q x y)) := by
 refine pureB_of_run follows an_ztyjm Tryz.func131 rfl ok_ztyjm.1 ok_ztyjm.2 (by simp [Tryz.ntmps131]) ?_
 rw [run_start]
 simp only [ac_ztyjm, go_sem, simprocAttr]
 refine hp.callW he _ rfl rfl ?_
 rintro d rfl
 simp only [go_sem, simprocAttr]
 simp only [retK, resD, retL, oneD, simprocAttr, Tryz.results131]
 exact ⟨_, rfl, rfl, rfl⟩

theorem twice_Listener (q : AListener → AListener → Bool) (f : FuncId) (he : Enters Tryz.prog f) (l : List AListener) (hl : l.length ≤ 1000000) (hp : ∀ x ∈ l, ∀ y ∈ l, Pure Tryz.prog f [AListener.d x, AListener.d y] (fun d => d = bln (q x y))) :
 Pure Tryz.prog 85 [.pd (.slice (rows AListener.pd l)), .fn f []] (fun d => d = bln (twice q l)) := by
 refine pure_of_run follows an_zp700 Tryz.func85 rfl ok_zp700.1 ok_zp700.2 (by simp [Tryz.ntmps85]) ?_
 rw [run_start]
 simp only [ac_zp700, go_sem, simprocAttr]
 refine loopS (fun k st => ∃ i : Nat, k = l.length - i ∧ i ≤ l.length ∧ twiceFrom q l k i = twice q l ∧
  st = ⟨[(0, .pd (.slice (rows AListener.pd l))), (3, .ptr 3 0), (7, .pd (.slice (rows AListener.pd l))), (8, int l.length), (9, int i)], [(3, [.fn f []])], [], .no⟩) l.length _ (Weak.refl _ _) ⟨0, rfl, Nat.zero_le _, rfl, rfl⟩ ?_
 rintro k st ⟨i, rfl, hi, hr, rfl⟩
 by_cases hlt : i < l.length
 ·obtain ⟨x, hx⟩ := at_lt hlt
  have hlt' : ((i : Int) < (l.length : Int)) = True := eq_true (by omega)
  have hle : (i ≤ l.length) = True := eq_true (by omega)
  have hw := i64_succ (show i < 1000000000 by omega)
  have hmx := List.mem_of_getElem? hx
  obtain ⟨m, hm⟩ : ∃ m, l.length - i = m + 1 := ⟨l.length - i - 1, by omega⟩
  rw [hm, twiceFrom, hx] at hr
  have hrows : rowsOK 9 (rows AListener.pd l) = True := rowsOK_rows (f := AListener.pd) (n := 9) (fun _ => rfl) l
  have htk : (rows AListener.pd l).take i = rows AListener.pd (l.take i) := by simp [rows, List.map_take]
  simp only [go_sem, simprocAttr, hlt', rows_get hx, rows_len, hrows, hle, htk]
  refine (ContainsFunc_Listener (fun y => q x y) 131 (enters_of Tryz.func131 rfl rfl) [(1000001, 0), (1000002, 0)] [(1000001, [.fn f []]), (1000002, AListener.ds x)] (Cl.of rfl rfl rfl rfl rfl) (l.take i) (by simp; omega)
   (fun y hy => twice_Listener_1 q f he x y (hp x hmx y (List.mem_of_mem_take hy)))).callW (enters_of Tryz.func127 rfl rfl) _ [(3, 1000001), (6, 1000002)] rfl rfl rfl ?_
  rintro d rfl
  simp only [go_sem, simprocAttr, hw]
  refine Gif.mk (fun h => ?_) (fun h => ?_)
  ·simp only [h, Bool.true_or] at hr
   simp only [retK, resD, retL, oneD, simprocAttr, Tryz.results85]
   exact ⟨_, rfl, rfl, congrArg bln hr⟩
  ·simp only [h, Bool.false_or] at hr
   refine ⟨m, _, ?_, ?_, i + 1, ?_, ?_, hr, rfl⟩
   ·omega
   ·exact lessA
   ·omega
   ·omega
 ·have hlt' : ((i : Int) < (l.length : Int)) = False := eq_false (by omega)
  rw [show l.length - i = 0 by omega, twiceFrom] at hr
  simp only [go_sem, simprocAttr, hlt']
  simp only [retK, resD, retL, oneD, simprocAttr, Tryz.results85]
  exact ⟨_, rfl, rfl, congrArg bln hr⟩

theorem twice_Parent_1 (q : AParent → AParent → Bool) (f : FuncId) (he : Enters Tryz.prog f) (x y : AParent) (hp : Pure Tryz.prog f [AParent.d x, AParent.d y] (fun d => d = bln (q x y))) :
 PureB Tryz.prog 133 [AParent.d y, .ptr 1000001 0, .ptr 1000002 0] [(1000001, [.fn f []]), (1000002, AParent.ds x)] (fun d => d = bln (q x y)) := by
 refine pureB_of_run follows an_z6aq8 Tryz.func133 rfl ok_z6aq8.1 ok_z6aq8.2 (by simp [Tryz.ntmps133]) ?_
 rw [run_start]
 simp only [ac_z6aq8, go_sem, simprocAttr]
 refine hp.callW he _ rfl rfl ?_
 rintro d rfl
 simp only [go_sem, simprocAttr]
 simp only [retK, resD, retL, oneD, simprocAttr, Tryz.results133]
 exact ⟨_, rfl, rfl, rfl⟩

theorem twice_Parent (q : AParent → AParent → Bool) (f : FuncId) (he : Enters Tryz.prog f) (l : List AParent) (hl : l.length ≤ 1000000) (hp : ∀ x ∈ l, ∀ y ∈ l, Pure Tryz.prog f [AParent.d x, AParent.d y] (fun d => d = bln (q x y))) :
 Pure Tryz.prog 86 [.pd (.slice (rows AParent.pd l)), .fn f []] (fun d => d = bln (twice q l)) := by
 refine pure_of_run follows an_zo7vn Tryz.func86 rfl ok_zo7vn.1 ok_zo7vn.2 (by simp [Tryz.ntmps86]) ?_
 rw [run_start]
 simp only [ac_zo7vn, go_sem, simprocAttr]
 refine loopS (fun k st => ∃ i : Nat, k = l.length - i ∧ i ≤ l.length ∧ twiceFrom q l k i = twice q l ∧
  st = ⟨[(0, .pd (.slice (rows AParent.pd l))), (3, .ptr 3 0), (7, .pd (.slice (rows AParent.pd l))), (8, int l.length), (9, int i)], [(3, [.fn f []])], [], .no⟩) l.length _ (Weak.refl _ _) ⟨0, rfl, Nat.zero_le _, rfl, rfl⟩ ?_
 rintro k st ⟨i, rfl, hi, hr, rfl⟩
 by_cases hlt : i < l.length
 ·obtain ⟨x, hx⟩ := at_lt hlt
  have hlt' : ((i : Int) < (l.length : Int)) = True := eq_true (by omega)
  have hle : (i ≤ l.length) = True := eq_true (by omega)
  have hw := i64_succ (show i < 1000000000 by omega)
  have hmx := List.mem_of_getElem? hx
  obtain ⟨m, hm⟩ : ∃ m, l.length - i = m + 1 := ⟨l.length - i - 1, by omega⟩
  rw [hm, twiceFrom, hx] at hr
  have hrows : rowsOK 4 (rows AParent.pd l) = True := rowsOK_rows (f := AParent.pd) (n := 4) (fun _ => rfl) l
  have htk : (rows AParent.pd l).take i = rows AParent.pd (l.take i) := by simp [rows, List.map_take]
  simp only [go_sem, simprocAttr, hlt', rows_get hx, rows_len, hrows, hle, htk]
  refine (ContainsFunc_Parent (fun y => q x y) 133 (enters_of Tryz.func133 rfl rfl) [(1000001, 0), (1000002, 0)] [(1000001, [.fn f []]), (1000002, AParent.ds x)] (Cl.of rfl rfl rfl rfl rfl) (l.take i) (by simp; omega)
   (fun y hy => twice_Parent_1 q f he x y (hp x hmx y (List.mem_of_mem_take hy)))).callW (enters_of Tryz.func132 rfl rfl) _ [(3, 1000001), (6, 1000002)] rfl rfl rfl ?_
  rintro d rfl
  simp only [go_sem, simprocAttr, hw]
  refine Gif.mk (fun h => ?_) (fun h => ?_)
  ·simp only [h, Bool.true_or] at hr
   simp only [retK, resD, retL, oneD, simprocAttr, Tryz.results86]
   exact ⟨_, rfl, rfl, congrArg bln hr⟩
  ·simp only [h, Bool.false_or] at hr
   refine ⟨m, _, ?_, ?_, i + 1, ?_, ?_, hr, rfl⟩
   ·omega
   ·exact lessA
   ·omega
   ·omega
 ·have hlt' : ((i : Int) < (l.length : Int)) = False := eq_false (by omega)
  rw [show l.length - i = 0 by omega, twiceFrom] at hr
  simp only [go_sem, simprocAttr, hlt']
  simp only [retK, resD, retL, oneD, simprocAttr, Tryz.results86]
  exact ⟨_, rfl, rfl, congrArg bln hr⟩

theorem twice_string_1 (q : ByteArray → ByteArray → Bool) (f : FuncId) (he : Enters Tryz.prog f) (x y : ByteArray) (hp : Pure Tryz.prog f [str x, str y] (fun d => d = bln (q x y))) :
 PureB Tryz.prog 135 [str y, .ptr 1000001 0, .ptr 1000002 0] [(1000001, [.fn f []]), (1000002, [str x])] (fun d => d = bln (q x y)) := by
 refine pureB_of_run follows an_zwcip Tryz.func135 rfl ok_zwcip.1 ok_zwcip.2 (by simp [Tryz.ntmps135]) ?_
 rw [run_start]
 simp only [ac_zwcip, go_sem, simprocAttr]
 refine hp.callW he _ rfl rfl ?_
 rintro d rfl
 simp only [go_sem, simprocAttr]
 simp only [retK, resD, retL, oneD, simprocAttr, Tryz.results135]
 exact ⟨_, rfl, rfl, rfl⟩

theorem twice_string (q : ByteArray → ByteArray → Bool) (f : FuncId) (he : Enters Tryz.prog f) (l : List ByteArray) (hl : l.length ≤ 1000000) (hp : ∀ x ∈ l, ∀ y ∈ l, Pure Tryz.prog f [str x, str y] (fun d => d = bln (q x y))) :
 Pure Tryz.prog 88 [.pd (.slice (rows cStr l)), .fn f []] (fun d => d = bln (twice q l)) := by
 refine pure_of_run follows an_zogir Tryz.func88 rfl ok_zogir.1 ok_zogir.2 (by simp [Tryz.ntmps88]) ?_
 rw [run_start]
 simp only [ac_zogir, go_sem, simprocAttr]
 refine loopS (fun k st => ∃ i : Nat, k = l.length - i ∧ i ≤ l.length ∧ twiceFrom q l k i = twice q l ∧
  st = ⟨[(0, .pd (.slice (rows cStr l))), (3, .ptr 3 0), (7, .pd (.slice (rows cStr l))), (8, int l.length), (9, int i)], [(3, [.fn f []])], [], .no⟩) l.length _ (Weak.refl _ _) ⟨0, rfl, Nat.zero_le _, rfl, rfl⟩ ?_
 rintro k st ⟨i, rfl, hi, hr, rfl⟩
 by_cases hlt : i < l.length
 ·obtain ⟨x, hx⟩ := at_lt hlt
  have hlt' : ((i : Int) < (l.length : Int)) = True := eq_true (by omega)
  have hle : (i ≤ l.length) = True := eq_true (by omega)
  have hw := i64_succ (show i < 1000000000 by omega)
  have hmx := List.mem_of_getElem? hx
  obtain ⟨m, hm⟩ : ∃ m, l.length - i = m + 1 := ⟨l.length - i - 1, by omega⟩
  rw [hm, twiceFrom, hx] at hr
  have hrows : rowsOK 1 (rows cStr l) = True := rowsOK_rows (f := cStr) (n := 1) (fun _ => rfl) l
  have htk : (rows cStr l).take i = rows cStr (l.take i) := by simp [rows, List.map_take]
  simp only [go_sem, simprocAttr, hlt', rows_get hx, rows_len, hrows, hle, htk]
  refine (ContainsFunc_string (fun y => q x y) 135 (enters_of Tryz.func135 rfl rfl) [(1000001, 0), (1000002, 0)] [(1000001, [.fn f []]), (1000002, [str x])] (Cl.of rfl rfl rfl rfl rfl) (l.take i) (by simp; omega)
   (fun y hy => twice_string_1 q f he x y (hp x hmx y (List.mem_of_mem_take hy)))).callW (enters_of Tryz.func134 rfl rfl) _ [(3, 1000001), (6, 1000002)] rfl rfl rfl ?_
  rintro d rfl
  simp only [go_sem, simprocAttr, hw]
  refine Gif.mk (fun h => ?_) (fun h => ?_)
  ·simp only [h, Bool.true_or] at hr
   simp only [retK, resD, retL, oneD, simprocAttr, Tryz.results88]
   exact ⟨_, rfl, rfl, congrArg bln hr⟩
  ·simp only [h, Bool.false_or] at hr
   refine ⟨m, _, ?_, ?_, i + 1, ?_, ?_, hr, rfl⟩
   ·omega
   ·exact lessA
   ·omega
   ·omega
 ·have hlt' : ((i : Int) < (l.length : Int)) = False := eq_false (by omega)
  rw [show l.length - i = 0 by omega, twiceFrom] at hr
  simp only [go_sem, simprocAttr, hlt']
  simp only [retK, resD, retL, oneD, simprocAttr, Tryz.results88]
  exact ⟨_, rfl, rfl, congrArg bln hr⟩


theorem Equal_Pair (l m : List APair) (hl : l.length ≤ 1000000) (hm : m.length ≤ 1000000) :
 Pure Tryz.prog 45 [.pd (.slice (rows APair.pd l)), .pd (.slice (rows APair.pd m))] (fun d => d = bln (decide (l = m))) := by
 refine pure_of_run follows an_zfsc3 Tryz.func45 rfl ok_zfsc3.1 ok_zfsc3.2 (by simp [Tryz.ntmps45]) ?_
 rw [run_start]
 simp only [ac_zfsc3, go_sem, simprocAttr, go_sem, rows_len]
 refine GifP.mk (fun hn => ?_) (fun hn => ?_)
 rotate_left
 ·simp only [retK, resD, retL, oneD, simprocAttr, Tryz.results45]
  exact ⟨_, rfl, rfl, congrArg bln (decide_eq_false (fun h => hn (by rw [h]))).symm⟩
 have hlm : l.length = m.length := by omega
 refine loopS (fun k st => ∃ i : Nat, k = l.length - i ∧ i ≤ l.length ∧ decide (l.drop i = m.drop i) = decide (l = m) ∧
  st = ⟨[(0, .pd (.slice (rows APair.pd l))), (1, .pd (.slice (rows APair.pd m))), (12, int l.length), (13, int i)], [], [], .no⟩) l.length _ (Weak.refl _ _) ⟨0, rfl, Nat.zero_le _, rfl, rfl⟩ ?_
 rintro k st ⟨i, rfl, hi, hr, rfl⟩
 by_cases hlt : i < l.length
 ·obtain ⟨x, hx⟩ := at_lt hlt
  obtain ⟨y, hy⟩ := at_lt (show i < m.length by omega)
  have hlt' : ((i : Int) < (l.length : Int)) = True := eq_true (by omega)
  have hw := i64_succ (show i < 1000000000 by omega)
  rw [drop_at hx, drop_at hy] at hr
  simp only [go_sem, simprocAttr, go_sem, hlt', rows_get hx, rows_get hy, eqVs, eqV, eq_Pair, hw]
  refine GifP.mk (fun h => ?_) (fun h => ?_)
  ·subst h
   simp only [List.cons.injEq, true_and] at hr
   refine ⟨l.length - (i + 1), _, ?_, ?_, i + 1, rfl, ?_, hr, rfl⟩
   ·omega
   ·exact lessA
   ·omega
  ·simp only [retK, resD, retL, oneD, simprocAttr, Tryz.results45]
   rw [decide_eq_false (fun e => h (List.cons.inj e).1)] at hr
   exact ⟨_, rfl, rfl, congrArg bln hr⟩
 ·have hlt' : ((i : Int) < (l.length : Int)) = False := eq_false (by omega)
  rw [List.drop_eq_nil_of_le (by omega), List.drop_eq_nil_of_le (by omega)] at hr
  simp only [go_sem, simprocAttr, go_sem, rows_len, hlt']
  simp only [retK, resD, retL, oneD, simprocAttr, Tryz.results45]
  exact ⟨_, rfl, rfl, congrArg bln (by simpa using hr)⟩

theorem Equal_int (l m : List Int) (hl : l.length ≤ 1000000) (hm : m.length ≤ 1000000) :
 Pure Tryz.prog 46 [.pd (.slice (rows cInt l)), .pd (.slice (rows cInt m))] (fun d => d = bln (decide (l = m))) := by
 refine pure_of_run follows an_zu266 Tryz.func46 rfl ok_zu266.1 ok_zu266.2 (by simp [Tryz.ntmps46]) ?_
 rw [run_start]
 simp only [ac_zu266, go_sem, simprocAttr, go_sem, rows_len]
 refine GifP.mk (fun hn => ?_) (fun hn => ?_)
 rotate_left
 ·simp only [retK, resD, retL, oneD, simprocAttr, Tryz.results46]
  exact ⟨_, rfl, rfl, congrArg bln (decide_eq_false (fun h => hn (by rw [h]))).symm⟩
 have hlm : l.length = m.length := by omega
 refine loopS (fun k st => ∃ i : Nat, k = l.length - i ∧ i ≤ l.length ∧ decide (l.drop i = m.drop i) = decide (l = m) ∧
  st = ⟨[(0, .pd (.slice (rows cInt l))), (1, .pd (.slice (rows cInt m))), (12, int l.length), (13, int i)], [], [], .no⟩) l.length _ (Weak.refl _ _) ⟨0, rfl, Nat.zero_le _, rfl, rfl⟩ ?_
 rintro k st ⟨i, rfl, hi, hr, rfl⟩
 by_cases hlt : i < l.length
 ·obtain ⟨x, hx⟩ := at_lt hlt
  obtain ⟨y, hy⟩ := at_lt (show i < m.length by omega)
  have hlt' : ((i : Int) < (l.length : Int)) = True := eq_true (by omega)
  have hw := i64_succ (show i < 1000000000 by omega)
  rw [drop_at hx, drop_at hy] at hr
  simp only [go_sem, simprocAttr, go_sem, hlt', rows_get hx, rows_get hy, eqVs, eqV, eq_int, hw]
  refine GifP.mk (fun h => ?_) (fun h => ?_)
  ·subst h
   simp only [List.cons.injEq, true_and] at hr
   refine ⟨l.length - (i + 1), _, ?_, ?_, i + 1, rfl, ?_, hr, rfl⟩
   ·omega
   ·exact lessA
   ·omega
  ·simp only [retK, resD, retL, oneD, simprocAttr, Tryz.results46]
   rw [decide_eq_false (fun e => h (List.cons.inj e).1)] at hr
   exact ⟨_, rfl, rfl, congrArg bln hr⟩
 ·have hlt' : ((i : Int) < (l.length : Int)) = False := eq_false (by omega)
  rw [List.drop_eq_nil_of_le (by omega), List.drop_eq_nil_of_le (by omega)] at hr
  simp only [go_sem, simprocAttr, go_sem, rows_len, hlt']
  simp only [retK, resD, retL, oneD, simprocAttr, Tryz.results46]
  exact ⟨_, rfl, rfl, congrArg bln (by simpa using hr)⟩

theorem Equal_string (l m : List ByteArray) (hl : l.length ≤ 1000000) (hm : m.length ≤ 1000000) :
 Pure Tryz.prog 47 [.pd (.slice (rows cStr l)), .pd (.slice (rows cStr m))] (fun d => d = bln (decide (l = m))) := by
 refine pure_of_run follows an_zdvt9 Tryz.func47 rfl ok_zdvt9.1 ok_zdvt9.2 (by simp [Tryz.ntmps47]) ?_
 rw [run_start]
 simp only [ac_zdvt9, go_sem, simprocAttr, go_sem, rows_len]
 refine GifP.mk (fun hn => ?_) (fun hn => ?_)
 rotate_left
 ·simp only [retK, resD, retL, oneD, simprocAttr, Tryz.results47]
  exact ⟨_, rfl, rfl, congrArg bln (decide_eq_false (fun h => hn (by rw [h]))).symm⟩
 have hlm : l.length = m.length := by omega
 refine loopS (fun k st => ∃ i : Nat, k = l.length - i ∧ i ≤ l.length ∧ decide (l.drop i = m.drop i) = decide (l = m) ∧
  st = ⟨[(0, .pd (.slice (rows cStr l))), (1, .pd (.slice (rows cStr m))), (12, int l.length), (13, int i)], [], [], .no⟩) l.length _ (Weak.refl _ _) ⟨0, rfl, Nat.zero_le _, rfl, rfl⟩ ?_
 rintro k st ⟨i, rfl, hi, hr, rfl⟩
 by_cases hlt : i < l.length
 ·obtain ⟨x, hx⟩ := at_lt hlt
  obtain ⟨y, hy⟩ := at_lt (show i < m.length by omega)
  have hlt' : ((i : Int) < (l.length : Int)) = True := eq_true (by omega)
  have hw := i64_succ (show i < 1000000000 by omega)
  rw [drop_at hx, drop_at hy] at hr
  simp only [go_sem, simprocAttr, go_sem, hlt', rows_get hx, rows_get hy, eqVs, eqV, eq_string, hw]
  refine GifP.mk (fun h => ?_) (fun h => ?_)
  ·subst h
   simp only [List.cons.injEq, true_and] at hr
   refine ⟨l.length - (i + 1), _, ?_, ?_, i + 1, rfl, ?_, hr, rfl⟩
   ·omega
   ·exact lessA
   ·omega
  ·simp only [retK, resD, retL, oneD, simprocAttr, Tryz.results47]
   rw [decide_eq_false (fun e => h (List.cons.inj e).1)] at hr
   exact ⟨_, rfl, rfl, congrArg bln hr⟩
 ·have hlt' : ((i : Int) < (l.length : Int)) = False := eq_false (by omega)
  rw [List.drop_eq_nil_of_le (by omega), List.drop_eq_nil_of_le (by omega)] at hr
  simp only [go_sem, simprocAttr, go_sem, rows_len, hlt']
  simp only [retK, resD, retL, oneD, simprocAttr, Tryz.results47]
  exact ⟨_, rfl, rfl, congrArg bln (by simpa using hr)⟩

theorem Equal_Parent (l m : List AParent) (hl : l.length ≤ 1000000) (hm : m.length ≤ 1000000) :
 Pure Tryz.prog 48 [.pd (.slice (rows AParent.pd l)), .pd (.slice (rows AParent.pd m))] (fun d => d = bln (decide (l = m))) := by
 refine pure_of_run follows an_zj0mp Tryz.func48 rfl ok_zj0mp.1 ok_zj0mp.2 (by simp [Tryz.ntmps48]) ?_
 rw [run_start]
 simp only [ac_zj0mp, go_sem, simprocAttr, go_sem, rows_len]
 refine GifP.mk (fun hn => ?_) (fun hn => ?_)
 rotate_left
 ·simp only [retK, resD, retL, oneD, simprocAttr, Tryz.results48]
  exact ⟨_, rfl, rfl, congrArg bln (decide_eq_false (fun h => hn (by rw [h]))).symm⟩
 have hlm : l.length = m.length := by omega
 refine loopS (fun k st => ∃ i : Nat, k = l.length - i ∧ i ≤ l.length ∧ decide (l.drop i = m.drop i) = decide (l = m) ∧
  st = ⟨[(0, .pd (.slice (rows AParent.pd l))), (1, .pd (.slice (rows AParent.pd m))), (12, int l.length), (13, int i)], [], [], .no⟩) l.length _ (Weak.refl _ _) ⟨0, rfl, Nat.zero_le _, rfl, rfl⟩ ?_
 rintro k st ⟨i, rfl, hi, hr, rfl⟩
 by_cases hlt : i < l.length
 ·obtain ⟨x, hx⟩ := at_lt hlt
  obtain ⟨y, hy⟩ := at_lt (show i < m.length by omega)
  have hlt' : ((i : Int) < (l.length : Int)) = True := eq_true (by omega)
  have hw := i64_succ (show i < 1000000000 by omega)
  rw [drop_at hx, drop_at hy] at hr
  simp only [go_sem, simprocAttr, go_sem, hlt', rows_get hx, rows_get hy, eqVs, eqV, eq_Parent, hw]
  refine GifP.mk (fun h => ?_) (fun h => ?_)
  ·subst h
   simp only [List.cons.injEq, true_and] at hr
   refine ⟨l.length - (i + 1), _, ?_, ?_, i + 1, rfl, ?_, hr, rfl⟩
   ·omega
   ·exact lessA
   ·omega
  ·simp only [retK, resD, retL, oneD, simprocAttr, Tryz.results48]
   rw [decide_eq_false (fun e => h (List.cons.inj e).1)] at hr
   exact ⟨_, rfl, rfl, congrArg bln hr⟩
 ·have hlt' : ((i : Int) < (l.length : Int)) = False := eq_false (by omega)
  rw [List.drop_eq_nil_of_le (by omega), List.drop_eq_nil_of_le (by omega)] at hr
  simp only [go_sem, simprocAttr, go_sem, rows_len, hlt']
  simp only [retK, resD, retL, oneD, simprocAttr, Tryz.results48]
  exact ⟨_, rfl, rfl, congrArg bln (by simpa using hr)⟩

theorem Equal_Side (l m : List ASide) (hl : l.length ≤ 1000000) (hm : m.length ≤ 1000000) :
 Pure Tryz.prog 49 [.pd (.slice (rows ASide.pd l)), .pd (.slice (rows ASide.pd m))] (fun d => d = bln (decide (l = m))) := by
 refine pure_of_run follows an_zlr2h Tryz.func49 rfl ok_zlr2h.1 ok_zlr2h.2 (by simp [Tryz.ntmps49]) ?_
 rw [run_start]
 simp only [ac_zlr2h, go_sem, simprocAttr, go_sem, rows_len]
 refine GifP.mk (fun hn => ?_) (fun hn => ?_)
 rotate_left
 ·simp only [retK, resD, retL, oneD, simprocAttr, Tryz.results49]
  exact ⟨_, rfl, rfl, congrArg bln (decide_eq_false (fun h => hn (by rw [h]))).symm⟩
 have hlm : l.length = m.length := by omega
 refine loopS (fun k st => ∃ i : Nat, k = l.length - i ∧ i ≤ l.length ∧ decide (l.drop i = m.drop i) = decide (l = m) ∧
  st = ⟨[(0, .pd (.slice (rows ASide.pd l))), (1, .pd (.slice (rows ASide.pd m))), (12, int l.length), (13, int i)], [], [], .no⟩) l.length _ (Weak.refl _ _) ⟨0, rfl, Nat.zero_le _, rfl, rfl⟩ ?_
 rintro k st ⟨i, rfl, hi, hr, rfl⟩
 by_cases hlt : i < l.length
 ·obtain ⟨x, hx⟩ := at_lt hlt
  obtain ⟨y, hy⟩ := at_lt (show i < m.length by omega)
  have hlt' : ((i : Int) < (l.length : Int)) = True := eq_true (by omega)
  have hw := i64_succ (show i < 1000000000 by omega)
  rw [drop_at hx, drop_at hy] at hr
  simp only [go_sem, simprocAttr, go_sem, hlt', rows_get hx, rows_get hy, eqVs, eqV, eq_Side, hw]
  refine GifP.mk (fun h => ?_) (fun h => ?_)
  ·subst h
   simp only [List.cons.injEq, true_and] at hr
   refine ⟨l.length - (i + 1), _, ?_, ?_, i + 1, rfl, ?_, hr, rfl⟩
   ·omega
   ·exact lessA
   ·omega
  ·simp only [retK, resD, retL, oneD, simprocAttr, Tryz.results49]
   rw [decide_eq_false (fun e => h (List.cons.inj e).1)] at hr
   exact ⟨_, rfl, rfl, congrArg bln hr⟩
 ·have hlt' : ((i : Int) < (l.length : Int)) = False := eq_false (by omega)
  rw [List.drop_eq_nil_of_le (by omega), List.drop_eq_nil_of_le (by omega)] at hr
  simp only [go_sem, simprocAttr, go_sem, rows_len, hlt']
  simp only [retK, resD, retL, oneD, simprocAttr, Tryz.results49]
  exact ⟨_, rfl, rfl, congrArg bln (by simpa using hr)⟩

theorem Equal_Filter (l m : List AFilter) (hl : l.length ≤ 1000000) (hm : m.length ≤ 1000000) :
 Pure Tryz.prog 109 [.pd (.slice (rows AFilter.pd l)), .pd (.slice (rows AFilter.pd m))] (fun d => d = bln (decide (l = m))) := by
 refine pure_of_run follows an_z7uuy Tryz.func109 rfl ok_z7uuy.1 ok_z7uuy.2 (by simp [Tryz.ntmps109]) ?_
 rw [run_start]
 simp only [ac_z7uuy, go_sem, simprocAttr, go_sem, rows_len]
 refine GifP.mk (fun hn => ?_) (fun hn => ?_)
 rotate_left
 ·simp only [retK, resD, retL, oneD, simprocAttr, Tryz.results109]
  exact ⟨_, rfl, rfl, congrArg bln (decide_eq_false (fun h => hn (by rw [h]))).symm⟩
 have hlm : l.length = m.length := by omega
 refine loopS (fun k st => ∃ i : Nat, k = l.length - i ∧ i ≤ l.length ∧ decide (l.drop i = m.drop i) = decide (l = m) ∧
  st = ⟨[(0, .pd (.slice (rows AFilter.pd l))), (1, .pd (.slice (rows AFilter.pd m))), (12, int l.length), (13, int i)], [], [], .no⟩) l.length _ (Weak.refl _ _) ⟨0, rfl, Nat.zero_le _, rfl, rfl⟩ ?_
 rintro k st ⟨i, rfl, hi, hr, rfl⟩
 by_cases hlt : i < l.length
 ·obtain ⟨x, hx⟩ := at_lt hlt
  obtain ⟨y, hy⟩ := at_lt (show i < m.length by omega)
  have hlt' : ((i : Int) < (l.length : Int)) = True := eq_true (by omega)
  have hw := i64_succ (show i < 1000000000 by omega)
  rw [drop_at hx, drop_at hy] at hr
  simp only [go_sem, simprocAttr, go_sem, hlt', rows_get hx, rows_get hy, eqVs, eqV, eq_Filter, hw]
  refine GifP.mk (fun h => ?_) (fun h => ?_)
  ·subst h
   simp only [List.cons.injEq, true_and] at hr
   refine ⟨l.length - (i + 1), _, ?_, ?_, i + 1, rfl, ?_, hr, rfl⟩
   ·omega
   ·exact lessA
   ·omega
  ·simp only [retK, resD, retL, oneD, simprocAttr, Tryz.results109]
   rw [decide_eq_false (fun e => h (List.cons.inj e).1)] at hr
   exact ⟨_, rfl, rfl, congrArg bln hr⟩
 ·have hlt' : ((i : Int) < (l.length : Int)) = False := eq_false (by omega)
  rw [List.drop_eq_nil_of_le (by omega), List.drop_eq_nil_of_le (by omega)] at hr
  simp only [go_sem, simprocAttr, go_sem, rows_len, hlt']
  simp only [retK, resD, retL, oneD, simprocAttr, Tryz.results109]
  exact ⟨_, rfl, rfl, congrArg bln (by simpa using hr)⟩

theorem Equal_Backend (l m : List ABackend) (hl : l.length ≤ 1000000) (hm : m.length ≤ 1000000) :
 Pure Tryz.prog 110 [.pd (.slice (rows ABackend.pd l)), .pd (.slice (rows ABackend.pd m))] (fun d => d = bln (decide (l = m))) := by
 refine pure_of_run follows an_ztr0f Tryz.func110 rfl ok_ztr0f.1 ok_ztr0f.2 (by simp [Tryz.ntmps110]) ?_
 rw [run_start]
 simp only [ac_ztr0f, go_sem, simprocAttr, go_sem, rows_len]
 refine GifP.mk (fun hn => ?_) (fun hn => ?_)
 rotate_left
 ·simp only [retK, resD, retL, oneD, simprocAttr, Tryz.results110]
  exact ⟨_, rfl, rfl, congrArg bln (decide_eq_false (fun h => hn (by rw [h]))).symm⟩
 have hlm : l.length = m.length := by omega
 refine loopS (fun k st => ∃ i : Nat, k = l.length - i ∧ i ≤ l.length ∧ decide (l.drop i = m.drop i) = decide (l = m) ∧
  st = ⟨[(0, .pd (.slice (rows ABackend.pd l))), (1, .pd (.slice (rows ABackend.pd m))), (12, int l.length), (13, int i)], [], [], .no⟩) l.length _ (Weak.refl _ _) ⟨0, rfl, Nat.zero_le _, rfl, rfl⟩ ?_
 rintro k st ⟨i, rfl, hi, hr, rfl⟩
 by_cases hlt : i < l.length
 ·obtain ⟨x, hx⟩ := at_lt hlt
  obtain ⟨y, hy⟩ := at_lt (show i < m.length by omega)
  have hlt' : ((i : Int) < (l.length : Int)) = True := eq_true (by omega)
  have hw := i64_succ (show i < 1000000000 by omega)
  rw [drop_at hx, drop_at hy] at hr
  simp only [go_sem, simprocAttr, go_sem, hlt', rows_get hx, rows_get hy, eqVs, eqV, eq_Backend, hw]
  refine GifP.mk (fun h => ?_) (fun h => ?_)
  ·subst h
   simp only [List.cons.injEq, true_and] at hr
   refine ⟨l.length - (i + 1), _, ?_, ?_, i + 1, rfl, ?_, hr, rfl⟩
   ·omega
   ·exact lessA
   ·omega
  ·simp only [retK, resD, retL, oneD, simprocAttr, Tryz.results110]
   rw [decide_eq_false (fun e => h (List.cons.inj e).1)] at hr
   exact ⟨_, rfl, rfl, congrArg bln hr⟩
 ·have hlt' : ((i : Int) < (l.length : Int)) = False := eq_false (by omega)
  rw [List.drop_eq_nil_of_le (by omega), List.drop_eq_nil_of_le (by omega)] at hr
  simp only [go_sem, simprocAttr, go_sem, rows_len, hlt']
  simp only [retK, resD, retL, oneD, simprocAttr, Tryz.results110]
  exact ⟨_, rfl, rfl, congrArg bln (by simpa using hr)⟩

theorem EqualFunc_Listener (q : AListener → AListener → Bool) (f : FuncId) (he : Enters Tryz.prog f) (l m : List AListener) (hl : l.length ≤ 1000000) (hm : m.length ≤ 1000000) (hp : ∀ x ∈ l, ∀ y ∈ m, Pure Tryz.prog f [AListener.d x, AListener.d y] (fun d => d = bln (q x y))) :
 Pure Tryz.prog 50 [.pd (.slice (rows AListener.pd l)), .pd (.slice (rows AListener.pd m)), .fn f []] (fun d => d = bln (eqf q l m)) := by
 refine pure_of_run follows an_zuyoe Tryz.func50 rfl ok_zuyoe.1 ok_zuyoe.2 (by simp [Tryz.ntmps50]) ?_
 rw [run_start]
 simp only [ac_zuyoe, go_sem, simprocAttr]
 refine GifP.mk (fun hn => ?_) (fun hn => ?_)
 rotate_left
 ·simp only [retK, resD, retL, oneD, simprocAttr, Tryz.results50]
  exact ⟨_, rfl, rfl, congrArg bln (eqf_len q (by omega)).symm⟩
 have hlm : l.length = m.length := by omega
 refine loopS (fun k st => ∃ i : Nat, k = l.length - i ∧ i ≤ l.length ∧ eqf q (l.drop i) (m.drop i) = eqf q l m ∧
  st = ⟨[(1, .pd (.slice (rows AListener.pd m))), (2, .fn f []), (15, .pd (.slice (rows AListener.pd l))), (16, int l.length), (17, int i)], [], [], .no⟩) l.length _ (Weak.refl _ _) ⟨0, rfl, Nat.zero_le _, rfl, rfl⟩ ?_
 rintro k st ⟨i, rfl, hi, hr, rfl⟩
 by_cases hlt : i < l.length
 ·obtain ⟨x, hx⟩ := at_lt hlt
  obtain ⟨y, hy⟩ := at_lt (show i < m.length by omega)
  have hlt' : ((i : Int) < (l.length : Int)) = True := eq_true (by omega)
  have hw := i64_succ (show i < 1000000000 by omega)
  rw [drop_at hx, drop_at hy, eqf] at hr
  simp only [go_sem, simprocAttr, hlt', rows_get hx, rows_get hy, hw]
  refine (hp x (List.mem_of_getElem? hx) y (List.mem_of_getElem? hy)).callW he _ rfl rfl ?_
  rintro d rfl
  simp only [go_sem, simprocAttr, hw]
  refine Gif.mk (fun h => ?_) (fun h => ?_)
  ·rw [h, Bool.true_and] at hr
   refine ⟨l.length - (i + 1), _, ?_, ?_, i + 1, rfl, ?_, hr, rfl⟩
   ·omega
   ·exact lessA
   ·omega
  ·rw [h, Bool.false_and] at hr
   simp only [retK, resD, retL, oneD, simprocAttr, Tryz.results50]
   exact ⟨_, rfl, rfl, congrArg bln hr⟩
 ·have hlt' : ((i : Int) < (l.length : Int)) = False := eq_false (by omega)
  rw [List.drop_eq_nil_of_le (by omega), List.drop_eq_nil_of_le (by omega), eqf] at hr
  simp only [go_sem, simprocAttr, hlt']
  simp only [retK, resD, retL, oneD, simprocAttr, Tryz.results50]
  exact ⟨_, rfl, rfl, congrArg bln hr⟩

theorem EqualFunc_Rule (q : ARule → ARule → Bool) (f : FuncId) (he : Enters Tryz.prog f) (l m : List ARule) (hl : l.length ≤ 1000000) (hm : m.length ≤ 1000000) (hp : ∀ x ∈ l, ∀ y ∈ m, Pure Tryz.prog f [ARule.d x, ARule.d y] (fun d => d = bln (q x y))) :
 Pure Tryz.prog 52 [.pd (.slice (rows ARule.pd l)), .pd (.slice (rows ARule.pd m)), .fn f []] (fun d => d = bln (eqf q l m)) := by
 refine pure_of_run follows an_zi41r Tryz.func52 rfl ok_zi41r.1 ok_zi41r.2 (by simp [Tryz.ntmps52]) ?_
 rw [run_start]
 simp only [ac_zi41r, go_sem, simprocAttr]
 refine GifP.mk (fun hn => ?_) (fun hn => ?_)
 rotate_left
 ·simp only [retK, resD, retL, oneD, simprocAttr, Tryz.results52]
  exact ⟨_, rfl, rfl, congrArg bln (eqf_len q (by omega)).symm⟩
 have hlm : l.length = m.length := by omega
 refine loopS (fun k st => ∃ i : Nat, k = l.length - i ∧ i ≤ l.length ∧ eqf q (l.drop i) (m.drop i) = eqf q l m ∧
  st = ⟨[(1, .pd (.slice (rows ARule.pd m))), (2, .fn f []), (15, .pd (.slice (rows ARule.pd l))), (16, int l.length), (17, int i)], [], [], .no⟩) l.length _ (Weak.refl _ _) ⟨0, rfl, Nat.zero_le _, rfl, rfl⟩ ?_
 rintro k st ⟨i, rfl, hi, hr, rfl⟩
 by_cases hlt : i < l.length
 ·obtain ⟨x, hx⟩ := at_lt hlt
  obtain ⟨y, hy⟩ := at_lt (show i < m.length by omega)
  have hlt' : ((i : Int) < (l.length : Int)) = True := eq_true (by omega)
  have hw := i64_succ (show i < 1000000000 by omega)
  rw [drop_at hx, drop_at hy, eqf] at hr
  simp only [go_sem, simprocAttr, hlt', rows_get hx, rows_get hy, hw]
  refine (hp x (List.mem_of_getElem? hx) y (List.mem_of_getElem? hy)).callW he _ rfl rfl ?_
  rintro d rfl
  simp only [go_sem, simprocAttr, hw]
  refine Gif.mk (fun h => ?_) (fun h => ?_)
  ·rw [h, Bool.true_and] at hr
   refine ⟨l.length - (i + 1), _, ?_, ?_, i + 1, rfl, ?_, hr, rfl⟩
   ·omega
   ·exact lessA
   ·omega
  ·rw [h, Bool.false_and] at hr
   simp only [retK, resD, retL, oneD, simprocAttr, Tryz.results52]
   exact ⟨_, rfl, rfl, congrArg bln hr⟩
 ·have hlt' : ((i : Int) < (l.length : Int)) = False := eq_false (by omega)
  rw [List.drop_eq_nil_of_le (by omega), List.drop_eq_nil_of_le (by omega), eqf] at hr
  simp only [go_sem, simprocAttr, hlt']
  simp only [retK, resD, retL, oneD, simprocAttr, Tryz.results52]
  exact ⟨_, rfl, rfl, congrArg bln hr⟩

theorem EqualFunc_Match (q : AMatch → AMatch → Bool) (f : FuncId) (he : Enters Tryz.prog f) (l m : List AMatch) (hl : l.length ≤ 1000000) (hm : m.length ≤ 1000000) (hp : ∀ x ∈ l, ∀ y ∈ m, Pure Tryz.prog f [AMatch.d x, AMatch.d y] (fun d => d = bln (q x y))) :
 Pure Tryz.prog 107 [.pd (.slice (rows AMatch.pd l)), .pd (.slice (rows AMatch.pd m)), .fn f []] (fun d => d = bln (eqf q l m)) := by
 refine pure_of_run follows an_zjaw1 Tryz.func107 rfl ok_zjaw1.1 ok_zjaw1.2 (by simp [Tryz.ntmps107]) ?_
 rw [run_start]
 simp only [ac_zjaw1, go_sem, simprocAttr]
 refine GifP.mk (fun hn => ?_) (fun hn => ?_)
 rotate_left
 ·simp only [retK, resD, retL, oneD, simprocAttr, Tryz.results107]
  exact ⟨_, rfl, rfl, congrArg bln (eqf_len q (by omega)).symm⟩
 have hlm : l.length = m.length := by omega
 refine loopS (fun k st => ∃ i : Nat, k = l.length - i ∧ i ≤ l.length ∧ eqf q (l.drop i) (m.drop i) = eqf q l m ∧
  st = ⟨[(1, .pd (.slice (rows AMatch.pd m))), (2, .fn f []), (15, .pd (.slice (rows AMatch.pd l))), (16, int l.length), (17, int i)], [], [], .no⟩) l.length _ (Weak.refl _ _) ⟨0, rfl, Nat.zero_le _, rfl, rfl⟩ ?_
 rintro k st ⟨i, rfl, hi, hr, rfl⟩
 by_cases hlt : i < l.length
 ·obtain ⟨x, hx⟩ := at_lt hlt
  obtain ⟨y, hy⟩ := at_lt (show i < m.length by omega)
  have hlt' : ((i : Int) < (l.length : Int)) = True := eq_true (by omega)
  have hw := i64_succ (show i < 1000000000 by omega)
  rw [drop_at hx, drop_at hy, eqf] at hr
  simp only [go_sem, simprocAttr, hlt', rows_get hx, rows_get hy, hw]
  refine (hp x (List.mem_of_getElem? hx) y (List.mem_of_getElem? hy)).callW he _ rfl rfl ?_
  rintro d rfl
  simp only [go_sem, simprocAttr, hw]
  refine Gif.mk (fun h => ?_) (fun h => ?_)
  ·rw [h, Bool.true_and] at hr
   refine ⟨l.length - (i + 1), _, ?_, ?_, i + 1, rfl, ?_, hr, rfl⟩
   ·omega
   ·exact lessA
   ·omega
  ·rw [h, Bool.false_and] at hr
   simp only [retK, resD, retL, oneD, simprocAttr, Tryz.results107]
   exact ⟨_, rfl, rfl, congrArg bln hr⟩
 ·have hlt' : ((i : Int) < (l.length : Int)) = False := eq_false (by omega)
  rw [List.drop_eq_nil_of_le (by omega), List.drop_eq_nil_of_le (by omega), eqf] at hr
  simp only [go_sem, simprocAttr, hlt']
  simp only [retK, resD, retL, oneD, simprocAttr, Tryz.results107]
  exact ⟨_, rfl, rfl, congrArg bln hr⟩

theorem EqualFunc_Need (q : ANeed → ANeed → Bool) (f : FuncId) (he : Enters Tryz.prog f) (l m : List ANeed) (hl : l.length ≤ 1000000) (hm : m.length ≤ 1000000) (hp : ∀ x ∈ l, ∀ y ∈ m, Pure Tryz.prog f [ANeed.d x, ANeed.d y] (fun d => d = bln (q x y))) :
 Pure Tryz.prog 152 [.pd (.slice (rows ANeed.pd l)), .pd (.slice (rows ANeed.pd m)), .fn f []] (fun d => d = bln (eqf q l m)) := by
 refine pure_of_run follows an_zdsnp Tryz.func152 rfl ok_zdsnp.1 ok_zdsnp.2 (by simp [Tryz.ntmps152]) ?_
 rw [run_start]
 simp only [ac_zdsnp, go_sem, simprocAttr]
 refine GifP.mk (fun hn => ?_) (fun hn => ?_)
 rotate_left
 ·simp only [retK, resD, retL, oneD, simprocAttr, Tryz.results152]
  exact ⟨_, rfl, rfl, congrArg bln (eqf_len q (by omega)).symm⟩
 have hlm : l.length = m.length := by omega
 refine loopS (fun k st => ∃ i : Nat, k = l.length - i ∧ i ≤ l.length ∧ eqf q (l.drop i) (m.drop i) = eqf q l m ∧
  st = ⟨[(1, .pd (.slice (rows ANeed.pd m))), (2, .fn f []), (15, .pd (.slice (rows ANeed.pd l))), (16, int l.length), (17, int i)], [], [], .no⟩) l.length _ (Weak.refl _ _) ⟨0, rfl, Nat.zero_le _, rfl, rfl⟩ ?_
 rintro k st ⟨i, rfl, hi, hr, rfl⟩
 by_cases hlt : i < l.length
 ·obtain ⟨x, hx⟩ := at_lt hlt
  obtain ⟨y, hy⟩ := at_lt (show i < m.length by omega)
  have hlt' : ((i : Int) < (l.length : Int)) = True := eq_true (by omega)
  have hw := i64_succ (show i < 1000000000 by omega)
  rw [drop_at hx, drop_at hy, eqf] at hr
  simp only [go_sem, simprocAttr, hlt', rows_get hx, rows_get hy, hw]
  refine (hp x (List.mem_of_getElem? hx) y (List.mem_of_getElem? hy)).callW he _ rfl rfl ?_
  rintro d rfl
  simp only [go_sem, simprocAttr, hw]
  refine Gif.mk (fun h => ?_) (fun h => ?_)
  ·rw [h, Bool.true_and] at hr
   refine ⟨l.length - (i + 1), _, ?_, ?_, i + 1, rfl, ?_, hr, rfl⟩
   ·omega
   ·exact lessA
   ·omega
  ·rw [h, Bool.false_and] at hr
   simp only [retK, resD, retL, oneD, simprocAttr, Tryz.results152]
   exact ⟨_, rfl, rfl, congrArg bln hr⟩
 ·have hlt' : ((i : Int) < (l.length : Int)) = False := eq_false (by omega)
  rw [List.drop_eq_nil_of_le (by omega), List.drop_eq_nil_of_le (by omega), eqf] at hr
  simp only [go_sem, simprocAttr, hlt']
  simp only [retK, resD, retL, oneD, simprocAttr, Tryz.results152]
  exact ⟨_, rfl, rfl, congrArg bln hr⟩


def okind (n : Int) : Bool := decide (1 ≤ n) && decide (n ≤ 7)
def oport (n : Int) : Bool := decide (1 ≤ n) && decide (n ≤ 65535)

theorem object_kind (n : Int) : Pure Tryz.prog 72 [int n] (fun d => d = bln (okind n)) := by
 refine pure_of_run follows an_zavnu Tryz.func72 rfl ok_zavnu.1 ok_zavnu.2 (by simp [Tryz.ntmps72]) ?_
 rw [run_start]
 simp only [ac_zavnu, go_sem, simprocAttr]
 (repeat' (first | (refine GifP.mk (fun _ => ?_) (fun _ => ?_)) | (refine Gif.mk (fun _ => ?_) (fun _ => ?_)))) <;> (simp only [retK, resD, retL, oneD, simprocAttr, Tryz.results72]; exact ⟨_, rfl, rfl, congrArg bln (by first | rfl | (rw [Bool.eq_iff_iff]; simp only [okind]; (first | (simp; done) | (simp; omega) | (simp [*]; done) | (simp [*]; omega))) | (simp_all [okind]; done) | (exfalso; omega))⟩)

theorem object_port (n : Int) : Pure Tryz.prog 78 [int n] (fun d => d = bln (oport n)) := by
 refine pure_of_run follows an_znt9b Tryz.func78 rfl ok_znt9b.1 ok_znt9b.2 (by simp [Tryz.ntmps78]) ?_
 rw [run_start]
 simp only [ac_znt9b, go_sem, simprocAttr]
 (repeat' (first | (refine GifP.mk (fun _ => ?_) (fun _ => ?_)) | (refine Gif.mk (fun _ => ?_) (fun _ => ?_)))) <;> (simp only [retK, resD, retL, oneD, simprocAttr, Tryz.results78]; exact ⟨_, rfl, rfl, congrArg bln (by first | rfl | (rw [Bool.eq_iff_iff]; simp only [oport]; (first | (simp; done) | (simp; omega) | (simp [*]; done) | (simp [*]; omega))) | (simp_all [oport]; done) | (exfalso; omega))⟩)

theorem object_near (s : ByteArray) : Pure Tryz.prog 129 [str s] (fun d => d = bln (labValue s)) := by
 refine pure_of_run follows an_ztrsy Tryz.func129 rfl ok_ztrsy.1 ok_ztrsy.2 (by simp [Tryz.ntmps129]) ?_
 rw [run_start]
 simp only [ac_ztrsy, go_sem, simprocAttr]
 (repeat' (first | (refine GifP.mk (fun _ => ?_) (fun _ => ?_)) | (refine Gif.mk (fun _ => ?_) (fun _ => ?_)) | (refine (dns_Label _).callW (enters_of Tryz.func71 rfl rfl) _ rfl rfl ?_; rintro _ rfl; try simp only [go_sem, simprocAttr]))) <;> (simp only [retK, resD, retL, oneD, simprocAttr, Tryz.results129]; exact ⟨_, rfl, rfl, congrArg bln (by first | rfl | (rw [Bool.eq_iff_iff]; simp only [labValue]; (first | (simp; done) | (simp; omega) | (simp [*]; done) | (simp [*]; omega))) | (simp_all [labValue]; done) | (exfalso; omega))⟩)

def parentMay (p : AParent) : Bool := labValue p.space && dname p.name && labValue p.section_ && (decide (p.port = 0) || oport p.port)

theorem object_parent (p : AParent) : Pure Tryz.prog 93 [p.d] (fun d => d = bln (parentMay p)) := by
 refine pure_of_run follows an_za0y7 Tryz.func93 rfl ok_za0y7.1 ok_za0y7.2 (by simp [Tryz.ntmps93]) ?_
 rw [run_start]
 simp only [ac_za0y7, go_sem, simprocAttr]
 (repeat' (first | (refine GifP.mk (fun _ => ?_) (fun _ => ?_)) | (refine Gif.mk (fun _ => ?_) (fun _ => ?_)) | ((first | refine (object_near _).callW (enters_of Tryz.func129 rfl rfl) _ rfl rfl ?_ | refine (dns_Name _).callW (enters_of Tryz.func70 rfl rfl) _ rfl rfl ?_ | refine (object_port _).callW (enters_of Tryz.func78 rfl rfl) _ rfl rfl ?_); rintro _ rfl; try simp only [go_sem, simprocAttr]))) <;> (simp only [retK, resD, retL, oneD, simprocAttr, Tryz.results93]; exact ⟨_, rfl, rfl, congrArg bln (by first | rfl | (rw [Bool.eq_iff_iff]; simp only [parentMay]; (first | (simp; done) | (simp; omega) | (simp [*]; done) | (simp [*]; omega))) | (simp_all [parentMay]; done) | (exfalso; omega))⟩)

def backendMay (b : ABackend) : Bool := okind b.ref.kind && labValue b.ref.space && dname b.ref.name && (decide (b.port = 0) || oport b.port) && decide (0 ≤ b.weight) && decide (b.weight ≤ 1000)

theorem object_backend (b : ABackend) : Pure Tryz.prog 145 [b.d] (fun d => d = bln (backendMay b)) := by
 refine pure_of_run follows an_z2jf5 Tryz.func145 rfl ok_z2jf5.1 ok_z2jf5.2 (by simp [Tryz.ntmps145]) ?_
 rw [run_start]
 simp only [ac_z2jf5, go_sem, simprocAttr]
 (repeat' (first | (refine GifP.mk (fun _ => ?_) (fun _ => ?_)) | (refine Gif.mk (fun _ => ?_) (fun _ => ?_)) | ((first | refine (object_kind _).callW (enters_of Tryz.func72 rfl rfl) _ rfl rfl ?_ | refine (object_near _).callW (enters_of Tryz.func129 rfl rfl) _ rfl rfl ?_ | refine (dns_Name _).callW (enters_of Tryz.func70 rfl rfl) _ rfl rfl ?_ | refine (object_port _).callW (enters_of Tryz.func78 rfl rfl) _ rfl rfl ?_); rintro _ rfl; try simp only [go_sem, simprocAttr]))) <;> (simp only [retK, resD, retL, oneD, simprocAttr, Tryz.results145]; exact ⟨_, rfl, rfl, congrArg bln (by first | rfl | (rw [Bool.eq_iff_iff]; simp only [backendMay]; (first | (simp; done) | (simp; omega) | (simp [*]; done) | (simp [*]; omega))) | (simp_all [backendMay]; done) | (exfalso; omega))⟩)

def sideFrom (s : ASide) : Bool := okind s.kind && label s.space && decide (s.name = ⟨#[]⟩)
def sideTo (s : ASide) : Bool := okind s.kind && decide (s.space = ⟨#[]⟩) && (decide (s.name = ⟨#[]⟩) || dname s.name)

theorem thing_grant_1 (s : ASide) : Pure Tryz.prog 97 [s.d] (fun d => d = bln (sideFrom s)) := by
 refine pure_of_run follows an_z9wz0 Tryz.func97 rfl ok_z9wz0.1 ok_z9wz0.2 (by simp [Tryz.ntmps97]) ?_
 rw [run_start]
 simp only [ac_z9wz0, go_sem, simprocAttr]
 (repeat' (first | (refine GifP.mk (fun _ => ?_) (fun _ => ?_)) | (refine Gif.mk (fun _ => ?_) (fun _ => ?_)) | ((first | refine (object_kind _).callW (enters_of Tryz.func72 rfl rfl) _ rfl rfl ?_ | refine (dns_Label _).callW (enters_of Tryz.func71 rfl rfl) _ rfl rfl ?_); rintro _ rfl; try simp only [go_sem, simprocAttr]))) <;> (simp only [retK, resD, retL, oneD, simprocAttr, Tryz.results97]; exact ⟨_, rfl, rfl, congrArg bln (by first | rfl | (rw [Bool.eq_iff_iff]; simp only [sideFrom]; (first | (simp; done) | (simp; omega) | (simp [*]; done) | (simp [*]; omega))) | (simp_all [sideFrom]; done) | (exfalso; omega))⟩)

theorem thing_grant_2 (s : ASide) : Pure Tryz.prog 98 [s.d] (fun d => d = bln (sideTo s)) := by
 refine pure_of_run follows an_z4xw6 Tryz.func98 rfl ok_z4xw6.1 ok_z4xw6.2 (by simp [Tryz.ntmps98]) ?_
 rw [run_start]
 simp only [ac_z4xw6, go_sem, simprocAttr]
 (repeat' (first | (refine GifP.mk (fun _ => ?_) (fun _ => ?_)) | (refine Gif.mk (fun _ => ?_) (fun _ => ?_)) | ((first | refine (object_kind _).callW (enters_of Tryz.func72 rfl rfl) _ rfl rfl ?_ | refine (dns_Name _).callW (enters_of Tryz.func70 rfl rfl) _ rfl rfl ?_); rintro _ rfl; try simp only [go_sem, simprocAttr]))) <;> (simp only [retK, resD, retL, oneD, simprocAttr, Tryz.results98]; exact ⟨_, rfl, rfl, congrArg bln (by first | rfl | (rw [Bool.eq_iff_iff]; simp only [sideTo]; (first | (simp; done) | (simp; omega) | (simp [*]; done) | (simp [*]; omega))) | (simp_all [sideTo]; done) | (exfalso; omega))⟩)

def intSame (a b : Int) : Bool := decide (a = b)
def strSame (a b : ByteArray) : Bool := decide (a = b)
def lisName (a b : AListener) : Bool := decide (a.name = b.name)
def parSame (a b : AParent) : Bool := decide (a = b)
def patMay (s : ByteArray) : Bool := !decide (s = ⟨#[]⟩) && hostMay s

theorem thing_service_1 (a b : Int) : Pure Tryz.prog 81 [int a, int b] (fun d => d = bln (intSame a b)) := by
 refine pure_of_run follows an_zwdgh Tryz.func81 rfl ok_zwdgh.1 ok_zwdgh.2 (by simp [Tryz.ntmps81]) ?_
 rw [run_start]
 simp only [ac_zwdgh, go_sem, simprocAttr]
 (repeat' (first | (refine GifP.mk (fun _ => ?_) (fun _ => ?_)) | (refine Gif.mk (fun _ => ?_) (fun _ => ?_)))) <;> (simp only [retK, resD, retL, oneD, simprocAttr, Tryz.results81]; exact ⟨_, rfl, rfl, congrArg bln (by first | rfl | (rw [Bool.eq_iff_iff]; simp only [intSame]; (first | (simp; done) | (simp; omega) | (simp [*]; done) | (simp [*]; omega))) | (simp_all [intSame]; done) | (exfalso; omega))⟩)

theorem thing_gateway_1 (a b : AListener) : Pure Tryz.prog 82 [a.d, b.d] (fun d => d = bln (lisName a b)) := by
 refine pure_of_run follows an_zpej9 Tryz.func82 rfl ok_zpej9.1 ok_zpej9.2 (by simp [Tryz.ntmps82]) ?_
 rw [run_start]
 simp only [ac_zpej9, go_sem, simprocAttr]
 (repeat' (first | (refine GifP.mk (fun _ => ?_) (fun _ => ?_)) | (refine Gif.mk (fun _ => ?_) (fun _ => ?_)))) <;> (simp only [retK, resD, retL, oneD, simprocAttr, Tryz.results82]; exact ⟨_, rfl, rfl, congrArg bln (by first | rfl | (rw [Bool.eq_iff_iff]; simp only [lisName]; (first | (simp; done) | (simp; omega) | (simp [*]; done) | (simp [*]; omega))) | (simp_all [lisName]; done) | (exfalso; omega))⟩)

theorem thing_route_1 (a b : AParent) : Pure Tryz.prog 87 [a.d, b.d] (fun d => d = bln (parSame a b)) := by
 refine pure_of_run follows an_zh5vi Tryz.func87 rfl ok_zh5vi.1 ok_zh5vi.2 (by simp [Tryz.ntmps87]) ?_
 rw [run_start]
 simp only [ac_zh5vi, go_sem, simprocAttr, eqVs, eqV, eq_Parent]
 simp only [retK, resD, retL, oneD, simprocAttr, Tryz.results87]
 exact ⟨_, rfl, rfl, rfl⟩

theorem thing_route_2 (a b : ByteArray) : Pure Tryz.prog 89 [str a, str b] (fun d => d = bln (strSame a b)) := by
 refine pure_of_run follows an_zkpqc Tryz.func89 rfl ok_zkpqc.1 ok_zkpqc.2 (by simp [Tryz.ntmps89]) ?_
 rw [run_start]
 simp only [ac_zkpqc, go_sem, simprocAttr]
 (repeat' (first | (refine GifP.mk (fun _ => ?_) (fun _ => ?_)) | (refine Gif.mk (fun _ => ?_) (fun _ => ?_)))) <;> (simp only [retK, resD, retL, oneD, simprocAttr, Tryz.results89]; exact ⟨_, rfl, rfl, congrArg bln (by first | rfl | (rw [Bool.eq_iff_iff]; simp only [strSame]; (first | (simp; done) | (simp; omega) | (simp [*]; done) | (simp [*]; omega))) | (simp_all [strSame]; done) | (exfalso; omega))⟩)

theorem thing_route_3 (s : ByteArray) : Pure Tryz.prog 90 [str s] (fun d => d = bln (patMay s)) := by
 refine pure_of_run follows an_z4pg2 Tryz.func90 rfl ok_z4pg2.1 ok_z4pg2.2 (by simp [Tryz.ntmps90]) ?_
 rw [run_start]
 simp only [ac_z4pg2, go_sem, simprocAttr]
 (repeat' (first | (refine GifP.mk (fun _ => ?_) (fun _ => ?_)) | (refine Gif.mk (fun _ => ?_) (fun _ => ?_)) | (refine (host_May _).callW (enters_of Tryz.func91 rfl rfl) _ rfl rfl ?_; rintro _ rfl; try simp only [go_sem, simprocAttr]))) <;> (simp only [retK, resD, retL, oneD, simprocAttr, Tryz.results90]; exact ⟨_, rfl, rfl, congrArg bln (by first | rfl | (rw [Bool.eq_iff_iff]; simp only [patMay]; (first | (simp; done) | (simp; omega) | (simp [*]; done) | (simp [*]; omega))) | (simp_all [patMay]; done) | (exfalso; omega))⟩)

def notNaN (_ : Int) : Bool := false
def intLess (a b : Int) : Bool := decide (a < b)

theorem cmp_isNaN (a : Int) : Pure Tryz.prog 114 [int a] (fun d => d = bln (notNaN a)) := by
 refine pure_of_run follows an_zkuzu Tryz.func114 rfl ok_zkuzu.1 ok_zkuzu.2 (by simp [Tryz.ntmps114]) ?_
 rw [run_start]
 simp only [ac_zkuzu, go_sem, simprocAttr]
 (repeat' (first | (refine GifP.mk (fun _ => ?_) (fun _ => ?_)) | (refine Gif.mk (fun _ => ?_) (fun _ => ?_)))) <;> (simp only [retK, resD, retL, oneD, simprocAttr, Tryz.results114]; exact ⟨_, rfl, rfl, congrArg bln (by first | rfl | (rw [Bool.eq_iff_iff]; simp only [notNaN]; (first | (simp; done) | (simp; omega) | (simp [*]; done) | (simp [*]; omega))) | (simp_all [notNaN]; done) | (exfalso; omega))⟩)

theorem cmp_Less (a b : Int) : Pure Tryz.prog 125 [int a, int b] (fun d => d = bln (intLess a b)) := by
 refine pure_of_run follows an_zte1c Tryz.func125 rfl ok_zte1c.1 ok_zte1c.2 (by simp [Tryz.ntmps125]) ?_
 rw [run_start]
 simp only [ac_zte1c, go_sem, simprocAttr]
 refine (cmp_isNaN a).callW (enters_of Tryz.func114 rfl rfl) _ rfl rfl ?_
 rintro d rfl
 simp only [go_sem, simprocAttr, notNaN]
 simp only [retK, resD, retL, oneD, simprocAttr, Tryz.results125]
 exact ⟨_, rfl, rfl, rfl⟩

def mayRef (r : ARef) : Bool := if r.kind = 1 then decide (r.space = ⟨#[]⟩) && dname r.name else if r.kind = 2 then decide (r.space = ⟨#[]⟩) && label r.name else okind r.kind && label r.space && dname r.name

theorem object_MayRef (r : ARef) : Pure Tryz.prog 25 [r.d] (fun d => d = bln (mayRef r)) := by
 refine pure_of_run follows an_zkdrf Tryz.func25 rfl ok_zkdrf.1 ok_zkdrf.2 (by simp [Tryz.ntmps25]) ?_
 rw [run_start]
 simp only [ac_zkdrf, go_sem, simprocAttr]
 (repeat' (first | (refine GifP.mk (fun _ => ?_) (fun _ => ?_)) | (refine Gif.mk (fun _ => ?_) (fun _ => ?_)) | ((first | refine (object_kind _).callW (enters_of Tryz.func72 rfl rfl) _ rfl rfl ?_ | refine (dns_Label _).callW (enters_of Tryz.func71 rfl rfl) _ rfl rfl ?_ | refine (dns_Name _).callW (enters_of Tryz.func70 rfl rfl) _ rfl rfl ?_); rintro _ rfl; try simp only [go_sem, simprocAttr]))) <;> (simp only [retK, resD, retL, oneD, simprocAttr, Tryz.results25]; exact ⟨_, rfl, rfl, congrArg bln (by first | rfl | (rw [Bool.eq_iff_iff]; simp only [mayRef]; (first | (simp; done) | (simp; omega) | (simp [*]; done) | (simp [*]; omega))) | (simp_all [mayRef]; done) | (exfalso; omega))⟩)

def fewVals (n : ANeed) : Bool := decide (1 ≤ n.vals.length) && decide (n.vals.length ≤ 8) && !n.vals.any (fun s => !labValue s)

theorem label_asks_1 (s : ByteArray) : Pure Tryz.prog 212 [str s] (fun d => d = bln (!labValue s)) := by
 refine pure_of_run follows an_zuzx4 Tryz.func212 rfl ok_zuzx4.1 ok_zuzx4.2 (by simp [Tryz.ntmps212]) ?_
 rw [run_start]
 simp only [ac_zuzx4, go_sem, simprocAttr]
 (repeat' (first | (refine GifP.mk (fun _ => ?_) (fun _ => ?_)) | (refine Gif.mk (fun _ => ?_) (fun _ => ?_)) | (refine (label_value _).callW (enters_of Tryz.func122 rfl rfl) _ rfl rfl ?_; rintro _ rfl; try simp only [go_sem, simprocAttr]))) <;> (simp only [retK, resD, retL, oneD, simprocAttr, Tryz.results212]; exact ⟨_, rfl, rfl, congrArg bln (by first | rfl | (rw [Bool.eq_iff_iff]; simp only [labValue]; (first | (simp; done) | (simp; omega) | (simp [*]; done) | (simp [*]; omega))) | (simp_all [labValue]; done) | (exfalso; omega))⟩)

def asksD (n : ANeed) : D :=
 if dname n.name = false then .pd (.raw .nilIface)
 else if n.kind = 1 ∧ fewVals n = true then .pd (.iface 212 true [pStr n.name, .slice (strs n.vals)])
 else if n.kind = 2 ∧ fewVals n = true then .pd (.iface 214 true [pStr n.name, .slice (strs n.vals)])
 else if n.kind = 3 ∧ n.vals.length = 0 then .pd (.iface 215 false [pStr n.name])
 else if n.kind = 4 ∧ n.vals.length = 0 then .pd (.iface 217 true [pStr n.name])
 else .pd (.raw .nilIface)

def askMay (n : ANeed) : Bool := dname n.name && ((decide (n.kind = 1) && fewVals n) || (decide (n.kind = 2) && fewVals n) || (decide (n.kind = 3) && decide (n.vals.length = 0)) || (decide (n.kind = 4) && decide (n.vals.length = 0)))

set_option maxHeartbeats 2000000 in
theorem label_asks (n : ANeed) (hv : n.vals.length ≤ 1000000) : Pure Tryz.prog 171 [n.d] (fun d => d = asksD n) := by
 refine pure_of_run follows an_zyjit Tryz.func171 rfl ok_zyjit.1 ok_zyjit.2 (by simp [Tryz.ntmps171]) ?_
 rw [run_start]
 simp only [ac_zyjit, go_sem, simprocAttr]
 have key : ∀ b : Bool, fewVals n = b → ∀ d : D, (d = if dname n.name = false then .pd (.raw .nilIface)
  else if n.kind = 1 ∧ b = true then .pd (.iface 212 true [pStr n.name, .slice (strs n.vals)])
  else if n.kind = 2 ∧ b = true then .pd (.iface 214 true [pStr n.name, .slice (strs n.vals)])
  else if n.kind = 3 ∧ n.vals.length = 0 then .pd (.iface 215 false [pStr n.name])
  else if n.kind = 4 ∧ n.vals.length = 0 then .pd (.iface 217 true [pStr n.name])
  else .pd (.raw .nilIface)) → d = asksD n := fun b h d hd => by
  rw [hd]; unfold asksD; rw [h]
 refine GifP.mk (fun h1 => ?_) (fun h1 => ?_)
 ·refine GifP.mk (fun h2 => ?_) (fun h2 => ?_)
  ·refine (ContainsP_string (fun s => !labValue s) _ (enters_of Tryz.func212 rfl rfl) n.vals hv (fun s _ => label_asks_1 s)).callW (enters_of Tryz.func134 rfl rfl) _ rfl rfl ?_
   rintro d rfl
   have hf : fewVals n = !n.vals.any (fun s => !labValue s) := by
    have h3 : 1 ≤ n.vals.length := by omega
    have h4 : n.vals.length ≤ 8 := by omega
    simp [fewVals, h3, h4]
   obtain ⟨q, hq⟩ : ∃ q, n.vals.any (fun s => !labValue s) = q := ⟨_, rfl⟩
   rw [hq] at hf ⊢
   cases q
   all_goals
    have key' := key _ hf
    simp only [go_sem, simprocAttr]
    (repeat' (first | (refine GifP.mk (fun _ => ?_) (fun _ => ?_)) | (refine Gif.mk (fun _ => ?_) (fun _ => ?_)) | (refine (dns_Name _).callW (enters_of Tryz.func70 rfl rfl) _ rfl rfl ?_; rintro _ rfl; try simp only [go_sem, simprocAttr]))) <;> (simp only [retK, resD, retL, oneD, simprocAttr, Tryz.results171]; refine ⟨_, rfl, rfl, ?_⟩; refine key' _ ?_; clear key key'; dsimp only [D.pub]; (repeat' split) <;> first | rfl | (exfalso; omega) | (exfalso; simp_all; done) | (exfalso; simp_all; omega))
  ·have hf : fewVals n = false := by
    have h4 : ¬ n.vals.length ≤ 8 := by omega
    simp [fewVals, h4]
   have key' := key _ hf
   (repeat' (first | (refine GifP.mk (fun _ => ?_) (fun _ => ?_)) | (refine Gif.mk (fun _ => ?_) (fun _ => ?_)) | (refine (dns_Name _).callW (enters_of Tryz.func70 rfl rfl) _ rfl rfl ?_; rintro _ rfl; try simp only [go_sem, simprocAttr]))) <;> (simp only [retK, resD, retL, oneD, simprocAttr, Tryz.results171]; refine ⟨_, rfl, rfl, ?_⟩; refine key' _ ?_; clear key key'; dsimp only [D.pub]; (repeat' split) <;> first | rfl | (exfalso; omega) | (exfalso; simp_all; done) | (exfalso; simp_all; omega))
 ·have hf : fewVals n = false := by
   have h4 : ¬ 1 ≤ n.vals.length := by omega
   simp [fewVals, h4]
  have key' := key _ hf
  (repeat' (first | (refine GifP.mk (fun _ => ?_) (fun _ => ?_)) | (refine Gif.mk (fun _ => ?_) (fun _ => ?_)) | (refine (dns_Name _).callW (enters_of Tryz.func70 rfl rfl) _ rfl rfl ?_; rintro _ rfl; try simp only [go_sem, simprocAttr]))) <;> (simp only [retK, resD, retL, oneD, simprocAttr, Tryz.results171]; refine ⟨_, rfl, rfl, ?_⟩; refine key' _ ?_; clear key key'; dsimp only [D.pub]; (repeat' split) <;> first | rfl | (exfalso; omega) | (exfalso; simp_all; done) | (exfalso; simp_all; omega))

theorem askMay_isnil (n : ANeed) : (∃ t a cs, asksD n = .pd (.iface t a cs) ∧ askMay n = true) ∨ (asksD n = .pd (.raw .nilIface) ∧ askMay n = false) := by
 unfold asksD askMay
 repeat' split
 all_goals first
  | exact .inl ⟨_, _, _, rfl, by simp_all⟩
  | exact .inr ⟨rfl, by simp_all⟩

theorem label_Needs_1 (n : ANeed) (hv : n.vals.length ≤ 1000000) : Pure Tryz.prog 170 [n.d] (fun d => d = bln (!askMay n)) := by
 refine pure_of_run follows an_zdaaj Tryz.func170 rfl ok_zdaaj.1 ok_zdaaj.2 (by simp [Tryz.ntmps170]) ?_
 rw [run_start]
 simp only [ac_zdaaj, go_sem, simprocAttr]
 refine (label_asks n hv).callW (enters_of Tryz.func171 rfl rfl) _ rfl rfl ?_
 rintro d rfl
 rcases askMay_isnil n with ⟨t, a, cs, h1, h2⟩ | ⟨h1, h2⟩
 all_goals
  rw [h1]
  simp only [go_sem, simprocAttr]
  simp only [retK, resD, retL, oneD, simprocAttr, Tryz.results170]
  exact ⟨_, rfl, rfl, congrArg bln (by rw [h2]; rfl)⟩

def ANeed.ok (n : ANeed) : Prop := n.vals.length ≤ 1000000

def needsMay (l : List ANeed) : Bool := decide (l.length ≤ 8) && !l.any (fun n => !askMay n)

theorem label_Needs (l : List ANeed) (hl : l.length ≤ 1000000) (hv : ∀ n ∈ l, n.ok) : Pure Tryz.prog 130 [.pd (.slice (rows ANeed.pd l))] (fun d => d = bln (needsMay l)) := by
 refine pure_of_run follows an_zlask Tryz.func130 rfl ok_zlask.1 ok_zlask.2 (by simp [Tryz.ntmps130]) ?_
 rw [run_start]
 simp only [ac_zlask, go_sem, simprocAttr]
 (repeat' (first | (refine GifP.mk (fun _ => ?_) (fun _ => ?_)) | (refine Gif.mk (fun _ => ?_) (fun _ => ?_)) | (refine (ContainsP_Need (fun n => !askMay n) _ (enters_of Tryz.func170 rfl rfl) l hl (fun n hn => label_Needs_1 n (hv n hn))).callW (enters_of Tryz.func169 rfl rfl) _ rfl rfl ?_; rintro _ rfl; try simp only [go_sem, simprocAttr]))) <;> (simp only [retK, resD, retL, oneD, simprocAttr, Tryz.results130]; exact ⟨_, rfl, rfl, congrArg bln (by first | rfl | (rw [Bool.eq_iff_iff]; simp only [needsMay]; (first | (simp; done) | (simp; omega) | (simp [*]; done) | (simp [*]; omega))) | (simp_all [needsMay]; done) | (exfalso; omega))⟩)

def needSame (a b : ANeed) : Bool := decide (a.kind = b.kind) && decide (a.name = b.name) && decide (a.vals = b.vals)

theorem label_Same_1 (a b : ANeed) (ha : a.ok) (hb : b.ok) : Pure Tryz.prog 153 [a.d, b.d] (fun d => d = bln (needSame a b)) := by
 refine pure_of_run follows an_zvpxe Tryz.func153 rfl ok_zvpxe.1 ok_zvpxe.2 (by simp [Tryz.ntmps153]) ?_
 rw [run_start]
 simp only [ac_zvpxe, go_sem, simprocAttr]
 (repeat' (first | (refine GifP.mk (fun _ => ?_) (fun _ => ?_)) | (refine Gif.mk (fun _ => ?_) (fun _ => ?_)) | (refine (Equal_string a.vals b.vals ha hb).callW (enters_of Tryz.func47 rfl rfl) _ rfl rfl ?_; rintro _ rfl; try simp only [go_sem, simprocAttr]))) <;> (simp only [retK, resD, retL, oneD, simprocAttr, Tryz.results153]; exact ⟨_, rfl, rfl, congrArg bln (by first | rfl | (rw [Bool.eq_iff_iff]; simp only [needSame]; (first | (simp; done) | (simp; omega) | (simp [*]; done) | (simp [*]; omega))) | (simp_all [needSame]; done) | (exfalso; omega))⟩)

theorem label_Same (l m : List ANeed) (hl : l.length ≤ 1000000) (hm : m.length ≤ 1000000) (h1 : ∀ n ∈ l, n.ok) (h2 : ∀ n ∈ m, n.ok) : Pure Tryz.prog 106 [.pd (.slice (rows ANeed.pd l)), .pd (.slice (rows ANeed.pd m))] (fun d => d = bln (eqf needSame l m)) := by
 refine pure_of_run follows an_zx2gm Tryz.func106 rfl ok_zx2gm.1 ok_zx2gm.2 (by simp [Tryz.ntmps106]) ?_
 rw [run_start]
 simp only [ac_zx2gm, go_sem, simprocAttr]
 (repeat' (first | (refine GifP.mk (fun _ => ?_) (fun _ => ?_)) | (refine Gif.mk (fun _ => ?_) (fun _ => ?_)) | (refine (EqualFunc_Need needSame _ (enters_of Tryz.func153 rfl rfl) l m hl hm (fun x hx y hy => label_Same_1 x y (h1 x hx) (h2 y hy))).callW (enters_of Tryz.func152 rfl rfl) _ rfl rfl ?_; rintro _ rfl; try simp only [go_sem, simprocAttr]))) <;> (simp only [retK, resD, retL, oneD, simprocAttr, Tryz.results106]; exact ⟨_, rfl, rfl, congrArg bln (by first | rfl | (rw [Bool.eq_iff_iff]; simp only [id]; (first | (simp; done) | (simp; omega) | (simp [*]; done) | (simp [*]; omega))) | (simp_all [id]; done) | (exfalso; omega))⟩)


def valOct (b : UInt8) : Bool := decide (32 ≤ b.toNat) && decide (b.toNat ≤ 126)

def fvalue (s : ByteArray) : Bool := s.data.toList.all valOct && decide (s.size ≤ 40) && decide (trim s = s)

theorem pairs_Value (s : ByteArray) (hs : s.size ≤ 1000000) : Pure Tryz.prog 180 [str s] (fun d => d = bln (fvalue s)) := by
 refine pure_of_run follows an_z4wze Tryz.func180 rfl ok_z4wze.1 ok_z4wze.2 (by simp [Tryz.ntmps180]) ?_
 rw [run_start]
 simp only [ac_z4wze, go_sem, simprocAttr]
 refine loopS (fun k st => ∃ i : Nat, k = s.size - i ∧ i ≤ s.size ∧ (s.data.toList.drop i).all valOct = s.data.toList.all valOct ∧
  st = ⟨[(0, str s), (5, int s.size), (6, int i)], [], [], .no⟩) s.size _ (Weak.refl _ _) ⟨0, rfl, Nat.zero_le _, rfl, rfl⟩ ?_
 rintro k st ⟨i, rfl, hi, hr, rfl⟩
 by_cases hlt : i < s.size
 ·obtain ⟨b, hb, hd⟩ := byte_at hlt
  have hlt' : ((i : Int) < (s.size : Int)) = True := eq_true (by omega)
  rw [hd, List.all_cons] at hr
  have bad : valOct b = false → fvalue s = false := fun h => by
   rw [h, Bool.false_and] at hr
   simp only [fvalue, ← hr, Bool.false_and]
  have hw := i64_succ (show i < 1000000000 by omega)
  simp only [go_sem, simprocAttr, hlt', hb, hw]
  repeat' (first | refine GifP.mk (fun _ => ?_) (fun _ => ?_) | refine Gif.mk (fun _ => ?_) (fun _ => ?_))
  iterate 2
   ·simp only [retK, iterK, resD, retL, oneD, simprocAttr, Tryz.results180]
    exact ⟨_, rfl, rfl, congrArg bln (bad (by simp [valOct]; omega)).symm⟩
  ·have hg : valOct b = true := by simp [valOct]; omega
   rw [hg, Bool.true_and] at hr
   refine ⟨s.size - (i + 1), _, ?_, ?_, i + 1, rfl, ?_, hr, rfl⟩
   ·omega
   ·exact lessA
   ·omega
 ·have hlt' : ((i : Int) < (s.size : Int)) = False := eq_false (by omega)
  rw [byte_end hlt] at hr
  have hr' := hr.symm
  rw [List.all_nil] at hr'
  simp only [go_sem, simprocAttr, hlt']
  (repeat' (first | (refine GifP.mk (fun _ => ?_) (fun _ => ?_)) | (refine Gif.mk (fun _ => ?_) (fun _ => ?_)) | (refine (strings_Trim s hs).callW (enters_of Tryz.func216 rfl rfl) _ rfl rfl ?_; rintro _ rfl; try simp only [go_sem, simprocAttr]))) <;> (simp only [retK, iterK, resD, retL, oneD, simprocAttr, Tryz.results180]; exact ⟨_, rfl, rfl, congrArg bln (by first | rfl | (rw [Bool.eq_iff_iff]; simp only [fvalue, hr']; (first | (simp; done) | (simp; omega) | (simp [*]; done) | (simp [*]; omega))) | (simp_all [fvalue, hr']; done) | (exfalso; omega))⟩)

def foldSame (a b : ByteArray) : Bool := decide (fold a = fold b)

theorem pairs_Same (a b : ByteArray) (ha : a.size ≤ 1000000) (hb : b.size ≤ 1000000) : Pure Tryz.prog 185 [str a, str b] (fun d => d = bln (foldSame a b)) := by
 refine pure_of_run follows an_zrrew Tryz.func185 rfl ok_zrrew.1 ok_zrrew.2 (by simp [Tryz.ntmps185]) ?_
 rw [run_start]
 simp only [ac_zrrew, go_sem, simprocAttr]
 (repeat' (first | (refine GifP.mk (fun _ => ?_) (fun _ => ?_)) | (refine Gif.mk (fun _ => ?_) (fun _ => ?_)) | ((first | refine (dns_Fold a ha).callW (enters_of Tryz.func222 rfl rfl) _ rfl rfl ?_ | refine (dns_Fold b hb).callW (enters_of Tryz.func222 rfl rfl) _ rfl rfl ?_); rintro _ rfl; try simp only [go_sem, simprocAttr]))) <;> (simp only [retK, resD, retL, oneD, simprocAttr, Tryz.results185]; exact ⟨_, rfl, rfl, congrArg bln (by first | rfl | (rw [Bool.eq_iff_iff]; simp only [foldSame]; (first | (simp; done) | (simp; omega) | (simp [*]; done) | (simp [*]; omega))) | (simp_all [foldSame]; done) | (exfalso; omega))⟩)

def APair.ok (p : APair) : Prop := p.name.size ≤ 1000000 ∧ p.val.size ≤ 1000000
def AFilter.ok (f : AFilter) : Prop := f.name.size ≤ 1000000 ∧ f.val.size ≤ 1000000
structure AMatch.ok (m : AMatch) : Prop where
 hl : m.head.length ≤ 1000000
 ql : m.query.length ≤ 1000000
 h : ∀ p ∈ m.head, p.ok
 q : ∀ p ∈ m.query, p.ok

def pairOdd (p : APair) : Bool := !token p.name || !fvalue p.val

theorem rule_May_1 (p : APair) (h : p.ok) : Pure Tryz.prog 178 [p.d] (fun d => d = bln (pairOdd p)) := by
 refine pure_of_run follows an_zqrzx Tryz.func178 rfl ok_zqrzx.1 ok_zqrzx.2 (by simp [Tryz.ntmps178]) ?_
 rw [run_start]
 simp only [ac_zqrzx, go_sem, simprocAttr]
 (repeat' (first | (refine GifP.mk (fun _ => ?_) (fun _ => ?_)) | (refine Gif.mk (fun _ => ?_) (fun _ => ?_)) | ((first | refine (pairs_Token p.name h.1).callW (enters_of Tryz.func179 rfl rfl) _ rfl rfl ?_ | refine (pairs_Value p.val h.2).callW (enters_of Tryz.func180 rfl rfl) _ rfl rfl ?_); rintro _ rfl; try simp only [go_sem, simprocAttr]))) <;> (simp only [retK, resD, retL, oneD, simprocAttr, Tryz.results178]; exact ⟨_, rfl, rfl, congrArg bln (by first | rfl | (rw [Bool.eq_iff_iff]; simp only [pairOdd]; (first | (simp; done) | (simp; omega) | (simp [*]; done) | (simp [*]; omega))) | (simp_all [pairOdd]; done) | (exfalso; omega))⟩)

theorem rule_May_2 (a b : ByteArray) : Pure Tryz.prog 187 [str a, str b] (fun d => d = bln (strSame a b)) := by
 refine pure_of_run follows an_zwio7 Tryz.func187 rfl ok_zwio7.1 ok_zwio7.2 (by simp [Tryz.ntmps187]) ?_
 rw [run_start]
 simp only [ac_zwio7, go_sem, simprocAttr]
 (repeat' (first | (refine GifP.mk (fun _ => ?_) (fun _ => ?_)) | (refine Gif.mk (fun _ => ?_) (fun _ => ?_)))) <;> (simp only [retK, resD, retL, oneD, simprocAttr, Tryz.results187]; exact ⟨_, rfl, rfl, congrArg bln (by first | rfl | (rw [Bool.eq_iff_iff]; simp only [strSame]; (first | (simp; done) | (simp; omega) | (simp [*]; done) | (simp [*]; omega))) | (simp_all [strSame]; done) | (exfalso; omega))⟩)

theorem rule_twice_1 (q : ByteArray → ByteArray → Bool) (f : FuncId) (he : Enters Tryz.prog f) (x y : APair) (hp : Pure Tryz.prog f [str y.name, str x.name] (fun d => d = bln (q y.name x.name))) :
 PureB Tryz.prog 221 [y.d, .ptr 1000001 0, .ptr 1000002 0] [(1000001, [.fn f []]), (1000002, [str x.name, str x.val])] (fun d => d = bln (q y.name x.name)) := by
 refine pureB_of_run follows an_zpw6o Tryz.func221 rfl ok_zpw6o.1 ok_zpw6o.2 (by simp [Tryz.ntmps221]) ?_
 rw [run_start]
 simp only [ac_zpw6o, go_sem, simprocAttr]
 refine hp.callW he _ rfl rfl ?_
 rintro d rfl
 simp only [go_sem, simprocAttr]
 simp only [retK, resD, retL, oneD, simprocAttr, Tryz.results221]
 exact ⟨_, rfl, rfl, rfl⟩

def pairTwice (q : ByteArray → ByteArray → Bool) (l : List APair) : Bool := twice (fun x y => q y.name x.name) l

theorem rule_twice (q : ByteArray → ByteArray → Bool) (f : FuncId) (he : Enters Tryz.prog f) (l : List APair) (hl : l.length ≤ 1000000) (hp : ∀ x ∈ l, ∀ y ∈ l, Pure Tryz.prog f [str y.name, str x.name] (fun d => d = bln (q y.name x.name))) :
 Pure Tryz.prog 184 [.pd (.slice (rows APair.pd l)), .fn f []] (fun d => d = bln (pairTwice q l)) := by
 refine pure_of_run follows an_z6for Tryz.func184 rfl ok_z6for.1 ok_z6for.2 (by simp [Tryz.ntmps184]) ?_
 rw [run_start]
 simp only [ac_z6for, go_sem, simprocAttr]
 refine loopS (fun k st => ∃ i : Nat, k = l.length - i ∧ i ≤ l.length ∧ twiceFrom (fun x y : APair => q y.name x.name) l k i = pairTwice q l ∧
  st = ⟨[(0, .pd (.slice (rows APair.pd l))), (3, .ptr 3 0), (7, .pd (.slice (rows APair.pd l))), (8, int l.length), (9, int i)], [(3, [.fn f []])], [], .no⟩) l.length _ (Weak.refl _ _) ⟨0, rfl, Nat.zero_le _, rfl, rfl⟩ ?_
 rintro k st ⟨i, rfl, hi, hr, rfl⟩
 by_cases hlt : i < l.length
 ·obtain ⟨x, hx⟩ := at_lt hlt
  have hlt' : ((i : Int) < (l.length : Int)) = True := eq_true (by omega)
  have hle : (i ≤ l.length) = True := eq_true (by omega)
  have hw := i64_succ (show i < 1000000000 by omega)
  have hmx := List.mem_of_getElem? hx
  obtain ⟨m, hm⟩ : ∃ m, l.length - i = m + 1 := ⟨l.length - i - 1, by omega⟩
  rw [hm, twiceFrom, hx] at hr
  have hrows : rowsOK 2 (rows APair.pd l) = True := rowsOK_rows (f := APair.pd) (n := 2) (fun _ => rfl) l
  have htk : (rows APair.pd l).take i = rows APair.pd (l.take i) := by simp [rows, List.map_take]
  simp only [go_sem, simprocAttr, hlt', rows_get hx, rows_len, hrows, hle, htk]
  refine (ContainsFunc_Pair (fun y => q y.name x.name) 221 (enters_of Tryz.func221 rfl rfl) [(1000001, 0), (1000002, 0)] [(1000001, [.fn f []]), (1000002, [str x.name, str x.val])] (Cl.of rfl rfl rfl rfl rfl) (l.take i) (by simp; omega)
   (fun y hy => rule_twice_1 q f he x y (hp x hmx y (List.mem_of_mem_take hy)))).callW (enters_of Tryz.func183 rfl rfl) _ [(3, 1000001), (6, 1000002)] rfl rfl rfl ?_
  rintro d rfl
  simp only [go_sem, simprocAttr, hw]
  refine Gif.mk (fun h => ?_) (fun h => ?_)
  ·simp only [h, Bool.true_or] at hr
   simp only [retK, resD, retL, oneD, simprocAttr, Tryz.results184]
   exact ⟨_, rfl, rfl, congrArg bln hr⟩
  ·simp only [h, Bool.false_or] at hr
   refine ⟨m, _, ?_, ?_, i + 1, ?_, ?_, hr, rfl⟩
   ·omega
   ·exact lessA
   ·omega
   ·omega
 ·have hlt' : ((i : Int) < (l.length : Int)) = False := eq_false (by omega)
  rw [show l.length - i = 0 by omega, twiceFrom] at hr
  simp only [go_sem, simprocAttr, hlt']
  simp only [retK, resD, retL, oneD, simprocAttr, Tryz.results184]
  exact ⟨_, rfl, rfl, congrArg bln hr⟩

def matchMay (m : AMatch) : Bool :=
 pathMay m.pkind m.pval && (decide (m.method = ⟨#[]⟩) || method m.method) && decide (m.head.length ≤ 8) && !m.head.any pairOdd && !pairTwice foldSame m.head && decide (m.query.length ≤ 8) && queryMay m.query && !pairTwice strSame m.query

set_option maxHeartbeats 1000000 in
theorem rule_May (m : AMatch) (h : m.ok) : Pure Tryz.prog 142 [m.d] (fun d => d = bln (matchMay m)) := by
 refine pure_of_run follows an_zi87h Tryz.func142 rfl ok_zi87h.1 ok_zi87h.2 (by simp [Tryz.ntmps142]) ?_
 rw [run_start]
 simp only [ac_zi87h, go_sem, simprocAttr]
 (repeat' (first | (refine GifP.mk (fun _ => ?_) (fun _ => ?_)) | (refine Gif.mk (fun _ => ?_) (fun _ => ?_)) | ((first | refine (path_May _ _).callW (enters_of Tryz.func181 rfl rfl) _ rfl rfl ?_ | refine (rule_Method _).callW (enters_of Tryz.func182 rfl rfl) _ rfl rfl ?_ | refine (ContainsP_Pair pairOdd _ (enters_of Tryz.func178 rfl rfl) m.head h.hl (fun p hp => rule_May_1 p (h.h p hp))).callW (enters_of Tryz.func183 rfl rfl) _ rfl rfl ?_ | refine (rule_twice foldSame _ (enters_of Tryz.func185 rfl rfl) m.head h.hl (fun x hx y hy => pairs_Same _ _ (h.h y hy).1 (h.h x hx).1)).callW (enters_of Tryz.func184 rfl rfl) _ rfl rfl ?_ | refine (rule_twice strSame _ (enters_of Tryz.func187 rfl rfl) m.query h.ql (fun x hx y hy => rule_May_2 _ _)).callW (enters_of Tryz.func184 rfl rfl) _ rfl rfl ?_ | refine (query_May m.query h.ql).callW (enters_of Tryz.func186 rfl rfl) _ rfl rfl ?_); rintro _ rfl; try simp only [go_sem, simprocAttr]))) <;> (simp only [retK, resD, retL, oneD, simprocAttr, Tryz.results142]; exact ⟨_, rfl, rfl, congrArg bln (by first | rfl | (rw [Bool.eq_iff_iff]; simp only [matchMay]; (first | (simp; done) | (simp; omega) | (simp [*]; done) | (simp [*]; omega))) | (simp_all [matchMay]; done) | (exfalso; omega))⟩)

def matchSame (a b : AMatch) : Bool := decide (a.pkind = b.pkind) && decide (a.pval = b.pval) && decide (a.method = b.method) && decide (a.head = b.head) && decide (a.query = b.query)

theorem rule_Same (a b : AMatch) (ha : a.ok) (hb : b.ok) : Pure Tryz.prog 108 [a.d, b.d] (fun d => d = bln (matchSame a b)) := by
 refine pure_of_run follows an_zb37x Tryz.func108 rfl ok_zb37x.1 ok_zb37x.2 (by simp [Tryz.ntmps108]) ?_
 rw [run_start]
 simp only [ac_zb37x, go_sem, simprocAttr, eqVs, eqV]
 (repeat' (first | (refine GifP.mk (fun _ => ?_) (fun _ => ?_)) | (refine Gif.mk (fun _ => ?_) (fun _ => ?_)) | ((first | refine (Equal_Pair a.head b.head ha.hl hb.hl).callW (enters_of Tryz.func45 rfl rfl) _ rfl rfl ?_ | refine (Equal_Pair a.query b.query ha.ql hb.ql).callW (enters_of Tryz.func45 rfl rfl) _ rfl rfl ?_); rintro _ rfl; try simp only [go_sem, simprocAttr, eqVs, eqV]))) <;> (simp only [retK, resD, retL, oneD, simprocAttr, Tryz.results108]; exact ⟨_, rfl, rfl, congrArg bln (by first | rfl | (rw [Bool.eq_iff_iff]; simp only [matchSame]; (first | (simp; done) | (simp; omega) | (simp [*]; done) | (simp [*]; omega))) | (simp_all [matchSame]; done) | (exfalso; omega))⟩)


theorem get_byte {s : ByteArray} {i : Nat} {b : UInt8} (h : s[i]? = some b) : s.get! i = b := by
 rw [bytes_get] at h
 have h1 : s.data[i]? = some b := by rw [← Array.getElem?_toList]; exact h
 simp only [ByteArray.get!]
 rw [getElem!_def, h1]

theorem decode_low {s : ByteArray} {i : Nat} {b : UInt8} (h : s[i]? = some b) (hb : b.toNat < 128) : Utf8.decode s i = (b.toNat, 1) := by
 rw [Lib.decode_at, get_byte h, Lib.decodeN, if_pos hb]

theorem decode_high {s : ByteArray} {i : Nat} {b : UInt8} (h : s[i]? = some b) (hb : ¬ b.toNat < 128) : 128 ≤ (Utf8.decode s i).1 := by
 rw [Lib.decode_at, get_byte h, Lib.decodeN, if_neg hb]
 repeat' split
 all_goals first | omega | (simp only []; omega)

theorem runeAll_bytes {p : Int → Bool} (hp : ∀ c, 128 ≤ c → p c = false) (s : ByteArray) : ∀ (k pos : Nat), s.size ≤ pos + k → runeAll p s k pos = (s.data.toList.drop pos).all fun b => p b.toNat
 | 0, pos, h => by
   rw [byte_end (by omega)]
   rfl
 | k + 1, pos, h => by
   by_cases hlt : pos < s.size
   ·obtain ⟨b, hb, hd⟩ := byte_at hlt
    rw [hd, List.all_cons]
    simp only [runeAll, hlt, if_true]
    by_cases h1 : b.toNat < 128
    ·rw [decode_low hb h1, runeAll_bytes hp s k (pos + 1) (by omega)]
    ·have h2 := decode_high hb h1
     rw [hp _ (by omega), hp (b.toNat : Int) (by omega)]
     simp
   ·rw [runeAll_end hlt, byte_end hlt]
    rfl

theorem runeIdx_all (p : Int → Bool) (s : ByteArray) : ∀ (k pos : Nat), (runeIdx (fun c => !p c) s k pos < 0) = (runeAll p s k pos = true)
 | 0, pos => by simp [runeIdx, runeAll]
 | k + 1, pos => by
   simp only [runeIdx, runeAll]
   split
   ·obtain ⟨q, hq⟩ : ∃ q, p (Utf8.decode s pos).1 = q := ⟨_, rfl⟩
    cases q with
    | false => simp only [hq, Bool.not_false, if_true, Bool.false_and, Bool.false_eq_true, eq_iff_iff, iff_false]; omega
    | true =>
      simp only [hq, Bool.not_true, Bool.false_eq_true, if_false, Bool.true_and]
      exact runeIdx_all p s k _
   ·simp

theorem idx_none {p : Int → Bool} (hp : ∀ c, 128 ≤ c → p c = false) (s : ByteArray) : decide (runeIdx (fun c => !p c) s s.size 0 < 0) = s.data.toList.all fun b => p b.toNat := by
 rw [Bool.eq_iff_iff, decide_eq_true_eq, runeIdx_all, runeAll_bytes hp s s.size 0 (by omega)]
 rfl

theorem all_bytes {s : ByteArray} {p : UInt8 → Bool} : s.data.toList.all p = true ↔ ∀ (j : Nat) (b : UInt8), s[j]? = some b → p b = true := by
 rw [List.all_eq_true]
 constructor
 ·intro h j b hb
  rw [bytes_get] at hb
  exact h b (List.mem_of_getElem? hb)
 ·intro h b hb
  obtain ⟨j, hj⟩ := List.getElem?_of_mem hb
  exact h j b (by rw [bytes_get]; exact hj)

def labAt (n j : Nat) (b : UInt8) : Bool := ((decide (97 ≤ b.toNat) && decide (b.toNat ≤ 122)) || (decide (48 ≤ b.toNat) && decide (b.toNat ≤ 57))) || (decide (b.toNat = 45) && !(decide (j = 0) || decide (j + 1 = n)))

theorem size0 {s : ByteArray} : s = ⟨#[]⟩ ↔ s.size = 0 := by
 constructor
 ·intro h; rw [h]; rfl
 ·intro h
  have : s.data = #[] := Array.eq_empty_of_size_eq_zero h
  cases s; simp_all

theorem label_iff (s : ByteArray) : label s = true ↔ 1 ≤ s.size ∧ s.size ≤ 20 ∧ ∀ (j : Nat) (b : UInt8), s[j]? = some b → labAt s.size j b = true := by
 have ho : ∀ c : Int, 128 ≤ c → octet c = false := fun c h => by simp [octet]; omega
 simp only [label, idx_none ho, Bool.and_eq_true, Bool.not_eq_true', decide_eq_true_eq, decide_eq_false_iff_not, size0, all_bytes]
 constructor
 ·rintro ⟨⟨⟨⟨h1, h2⟩, h3⟩, h4⟩, h5⟩
  refine ⟨by omega, h2, fun j b hb => ?_⟩
  have h6 := h3 j b hb
  simp only [octet, Bool.or_eq_true, Bool.and_eq_true, decide_eq_true_eq] at h6
  simp only [labAt, Bool.or_eq_true, Bool.and_eq_true, decide_eq_true_eq, Bool.not_eq_true', Bool.or_eq_false_iff, decide_eq_false_iff_not]
  by_cases e : b.toNat = 45
  ·right
   refine ⟨e, fun e0 => ?_, fun e1 => ?_⟩
   ·subst e0
    rw [hb] at h4
    simp [e] at h4
   ·have : j = s.size - 1 := by omega
    rw [← this, hb] at h5
    simp [e] at h5
  ·left
   omega
 ·rintro ⟨h1, h2, h3⟩
  refine ⟨⟨⟨⟨by omega, h2⟩, fun j b hb => ?_⟩, ?_⟩, ?_⟩
  ·have h6 := h3 j b hb
   simp only [labAt, Bool.or_eq_true, Bool.and_eq_true, decide_eq_true_eq] at h6
   simp only [octet, Bool.or_eq_true, Bool.and_eq_true, decide_eq_true_eq]
   omega
  ·obtain ⟨b, hb⟩ := at_byte (show 0 < s.size by omega)
   have h6 := h3 0 b hb
   rw [hb]
   simp [labAt] at h6 ⊢
   omega
  ·obtain ⟨b, hb⟩ := at_byte (show s.size - 1 < s.size by omega)
   have h6 := h3 _ b hb
   rw [hb]
   have : s.size - 1 + 1 = s.size := by omega
   simp [labAt, this] at h6 ⊢
   omega

def stepR (c : UInt8) (out : List ByteArray) (b : UInt8) : List ByteArray :=
 if b = c then out ++ [⟨#[]⟩] else out.set (out.length - 1) (out.getD (out.length - 1) default ++ ⟨#[b]⟩)

def splitR (c : UInt8) (l : List UInt8) : List ByteArray := l.foldl (stepR c) [⟨#[]⟩]

def partsL (c : UInt8) : ByteArray → List UInt8 → List ByteArray
 | cur, [] => [cur]
 | cur, b :: l => if b = c then cur :: partsL c ⟨#[]⟩ l else partsL c (cur ++ ⟨#[b]⟩) l

theorem foldl_parts (c : UInt8) : ∀ (l : List UInt8) (pre : List ByteArray) (cur : ByteArray), l.foldl (stepR c) (pre ++ [cur]) = pre ++ partsL c cur l
 | [], _, _ => rfl
 | b :: l, pre, cur => by
   simp only [List.foldl_cons, partsL]
   by_cases e : b = c
   ·simp only [stepR, e, if_true]
    rw [foldl_parts c l (pre ++ [cur]) ⟨#[]⟩, List.append_assoc]
    rfl
   ·simp only [stepR, e, if_false]
    have h1 : (pre ++ [cur]).length - 1 = pre.length := by simp
    rw [h1, List.getD_eq_getElem?_getD, List.getElem?_append_right (Nat.le_refl _), Nat.sub_self, List.set_append_right _ _ (Nat.le_refl _), Nat.sub_self]
    exact foldl_parts c l pre (cur ++ ⟨#[b]⟩)

theorem app_assoc (a b c : ByteArray) : a ++ b ++ c = a ++ (b ++ c) := ByteArray.append_assoc
theorem app_nil (a : ByteArray) : a ++ ⟨#[]⟩ = a := by
 apply ByteArray.ext
 simp
theorem app_list (a : ByteArray) (b : UInt8) (l : List UInt8) : a ++ ⟨#[b]⟩ ++ ⟨l.toArray⟩ = a ++ ⟨(b :: l).toArray⟩ := by
 rw [app_assoc]
 congr 1

theorem partsL_eq (c : UInt8) : ∀ (l : List UInt8) (cur : ByteArray),
 partsL c cur l = if Lib.indexByte l c < 0 then [cur ++ ⟨l.toArray⟩] else (cur ++ ⟨(l.take (Lib.indexByte l c).toNat).toArray⟩) :: partsL c ⟨#[]⟩ (l.drop ((Lib.indexByte l c).toNat + 1))
 | [], cur => by
   have h : Lib.indexByte [] c < 0 := by simp [Lib.indexByte]
   rw [if_pos h]
   simp only [partsL, app_nil]
 | b :: l, cur => by
   have hg := Lib.indexByte_ge l c
   have hi : Lib.indexByte (b :: l) c = if b == c then 0 else if Lib.indexByte l c == -1 then -1 else Lib.indexByte l c + 1 := rfl
   simp only [beq_iff_eq] at hi
   simp only [partsL]
   by_cases e : b = c
   ·rw [if_pos e] at hi
    rw [hi]
    simp [e, app_nil]
   ·rw [if_neg e] at hi
    rw [if_neg e, partsL_eq c l (cur ++ ⟨#[b]⟩)]
    by_cases h : Lib.indexByte l c = -1
    ·rw [if_pos h] at hi
     rw [if_pos (by omega), hi, if_pos (by decide), app_list]
    ·rw [if_neg h] at hi
     have hn : ¬ Lib.indexByte l c < 0 := by omega
     have h1 : (Lib.indexByte l c + 1).toNat = (Lib.indexByte l c).toNat + 1 := by omega
     rw [hi, if_neg hn, if_neg (by omega), h1, List.take_succ_cons, List.drop_succ_cons, app_list]

theorem extract_list (s : ByteArray) (i j : Nat) : s.extract i j = ⟨((s.data.toList.take j).drop i).toArray⟩ := by
 apply ByteArray.ext
 rw [ByteArray.data_extract]
 apply Array.ext'
 simp [List.drop_take]

theorem parts_splitB (c : UInt8) : ∀ (k : Nat) (s : ByteArray), s.size ≤ k → partsL c ⟨#[]⟩ s.data.toList = splitB c k s
 | 0, s, h => by
   have hs : s.data.toList = [] := List.eq_nil_of_length_eq_zero (by rw [size_list]; omega)
   rw [hs]
   have := size0.2 (show s.size = 0 by omega)
   simp only [partsL, splitB, this]
 | k + 1, s, h => by
   rw [partsL_eq]
   simp only [splitB]
   have e0 : ∀ l : List UInt8, (⟨#[]⟩ : ByteArray) ++ ⟨l.toArray⟩ = ⟨l.toArray⟩ := fun l => by apply ByteArray.ext; simp
   split
   ·rw [e0]
   ·rename_i hn
    have hlt := (indexByte_lt s.data.toList c).resolve_left hn
    rw [size_list] at hlt
    rw [e0, extract_list s 0, List.drop_zero]
    congr 1
    rw [← parts_splitB c k (s.extract ((Lib.indexByte s.data.toList c).toNat + 1) s.size) (by rw [ByteArray.size_extract]; omega)]
    rw [extract_list]
    simp only [List.take_of_length_le (show s.data.toList.length ≤ s.size from Nat.le_of_eq (size_list s))]

theorem splitR_eq (c : UInt8) (s : ByteArray) : splitR c s.data.toList = splitB c s.size s := by
 rw [← parts_splitB c s.size s (Nat.le_refl _)]
 exact foldl_parts c s.data.toList [] ⟨#[]⟩

theorem splitR_step (c : UInt8) {s : ByteArray} {i : Nat} {b : UInt8} (hb : s[i]? = some b) : splitR c (s.data.toList.take (i + 1)) = stepR c (splitR c (s.data.toList.take i)) b := by
 rw [take_at (by rw [← bytes_get]; exact hb)]
 unfold splitR
 rw [List.foldl_append]
 rfl

theorem stepR_len (c : UInt8) (out : List ByteArray) (b : UInt8) : out.length ≤ (stepR c out b).length ∧ (stepR c out b).length ≤ out.length + 1 := by
 unfold stepR
 split <;> simp

theorem splitR_len (c : UInt8) (l : List UInt8) : 1 ≤ (splitR c l).length ∧ (splitR c l).length ≤ l.length + 1 := by
 unfold splitR
 suffices h : ∀ (l : List UInt8) (out : List ByteArray), out.length ≤ (l.foldl (stepR c) out).length ∧ (l.foldl (stepR c) out).length ≤ l.length + out.length from by
  have := h l [⟨#[]⟩]
  simpa using this
 intro l
 induction l with
 | nil => intro out; simp
 | cons b l ih =>
   intro out
   have h1 := ih (stepR c out b)
   have h2 := stepR_len c out b
   simp only [List.foldl_cons, List.length_cons]
   omega

theorem stepR_size (c : UInt8) {out : List ByteArray} {b : UInt8} {n : Nat} (h : ∀ x ∈ out, x.size ≤ n) : ∀ x ∈ stepR c out b, x.size ≤ n + 1 := by
 intro x hx
 unfold stepR at hx
 split at hx
 ·rcases List.mem_append.1 hx with h1 | h1
  ·have := h x h1; omega
  ·simp only [List.mem_singleton] at h1
   subst h1
   exact Nat.zero_le _
 ·rcases List.mem_or_eq_of_mem_set hx with h1 | h1
  ·have := h x h1; omega
  ·subst h1
   rw [ByteArray.size_append]
   have h2 : (out.getD (out.length - 1) default).size ≤ n := by
    rw [List.getD_eq_getElem?_getD]
    cases h3 : out[out.length - 1]? with
    | none => exact Nat.zero_le _
    | some y => exact h y (List.mem_of_getElem? h3)
   have h4 : (ByteArray.mk #[b]).size = 1 := rfl
   omega

theorem splitR_size (c : UInt8) (l : List UInt8) : ∀ x ∈ splitR c l, x.size ≤ l.length := by
 unfold splitR
 suffices h : ∀ (l : List UInt8) (out : List ByteArray) (n : Nat), (∀ x ∈ out, x.size ≤ n) → ∀ x ∈ l.foldl (stepR c) out, x.size ≤ n + l.length from by
  have := h l [⟨#[]⟩] 0 (fun x hx => by simp only [List.mem_singleton] at hx; subst hx; exact Nat.zero_le _)
  simpa using this
 intro l
 induction l with
 | nil => intro out n h; simpa using h
 | cons b l ih =>
   intro out n h x hx
   have := ih (stepR c out b) (n + 1) (stepR_size c h) x hx
   simp only [List.length_cons]
   omega

theorem byte_one {s : ByteArray} {i : Nat} {b : UInt8} (hb : s[i]? = some b) : s.extract i (i + 1) = ⟨#[b]⟩ := by
 rw [extract_list, take_at (by rw [← bytes_get]; exact hb)]
 have hi : i < s.data.toList.length := (List.getElem?_eq_some_iff.1 ((bytes_get s i).symm.trans hb)).1
 rw [List.drop_append_of_le_length (by rw [List.length_take]; omega), List.drop_eq_nil_of_le (by rw [List.length_take]; omega)]
 rfl


def fturner (f : AFilter) : Bool := decide (f.kind = 4) || decide (f.kind = 5)

theorem filter_turner (f : AFilter) : Pure Tryz.prog 189 [f.d] (fun d => d = bln (fturner f)) := by
 refine pure_of_run follows an_zm6be Tryz.func189 rfl ok_zm6be.1 ok_zm6be.2 (by simp [Tryz.ntmps189]) ?_
 rw [run_start]
 simp only [ac_zm6be, go_sem, simprocAttr]
 (repeat' (first | (refine GifP.mk (fun _ => ?_) (fun _ => ?_)) | (refine Gif.mk (fun _ => ?_) (fun _ => ?_)))) <;> (simp only [retK, resD, retL, oneD, simprocAttr, Tryz.results189]; exact ⟨_, rfl, rfl, congrArg bln (by first | rfl | (rw [Bool.eq_iff_iff]; simp only [fturner]; (first | (simp; done) | (simp; omega) | (simp [*]; done) | (simp [*]; omega))) | (simp_all [fturner]; done) | (exfalso; omega))⟩)

def fturns (f : AFilter) : Bool :=
 !(!decide (f.host = ⟨#[]⟩) && !dname f.host) && (if f.path = ⟨#[]⟩ then !f.whole else if f.whole = true then pathIs f.path else pathMay 2 f.path)

theorem filter_turns (f : AFilter) : Pure Tryz.prog 223 [f.d] (fun d => d = bln (fturns f)) := by
 refine pure_of_run follows an_z3d8y Tryz.func223 rfl ok_z3d8y.1 ok_z3d8y.2 (by simp [Tryz.ntmps223]) ?_
 rw [run_start]
 simp only [ac_z3d8y, go_sem, simprocAttr]
 (repeat' (first | (refine GifP.mk (fun _ => ?_) (fun _ => ?_)) | (refine Gif.mk (fun _ => ?_) (fun _ => ?_)) | ((first | refine (dns_Name _).callW (enters_of Tryz.func70 rfl rfl) _ rfl rfl ?_ | refine (path_Is _).callW (enters_of Tryz.func217 rfl rfl) _ rfl rfl ?_ | refine (path_May _ _).callW (enters_of Tryz.func181 rfl rfl) _ rfl rfl ?_); rintro _ rfl; try simp only [go_sem, simprocAttr]))) <;> (simp only [retK, resD, retL, oneD, simprocAttr, Tryz.results223]; exact ⟨_, rfl, rfl, congrArg bln (by first | rfl | (rw [Bool.eq_iff_iff]; simp only [fturns]; (first | (simp; done) | (simp; omega) | (simp [*]; done) | (simp [*]; omega))) | (simp_all [fturns]; done) | (exfalso; omega))⟩)

def fzero (n v h p t w c : Bool) (f : AFilter) : Bool :=
 (n || decide (f.name = ⟨#[]⟩)) && (v || decide (f.val = ⟨#[]⟩)) && (h || decide (f.host = ⟨#[]⟩)) && (p || decide (f.port = 0)) && (t || decide (f.path = ⟨#[]⟩)) && (w || !f.whole) && (c || decide (f.code = 0))

def filterMay (f : AFilter) : Bool :=
 if f.kind = 1 ∨ f.kind = 2 then fzero true true false false false false false f && token f.name && fvalue f.val
 else if f.kind = 3 then fzero true false false false false false false f && token f.name
 else if f.kind = 4 then decide (f.name = ⟨#[]⟩) && decide (f.val = ⟨#[]⟩) && fturns f && decide (0 ≤ f.port) && decide (f.port ≤ 65535) && (decide (f.code = 301) || decide (f.code = 302))
 else if f.kind = 5 then fzero false false true false true true false f && fturns f && (!decide (f.host = ⟨#[]⟩) || !decide (f.path = ⟨#[]⟩))
 else false

theorem beq_self_true {b : Bool} : (b == b) = true := by cases b <;> rfl

set_option maxHeartbeats 1000000 in
theorem filter_May (f : AFilter) (h : f.ok) : Pure Tryz.prog 190 [f.d] (fun d => d = bln (filterMay f)) := by
 refine pure_of_run follows an_zhj59 Tryz.func190 rfl ok_zhj59.1 ok_zhj59.2 (by simp [Tryz.ntmps190]) ?_
 rw [run_start]
 simp only [ac_zhj59, go_sem, simprocAttr, eqVs, eqV, beq_self_true]
 (repeat' (first | (refine GifP.mk (fun _ => ?_) (fun _ => ?_)) | (refine Gif.mk (fun _ => ?_) (fun _ => ?_)) | ((first | refine (pairs_Token f.name h.1).callW (enters_of Tryz.func179 rfl rfl) _ rfl rfl ?_ | refine (pairs_Value f.val h.2).callW (enters_of Tryz.func180 rfl rfl) _ rfl rfl ?_ | refine (filter_turns f).callW (enters_of Tryz.func223 rfl rfl) _ rfl rfl ?_); rintro _ rfl; try simp only [go_sem, simprocAttr, eqVs, eqV, beq_self_true]))) <;> (simp only [retK, resD, retL, oneD, simprocAttr, Tryz.results190]; exact ⟨_, rfl, rfl, congrArg bln (by first | rfl | (rw [Bool.eq_iff_iff]; simp only [filterMay, fzero]; (first | (simp; done) | (simp; omega) | (simp [*]; done) | (simp [*]; omega))) | (simp_all [filterMay, fzero]; done) | (exfalso; omega))⟩)

def likeF (f x : AFilter) : Bool := (fturner x && fturner f) || (decide (x.kind = f.kind) && foldSame x.name f.name)

abbrev AFilter.ds (f : AFilter) : List D := [int f.kind, str f.name, str f.val, str f.host, int f.port, str f.path, bln f.whole, int f.code]

theorem filter_All_1 (f x : AFilter) (hf : f.ok) (hx : x.ok) : PureB Tryz.prog 188 [x.d, .ptr 1000001 0] [(1000001, f.ds)] (fun d => d = bln (likeF f x)) := by
 refine pureB_of_run follows an_z38ed Tryz.func188 rfl ok_z38ed.1 ok_z38ed.2 (by simp [Tryz.ntmps188]) ?_
 rw [run_start]
 simp only [ac_z38ed, go_sem, simprocAttr]
 (repeat' (first | (refine GifP.mk (fun _ => ?_) (fun _ => ?_)) | (refine Gif.mk (fun _ => ?_) (fun _ => ?_)) | ((first | refine (filter_turner x).callW (enters_of Tryz.func189 rfl rfl) _ rfl rfl ?_ | refine (filter_turner f).callW (enters_of Tryz.func189 rfl rfl) _ rfl rfl ?_ | refine (pairs_Same _ _ hx.1 hf.1).callW (enters_of Tryz.func185 rfl rfl) _ rfl rfl ?_); rintro _ rfl; try simp only [go_sem, simprocAttr]))) <;> (simp only [retK, resD, retL, oneD, simprocAttr, Tryz.results188]; exact ⟨_, rfl, rfl, congrArg bln (by first | rfl | (rw [Bool.eq_iff_iff]; simp only [likeF]; (first | (simp; done) | (simp; omega) | (simp [*]; done) | (simp [*]; omega))) | (simp_all [likeF]; done) | (exfalso; omega))⟩)

def filtersFrom (l : List AFilter) : Nat → Nat → Bool
 | 0, _ => true
 | k + 1, i => (match l[i]? with
   | some f => filterMay f && !(l.take i).any (likeF f)
   | none => true) && filtersFrom l k (i + 1)

def filtersAll (l : List AFilter) : Bool := filtersFrom l l.length 0 && decide (l.length ≤ 8)

theorem filter_All (l : List AFilter) (hl : l.length ≤ 1000000) (ho : ∀ f ∈ l, f.ok) : Pure Tryz.prog 143 [.pd (.slice (rows AFilter.pd l))] (fun d => d = bln (filtersAll l)) := by
 refine pure_of_run follows an_zhmnj Tryz.func143 rfl ok_zhmnj.1 ok_zhmnj.2 (by simp [Tryz.ntmps143]) ?_
 rw [run_start]
 simp only [ac_zhmnj, go_sem, simprocAttr]
 refine loopS (fun k st => ∃ i : Nat, k = l.length - i ∧ i ≤ l.length ∧ filtersFrom l k i = filtersFrom l l.length 0 ∧
  st = ⟨[(0, .pd (.slice (rows AFilter.pd l))), (6, .pd (.slice (rows AFilter.pd l))), (7, int l.length), (8, int i)], [], [], .no⟩) l.length _ (Weak.refl _ _) ⟨0, rfl, Nat.zero_le _, rfl, rfl⟩ ?_
 rintro k st ⟨i, rfl, hi, hr, rfl⟩
 by_cases hlt : i < l.length
 ·obtain ⟨x, hx⟩ := at_lt hlt
  have hlt' : ((i : Int) < (l.length : Int)) = True := eq_true (by omega)
  have hle : (i ≤ l.length) = True := eq_true (by omega)
  have hw := i64_succ (show i < 1000000000 by omega)
  have hmx := List.mem_of_getElem? hx
  obtain ⟨m, hm⟩ : ∃ m, l.length - i = m + 1 := ⟨l.length - i - 1, by omega⟩
  rw [hm, filtersFrom, hx] at hr
  have hrows : rowsOK 8 (rows AFilter.pd l) = True := rowsOK_rows (f := AFilter.pd) (n := 8) (fun _ => rfl) l
  have htk : (rows AFilter.pd l).take i = rows AFilter.pd (l.take i) := by simp [rows, List.map_take]
  have bad : filtersFrom l l.length 0 = false → filtersAll l = false := fun h => by simp [filtersAll, h]
  simp only [go_sem, simprocAttr, hlt', rows_get hx, rows_len, hrows, hle, htk]
  refine (filter_May x (ho x hmx)).callW (enters_of Tryz.func190 rfl rfl) _ rfl rfl ?_
  rintro d rfl
  simp only [go_sem, simprocAttr, hrows, hle, htk, rows_len]
  refine Gif.mk (fun h => ?_) (fun h => ?_)
  ·refine (ContainsFunc_Filter (likeF x) 188 (enters_of Tryz.func188 rfl rfl) [(1000001, 0)] [(1000001, x.ds)] (Cl.of rfl rfl rfl rfl rfl) (l.take i) (by simp; omega)
    (fun y hy => filter_All_1 x y (ho x hmx) (ho y (List.mem_of_mem_take hy)))).callW (enters_of Tryz.func191 rfl rfl) _ [(4, 1000001)] rfl rfl rfl ?_
   rintro d rfl
   simp only [go_sem, simprocAttr, hw]
   refine Gif.mk (fun h2 => ?_) (fun h2 => ?_)
   ·simp only [h, h2, Bool.not_true, Bool.and_false, Bool.false_and] at hr
    simp only [retK, resD, retL, oneD, simprocAttr, Tryz.results143]
    exact ⟨_, rfl, rfl, congrArg bln (bad hr.symm).symm⟩
   ·simp only [h, h2, Bool.not_false, Bool.and_true, Bool.true_and] at hr
    refine ⟨m, _, ?_, ?_, i + 1, ?_, ?_, hr, rfl⟩
    ·omega
    ·exact lessA
    ·omega
    ·omega
  ·simp only [h, Bool.false_and] at hr
   simp only [retK, resD, retL, oneD, simprocAttr, Tryz.results143]
   exact ⟨_, rfl, rfl, congrArg bln (bad hr.symm).symm⟩
 ·have hlt' : ((i : Int) < (l.length : Int)) = False := eq_false (by omega)
  rw [show l.length - i = 0 by omega, filtersFrom] at hr
  simp only [go_sem, simprocAttr, hlt']
  repeat' (first | refine GifP.mk (fun _ => ?_) (fun _ => ?_) | refine Gif.mk (fun _ => ?_) (fun _ => ?_))
  all_goals
   simp only [retK, resD, retL, oneD, simprocAttr, Tryz.results143]
   exact ⟨_, rfl, rfl, congrArg bln (by first | rfl | (rw [Bool.eq_iff_iff]; simp only [filtersAll, ← hr]; (first | (simp; done) | (simp; omega) | (simp [*]; done) | (simp [*]; omega))) | (simp_all [filtersAll, ← hr]; done) | (exfalso; omega))⟩

def listenerMay (l : AListener) : Bool :=
 (if l.tls = true then decide (l.cert.kind = 4) && labValue l.cert.space && dname l.cert.name else decide (l.cert.kind = 0) && decide (l.cert.space = ⟨#[]⟩) && decide (l.cert.name = ⟨#[]⟩)) &&
 label l.name && oport l.port && hostMay l.host && decide (0 ≤ l.from_) && decide (l.from_ ≤ 2) && needsMay l.needs && (decide (l.from_ = 2) || decide (l.needs.length = 0))

structure AListener.ok (l : AListener) : Prop where
 nl : l.needs.length ≤ 1000000
 n : ∀ x ∈ l.needs, x.ok

set_option maxHeartbeats 1000000 in
theorem object_listener (l : AListener) (h : l.ok) : Pure Tryz.prog 84 [l.d] (fun d => d = bln (listenerMay l)) := by
 refine pure_of_run follows an_z5xl6 Tryz.func84 rfl ok_z5xl6.1 ok_z5xl6.2 (by simp [Tryz.ntmps84]) ?_
 rw [run_start]
 simp only [ac_z5xl6, go_sem, simprocAttr, eqVs, eqV]
 (repeat' (first | (refine GifP.mk (fun _ => ?_) (fun _ => ?_)) | (refine Gif.mk (fun _ => ?_) (fun _ => ?_)) | ((first | refine (object_near _).callW (enters_of Tryz.func129 rfl rfl) _ rfl rfl ?_ | refine (dns_Name _).callW (enters_of Tryz.func70 rfl rfl) _ rfl rfl ?_ | refine (dns_Label _).callW (enters_of Tryz.func71 rfl rfl) _ rfl rfl ?_ | refine (object_port _).callW (enters_of Tryz.func78 rfl rfl) _ rfl rfl ?_ | refine (host_May _).callW (enters_of Tryz.func91 rfl rfl) _ rfl rfl ?_ | refine (label_Needs l.needs h.nl h.n).callW (enters_of Tryz.func130 rfl rfl) _ rfl rfl ?_); rintro _ rfl; try simp only [go_sem, simprocAttr, eqVs, eqV]))) <;> (simp only [retK, resD, retL, oneD, simprocAttr, Tryz.results84]; exact ⟨_, rfl, rfl, congrArg bln (by first | rfl | (rw [Bool.eq_iff_iff]; simp only [listenerMay]; (first | (simp; done) | (simp; omega) | (simp [*]; done) | (simp [*]; omega))) | (simp_all [listenerMay]; done) | (exfalso; omega))⟩)

structure ARule.ok (r : ARule) : Prop where
 ml : r.matches_.length ≤ 1000000
 fl : r.filters.length ≤ 1000000
 bl : r.backends.length ≤ 1000000
 m : ∀ x ∈ r.matches_, x.ok
 f : ∀ x ∈ r.filters, x.ok

def ruleMay (r : ARule) : Bool := every matchMay r.matches_ 4 && filtersAll r.filters && every backendMay r.backends 4

theorem object_ruled (r : ARule) (h : r.ok) : Pure Tryz.prog 96 [r.d] (fun d => d = bln (ruleMay r)) := by
 refine pure_of_run follows an_zjms9 Tryz.func96 rfl ok_zjms9.1 ok_zjms9.2 (by simp [Tryz.ntmps96]) ?_
 rw [run_start]
 simp only [ac_zjms9, go_sem, simprocAttr]
 (repeat' (first | (refine GifP.mk (fun _ => ?_) (fun _ => ?_)) | (refine Gif.mk (fun _ => ?_) (fun _ => ?_)) | ((first | refine (every_Match matchMay _ (enters_of Tryz.func142 rfl rfl) r.matches_ h.ml 4 (fun x hx => rule_May x (h.m x hx))).callW (enters_of Tryz.func141 rfl rfl) _ rfl rfl ?_ | refine (filter_All r.filters h.fl h.f).callW (enters_of Tryz.func143 rfl rfl) _ rfl rfl ?_ | refine (every_Backend backendMay _ (enters_of Tryz.func145 rfl rfl) r.backends h.bl 4 (fun x _ => object_backend x)).callW (enters_of Tryz.func144 rfl rfl) _ rfl rfl ?_); rintro _ rfl; try simp only [go_sem, simprocAttr]))) <;> (simp only [retK, resD, retL, oneD, simprocAttr, Tryz.results96]; exact ⟨_, rfl, rfl, congrArg bln (by first | rfl | (rw [Bool.eq_iff_iff]; simp only [ruleMay]; (first | (simp; done) | (simp; omega) | (simp [*]; done) | (simp [*]; omega))) | (simp_all [ruleMay]; done) | (exfalso; omega))⟩)

def listenerSame (a b : AListener) : Bool :=
 decide (a.name = b.name) && decide (a.port = b.port) && (a.tls == b.tls) && decide (a.host = b.host) && decide (a.cert = b.cert) && decide (a.from_ = b.from_) && eqf needSame a.needs b.needs

theorem object_sameListener (a b : AListener) (ha : a.ok) (hb : b.ok) : Pure Tryz.prog 51 [a.d, b.d] (fun d => d = bln (listenerSame a b)) := by
 refine pure_of_run follows an_z1fwi Tryz.func51 rfl ok_z1fwi.1 ok_z1fwi.2 (by simp [Tryz.ntmps51]) ?_
 rw [run_start]
 simp only [ac_z1fwi, go_sem, simprocAttr, eqVs, eqV, eq_Ref]
 (repeat' (first | (refine GifP.mk (fun _ => ?_) (fun _ => ?_)) | (refine Gif.mk (fun _ => ?_) (fun _ => ?_)) | (refine (label_Same a.needs b.needs ha.nl hb.nl ha.n hb.n).callW (enters_of Tryz.func106 rfl rfl) _ rfl rfl ?_; rintro _ rfl; try simp only [go_sem, simprocAttr, eqVs, eqV, eq_Ref]))) <;> (simp only [retK, resD, retL, oneD, simprocAttr, Tryz.results51]; exact ⟨_, rfl, rfl, congrArg bln (by first | rfl | (rw [Bool.eq_iff_iff]; simp only [listenerSame]; (first | (simp; done) | (simp; omega) | (simp [*]; done) | (simp [*]; omega))) | (simp_all [listenerSame]; done) | (exfalso; omega))⟩)

def ruleSame (a b : ARule) : Bool := eqf matchSame a.matches_ b.matches_ && decide (a.filters = b.filters) && decide (a.backends = b.backends)

theorem object_sameRule (a b : ARule) (ha : a.ok) (hb : b.ok) : Pure Tryz.prog 53 [a.d, b.d] (fun d => d = bln (ruleSame a b)) := by
 refine pure_of_run follows an_z30xg Tryz.func53 rfl ok_z30xg.1 ok_z30xg.2 (by simp [Tryz.ntmps53]) ?_
 rw [run_start]
 simp only [ac_z30xg, go_sem, simprocAttr]
 (repeat' (first | (refine GifP.mk (fun _ => ?_) (fun _ => ?_)) | (refine Gif.mk (fun _ => ?_) (fun _ => ?_)) | ((first | refine (EqualFunc_Match matchSame _ (enters_of Tryz.func108 rfl rfl) a.matches_ b.matches_ ha.ml hb.ml (fun x hx y hy => rule_Same x y (ha.m x hx) (hb.m y hy))).callW (enters_of Tryz.func107 rfl rfl) _ rfl rfl ?_ | refine (Equal_Filter a.filters b.filters ha.fl hb.fl).callW (enters_of Tryz.func109 rfl rfl) _ rfl rfl ?_ | refine (Equal_Backend a.backends b.backends ha.bl hb.bl).callW (enters_of Tryz.func110 rfl rfl) _ rfl rfl ?_); rintro _ rfl; try simp only [go_sem, simprocAttr]))) <;> (simp only [retK, resD, retL, oneD, simprocAttr, Tryz.results53]; exact ⟨_, rfl, rfl, congrArg bln (by first | rfl | (rw [Bool.eq_iff_iff]; simp only [ruleSame]; (first | (simp; done) | (simp; omega) | (simp [*]; done) | (simp [*]; omega))) | (simp_all [ruleSame]; done) | (exfalso; omega))⟩)


def labelsFrom (l : List APair) : Nat → Nat → Bool
 | 0, _ => true
 | k + 1, i => (match l[i]? with
   | some p => dname p.name && labValue p.val && (decide (i = 0) || (match l[i - 1]? with | some q => Op.bytesLess q.name.toList p.name.toList | none => false))
   | none => true) && labelsFrom l k (i + 1)

def labelsMay (l : List APair) : Bool := labelsFrom l l.length 0 && decide (l.length ≤ 8)

set_option maxHeartbeats 1000000 in
theorem label_May (l : List APair) (hl : l.length ≤ 1000000) : Pure Tryz.prog 76 [.pd (.slice (rows APair.pd l))] (fun d => d = bln (labelsMay l)) := by
 refine pure_of_run follows an_z2iq3 Tryz.func76 rfl ok_z2iq3.1 ok_z2iq3.2 (by simp [Tryz.ntmps76]) ?_
 rw [run_start]
 simp only [ac_z2iq3, go_sem, simprocAttr]
 refine loopS (fun k st => ∃ i : Nat, k = l.length - i ∧ i ≤ l.length ∧ labelsFrom l k i = labelsFrom l l.length 0 ∧
  st = ⟨[(0, .pd (.slice (rows APair.pd l))), (5, .pd (.slice (rows APair.pd l))), (6, int l.length), (7, int i)], [], [], .no⟩) l.length _ (Weak.refl _ _) ⟨0, rfl, Nat.zero_le _, rfl, rfl⟩ ?_
 rintro k st ⟨i, rfl, hi, hr, rfl⟩
 by_cases hlt : i < l.length
 ·obtain ⟨x, hx⟩ := at_lt hlt
  have hlt' : ((i : Int) < (l.length : Int)) = True := eq_true (by omega)
  have hw := i64_succ (show i < 1000000000 by omega)
  obtain ⟨m, hm⟩ : ∃ m, l.length - i = m + 1 := ⟨l.length - i - 1, by omega⟩
  rw [hm, labelsFrom, hx] at hr
  have bad : labelsFrom l l.length 0 = false → labelsMay l = false := fun h => by simp [labelsMay, h]
  have good : ∀ st, Weak Tryz.prog st ⟨[(0, .pd (.slice (rows APair.pd l))), (5, .pd (.slice (rows APair.pd l))), (6, int l.length), (7, int (i + 1 : Nat))], [], [], .no⟩ → labelsFrom l m (i + 1) = labelsFrom l l.length 0 →
   Round Tryz.prog (fun k st => ∃ i : Nat, k = l.length - i ∧ i ≤ l.length ∧ labelsFrom l k i = labelsFrom l l.length 0 ∧
    st = ⟨[(0, .pd (.slice (rows APair.pd l))), (5, .pd (.slice (rows APair.pd l))), (6, int l.length), (7, int i)], [], [], .no⟩) (l.length - i) st := fun st hst hr =>
   ⟨m, _, by omega, hst, i + 1, by omega, by omega, hr, rfl⟩
  simp (maxSteps := 2000000) only [go_sem, simprocAttr, go_sem, hlt', rows_get hx, rows_len]
  refine (dns_Name x.name).callX (enters_of Tryz.func70 rfl rfl) _ rfl rfl ?_
  rintro d rfl
  simp (maxSteps := 2000000) only [go_sem, simprocAttr, go_sem, rows_len]
  refine Gif.mk (fun h1 => ?_) (fun h1 => ?_)
  ·refine (label_value x.val).callX (enters_of Tryz.func122 rfl rfl) _ rfl rfl ?_
   rintro d rfl
   by_cases hi0 : 0 < i
   ·obtain ⟨q, hq⟩ := at_lt (show i - 1 < l.length by omega)
    have h0 : ((0 : Int) < (i : Int)) = True := eq_true (by omega)
    have hw1 : IntKind.i64.wrap ((i : Int) - 1) = ((i - 1 : Nat) : Int) := by rw [IntWalk.i64_in _ (by omega)]; omega
    simp (maxSteps := 2000000) only [go_sem, simprocAttr, go_sem, rows_len, h0, hw1, rows_get hq, hw]
    refine Gif.mk (fun h2 => ?_) (fun h2 => ?_)
    ·refine Gif.mk (fun h3 => ?_) (fun h3 => ?_)
     ·refine good _ (lessA) ?_
      simpa [h1, h2, h3, hq] using hr
     ·simp only [retK, resD, retL, oneD, simprocAttr, Tryz.results76]
      refine ⟨_, rfl, rfl, congrArg bln (bad ?_).symm⟩
      rw [← hr]; simp [h1, h2, h3, hq]; omega
    ·simp only [retK, resD, retL, oneD, simprocAttr, Tryz.results76]
     refine ⟨_, rfl, rfl, congrArg bln (bad ?_).symm⟩
     rw [← hr]; simp [h1, h2]
   ·have h0 : ((0 : Int) < (i : Int)) = False := eq_false (by omega)
    simp (maxSteps := 2000000) only [go_sem, simprocAttr, go_sem, rows_len, h0, hw]
    refine Gif.mk (fun h2 => ?_) (fun h2 => ?_)
    ·refine good _ (lessA) ?_
     simpa [h1, h2, show i = 0 by omega] using hr
    ·simp only [retK, resD, retL, oneD, simprocAttr, Tryz.results76]
     refine ⟨_, rfl, rfl, congrArg bln (bad ?_).symm⟩
     rw [← hr]; simp [h1, h2]
  ·simp only [retK, resD, retL, oneD, simprocAttr, Tryz.results76]
   refine ⟨_, rfl, rfl, congrArg bln (bad ?_).symm⟩
   rw [← hr]; simp [h1]
 ·have hlt' : ((i : Int) < (l.length : Int)) = False := eq_false (by omega)
  rw [show l.length - i = 0 by omega, labelsFrom] at hr
  simp only [go_sem, simprocAttr, hlt']
  repeat' (first | refine GifP.mk (fun _ => ?_) (fun _ => ?_) | refine Gif.mk (fun _ => ?_) (fun _ => ?_))
  all_goals
   simp only [retK, resD, retL, oneD, simprocAttr, Tryz.results76]
   exact ⟨_, rfl, rfl, congrArg bln (by first | rfl | (rw [Bool.eq_iff_iff]; simp only [labelsMay, ← hr]; (first | (simp; done) | (simp; omega) | (simp [*]; done) | (simp [*]; omega))) | (simp_all [labelsMay, ← hr]; done) | (exfalso; omega))⟩

def sortFrom (l : List Int) : Nat → Bool
 | 0 => true
 | i + 1 => (match l[i + 1]?, l[i]? with
   | some a, some b => !intLess a b
   | _, _ => true) && sortFrom l i

def sortedInts (l : List Int) : Bool := sortFrom l (l.length - 1)

theorem slices_IsSorted_int (l : List Int) (hl : l.length ≤ 1000000) : Pure Tryz.prog 79 [.pd (.slice (ints l))] (fun d => d = bln (sortedInts l)) := by
 refine pure_of_run follows an_zhfyj Tryz.func79 rfl ok_zhfyj.1 ok_zhfyj.2 (by simp [Tryz.ntmps79]) ?_
 rw [run_start]
 have hw0 : IntKind.i64.wrap ((l.length : Int) - 1) = (l.length : Int) - 1 := IntWalk.i64_in _ (by omega)
 simp only [ac_zhfyj, go_sem, simprocAttr, go_sem, rows_len, hw0]
 refine loopS (fun k st => ∃ i : Int, k = i.toNat ∧ -1 ≤ i ∧ i < (l.length : Int) ∧ sortFrom l i.toNat = sortedInts l ∧
  st = ⟨[(0, .pd (.slice (ints l))), (3, int i)], [], [], .no⟩) ((l.length : Int) - 1).toNat _ (Weak.refl _ _) ⟨(l.length : Int) - 1, rfl, by omega, by omega, by
   rw [sortedInts]; congr 1; omega, rfl⟩ ?_
 rintro k st ⟨i, rfl, hi, hi2, hr, rfl⟩
 by_cases hlt : 0 < i
 ·obtain ⟨j, rfl⟩ : ∃ j : Nat, i = (j + 1 : Nat) := ⟨(i - 1).toNat, by omega⟩
  obtain ⟨x, hx⟩ := at_lt (show j + 1 < l.length by omega)
  obtain ⟨y, hy⟩ := at_lt (show j < l.length by omega)
  have hlt' : ((0 : Int) < ((j + 1 : Nat) : Int)) = True := eq_true (by omega)
  have hw : IntKind.i64.wrap (((j + 1 : Nat) : Int) - 1) = (j : Int) := by rw [IntWalk.i64_in _ (by omega)]; omega
  rw [Int.toNat_natCast, sortFrom, hx, hy] at hr
  simp only [go_sem, simprocAttr, go_sem, hlt', rows_get hx, rows_get hy, hw]
  refine (cmp_Less x y).callX (enters_of Tryz.func125 rfl rfl) _ rfl rfl ?_
  rintro d rfl
  simp only [go_sem, simprocAttr, go_sem, hw]
  refine Gif.mk (fun h => ?_) (fun h => ?_)
  ·simp only [h, Bool.not_true, Bool.false_and] at hr
   simp only [retK, resD, retL, oneD, simprocAttr, Tryz.results79]
   exact ⟨_, rfl, rfl, congrArg bln hr⟩
  ·simp only [h, Bool.not_false, Bool.true_and] at hr
   refine ⟨j, _, ?_, ?_, (j : Int), by simp, by omega, by omega, by simpa using hr, rfl⟩
   ·omega
   ·exact lessA
 ·have hlt' : ((0 : Int) < i) = False := eq_false hlt
  rw [show i.toNat = 0 by omega, sortFrom] at hr
  simp only [go_sem, simprocAttr, go_sem, hlt']
  simp only [retK, resD, retL, oneD, simprocAttr, Tryz.results79]
  exact ⟨_, rfl, rfl, congrArg bln hr⟩

structure AObj.ok (o : AObj) : Prop where
 la : o.labels.length ≤ 1000000
 po : o.ports.length ≤ 1000000
 li : o.listeners.length ≤ 1000000
 pa : o.parents.length ≤ 1000000
 ho : o.hosts.length ≤ 1000000
 ru : o.rules.length ≤ 1000000
 fr : o.from_.length ≤ 1000000
 to : o.to_.length ≤ 1000000
 lis : ∀ x ∈ o.listeners, x.ok
 rus : ∀ x ∈ o.rules, x.ok

abbrev AObj.ds (o : AObj) : List D := [int o.ref.kind, str o.ref.space, str o.ref.name, bln o.good, .pd (.slice (rows APair.pd o.labels)), .pd (.slice (ints o.ports)), str o.cls, .pd (.slice (rows AListener.pd o.listeners)),
 .pd (.slice (rows AParent.pd o.parents)), .pd (.slice (strs o.hosts)), .pd (.slice (rows ARule.pd o.rules)), .pd (.slice (rows ASide.pd o.from_)), .pd (.slice (rows ASide.pd o.to_))]


def objSame (a b : AObj) : Bool :=
 decide (a.ref = b.ref) && (a.good == b.good) && decide (a.cls = b.cls) && decide (a.labels = b.labels) && decide (a.ports = b.ports) && decide (a.hosts = b.hosts) && decide (a.parents = b.parents) && decide (a.from_ = b.from_) && decide (a.to_ = b.to_) &&
 eqf listenerSame a.listeners b.listeners && eqf ruleSame a.rules b.rules

set_option maxHeartbeats 1000000 in
theorem object_Same (a b : AObj) (ha : a.ok) (hb : b.ok) : Pure Tryz.prog 13 [a.d, b.d] (fun d => d = bln (objSame a b)) := by
 refine pure_of_run follows an_zhbvt Tryz.func13 rfl ok_zhbvt.1 ok_zhbvt.2 (by simp [Tryz.ntmps13]) ?_
 rw [run_start]
 simp only [ac_zhbvt, go_sem, simprocAttr, eqVs, eqV, eq_Ref]
 (repeat' (first | (refine GifP.mk (fun _ => ?_) (fun _ => ?_)) | (refine Gif.mk (fun _ => ?_) (fun _ => ?_)) | ((first | refine (Equal_Pair a.labels b.labels ha.la hb.la).callW (enters_of Tryz.func45 rfl rfl) _ rfl rfl ?_ | refine (Equal_int a.ports b.ports ha.po hb.po).callW (enters_of Tryz.func46 rfl rfl) _ rfl rfl ?_ | refine (Equal_string a.hosts b.hosts ha.ho hb.ho).callW (enters_of Tryz.func47 rfl rfl) _ rfl rfl ?_ | refine (Equal_Parent a.parents b.parents ha.pa hb.pa).callW (enters_of Tryz.func48 rfl rfl) _ rfl rfl ?_ | refine (Equal_Side a.from_ b.from_ ha.fr hb.fr).callW (enters_of Tryz.func49 rfl rfl) _ rfl rfl ?_ | refine (Equal_Side a.to_ b.to_ ha.to hb.to).callW (enters_of Tryz.func49 rfl rfl) _ rfl rfl ?_ | refine (EqualFunc_Listener listenerSame _ (enters_of Tryz.func51 rfl rfl) a.listeners b.listeners ha.li hb.li (fun x hx y hy => object_sameListener x y (ha.lis x hx) (hb.lis y hy))).callW (enters_of Tryz.func50 rfl rfl) _ rfl rfl ?_ | refine (EqualFunc_Rule ruleSame _ (enters_of Tryz.func53 rfl rfl) a.rules b.rules ha.ru hb.ru (fun x hx y hy => object_sameRule x y (ha.rus x hx) (hb.rus y hy))).callW (enters_of Tryz.func52 rfl rfl) _ rfl rfl ?_); rintro _ rfl; try simp only [go_sem, simprocAttr, eqVs, eqV, eq_Ref]))) <;> (simp only [retK, resD, retL, oneD, simprocAttr, Tryz.results13]; exact ⟨_, rfl, rfl, congrArg bln (by first | rfl | (rw [Bool.eq_iff_iff]; simp only [objSame]; (first | (simp; done) | (simp; omega) | (simp [*]; done) | (simp [*]; omega))) | (simp_all [objSame]; done) | (exfalso; omega))⟩)


theorem hasPrefix_one (s : ByteArray) (c : UInt8) : hasPrefix s ⟨#[c]⟩ = true ↔ s[0]? = some c := by
 have h1 : (ByteArray.mk #[c]).size = 1 := rfl
 simp only [hasPrefix, Bool.and_eq_true, decide_eq_true_eq, h1]
 constructor
 ·rintro ⟨h2, h3⟩
  obtain ⟨b, hb⟩ := at_byte (show 0 < s.size by omega)
  have h4 := byte_one hb
  rw [Nat.zero_add, h3] at h4
  rw [hb]
  have := congrArg (fun a : ByteArray => a.data.toList) h4
  simpa using this.symm
 ·intro h
  have h2 : 0 < s.size := by
   rw [bytes_get] at h
   exact (List.getElem?_eq_some_iff.1 h).1
  exact ⟨by omega, by simpa using byte_one h⟩

theorem hasSuffix_one (s : ByteArray) (c : UInt8) : hasSuffix s ⟨#[c]⟩ = true ↔ 1 ≤ s.size ∧ s[s.size - 1]? = some c := by
 have h1 : (ByteArray.mk #[c]).size = 1 := rfl
 simp only [hasSuffix, Bool.and_eq_true, decide_eq_true_eq, h1]
 refine and_congr_right fun h2 => ?_
 have h0 : s.size - 1 + 1 = s.size := by omega
 constructor
 ·intro h3
  obtain ⟨b, hb⟩ := at_byte (show s.size - 1 < s.size by omega)
  have h4 := byte_one hb
  rw [h0, h3] at h4
  rw [hb]
  have := congrArg (fun a : ByteArray => a.data.toList) h4
  simpa using this.symm
 ·intro h
  have := byte_one h
  rwa [h0] at this

theorem hasPrefix_two (s : ByteArray) (c e : UInt8) : hasPrefix s ⟨#[c, e]⟩ = true ↔ 2 ≤ s.size ∧ s[0]? = some c ∧ s[1]? = some e := by
 have h1 : (ByteArray.mk #[c, e]).size = 2 := rfl
 simp only [hasPrefix, Bool.and_eq_true, decide_eq_true_eq, h1]
 refine and_congr_right fun h2 => ?_
 rw [extract_list, List.drop_zero, bytes_get, bytes_get]
 have h3 : 2 ≤ s.data.toList.length := h2
 match hl : s.data.toList with
 | [] => rw [hl] at h3; simp at h3
 | [_] => rw [hl] at h3; simp at h3
 | a :: b :: r =>
   simp only [List.take_succ_cons, List.take_zero, List.getElem?_cons_zero, List.getElem?_cons_succ, Option.some.injEq]
   constructor
   ·intro h
    have := congrArg (fun a : ByteArray => a.data.toList) h
    simpa using this
   ·rintro ⟨rfl, rfl⟩; rfl

def pathOct (b : UInt8) : Bool := decide (33 ≤ b.toNat) && decide (b.toNat ≤ 126) && !decide (b.toNat = 63) && !decide (b.toNat = 35)

theorem pathIs_iff (s : ByteArray) : pathIs s = true ↔ 1 ≤ s.size ∧ s.size ≤ 60 ∧ s[0]? = some 47 ∧ s.data.toList.all pathOct = true := by
 have hp : ∀ c : Int, 128 ≤ c → pathRune c = false := fun c h => by simp [pathRune]; omega
 have he : (fun b : UInt8 => pathRune b.toNat) = pathOct := by
  funext b
  rw [Bool.eq_iff_iff]
  simp [pathRune, pathOct]
  omega
 simp only [pathIs, runeAll_bytes hp s s.size 0 (by omega), List.drop_zero, he, Bool.and_eq_true, decide_eq_true_eq, hasPrefix_one]
 constructor
 ·rintro ⟨⟨h1, h2⟩, h3⟩
  refine ⟨?_, h3, h2, h1⟩
  rw [bytes_get] at h2
  exact (List.getElem?_eq_some_iff.1 h2).1
 ·rintro ⟨_, h3, h2, h1⟩
  exact ⟨⟨h1, h2⟩, h3⟩

theorem pathAbove_iff (s : ByteArray) : pathAbove s = true ↔ pathIs s = true ∧ (s.size = 1 ∨ s[s.size - 1]? ≠ some 47) := by
 simp only [pathAbove, Bool.and_eq_true, Bool.or_eq_true, decide_eq_true_eq, Bool.not_eq_true']
 refine and_congr_right fun h => ?_
 obtain ⟨h1, h2, h3, h4⟩ := (pathIs_iff s).1 h
 constructor
 ·rintro (h5 | h5)
  ·left; rw [h5]; rfl
  ·right
   intro h6
   have := (hasSuffix_one s 47).2 ⟨h1, h6⟩
   rw [h5] at this; cases this
 ·rintro (h5 | h5)
  ·left
   have h6 := byte_one h3
   rw [Nat.zero_add] at h6
   rw [← h6, extract_list, List.drop_zero, List.take_of_length_le (by rw [size_list]; omega)]
  ·right
   cases h6 : hasSuffix s ⟨#[47]⟩ with
   | false => rfl
   | true => exact absurd ((hasSuffix_one s 47).1 h6).2 h5

def tokR (b : UInt8) : Bool := ((decide (48 ≤ b.toNat) && decide (b.toNat ≤ 57)) || (decide (65 ≤ b.toNat) && decide (b.toNat ≤ 90)) || (decide (97 ≤ b.toNat) && decide (b.toNat ≤ 122))) || marks.data.toList.contains b

theorem tokR_eq (b : UInt8) : tokenOct b = tokR b := by
 have h : ∀ k : Fin 256, tokenOct (UInt8.ofNat k.val) = tokR (UInt8.ofNat k.val) := by decide +kernel
 have := h ⟨b.toNat, b.toNat_lt⟩
 simpa using this

theorem trimL_size (c : Int) : ∀ (k : Nat) (s : ByteArray), (trimL c k s).size ≤ s.size
 | 0, s => Nat.le_refl _
 | k + 1, s => by
   simp only [trimL]
   split
   ·split
    ·have := trimL_size c k (s.extract 1 s.size)
     rw [ByteArray.size_extract] at this
     omega
    ·exact Nat.le_refl _
   ·exact Nat.le_refl _

theorem trimR_size (c : Int) : ∀ (k : Nat) (s : ByteArray), (trimR c k s).size ≤ s.size
 | 0, s => Nat.le_refl _
 | k + 1, s => by
   simp only [trimR]
   split
   ·split
    ·have := trimR_size c k (s.extract 0 (s.size - 1))
     rw [ByteArray.size_extract] at this
     omega
    ·exact Nat.le_refl _
   ·exact Nat.le_refl _

theorem trim_iff (s : ByteArray) : trim s = s ↔ s[0]? ≠ some 32 ∧ s[s.size - 1]? ≠ some 32 := by
 have h32 : ∀ b : UInt8, ((b.toNat : Int) = 32) ↔ b = 32 := fun b => by
  constructor
  ·intro h; apply UInt8.toNat_inj.1; have : (32 : UInt8).toNat = 32 := rfl; omega
  ·rintro rfl; rfl
 rcases Nat.eq_zero_or_pos s.size with h0 | hpos
 ·have : s = ⟨#[]⟩ := size0.2 h0
  subst this
  have hn : ∀ j : Nat, (⟨#[]⟩ : ByteArray)[j]? = none := fun j => by rw [bytes_get]; rfl
  rw [hn, hn]
  exact ⟨fun _ => ⟨by simp, by simp⟩, fun _ => rfl⟩
 obtain ⟨k, hk⟩ : ∃ k, s.size = k + 1 := ⟨s.size - 1, by omega⟩
 obtain ⟨b, hb⟩ := at_byte (show s.size - 1 < s.size by omega)
 obtain ⟨a, ha⟩ := at_byte hpos
 rw [hb, ha]
 by_cases hl : b = 32
 ·subst hl
  have h1 : (trimR 32 s.size s).size < s.size := by
   rw [hk]
   simp only [trimR, hb]
   rw [if_pos ((h32 _).2 rfl)]
   have := trimR_size 32 k (s.extract 0 (s.size - 1))
   rw [ByteArray.size_extract] at this
   omega
  have h2 : (trim s).size < s.size := Nat.lt_of_le_of_lt (trimL_size 32 _ _) h1
  constructor
  ·intro h; rw [h] at h2; omega
  ·rintro ⟨_, h⟩; exact absurd rfl h
 ·have h1 : trimR 32 s.size s = s := by
   rw [hk]
   simp only [trimR, hb]
   rw [if_neg (fun h => hl ((h32 _).1 h))]
  by_cases hf : a = 32
  ·subst hf
   have h2 : (trim s).size < s.size := by
    unfold trim
    rw [h1, hk]
    simp only [trimL, ha]
    rw [if_pos ((h32 _).2 rfl)]
    have := trimL_size 32 k (s.extract 1 s.size)
    rw [ByteArray.size_extract] at this
    omega
   constructor
   ·intro h; rw [h] at h2; omega
   ·rintro ⟨h, _⟩; exact absurd rfl h
  ·have h2 : trim s = s := by
    unfold trim
    rw [h1, hk]
    simp only [trimL, ha]
    rw [if_neg (fun h => hf ((h32 _).1 h))]
   simp [h2, hl, hf]

theorem fvalue_iff (s : ByteArray) : fvalue s = true ↔ s.size ≤ 40 ∧ ∀ (j : Nat) (b : UInt8), s[j]? = some b → 32 ≤ b.toNat ∧ b.toNat ≤ 126 ∧ ¬ (b.toNat = 32 ∧ (j = 0 ∨ j + 1 = s.size)) := by
 have h32 : (32 : UInt8).toNat = 32 := rfl
 simp only [fvalue, Bool.and_eq_true, decide_eq_true_eq, all_bytes, trim_iff]
 constructor
 ·rintro ⟨⟨h1, h2⟩, h3, h4⟩
  refine ⟨h2, fun j b hb => ?_⟩
  have h5 := h1 j b hb
  simp only [valOct, Bool.and_eq_true, decide_eq_true_eq] at h5
  refine ⟨h5.1, h5.2, ?_⟩
  rintro ⟨h6, h7 | h7⟩
  ·subst h7
   exact h3 (by rw [hb]; congr 1; exact UInt8.toNat_inj.1 (h6.trans h32.symm))
  ·have : s.size - 1 = j := by omega
   exact h4 (by rw [this, hb]; congr 1; exact UInt8.toNat_inj.1 (h6.trans h32.symm))
 ·rintro ⟨h1, h2⟩
  refine ⟨⟨fun j b hb => ?_, h1⟩, fun h => ?_, fun h => ?_⟩
  ·have := h2 j b hb
   simp [valOct]; omega
  ·exact (h2 0 _ h).2.2 ⟨rfl, .inl rfl⟩
  ·have hlt : s.size - 1 < s.size := by
    rw [bytes_get] at h
    exact (List.getElem?_eq_some_iff.1 h).1
   exact (h2 _ _ h).2.2 ⟨rfl, .inr (by omega)⟩

def methOct (b : UInt8) : Bool := decide (65 ≤ b.toNat) && decide (b.toNat ≤ 90)

theorem method_iff (s : ByteArray) : method s = true ↔ 1 ≤ s.size ∧ s.size ≤ 10 ∧ s.data.toList.all methOct = true := by
 have hp : ∀ c : Int, 128 ≤ c → methodRune c = false := fun c h => by simp [methodRune]; omega
 have he : (fun b : UInt8 => methodRune b.toNat) = methOct := by
  funext b
  rw [Bool.eq_iff_iff]
  simp [methodRune, methOct]
  omega
 simp only [method, idx_none hp, he, Bool.and_eq_true, Bool.not_eq_true', decide_eq_true_eq, decide_eq_false_iff_not, size0]
 constructor
 ·rintro ⟨⟨h1, h2⟩, h3⟩; exact ⟨by omega, h2, h3⟩
 ·rintro ⟨h1, h2, h3⟩; exact ⟨⟨by omega, h2⟩, h3⟩

theorem tw_from {α : Type} {q : α → α → Bool} {l : List α} : ∀ {k i : Nat}, twiceFrom q l k i = false ↔ ∀ j x, i ≤ j → j < i + k → l[j]? = some x → (l.take j).any (fun y => q x y) = false
 | 0, i => by
   simp only [twiceFrom, true_iff]
   intro j x h1 h2; omega
 | k + 1, i => by
   simp only [twiceFrom, Bool.or_eq_false_iff, tw_from]
   constructor
   ·rintro ⟨h1, h2⟩ j x hj hk hx
    rcases Nat.eq_or_lt_of_le hj with e | e
    ·subst e; rw [hx] at h1; exact h1
    ·exact h2 j x e (by omega) hx
   ·intro h
    refine ⟨?_, fun j x hj hk hx => h j x (by omega) (by omega) hx⟩
    cases hx : l[i]? with
    | none => rfl
    | some x => exact h i x (Nat.le_refl _) (by omega) hx

theorem tw_iff {α : Type} {q : α → α → Bool} {l : List α} : twice q l = false ↔ ∀ (i : Nat) (x : α), l[i]? = some x → ∀ (k : Nat) (y : α), k < i → l[k]? = some y → q x y = false := by
 unfold twice
 rw [tw_from]
 constructor
 ·intro h i x hx k y hk hy
  have h1 := h i x (Nat.zero_le _) (by have := (List.getElem?_eq_some_iff.1 hx).1; omega) hx
  rw [List.any_eq_false] at h1
  have := h1 y (List.mem_of_getElem? (by rw [List.getElem?_take, if_pos hk]; exact hy))
  simpa using this
 ·intro h j x _ _ hx
  rw [List.any_eq_false]
  intro y hy
  obtain ⟨k, hk⟩ := List.getElem?_of_mem hy
  rw [List.getElem?_take] at hk
  split at hk
  ·rename_i hkj
   simpa using h j x hx k y hkj hk
  ·cases hk

theorem lessL_total : ∀ x y : List UInt8, (Op.bytesLess x y || decide (x = y)) = !Op.bytesLess y x
 | [], [] => rfl
 | [], b :: y => rfl
 | a :: x, [] => rfl
 | a :: x, b :: y => by
   have ih := lessL_total x y
   simp only [Op.bytesLess]
   by_cases h1 : a < b
   ·have h2 : ¬ b < a := fun h => by have := UInt8.lt_iff_toNat_lt.1 h; have := UInt8.lt_iff_toNat_lt.1 h1; omega
    have h3 : (b == a) = false := by
     rw [beq_eq_false_iff_ne]
     rintro rfl
     exact h2 h1
    simp [h1, h2, h3]
   ·by_cases h2 : b < a
    ·have h3 : (a == b) = false := by
      rw [beq_eq_false_iff_ne]
      rintro rfl
      exact h1 h2
     have h4 : ¬ a = b := by simpa using h3
     simp [h1, h2, h3, h4]
    ·have h3 : a = b := UInt8.toNat_inj.1 (by
      have := mt UInt8.lt_iff_toNat_lt.2 h1
      have := mt UInt8.lt_iff_toNat_lt.2 h2
      omega)
     subst h3
     simpa [h1] using ih

theorem less_total (a b : ByteArray) : (Op.bytesLess a.toList b.toList || decide (a = b)) = !Op.bytesLess b.toList a.toList := by
 rw [← lessL_total]
 congr 1
 rw [Bool.eq_iff_iff, decide_eq_true_eq, decide_eq_true_eq]
 constructor
 ·rintro rfl; rfl
 ·intro h
  have := bytes_eq a b
  rw [h] at this
  simpa using this


theorem bl_irrefl : ∀ x : List UInt8, Op.bytesLess x x = false
 | [] => rfl
 | a :: x => by
   have h : ¬ a < a := fun h => by have := UInt8.lt_iff_toNat_lt.1 h; omega
   simp [Op.bytesLess, h, bl_irrefl x]

theorem bl_trans : ∀ {x y z : List UInt8}, Op.bytesLess x y = true → Op.bytesLess y z = true → Op.bytesLess x z = true
 | x, [], _, h, _ => by simp [Op.bytesLess] at h
 | _, _ :: _, [], _, h => by simp [Op.bytesLess] at h
 | [], _ :: _, _ :: _, _, _ => rfl
 | a :: x, b :: y, c :: z, h, k => by
   simp only [Op.bytesLess, Bool.or_eq_true, decide_eq_true_eq, Bool.and_eq_true, beq_iff_eq] at h k ⊢
   rcases h with h | ⟨rfl, h⟩
   ·rcases k with k | ⟨rfl, k⟩
    ·left
     have h1 := UInt8.lt_iff_toNat_lt.1 h
     have h2 := UInt8.lt_iff_toNat_lt.1 k
     exact UInt8.lt_iff_toNat_lt.2 (by omega)
    ·exact .inl h
   ·rcases k with k | ⟨rfl, k⟩
    ·exact .inl k
    ·exact .inr ⟨rfl, bl_trans h k⟩

def bl (a b : ByteArray) : Bool := Op.bytesLess a.toList b.toList

theorem bl_self (a : ByteArray) : bl a a = false := bl_irrefl _
theorem bl_tr {a b c : ByteArray} (h : bl a b = true) (k : bl b c = true) : bl a c = true := bl_trans h k
theorem bl_tri {a b : ByteArray} (h : bl a b = false) (k : bl b a = false) : a = b := by
 have := less_total a b
 unfold bl at h k
 rw [h, k] at this
 simpa using this
def refLt (a b : ARef) : Bool := if a.kind = b.kind then (if a.space = b.space then bl a.name b.name else bl a.space b.space) else decide (a.kind < b.kind)

theorem refLt_iff {a b : ARef} : refLt a b = true ↔ a.kind < b.kind ∨ (a.kind = b.kind ∧ (bl a.space b.space = true ∨ (a.space = b.space ∧ bl a.name b.name = true))) := by
 unfold refLt
 by_cases h1 : a.kind = b.kind
 ·by_cases h2 : a.space = b.space
  ·have : bl a.space b.space = false := by rw [h2]; exact bl_self _
   rw [if_pos h1, if_pos h2, this]
   simp [h1, h2]
  ·rw [if_pos h1, if_neg h2]
   simp [h1, h2]
 ·rw [if_neg h1]
  simp [h1]

theorem refLt_self (a : ARef) : refLt a a = false := by simp [refLt, bl_self]

theorem refLt_tr {a b c : ARef} (h : refLt a b = true) (k : refLt b c = true) : refLt a c = true := by
 rw [refLt_iff] at h k ⊢
 rcases h with h | ⟨h1, h | ⟨h2, h⟩⟩ <;> rcases k with k | ⟨k1, k | ⟨k2, k⟩⟩
 ·exact .inl (by omega)
 ·exact .inl (by omega)
 ·exact .inl (by omega)
 ·exact .inl (by omega)
 ·exact .inr ⟨by omega, .inl (bl_tr h k)⟩
 ·exact .inr ⟨by omega, .inl (k2 ▸ h)⟩
 ·exact .inl (by omega)
 ·exact .inr ⟨by omega, .inl (h2 ▸ k)⟩
 ·exact .inr ⟨by omega, .inr ⟨h2.trans k2, bl_tr h k⟩⟩

theorem refLt_tri {a b : ARef} (h : refLt a b = false) (k : refLt b a = false) : a = b := by
 unfold refLt at h k
 by_cases h1 : a.kind = b.kind
 ·rw [if_pos h1] at h
  rw [if_pos h1.symm] at k
  by_cases h2 : a.space = b.space
  ·rw [if_pos h2] at h
   rw [if_pos h2.symm] at k
   have h3 := bl_tri h k
   obtain ⟨a1, a2, a3⟩ := a
   obtain ⟨b1, b2, b3⟩ := b
   simp only at h1 h2 h3
   rw [h1, h2, h3]
  ·rw [if_neg h2] at h
   rw [if_neg (Ne.symm h2)] at k
   exact absurd (bl_tri h k) h2
 ·rw [if_neg h1] at h
  rw [if_neg (Ne.symm h1)] at k
  simp only [decide_eq_false_iff_not] at h k
  omega

theorem refLt_asym {a b : ARef} (h : refLt a b = true) : refLt b a = false := by
 cases k : refLt b a with
 | false => rfl
 | true => have := refLt_tr h k; rw [refLt_self] at this; cases this

def refCmp (a b : ARef) : Int := if a = b then 0 else if refLt a b = true then -1 else 1

theorem refCmp_lt (a b : ARef) : ltOf refCmp a b = refLt a b := by
 unfold ltOf refCmp
 by_cases h : a = b
 ·subst h; rw [if_pos rfl, refLt_self]; rfl
 ·rw [if_neg h]
  cases refLt a b <;> rfl

theorem refSWO : Sort.SWO (ltOf refCmp) where
 irrefl := fun x => by rw [refCmp_lt]; exact refLt_self x
 trans := fun x y z h k => by rw [refCmp_lt] at *; exact refLt_tr h k
 ntrans := fun x y z h k => by
  rw [refCmp_lt] at *
  cases hz : refLt x z with
  | false => rfl
  | true =>
    exfalso
    cases hy : refLt y x with
    | true => have := refLt_tr hy hz; rw [this] at k; cases k
    | false => rw [refLt_tri h hy] at hz; rw [hz] at k; cases k

theorem refTotal (x y : ARef) (h : ltOf refCmp x y = false) (k : ltOf refCmp y x = false) : x = y := by
 rw [refCmp_lt] at *
 exact refLt_tri h k

def cmpB (x y : ByteArray) : Int := if bl x y = true then -1 else if bl y x = true then 1 else 0

theorem cmpB_eq (a : ByteArray) : cmpB a a = 0 := by simp [cmpB, bl_self]
theorem cmpB_ne {a b : ByteArray} (h : ¬ a = b) : cmpB a b = if bl a b = true then -1 else 1 := by
 unfold cmpB
 cases k1 : bl a b with
 | true => rfl
 | false =>
   cases k2 : bl b a with
   | true => rfl
   | false => exact absurd (bl_tri k1 k2) h

theorem refCmp_or (a b : ARef) : refCmp a b = if ¬ Lib.compareInt a.kind b.kind = 0 then Lib.compareInt a.kind b.kind else if ¬ cmpB a.space b.space = 0 then cmpB a.space b.space else cmpB a.name b.name := by
 unfold refCmp
 by_cases h1 : a.kind = b.kind
 ·have e1 : Lib.compareInt a.kind b.kind = 0 := by unfold Lib.compareInt; rw [if_neg (by omega), if_neg (by omega)]
  simp only [e1, not_true_eq_false, if_false]
  by_cases h2 : a.space = b.space
  ·have e2 : cmpB a.space b.space = 0 := by rw [h2]; exact cmpB_eq _
   simp only [e2, not_true_eq_false, if_false]
   have e3 : refLt a b = bl a.name b.name := by unfold refLt; rw [if_pos h1, if_pos h2]
   by_cases h3 : a.name = b.name
   ·have hab : a = b := by
     obtain ⟨a1, a2, a3⟩ := a
     obtain ⟨b1, b2, b3⟩ := b
     simp only at h1 h2 h3
     rw [h1, h2, h3]
    rw [if_pos hab, h3, cmpB_eq]
   ·have hab : ¬ a = b := fun e => h3 (by rw [e])
    rw [if_neg hab, e3, cmpB_ne h3]
  ·have e3 : refLt a b = bl a.space b.space := by unfold refLt; rw [if_pos h1, if_neg h2]
   have hab : ¬ a = b := fun e => h2 (by rw [e])
   rw [if_neg hab, e3, cmpB_ne h2]
   cases bl a.space b.space <;> simp
 ·have e3 : refLt a b = decide (a.kind < b.kind) := by unfold refLt; rw [if_neg h1]
  have hab : ¬ a = b := fun e => h1 (by rw [e])
  rw [if_neg hab, e3]
  unfold Lib.compareInt
  by_cases h2 : a.kind < b.kind
  ·simp [h2]
  ·have h3 : a.kind > b.kind := by omega
   simp [h2, h3]


abbrev encR (x : ARef) : List Value := [.int .i64 x.kind, .string x.space, .string x.name]

theorem mem_isNaN_i (x : Int) (w : World) : Calls Tryz.prog 114 #[.int .i64 x] w fun e w' => e = .returned (.bool false) ∧ w' = w := by
 go_enter Tryz.func114, Tryz.ntmps114
 go_wp2
 go_ret
 exact ⟨by simp, rfl⟩

theorem mem_isNaN_s (x : ByteArray) (w : World) : Calls Tryz.prog 115 #[.string x] w fun e w' => e = .returned (.bool false) ∧ w' = w := by
 go_enter Tryz.func115, Tryz.ntmps115
 go_wp2
 go_ret
 exact ⟨by simp, rfl⟩

set_option maxHeartbeats 1000000 in
theorem mem_Compare_i (x y : Int) (w : World) : Calls Tryz.prog 65 #[.int .i64 x, .int .i64 y] w fun e w' => e = .returned (.int .i64 (Lib.compareInt x y)) ∧ w' = w := by
 go_enter Tryz.func65, Tryz.ntmps65
 go_wp2_with (go_at_call 114; refine (mem_isNaN_i _ _).mono ?_; rintro e w' ⟨rfl, hw⟩; rw [hw])
 all_goals (go_ret; refine ⟨?_, rfl⟩; unfold Lib.compareInt; (repeat' split) <;> first | rfl | (exfalso; omega))

set_option maxHeartbeats 1000000 in
theorem mem_Compare_s (x y : ByteArray) (w : World) : Calls Tryz.prog 66 #[.string x, .string y] w fun e w' => e = .returned (.int .i64 (cmpB x y)) ∧ w' = w := by
 have hg : ∀ w : World, Sem.run Tryz.prog (binOp .gtr 9 (.string x) (.string y)) w = .ok (.bool (bl y x)) w := fun w => by
  have := less_total x y
  unfold bl
  simp only [binOp, Op.stringOp, Sem.run_pure, bytes_eq]
  rw [← Bool.not_not (Op.bytesLess y.toList x.toList), ← this]
 go_enter Tryz.func66, Tryz.ntmps66
 go_wp2_with (go_at_call 115; refine (mem_isNaN_s _ _).mono ?_; rintro e w' ⟨rfl, hw⟩; rw [hw])
 all_goals (go_ret; refine ⟨?_, rfl⟩; unfold cmpB; unfold bl at *; simp [*])

set_option maxHeartbeats 1000000 in
theorem mem_Or (a b c : Int) (W : World) (blk : Nat) (h0 : W.cell? ⟨blk, 0, none⟩ = some (.int .i64 a)) (h1 : W.cell? ⟨blk, 1, none⟩ = some (.int .i64 b)) (h2 : W.cell? ⟨blk, 2, none⟩ = some (.int .i64 c)) :
 Calls Tryz.prog 64 #[.slice (some ⟨blk, 0, none⟩) 3 3] W fun e w' => e = .returned (.int .i64 (if ¬ a = 0 then a else if ¬ b = 0 then b else c)) ∧ ∃ q, w' = W.drewN q := by
 generalize hr : (if ¬ a = 0 then a else if ¬ b = 0 then b else c) = r
 go_enter Tryz.func64, Tryz.ntmps64
 go_wp2
 refine wp_loop_rounds 4 ?_
 rw [rounds_succ]
 go_wp2
 ·go_ret
  exact ⟨by rw [← hr]; simp_all, 0, rfl⟩
 rw [rounds_succ]
 go_wp2
 ·go_ret
  exact ⟨by rw [← hr]; simp_all, 0, rfl⟩
 rw [rounds_succ]
 go_wp2
 ·go_ret
  exact ⟨by rw [← hr]; simp_all, 0, rfl⟩
 rw [rounds_succ]
 go_wp2
 go_ret
 exact ⟨by rw [← hr]; simp_all, 0, rfl⟩

theorem cell_new (W : World) (cs : Array Value) (t : TypeId) (j : Nat) : (W.alloc (.cells cs t)).cell? ⟨W.heap.size, j, none⟩ = cs[j]? := by
 have h : (W.alloc (.cells cs t)).heap[W.heap.size]? = some (.cells cs t (0, 0)) := by
  show (W.heap.push _)[W.heap.size]? = _
  rw [Array.getElem?_push, if_pos rfl]
 simp only [World.cell?, h]
 rfl

set_option maxHeartbeats 2000000 in
theorem mem_Order (x y : ARef) (W : World) : Calls Tryz.prog 20 #[.agg #[.int .i64 x.kind, .string x.space, .string x.name], .agg #[.int .i64 y.kind, .string y.space, .string y.name]] W fun e w' => e = .returned (.int .i64 (refCmp x y)) ∧ ∃ q os', w' = Sort.grow (W.drewN q) os' := by
 rw [refCmp_or]
 have c1 := fun W => mem_Compare_i x.kind y.kind W
 have c2 := fun W => mem_Compare_s x.space y.space W
 have c3 := fun W => mem_Compare_s x.name y.name W
 have c4 := fun W blk => mem_Or (Lib.compareInt x.kind y.kind) (cmpB x.space y.space) (cmpB x.name y.name) W blk
 generalize Lib.compareInt x.kind y.kind = r1 at c1 c4 ⊢
 generalize cmpB x.space y.space = r2 at c2 c4 ⊢
 generalize cmpB x.name y.name = r3 at c3 c4 ⊢
 generalize (if ¬ r1 = 0 then r1 else if ¬ r2 = 0 then r2 else r3) = r at c4 ⊢
 go_enter Tryz.func20, Tryz.ntmps20
 go_wp2
 generalize hW2 : (W.alloc (Obj.cells #[Value.int IntKind.i64 x.kind, Value.string x.space, Value.string x.name] 23)).alloc (Obj.cells #[Value.int IntKind.i64 y.kind, Value.string y.space, Value.string y.name] 23) = W2
 have e1 : W2.heap[W.heap.size]? = some (Obj.cells #[Value.int IntKind.i64 x.kind, Value.string x.space, Value.string x.name] 23 (0, 0)) := by
  rw [← hW2]
  show ((W.heap.push _).push _)[W.heap.size]? = _
  rw [Array.getElem?_push, if_neg (by rw [Array.size_push]; omega), Array.getElem?_push, if_pos rfl]
 have e2 : W2.heap[W.heap.size + 1]? = some (Obj.cells #[Value.int IntKind.i64 y.kind, Value.string y.space, Value.string y.name] 23 (0, 0)) := by
  rw [← hW2]
  show ((W.heap.push _).push _)[W.heap.size + 1]? = _
  rw [Array.getElem?_push, if_pos (by rw [Array.size_push])]
 have hx : ∀ j v, (encR x)[j]? = some v → W2.drew.cell? ⟨W.heap.size, j, none⟩ = some v := fun j v hv => by
  simp only [World.cell?, World.drew, e1]
  rw [← List.getElem?_toArray] at hv
  exact hv
 have hy : ∀ j v, (encR y)[j]? = some v → W2.drew.cell? ⟨W.heap.size + 1, j, none⟩ = some v := fun j v hv => by
  simp only [World.cell?, World.drew, e2]
  rw [← List.getElem?_toArray] at hv
  exact hv
 have hg : W2.drew = Sort.grow (W.drewN 1) #[Obj.cells #[Value.int IntKind.i64 x.kind, Value.string x.space, Value.string x.name] 23, Obj.cells #[Value.int IntKind.i64 y.kind, Value.string y.space, Value.string y.name] 23] := by
  rw [← hW2, Sort.alloc_eq_grow, Sort.alloc_eq_grow, Sort.grow_grow]
  rfl
 refine wp_region_still_tail 15 (by kernel_rfl) (by kernel_rfl) ?_
 change wpStill _ _ W2.drew (fun a' => wpList _ _ _ _ a' W2.drew) _ _
 have hx0 := hx 0 _ rfl
 have hx1 := hx 1 _ rfl
 have hx2 := hx 2 _ rfl
 have hy0 := hy 0 _ rfl
 have hy1 := hy 1 _ rfl
 have hy2 := hy 2 _ rfl
 clear hx hy hW2 e1 e2
 generalize W2.drew = W3 at hx0 hx1 hx2 hy0 hy1 hy2 hg ⊢
 have HG : Aside (W3 = Sort.grow (W.drewN 1) #[Obj.cells #[Value.int IntKind.i64 x.kind, Value.string x.space, Value.string x.name] 23, Obj.cells #[Value.int IntKind.i64 y.kind, Value.string y.space, Value.string y.name] 23]) := hg
 clear hg
 simp only [List.take_succ_cons, List.take_zero, List.drop_succ_cons, List.drop_zero]
 repeat still_step
 still_call (c1 _)
 repeat still_step
 still_call (c2 _)
 repeat still_step
 still_call (c3 _)
 refine wpStill_nil ?_
 go_wp2_with (go_at_call 64; refine (c4 _ _ (cell_new _ _ _ 0) (cell_new _ _ _ 1) (cell_new _ _ _ 2)).mono ?_; rintro e w' ⟨rfl, q, rfl⟩)
 go_ret
 obtain rfl : W3 = _ := HG
 refine ⟨rfl, 1 + q, #[Obj.cells #[Value.int IntKind.i64 x.kind, Value.string x.space, Value.string x.name] 23, Obj.cells #[Value.int IntKind.i64 y.kind, Value.string y.space, Value.string y.name] 23] ++ #[Obj.cells #[Value.int IntKind.i64 r1, Value.int IntKind.i64 r2, Value.int IntKind.i64 r3] 3], ?_⟩
 rw [Sort.alloc_eq_grow, Sort.grow_grow]
 show Sort.grow ((W.drewN 1).drewN q) _ = _
 rw [World.drewN_drewN]


theorem thing_class (o : AObj) : Full Tryz.prog 34 [.ptr 500001 0] [(500001, o.ds)] true (fun d bs => d = bln true ∧ bs = [(500001,
 [int o.ref.kind, str o.ref.space, str o.ref.name, bln false, .pd (.slice (rows APair.pd o.labels)), .pd (.slice (ints o.ports)), str o.cls, .pd (.slice (rows AListener.pd o.listeners)),
  .pd (.slice (rows AParent.pd o.parents)), .pd (.slice (strs o.hosts)), .pd (.slice (rows ARule.pd o.rules)), .pd (.slice (rows ASide.pd o.from_)), .pd (.slice (rows ASide.pd o.to_))])]) := by
 refine full_of_run follows an_zk71m Tryz.func34 rfl ok_zk71m.1 ok_zk71m.2 (by simp [Tryz.ntmps34]) (by simp [Tryz.ntmps34]) (.inl rfl) ?_
 rw [run_start]
 simp only [ac_zk71m, go_sem, simprocAttr]
 simp only [retK, fullK, resD, retL, oneD, simprocAttr, Tryz.results34]
 exact ⟨_, _, rfl, by simp [lessL, lk], rfl, rfl⟩

theorem thing_space (o : AObj) (h : o.ok) : Full Tryz.prog 35 [.ptr 500001 0] [(500001, o.ds)] true (fun d bs => d = bln (labelsMay o.labels) ∧ bs = [(500001,
 [int o.ref.kind, str o.ref.space, str o.ref.name, bln o.good, .nils, .pd (.slice (ints o.ports)), str o.cls, .pd (.slice (rows AListener.pd o.listeners)),
  .pd (.slice (rows AParent.pd o.parents)), .pd (.slice (strs o.hosts)), .pd (.slice (rows ARule.pd o.rules)), .pd (.slice (rows ASide.pd o.from_)), .pd (.slice (rows ASide.pd o.to_))])]) := by
 refine full_of_run follows an_zag3z Tryz.func35 rfl ok_zag3z.1 ok_zag3z.2 (by simp [Tryz.ntmps35]) (by simp [Tryz.ntmps35]) (.inl rfl) ?_
 rw [run_start]
 simp only [ac_zag3z, go_sem, simprocAttr]
 refine (label_May o.labels h.la).callW (enters_of Tryz.func76 rfl rfl) _ rfl rfl ?_
 rintro d rfl
 simp only [go_sem, simprocAttr]
 simp only [retK, fullK, resD, retL, oneD, simprocAttr, Tryz.results35]
 exact ⟨_, _, rfl, by simp [lessL, lk], rfl, rfl⟩

def serviceMay (l : List Int) : Bool := decide (0 < l.length) && every oport l 8 && sortedInts l && !twice intSame l

theorem thing_service (o : AObj) (h : o.ok) : Full Tryz.prog 36 [.ptr 500001 0] [(500001, o.ds)] true (fun d bs => d = bln (serviceMay o.ports) ∧ bs = [(500001,
 [int o.ref.kind, str o.ref.space, str o.ref.name, bln o.good, .pd (.slice (rows APair.pd o.labels)), .nils, str o.cls, .pd (.slice (rows AListener.pd o.listeners)),
  .pd (.slice (rows AParent.pd o.parents)), .pd (.slice (strs o.hosts)), .pd (.slice (rows ARule.pd o.rules)), .pd (.slice (rows ASide.pd o.from_)), .pd (.slice (rows ASide.pd o.to_))])]) := by
 refine full_of_run follows an_zxlfl Tryz.func36 rfl ok_zxlfl.1 ok_zxlfl.2 (by simp [Tryz.ntmps36]) (by simp [Tryz.ntmps36]) (.inl rfl) ?_
 rw [run_start]
 simp only [ac_zxlfl, go_sem, simprocAttr]
 (repeat' (first | (refine GifP.mk (fun _ => ?_) (fun _ => ?_)) | (refine Gif.mk (fun _ => ?_) (fun _ => ?_)) | ((first | refine (every_int oport _ (enters_of Tryz.func78 rfl rfl) o.ports h.po 8 (fun x _ => object_port x)).callW (enters_of Tryz.func77 rfl rfl) _ rfl rfl ?_ | refine (slices_IsSorted_int o.ports h.po).callW (enters_of Tryz.func79 rfl rfl) _ rfl rfl ?_ | refine (twice_int intSame _ (enters_of Tryz.func81 rfl rfl) o.ports h.po (fun x _ y _ => thing_service_1 x y)).callW (enters_of Tryz.func80 rfl rfl) _ rfl rfl ?_); rintro _ rfl; try simp only [go_sem, simprocAttr]))) <;> (simp only [retK, fullK, resD, retL, oneD, simprocAttr, Tryz.results36]; exact ⟨_, _, rfl, by simp [lessL, lk], congrArg bln (by first | rfl | (rw [Bool.eq_iff_iff]; simp only [serviceMay]; (first | (simp; done) | (simp; omega) | (simp [*]; done) | (simp [*]; omega))) | (simp_all [serviceMay]; done) | (exfalso; omega)), rfl⟩)

def gatewayMay (s : ByteArray) (l : List AListener) : Bool := dname s && decide (0 < l.length) && every listenerMay l 8 && !twice lisName l

theorem thing_gateway (o : AObj) (h : o.ok) : Full Tryz.prog 37 [.ptr 500001 0] [(500001, o.ds)] true (fun d bs => d = bln (gatewayMay o.cls o.listeners) ∧ bs = [(500001,
 [int o.ref.kind, str o.ref.space, str o.ref.name, bln o.good, .pd (.slice (rows APair.pd o.labels)), .pd (.slice (ints o.ports)), str ⟨#[]⟩, .nils,
  .pd (.slice (rows AParent.pd o.parents)), .pd (.slice (strs o.hosts)), .pd (.slice (rows ARule.pd o.rules)), .pd (.slice (rows ASide.pd o.from_)), .pd (.slice (rows ASide.pd o.to_))])]) := by
 refine full_of_run follows an_zqquk Tryz.func37 rfl ok_zqquk.1 ok_zqquk.2 (by simp [Tryz.ntmps37]) (by simp [Tryz.ntmps37]) (.inl rfl) ?_
 rw [run_start]
 simp only [ac_zqquk, go_sem, simprocAttr, go_sem, rows_len]
 (repeat' (first | (refine GifP.mk (fun _ => ?_) (fun _ => ?_)) | (refine Gif.mk (fun _ => ?_) (fun _ => ?_)) | ((first | refine (dns_Name _).callW (enters_of Tryz.func70 rfl rfl) _ rfl rfl ?_ | refine (every_Listener listenerMay _ (enters_of Tryz.func84 rfl rfl) o.listeners h.li 8 (fun x hx => object_listener x (h.lis x hx))).callW (enters_of Tryz.func83 rfl rfl) _ rfl rfl ?_ | refine (twice_Listener lisName _ (enters_of Tryz.func82 rfl rfl) o.listeners h.li (fun x _ y _ => thing_gateway_1 x y)).callW (enters_of Tryz.func85 rfl rfl) _ rfl rfl ?_); rintro _ rfl; try simp only [go_sem, simprocAttr]))) <;> (simp only [retK, fullK, resD, retL, oneD, simprocAttr, Tryz.results37]; exact ⟨_, _, rfl, by simp [lessL, lk], congrArg bln (by first | rfl | (rw [Bool.eq_iff_iff]; simp only [gatewayMay]; (first | (simp; done) | (simp; omega) | (simp [*]; done) | (simp [*]; omega))) | (simp_all [gatewayMay]; done) | (exfalso; omega)), rfl⟩)

def routeMay (ps : List AParent) (hs : List ByteArray) (rs : List ARule) : Bool :=
 !(twice parSame ps || twice strSame hs) && every parentMay ps 4 && every patMay hs 4 && every ruleMay rs 6

theorem thing_route (o : AObj) (h : o.ok) : Full Tryz.prog 38 [.ptr 500001 0] [(500001, o.ds)] true (fun d bs => d = bln (routeMay o.parents o.hosts o.rules) ∧ bs = [(500001,
 [int o.ref.kind, str o.ref.space, str o.ref.name, bln o.good, .pd (.slice (rows APair.pd o.labels)), .pd (.slice (ints o.ports)), str o.cls, .pd (.slice (rows AListener.pd o.listeners)),
  .nils, .nils, .nils, .pd (.slice (rows ASide.pd o.from_)), .pd (.slice (rows ASide.pd o.to_))])]) := by
 refine full_of_run follows an_ztpho Tryz.func38 rfl ok_ztpho.1 ok_ztpho.2 (by simp [Tryz.ntmps38]) (by simp [Tryz.ntmps38]) (.inl rfl) ?_
 rw [run_start]
 simp (maxSteps := 5000000) only [ac_ztpho, go_sem, simprocAttr, go_sem, rows_len]
 (repeat' (first | (refine GifP.mk (fun _ => ?_) (fun _ => ?_)) | (refine Gif.mk (fun _ => ?_) (fun _ => ?_)) | ((first | refine (twice_Parent parSame _ (enters_of Tryz.func87 rfl rfl) o.parents h.pa (fun x _ y _ => thing_route_1 x y)).callW (enters_of Tryz.func86 rfl rfl) _ rfl rfl ?_ | refine (twice_string strSame _ (enters_of Tryz.func89 rfl rfl) o.hosts h.ho (fun x _ y _ => thing_route_2 x y)).callW (enters_of Tryz.func88 rfl rfl) _ rfl rfl ?_ | refine (every_Parent parentMay _ (enters_of Tryz.func93 rfl rfl) o.parents h.pa 4 (fun x _ => object_parent x)).callW (enters_of Tryz.func92 rfl rfl) _ rfl rfl ?_ | refine (every_string patMay _ (enters_of Tryz.func90 rfl rfl) o.hosts h.ho 4 (fun x _ => thing_route_3 x)).callW (enters_of Tryz.func94 rfl rfl) _ rfl rfl ?_ | refine (every_Rule ruleMay _ (enters_of Tryz.func96 rfl rfl) o.rules h.ru 6 (fun x hx => object_ruled x (h.rus x hx))).callW (enters_of Tryz.func95 rfl rfl) _ rfl rfl ?_); rintro _ rfl; try simp only [go_sem, simprocAttr]))) <;> (simp only [retK, fullK, resD, retL, oneD, simprocAttr, Tryz.results38]; exact ⟨_, _, rfl, by simp [lessL, lk], congrArg bln (by first | rfl | (rw [Bool.eq_iff_iff]; simp only [routeMay]; (first | (simp; done) | (simp; omega) | (simp [*]; done) | (simp [*]; omega))) | (simp_all [routeMay]; done) | (exfalso; omega)), rfl⟩)

def grantMay (f t : List ASide) : Bool := decide (0 < f.length) && decide (0 < t.length) && every sideFrom f 4 && every sideTo t 4

theorem thing_grant (o : AObj) (h : o.ok) : Full Tryz.prog 39 [.ptr 500001 0] [(500001, o.ds)] true (fun d bs => d = bln (grantMay o.from_ o.to_) ∧ bs = [(500001,
 [int o.ref.kind, str o.ref.space, str o.ref.name, bln o.good, .pd (.slice (rows APair.pd o.labels)), .pd (.slice (ints o.ports)), str o.cls, .pd (.slice (rows AListener.pd o.listeners)),
  .pd (.slice (rows AParent.pd o.parents)), .pd (.slice (strs o.hosts)), .pd (.slice (rows ARule.pd o.rules)), .nils, .nils])]) := by
 refine full_of_run follows an_zlbax Tryz.func39 rfl ok_zlbax.1 ok_zlbax.2 (by simp [Tryz.ntmps39]) (by simp [Tryz.ntmps39]) (.inl rfl) ?_
 rw [run_start]
 simp only [ac_zlbax, go_sem, simprocAttr, go_sem, rows_len]
 (repeat' (first | (refine GifP.mk (fun _ => ?_) (fun _ => ?_)) | (refine Gif.mk (fun _ => ?_) (fun _ => ?_)) | ((first | refine (every_Side sideFrom _ (enters_of Tryz.func97 rfl rfl) o.from_ h.fr 4 (fun x _ => thing_grant_1 x)).callW (enters_of Tryz.func99 rfl rfl) _ rfl rfl ?_ | refine (every_Side sideTo _ (enters_of Tryz.func98 rfl rfl) o.to_ h.to 4 (fun x _ => thing_grant_2 x)).callW (enters_of Tryz.func99 rfl rfl) _ rfl rfl ?_); rintro _ rfl; try simp only [go_sem, simprocAttr]))) <;> (simp only [retK, fullK, resD, retL, oneD, simprocAttr, Tryz.results39]; exact ⟨_, _, rfl, by simp [lessL, lk], congrArg bln (by first | rfl | (rw [Bool.eq_iff_iff]; simp only [grantMay]; (first | (simp; done) | (simp; omega) | (simp [*]; done) | (simp [*]; omega))) | (simp_all [grantMay]; done) | (exfalso; omega)), rfl⟩)


def AObj.zero (r : ARef) : AObj := ⟨r, false, [], [], ⟨#[]⟩, [], [], [], [], [], []⟩

theorem AObj.zero_ok (r : ARef) : (AObj.zero r).ok := ⟨by simp [AObj.zero], by simp [AObj.zero], by simp [AObj.zero], by simp [AObj.zero], by simp [AObj.zero], by simp [AObj.zero], by simp [AObj.zero], by simp [AObj.zero], by simp [AObj.zero], by simp [AObj.zero]⟩

def AObj.strip (o : AObj) : AObj :=
 if o.ref.kind = 1 ∨ o.ref.kind = 4 then { o with good := false }
 else if o.ref.kind = 2 then { o with labels := [] }
 else if o.ref.kind = 3 then { o with ports := [] }
 else if o.ref.kind = 5 then { o with listeners := [], cls := ⟨#[]⟩ }
 else if o.ref.kind = 6 then { o with parents := [], hosts := [], rules := [] }
 else { o with from_ := [], to_ := [] }

def kindMay (o : AObj) : Bool :=
 if o.ref.kind = 1 ∨ o.ref.kind = 4 then true
 else if o.ref.kind = 2 then labelsMay o.labels
 else if o.ref.kind = 3 then serviceMay o.ports
 else if o.ref.kind = 5 then gatewayMay o.cls o.listeners
 else if o.ref.kind = 6 then routeMay o.parents o.hosts o.rules
 else grantMay o.from_ o.to_

def objMay (o : AObj) : Bool := mayRef o.ref && kindMay o && objSame o.strip (AObj.zero o.ref)

theorem mayRef_kind {r : ARef} (h : mayRef r = true) : r.kind = 1 ∨ r.kind = 2 ∨ r.kind = 3 ∨ r.kind = 4 ∨ r.kind = 5 ∨ r.kind = 6 ∨ r.kind = 7 := by
 unfold mayRef at h
 split at h
 ·omega
 ·split at h
  ·omega
  ·simp [okind] at h; omega

theorem strip_ok {o s : AObj} (h : o.ok) (h1 : s.labels = o.labels ∨ s.labels = []) (h2 : s.ports = o.ports ∨ s.ports = []) (h3 : s.listeners = o.listeners ∨ s.listeners = []) (h4 : s.parents = o.parents ∨ s.parents = []) (h5 : s.hosts = o.hosts ∨ s.hosts = [])
 (h6 : s.rules = o.rules ∨ s.rules = []) (h7 : s.from_ = o.from_ ∨ s.from_ = []) (h8 : s.to_ = o.to_ ∨ s.to_ = []) : s.ok where
 la := by rcases h1 with e | e <;> rw [e] <;> first | exact h.la | simp
 po := by rcases h2 with e | e <;> rw [e] <;> first | exact h.po | simp
 li := by rcases h3 with e | e <;> rw [e] <;> first | exact h.li | simp
 pa := by rcases h4 with e | e <;> rw [e] <;> first | exact h.pa | simp
 ho := by rcases h5 with e | e <;> rw [e] <;> first | exact h.ho | simp
 ru := by rcases h6 with e | e <;> rw [e] <;> first | exact h.ru | simp
 fr := by rcases h7 with e | e <;> rw [e] <;> first | exact h.fr | simp
 to := by rcases h8 with e | e <;> rw [e] <;> first | exact h.to | simp
 lis := by rcases h3 with e | e <;> rw [e] <;> first | exact h.lis | simp
 rus := by rcases h6 with e | e <;> rw [e] <;> first | exact h.rus | simp

set_option maxHeartbeats 4000000 in
theorem object_May (o : AObj) (h : o.ok) : Pure Tryz.prog 11 [o.d] (fun d => d = bln (objMay o)) := by
 refine pure_of_run follows an_zfwje Tryz.func11 rfl ok_zfwje.1 ok_zfwje.2 (by simp [Tryz.ntmps11]) ?_
 rw [run_start]
 simp (maxSteps := 5000000) only [ac_zfwje, go_sem, simprocAttr, go_sem]
 refine (object_MayRef o.ref).callX (enters_of Tryz.func25 rfl rfl) _ rfl rfl ?_
 rintro d rfl
 by_cases hm : mayRef o.ref = true
 ·have stop : kindMay o = false → objMay o = false := fun e => by simp [objMay, e]
  have go : ∀ s : AObj, o.strip = s → kindMay o = true → objMay o = objSame s (AObj.zero o.ref) := fun s e1 e2 => by simp [objMay, hm, e1, e2]
  rcases mayRef_kind hm with hk | hk | hk | hk | hk | hk | hk
  ·obtain ⟨⟨kd, sp, nm⟩, gd, la, po, cl, li, pa, ho, ru, fr, to⟩ := o
   simp only at hk
   subst hk
   simp (maxSteps := 5000000) only [go_sem, simprocAttr, go_sem, hm]
   refine (thing_class ⟨⟨1, sp, nm⟩, gd, la, po, cl, li, pa, ho, ru, fr, to⟩).callW (enters_of Tryz.func34 rfl rfl) _ false [(9, 500001)] [] [] [] rfl rfl rfl ?_
   rintro d bs ⟨rfl, rfl⟩
   simp (maxSteps := 5000000) only [go_sem, simprocAttr, go_sem]
   have hs : (⟨⟨1, sp, nm⟩, gd, la, po, cl, li, pa, ho, ru, fr, to⟩ : AObj).strip = { (⟨⟨1, sp, nm⟩, gd, la, po, cl, li, pa, ho, ru, fr, to⟩ : AObj) with good := false } := by simp [AObj.strip]
   have hkm : kindMay (⟨⟨1, sp, nm⟩, gd, la, po, cl, li, pa, ho, ru, fr, to⟩ : AObj) = true := by simp [kindMay]
   refine (object_Same ({ (⟨⟨1, sp, nm⟩, gd, la, po, cl, li, pa, ho, ru, fr, to⟩ : AObj) with good := false } : AObj) (AObj.zero ⟨1, sp, nm⟩) (strip_ok h (by simp) (by simp) (by simp) (by simp) (by simp) (by simp) (by simp) (by simp)) (AObj.zero_ok ⟨1, sp, nm⟩)).callX (enters_of Tryz.func13 rfl rfl) _ rfl rfl ?_
   rintro d rfl
   simp (maxSteps := 5000000) only [go_sem, simprocAttr, go_sem]
   simp only [retK, resD, retL, oneD, simprocAttr, Tryz.results11]
   exact ⟨_, rfl, rfl, congrArg bln (go _ hs (by rw [hkm])).symm⟩
  ·obtain ⟨⟨kd, sp, nm⟩, gd, la, po, cl, li, pa, ho, ru, fr, to⟩ := o
   simp only at hk
   subst hk
   simp (maxSteps := 5000000) only [go_sem, simprocAttr, go_sem, hm]
   refine (thing_space ⟨⟨2, sp, nm⟩, gd, la, po, cl, li, pa, ho, ru, fr, to⟩ h).callW (enters_of Tryz.func35 rfl rfl) _ false [(9, 500001)] [] [] [] rfl rfl rfl ?_
   rintro d bs ⟨rfl, rfl⟩
   simp (maxSteps := 5000000) only [go_sem, simprocAttr, go_sem]
   have hs : (⟨⟨2, sp, nm⟩, gd, la, po, cl, li, pa, ho, ru, fr, to⟩ : AObj).strip = { (⟨⟨2, sp, nm⟩, gd, la, po, cl, li, pa, ho, ru, fr, to⟩ : AObj) with labels := [] } := by simp [AObj.strip]
   have hkm : kindMay (⟨⟨2, sp, nm⟩, gd, la, po, cl, li, pa, ho, ru, fr, to⟩ : AObj) = labelsMay la := by simp [kindMay]
   refine Gif.mk (fun h1 => ?_) (fun h1 => ?_)
   ·refine (object_Same ({ (⟨⟨2, sp, nm⟩, gd, la, po, cl, li, pa, ho, ru, fr, to⟩ : AObj) with labels := [] } : AObj) (AObj.zero ⟨2, sp, nm⟩) (strip_ok h (by simp) (by simp) (by simp) (by simp) (by simp) (by simp) (by simp) (by simp)) (AObj.zero_ok ⟨2, sp, nm⟩)).callX (enters_of Tryz.func13 rfl rfl) _ rfl rfl ?_
    rintro d rfl
    simp (maxSteps := 5000000) only [go_sem, simprocAttr, go_sem]
    simp only [retK, resD, retL, oneD, simprocAttr, Tryz.results11]
    exact ⟨_, rfl, rfl, congrArg bln (go _ hs (by rw [hkm]; exact h1)).symm⟩
   ·simp only [retK, resD, retL, oneD, simprocAttr, Tryz.results11]
    exact ⟨_, rfl, rfl, congrArg bln (stop (by rw [hkm]; exact h1)).symm⟩
  ·obtain ⟨⟨kd, sp, nm⟩, gd, la, po, cl, li, pa, ho, ru, fr, to⟩ := o
   simp only at hk
   subst hk
   simp (maxSteps := 5000000) only [go_sem, simprocAttr, go_sem, hm]
   refine (thing_service ⟨⟨3, sp, nm⟩, gd, la, po, cl, li, pa, ho, ru, fr, to⟩ h).callW (enters_of Tryz.func36 rfl rfl) _ false [(9, 500001)] [] [] [] rfl rfl rfl ?_
   rintro d bs ⟨rfl, rfl⟩
   simp (maxSteps := 5000000) only [go_sem, simprocAttr, go_sem]
   have hs : (⟨⟨3, sp, nm⟩, gd, la, po, cl, li, pa, ho, ru, fr, to⟩ : AObj).strip = { (⟨⟨3, sp, nm⟩, gd, la, po, cl, li, pa, ho, ru, fr, to⟩ : AObj) with ports := [] } := by simp [AObj.strip]
   have hkm : kindMay (⟨⟨3, sp, nm⟩, gd, la, po, cl, li, pa, ho, ru, fr, to⟩ : AObj) = serviceMay po := by simp [kindMay]
   refine Gif.mk (fun h1 => ?_) (fun h1 => ?_)
   ·refine (object_Same ({ (⟨⟨3, sp, nm⟩, gd, la, po, cl, li, pa, ho, ru, fr, to⟩ : AObj) with ports := [] } : AObj) (AObj.zero ⟨3, sp, nm⟩) (strip_ok h (by simp) (by simp) (by simp) (by simp) (by simp) (by simp) (by simp) (by simp)) (AObj.zero_ok ⟨3, sp, nm⟩)).callX (enters_of Tryz.func13 rfl rfl) _ rfl rfl ?_
    rintro d rfl
    simp (maxSteps := 5000000) only [go_sem, simprocAttr, go_sem]
    simp only [retK, resD, retL, oneD, simprocAttr, Tryz.results11]
    exact ⟨_, rfl, rfl, congrArg bln (go _ hs (by rw [hkm]; exact h1)).symm⟩
   ·simp only [retK, resD, retL, oneD, simprocAttr, Tryz.results11]
    exact ⟨_, rfl, rfl, congrArg bln (stop (by rw [hkm]; exact h1)).symm⟩
  ·obtain ⟨⟨kd, sp, nm⟩, gd, la, po, cl, li, pa, ho, ru, fr, to⟩ := o
   simp only at hk
   subst hk
   simp (maxSteps := 5000000) only [go_sem, simprocAttr, go_sem, hm]
   refine (thing_class ⟨⟨4, sp, nm⟩, gd, la, po, cl, li, pa, ho, ru, fr, to⟩).callW (enters_of Tryz.func34 rfl rfl) _ false [(9, 500001)] [] [] [] rfl rfl rfl ?_
   rintro d bs ⟨rfl, rfl⟩
   simp (maxSteps := 5000000) only [go_sem, simprocAttr, go_sem]
   have hs : (⟨⟨4, sp, nm⟩, gd, la, po, cl, li, pa, ho, ru, fr, to⟩ : AObj).strip = { (⟨⟨4, sp, nm⟩, gd, la, po, cl, li, pa, ho, ru, fr, to⟩ : AObj) with good := false } := by simp [AObj.strip]
   have hkm : kindMay (⟨⟨4, sp, nm⟩, gd, la, po, cl, li, pa, ho, ru, fr, to⟩ : AObj) = true := by simp [kindMay]
   refine (object_Same ({ (⟨⟨4, sp, nm⟩, gd, la, po, cl, li, pa, ho, ru, fr, to⟩ : AObj) with good := false } : AObj) (AObj.zero ⟨4, sp, nm⟩) (strip_ok h (by simp) (by simp) (by simp) (by simp) (by simp) (by simp) (by simp) (by simp)) (AObj.zero_ok ⟨4, sp, nm⟩)).callX (enters_of Tryz.func13 rfl rfl) _ rfl rfl ?_
   rintro d rfl
   simp (maxSteps := 5000000) only [go_sem, simprocAttr, go_sem]
   simp only [retK, resD, retL, oneD, simprocAttr, Tryz.results11]
   exact ⟨_, rfl, rfl, congrArg bln (go _ hs (by rw [hkm])).symm⟩
  ·obtain ⟨⟨kd, sp, nm⟩, gd, la, po, cl, li, pa, ho, ru, fr, to⟩ := o
   simp only at hk
   subst hk
   simp (maxSteps := 5000000) only [go_sem, simprocAttr, go_sem, hm]
   refine (thing_gateway ⟨⟨5, sp, nm⟩, gd, la, po, cl, li, pa, ho, ru, fr, to⟩ h).callW (enters_of Tryz.func37 rfl rfl) _ false [(9, 500001)] [] [] [] rfl rfl rfl ?_
   rintro d bs ⟨rfl, rfl⟩
   simp (maxSteps := 5000000) only [go_sem, simprocAttr, go_sem]
   have hs : (⟨⟨5, sp, nm⟩, gd, la, po, cl, li, pa, ho, ru, fr, to⟩ : AObj).strip = { (⟨⟨5, sp, nm⟩, gd, la, po, cl, li, pa, ho, ru, fr, to⟩ : AObj) with listeners := [], cls := ⟨#[]⟩ } := by simp [AObj.strip]
   have hkm : kindMay (⟨⟨5, sp, nm⟩, gd, la, po, cl, li, pa, ho, ru, fr, to⟩ : AObj) = gatewayMay cl li := by simp [kindMay]
   refine Gif.mk (fun h1 => ?_) (fun h1 => ?_)
   ·refine (object_Same ({ (⟨⟨5, sp, nm⟩, gd, la, po, cl, li, pa, ho, ru, fr, to⟩ : AObj) with listeners := [], cls := ⟨#[]⟩ } : AObj) (AObj.zero ⟨5, sp, nm⟩) (strip_ok h (by simp) (by simp) (by simp) (by simp) (by simp) (by simp) (by simp) (by simp)) (AObj.zero_ok ⟨5, sp, nm⟩)).callX (enters_of Tryz.func13 rfl rfl) _ rfl rfl ?_
    rintro d rfl
    simp (maxSteps := 5000000) only [go_sem, simprocAttr, go_sem]
    simp only [retK, resD, retL, oneD, simprocAttr, Tryz.results11]
    exact ⟨_, rfl, rfl, congrArg bln (go _ hs (by rw [hkm]; exact h1)).symm⟩
   ·simp only [retK, resD, retL, oneD, simprocAttr, Tryz.results11]
    exact ⟨_, rfl, rfl, congrArg bln (stop (by rw [hkm]; exact h1)).symm⟩
  ·obtain ⟨⟨kd, sp, nm⟩, gd, la, po, cl, li, pa, ho, ru, fr, to⟩ := o
   simp only at hk
   subst hk
   simp (maxSteps := 5000000) only [go_sem, simprocAttr, go_sem, hm]
   refine (thing_route ⟨⟨6, sp, nm⟩, gd, la, po, cl, li, pa, ho, ru, fr, to⟩ h).callW (enters_of Tryz.func38 rfl rfl) _ false [(9, 500001)] [] [] [] rfl rfl rfl ?_
   rintro d bs ⟨rfl, rfl⟩
   simp (maxSteps := 5000000) only [go_sem, simprocAttr, go_sem]
   have hs : (⟨⟨6, sp, nm⟩, gd, la, po, cl, li, pa, ho, ru, fr, to⟩ : AObj).strip = { (⟨⟨6, sp, nm⟩, gd, la, po, cl, li, pa, ho, ru, fr, to⟩ : AObj) with parents := [], hosts := [], rules := [] } := by simp [AObj.strip]
   have hkm : kindMay (⟨⟨6, sp, nm⟩, gd, la, po, cl, li, pa, ho, ru, fr, to⟩ : AObj) = routeMay pa ho ru := by simp [kindMay]
   refine Gif.mk (fun h1 => ?_) (fun h1 => ?_)
   ·refine (object_Same ({ (⟨⟨6, sp, nm⟩, gd, la, po, cl, li, pa, ho, ru, fr, to⟩ : AObj) with parents := [], hosts := [], rules := [] } : AObj) (AObj.zero ⟨6, sp, nm⟩) (strip_ok h (by simp) (by simp) (by simp) (by simp) (by simp) (by simp) (by simp) (by simp)) (AObj.zero_ok ⟨6, sp, nm⟩)).callX (enters_of Tryz.func13 rfl rfl) _ rfl rfl ?_
    rintro d rfl
    simp (maxSteps := 5000000) only [go_sem, simprocAttr, go_sem]
    simp only [retK, resD, retL, oneD, simprocAttr, Tryz.results11]
    exact ⟨_, rfl, rfl, congrArg bln (go _ hs (by rw [hkm]; exact h1)).symm⟩
   ·simp only [retK, resD, retL, oneD, simprocAttr, Tryz.results11]
    exact ⟨_, rfl, rfl, congrArg bln (stop (by rw [hkm]; exact h1)).symm⟩
  ·obtain ⟨⟨kd, sp, nm⟩, gd, la, po, cl, li, pa, ho, ru, fr, to⟩ := o
   simp only at hk
   subst hk
   simp (maxSteps := 5000000) only [go_sem, simprocAttr, go_sem, hm]
   refine (thing_grant ⟨⟨7, sp, nm⟩, gd, la, po, cl, li, pa, ho, ru, fr, to⟩ h).callW (enters_of Tryz.func39 rfl rfl) _ false [(9, 500001)] [] [] [] rfl rfl rfl ?_
   rintro d bs ⟨rfl, rfl⟩
   simp (maxSteps := 5000000) only [go_sem, simprocAttr, go_sem]
   have hs : (⟨⟨7, sp, nm⟩, gd, la, po, cl, li, pa, ho, ru, fr, to⟩ : AObj).strip = { (⟨⟨7, sp, nm⟩, gd, la, po, cl, li, pa, ho, ru, fr, to⟩ : AObj) with from_ := [], to_ := [] } := by simp [AObj.strip]
   have hkm : kindMay (⟨⟨7, sp, nm⟩, gd, la, po, cl, li, pa, ho, ru, fr, to⟩ : AObj) = grantMay fr to := by simp [kindMay]
   refine Gif.mk (fun h1 => ?_) (fun h1 => ?_)
   ·refine (object_Same ({ (⟨⟨7, sp, nm⟩, gd, la, po, cl, li, pa, ho, ru, fr, to⟩ : AObj) with from_ := [], to_ := [] } : AObj) (AObj.zero ⟨7, sp, nm⟩) (strip_ok h (by simp) (by simp) (by simp) (by simp) (by simp) (by simp) (by simp) (by simp)) (AObj.zero_ok ⟨7, sp, nm⟩)).callX (enters_of Tryz.func13 rfl rfl) _ rfl rfl ?_
    rintro d rfl
    simp (maxSteps := 5000000) only [go_sem, simprocAttr, go_sem]
    simp only [retK, resD, retL, oneD, simprocAttr, Tryz.results11]
    exact ⟨_, rfl, rfl, congrArg bln (go _ hs (by rw [hkm]; exact h1)).symm⟩
   ·simp only [retK, resD, retL, oneD, simprocAttr, Tryz.results11]
    exact ⟨_, rfl, rfl, congrArg bln (stop (by rw [hkm]; exact h1)).symm⟩
 ·have hm' : mayRef o.ref = false := by simpa using hm
  simp (maxSteps := 5000000) only [go_sem, simprocAttr, go_sem, hm']
  simp only [retK, resD, retL, oneD, simprocAttr, Tryz.results11]
  exact ⟨_, rfl, rfl, congrArg bln (by simp [objMay, hm'])⟩


def refZ : ARef := ⟨0, ⟨#[]⟩, ⟨#[]⟩⟩

instance : Inhabited ARef := ⟨refZ⟩

theorem encR_one (x : ARef) : ∀ v ∈ encR x, v.oneCell' = true := fun v hv => by
 simp only [encR, List.mem_cons, List.not_mem_nil, or_false] at hv
 rcases hv with rfl | rfl | rfl <;> rfl

theorem encR_inv {Fz : Nat → Nat → Prop} {w : World} {vs : List Value} {x : ARef} (h : PReps Fz w vs (ARef.pd x)) : vs = encR x := by
 cases h with
 | cons v _ vs _ h hs =>
   cases hs with
   | cons v' _ vs' _ h' hs' =>
     cases hs' with
     | cons v'' _ vs'' _ h'' hs'' =>
       cases hs''
       cases h; cases h'; cases h''
       rfl

theorem encR_rep {Fz : Nat → Nat → Prop} {w : World} (x : ARef) : PReps Fz w (encR x) (ARef.pd x) :=
 .cons _ _ _ _ (.raw _ rfl) (.cons _ _ _ _ (.raw _ rfl) (.cons _ _ _ _ (.raw _ rfl) .nil))

structure RowR (Fz : Nat → Nat → Prop) (w : World) (b len cap : Nat) (l : List ARef) : Prop where
 hlen : l.length = len
 hcap : len ≤ cap
 hmax : len ≤ maxLen
 hcell : ∀ j i x u, l[j]? = some x → (encR x)[i]? = some u → w.cell? ⟨b, j * 3 + i, none⟩ = some u ∧ Fz b (j * 3 + i)

theorem RowR.of {Fz : Nat → Nat → Prop} {w : World} {b len cap : Nat} {l : List ARef} (hl : l ≠ []) (h : PRep Fz w (.slice (some ⟨b, 0, none⟩) len cap) (.slice (rows ARef.pd l))) : RowR Fz w b len cap l := by
 generalize hE : rows ARef.pd l = E at h
 cases h with
 | empty => exact absurd (List.map_eq_nil_iff.1 hE) hl
 | slice _ _ _ _ sz _ vals hn hpos hcap hmax hlen hc hr =>
   have hll : l.length = len := by rw [← hn, ← hE]; simp [rows]
   have hv : ∀ j x, l[j]? = some x → vals j = encR x := fun j x hx => by
    have hj : j < len := by have := (List.getElem?_eq_some_iff.1 hx).1; omega
    have h1 := hr j hj
    rw [← hE, List.getD_eq_getElem?_getD, rows, List.getElem?_map, hx] at h1
    exact encR_inv h1
   have hsz : sz = 3 := by
    obtain ⟨x, hx⟩ := at_lt (l := l) (i := 0) (by omega)
    rw [← hlen 0 hpos, hv 0 x hx]
    rfl
   subst hsz
   refine ⟨hll, hcap, hmax, fun j i x u hx hu => ?_⟩
   have hj : j < len := by have := (List.getElem?_eq_some_iff.1 hx).1; omega
   have := hc j i u hj (by rw [hv j x hx]; exact hu)
   rwa [Nat.zero_add] at this

theorem RowR.rep {Fz : Nat → Nat → Prop} {w : World} {b len cap : Nat} {l : List ARef} (h : RowR Fz w b len cap l) (hl : l ≠ []) : PRep Fz w (.slice (some ⟨b, 0, none⟩) len cap) (.slice (rows ARef.pd l)) := by
 have hpos : 0 < len := by have := List.length_pos_iff.2 hl; have := h.hlen; omega
 refine .slice b 0 len cap 3 _ (fun j => encR (l.getD j refZ)) (by rw [← h.hlen]; simp [rows]) hpos h.hcap h.hmax (fun _ _ => rfl) (fun j i u hj hu => ?_) (fun j hj => ?_)
 ·obtain ⟨x, hx⟩ := at_lt (l := l) (i := j) (by have := h.hlen; omega)
  rw [List.getD_eq_getElem?_getD, hx] at hu
  rw [Nat.zero_add]
  exact h.hcell j i x u hx hu
 ·obtain ⟨x, hx⟩ := at_lt (l := l) (i := j) (by have := h.hlen; omega)
  rw [List.getD_eq_getElem?_getD, List.getD_eq_getElem?_getD, rows, List.getElem?_map, hx]
  exact encR_rep x

theorem RowR.holds {Fz : Nat → Nat → Prop} {w : World} {b len cap : Nat} {l : List ARef} (h : RowR Fz w b len cap l) {cur : Array Value} {e : TypeId} (hb : w.heap[b]? = some (.cells cur e (0, 0))) : Sort.HoldsK encR 3 w b 0 l.toArray := by
 intro t ht
 rw [Sort.size_flatK] at ht
 have ht' : t < l.length * 3 := by simpa using ht
 obtain ⟨x, hx⟩ := at_lt (l := l) (i := t / 3) (by omega)
 have h3 : t % 3 < 3 := Nat.mod_lt _ (by decide)
 have h1 := h.hcell (t / 3) (t % 3) x (encR x)[t % 3] hx (List.getElem?_eq_getElem (by simpa using h3))
 rw [Nat.div_add_mod' t 3] at h1
 rw [Sort.get_flatK _ _ _ _ (by simpa using ht'), Nat.zero_add]
 refine ⟨h1.1.trans ?_, by simp [World.frozen?, hb]⟩
 have e1 : l.toArray[t / 3]! = x := by
  rw [getElem!_pos _ _ (by simpa using (List.getElem?_eq_some_iff.1 hx).1)]
  simpa using (List.getElem?_eq_some_iff.1 hx).2
 rw [e1]
 simp only [id]
 rw [getElem!_pos _ _ (by simpa using h3)]

theorem RowR.of_holds {Fz : Nat → Nat → Prop} {w w' : World} {b len cap : Nat} {l l' : List ARef} (h : RowR Fz w b len cap l) (hl : l'.length = l.length) (hH : Sort.HoldsK encR 3 w' b 0 l'.toArray) : RowR Fz w' b len cap l' where
 hlen := hl.trans h.hlen
 hcap := h.hcap
 hmax := h.hmax
 hcell := fun j i x u hx hu => by
  have hj : j < l'.length := (List.getElem?_eq_some_iff.1 hx).1
  have hi : i < 3 := by simpa using (List.getElem?_eq_some_iff.1 hu).1
  obtain ⟨y, hy⟩ := at_lt (l := l) (i := j) (by omega)
  have h1 := (h.hcell j i y (encR y)[i] hy (List.getElem?_eq_getElem (by simpa using hi))).2
  have h2 := (hH.cell (i := j) (c := i) (by simpa using hj) hi).1
  rw [Nat.zero_add] at h2
  refine ⟨h2.trans ?_, h1⟩
  have e1 : l'.toArray[j]! = x := by
   rw [getElem!_pos _ _ (by simpa using hj)]
   simpa using (List.getElem?_eq_some_iff.1 hx).2
  rw [e1, getElem!_pos _ _ (by simpa using hi)]
  exact (List.getElem?_eq_getElem _).symm.trans hu

theorem grownBy_K {w : World} {b n : Nat} {os : Array Obj} (F : Array Value) : w.grownBy (Sort.grow (Sort.putRow id (Sort.ahead w n) b 0 F) os) (some b) := by
 refine ⟨rfl, rfl, rfl, by simp, fun k hk hne => ?_⟩
 rw [Sort.heap_grow_old _ _ (by simpa using hk)]
 have : b ≠ k := fun e => hne (by rw [e])
 simp [Sort.putRow, Sort.mapBlock, Sort.ahead, Array.getElem?_modify, this]

theorem heap_K {w : World} {b n : Nat} {os : Array Obj} {cur : Array Value} {e : TypeId} {fr : Nat × Nat} (F : Array Value) (hb : w.heap[b]? = some (.cells cur e fr)) :
 (Sort.grow (Sort.putRow id (Sort.ahead w n) b 0 F) os).heap[b]? = some (.cells (Sort.putCells id 0 F cur) e fr) := by
 have hg : b < w.heap.size := (Array.getElem?_eq_some_iff.1 hb).1
 rw [Sort.heap_grow_old _ _ (by simpa using hg)]
 simp [Sort.putRow, Sort.mapBlock, Sort.ahead, Array.getElem?_modify, hb, Sort.onCells]

def refSort (l : List ARef) : List ARef := l.mergeSort fun x y => !refLt y x

theorem sort_callW {SF OF : FuncId} (hSF : ∀ (vs : Array Value) (w : World), (callFunc SF vs).run Tryz.prog w = .ok (.enter SF vs) w)
 (hs0 : ∀ (b cap : Nat) (l : List ARef) (w : World), Sort.HoldsK encR 3 w b 0 l.toArray → b < w.heap.size → l.length < 4611686018427387904 → Calls Tryz.prog SF #[.slice (some ⟨b, 0, none⟩) l.length cap, .func (.func OF) #[] #[]] w fun e w' => e = .returned (.tuple #[]) ∧ ∃ n os, w' = sortWorldK encR 3 w b 0 n (refSort l).toArray os)
 {st : St} {l : List ARef} (hl : l ≠ []) (hle : l.length ≤ 1000000) {t : Nat} {e : TypeId} (hsolo : st.hs = .solo) {K : D → St → Prop}
 (hk : K (.tup []) ⟨updG t e 3 (rows ARef.pd (refSort l)) st.fr, updB t e 3 (rows ARef.pd (refSort l)) st.bs, [], st.hs⟩) :
 CallW Tryz.prog SF [.own e 3 (rows ARef.pd l) t, .fn OF []] st K := by
 refine ⟨hSF, fun C g a w vs hP hs hr => ?_⟩
 simp only [Reps] at hr
 obtain ⟨v0, vs0, rfl, h0, v1, vs1, rfl, h1, rfl⟩ := hr
 simp only [Rep] at h0 h1
 obtain ⟨hpr, htk, hlens⟩ := h0
 obtain ⟨cv, rfl, hcv⟩ := h1
 simp only [Caps] at hcv
 subst hcv
 have m := hs.mem
 obtain ⟨ie, n, xs, hie, hpos, hown, hfz⟩ := m.tks t _ _ htk
 obtain ⟨hxl, hform⟩ := hown
 rcases hform with ⟨rfl, hn0, _⟩ | ⟨b, cap, cur, rfl, hb0, hold, hnc, hcm, hcs, htake⟩
 ·exfalso
  generalize hE : rows ARef.pd l = E at hpr
  cases hpr with
  | empty => exact hl (List.map_eq_nil_iff.1 hE)
 have hR := RowR.of hl hpr
 have hlen := hR.hlen
 have hmax := hR.hmax
 have hbl : b < w.heap.size := (Array.getElem?_eq_some_iff.1 hold).1
 have hsl : (refSort l).length = l.length := List.length_mergeSort _
 have hsl' : refSort l ≠ [] := fun e => hl (List.length_eq_zero_iff.1 (by rw [← hsl, e]; rfl))
 subst hlen
 refine (hs0 b cap l w (hR.holds hold) hbl (by omega)).mono ?_
 rintro ex w' ⟨rfl, q, os, rfl⟩
 have hH : Sort.HoldsK encR 3 (sortWorldK encR 3 w b 0 q (refSort l).toArray os) b 0 (refSort l).toArray := by
  unfold sortWorldK
  refine Sort.holdsK_grow _ _ _ _ _ _ _ (by simpa [Sort.putRowK] using hbl) (Sort.holdsK_putRowK _ _ _ _ _ l.toArray _ (Sort.holdsK_ahead _ _ _ _ _ _ _ (hR.holds hold)) (by simpa using hsl))
 exact ⟨.tuple #[], .tup [], _, g, rfl, hk, hs.newrow htk hsolo (grownBy_K _) hold (heap_K _ hold) (by simp [Sort.putCells]) ((hR.of_holds hsl hH).rep hsl') (rows_row (f := ARef.pd) (n := 3) (fun _ => rfl) _), by simp [Rep, Reps]⟩

end Go.Proofs.YtbjaopoipkphnaaGreatDoor



namespace Go.Proofs.YtbjaopoipkphnaaGreatDoor
open Go Go.RowKit Go.Shelf
set_option linter.unusedSimpArgs false
set_option linter.unusedVariables false
set_option maxRecDepth 100000

def Tryz.sortRef_ren : Go.Shelf.Ren := ⟨fun | 6 => 60 | 15 => 113 | 14 => 112 | 28 => 162 | 29 => 163 | 20 => 154 | 21 => 155 | 22 => 156 | 23 => 157 | 24 => 158 | 25 => 159 | 26 => 160 | 27 => 161 | 46 => 202 | 47 => 203 | 48 => 204 | 49 => 205 | 50 => 206 | 57 => 230 | n => n, fun | 22 => 38 | 24 => 23 | 25 => 43 | 3 => 3 | 39 => 145 | 0 => 0 | 53 => 179 | 55 => 181 | 4 => 4 | 46 => 172 | 45 => 171 | 50 => 176 | 5 => 5 | 9 => 9 | 66 => 202 | 70 => 206 | 76 => 224 | 77 => 225 | n => n, fun | n => n⟩
theorem Tryz.sortRef : Go.Proofs.SlLaysF0.n6 Tryz.prog Tryz.sortRef_ren := {
 mixed := by kernel_rfl
 f6 := ⟨Tryz.f60.name, by decide, Tryz.func60.trans (congrArg some (by kernel_rfl))⟩
 f14 := ⟨Tryz.f112.name, by decide, Tryz.func112.trans (congrArg some (by kernel_rfl))⟩
 f15 := Tryz.func113.trans (congrArg some (by kernel_rfl))
 f20 := ⟨Tryz.f154.name, by decide, Tryz.func154.trans (congrArg some (by kernel_rfl))⟩
 f21 := ⟨Tryz.f155.name, by decide, Tryz.func155.trans (congrArg some (by kernel_rfl))⟩
 f22 := ⟨Tryz.f156.name, by decide, Tryz.func156.trans (congrArg some (by kernel_rfl))⟩
 f23 := ⟨Tryz.f157.name, by decide, Tryz.func157.trans (congrArg some (by kernel_rfl))⟩
 f24 := ⟨Tryz.f158.name, by decide, Tryz.func158.trans (congrArg some (by kernel_rfl))⟩
 f25 := ⟨Tryz.f159.name, by decide, Tryz.func159.trans (congrArg some (by kernel_rfl))⟩
 f26 := ⟨Tryz.f160.name, by decide, Tryz.func160.trans (congrArg some (by kernel_rfl))⟩
 f27 := ⟨Tryz.f161.name, by decide, Tryz.func161.trans (congrArg some (by kernel_rfl))⟩
 f28 := Tryz.func162.trans (congrArg some (by kernel_rfl))
 f29 := Tryz.func163.trans (congrArg some (by kernel_rfl))
 f46 := ⟨Tryz.f202.name, by decide, Tryz.func202.trans (congrArg some (by kernel_rfl))⟩
 f47 := Tryz.func203.trans (congrArg some (by kernel_rfl))
 f48 := Tryz.func204.trans (congrArg some (by kernel_rfl))
 f49 := ⟨Tryz.f205.name, by decide, Tryz.func205.trans (congrArg some (by kernel_rfl))⟩
 f50 := ⟨Tryz.f206.name, by decide, Tryz.func206.trans (congrArg some (by kernel_rfl))⟩
 f57 := ⟨Tryz.f230.name, by decide, Tryz.func230.trans (congrArg some (by kernel_rfl))⟩
 t0 := Tryz.underlying0
 a0 := Tryz.isAgg0
 z0 := Tryz.sizeOf0
 v0 := Tryz.zeroValue0
 t3 := Tryz.underlying3
 a3 := Tryz.isAgg3
 z3 := Tryz.sizeOf3
 v3 := Tryz.zeroValue3
 t4 := Tryz.underlying4
 a4 := Tryz.isAgg4
 z4 := Tryz.sizeOf4
 v4 := Tryz.zeroValue4
 t5 := Tryz.underlying5
 a5 := Tryz.isAgg5
 z5 := Tryz.sizeOf5
 v5 := Tryz.zeroValue5
 t9 := Tryz.underlying9
 a9 := Tryz.isAgg9
 z9 := Tryz.sizeOf9
 v9 := Tryz.zeroValue9
 t22 := Tryz.underlying38
 a22 := Tryz.isAgg38
 z22 := Tryz.sizeOf38
 v22 := Tryz.zeroValue38
 t25 := Tryz.underlying43
 a25 := Tryz.isAgg43
 z25 := Tryz.sizeOf43
 v25 := Tryz.zeroValue43
 t39 := Tryz.underlying145
 a39 := Tryz.isAgg145
 z39 := Tryz.sizeOf145
 v39 := Tryz.zeroValue145
 t45 := Tryz.underlying171
 a45 := Tryz.isAgg171
 z45 := Tryz.sizeOf171
 v45 := Tryz.zeroValue171
 t46 := Tryz.underlying172
 a46 := Tryz.isAgg172
 z46 := Tryz.sizeOf172
 v46 := Tryz.zeroValue172
 t50 := Tryz.underlying176
 a50 := Tryz.isAgg176
 z50 := Tryz.sizeOf176
 v50 := Tryz.zeroValue176
 t53 := Tryz.underlying179
 a53 := Tryz.isAgg179
 z53 := Tryz.sizeOf179
 v53 := Tryz.zeroValue179
 t55 := Tryz.underlying181
 a55 := Tryz.isAgg181
 z55 := Tryz.sizeOf181
 v55 := Tryz.zeroValue181
 t66 := Tryz.underlying202
 a66 := Tryz.isAgg202
 z66 := Tryz.sizeOf202
 v66 := Tryz.zeroValue202
 t70 := Tryz.underlying206
 a70 := Tryz.isAgg206
 z70 := Tryz.sizeOf206
 v70 := Tryz.zeroValue206
 t76 := Tryz.underlying224
 a76 := Tryz.isAgg224
 z76 := Tryz.sizeOf224
 v76 := Tryz.zeroValue224
 t77 := Tryz.underlying225
 a77 := Tryz.isAgg225
 z77 := Tryz.sizeOf225
 v77 := Tryz.zeroValue225 }

theorem refs_sorted (b cap : Nat) (l : List ARef) (w : World) (hH : Sort.HoldsK encR 3 w b 0 l.toArray) (hb : b < w.heap.size) (hl : l.length < 4611686018427387904) :
 Calls Tryz.prog 60 #[.slice (some ⟨b, 0, none⟩) l.length cap, .func (.func 20) #[] #[]] w fun e w' => e = .returned (.tuple #[]) ∧ ∃ n os, w' = sortWorldK encR 3 w b 0 n (refSort l).toArray os := by
 have h := AnyQ.slices_SortFunc_total Tryz.sortRef 3 Tryz.isAgg23 Tryz.sizeOf23 encR (fun _ => rfl) encR_one refCmp refSWO 20 #[] b 0 cap l.toArray w (enters_of Tryz.func20 (by kernel_rfl) rfl) (fun _ _ _ _ x y => mem_Order x y _) hH hb (by simpa using hl) refTotal
 have e1 : l.toArray.size = l.length := by simp
 rw [e1] at h
 refine h.mono ?_
 rintro e w' ⟨h1, n, os, h2⟩
 refine ⟨h1, n, os, ?_⟩
 rw [h2]
 congr 1
 unfold refSort
 congr 2
 funext x y
 rw [refCmp_lt]

end Go.Proofs.YtbjaopoipkphnaaGreatDoor


