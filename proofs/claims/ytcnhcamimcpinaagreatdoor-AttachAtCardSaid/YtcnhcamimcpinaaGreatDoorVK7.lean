/- Texts of the prover's, joined: FA E0 FN IF M1 JA M3 JK M2 M4 J2 JB J3 N1 P1 J4 J9 M6 P2 J8 E7. -/
import Derived.Test.YtcnhcamimcpinaaGreatDoorVK6
import Derived.Lib.DecodeN
import Derived.Lib.IndexLaws

namespace Go.Proofs.YtcnhcamimcpinaaGreatDoor
open Go Go.RowKit
set_option linter.unusedSimpArgs false
set_option linter.unusedVariables false
set_option maxRecDepth 100000

def AObj.zero (r : ARef) : AObj := ⟨r, false, [], [], ⟨#[]⟩, [], [], [], [], [], []⟩

theorem AObj.zero_ok (r : ARef) : (AObj.zero r).ok := ⟨by simp [AObj.zero], by simp [AObj.zero], by simp [AObj.zero], by simp [AObj.zero], by simp [AObj.zero], by simp [AObj.zero], by simp [AObj.zero], by simp [AObj.zero], by simp [AObj.zero], by simp [AObj.zero]⟩

def AObj.strip (o : AObj) : AObj :=
 if o.ref.kind = 1 ∨ o.ref.kind = 4 then { o with good := false }
 else if o.ref.kind = 2 then { o with labels := [] }
 else if o.ref.kind = 3 then { o with ports := [] }
 else if o.ref.kind = 5 then { o with listeners := [], cls := ⟨#[]⟩ }
 else if o.ref.kind = 6 then { o with parents := [], hosts := [], rules := [] }
 else { o with from_ := [], to_ := [] }

def kindMay (o : AObj) : Bool :=
 if o.ref.kind = 1 ∨ o.ref.kind = 4 then true
 else if o.ref.kind = 2 then labelsMay o.labels
 else if o.ref.kind = 3 then serviceMay o.ports
 else if o.ref.kind = 5 then gatewayMay o.cls o.listeners
 else if o.ref.kind = 6 then routeMay o.parents o.hosts o.rules
 else grantMay o.from_ o.to_

def objMay (o : AObj) : Bool := mayRef o.ref && kindMay o && objSame o.strip (AObj.zero o.ref)

theorem mayRef_kind {r : ARef} (h : mayRef r = true) : r.kind = 1 ∨ r.kind = 2 ∨ r.kind = 3 ∨ r.kind = 4 ∨ r.kind = 5 ∨ r.kind = 6 ∨ r.kind = 7 := by
 unfold mayRef at h
 split at h
 ·omega
 ·split at h
  ·omega
  ·simp [okind] at h; omega

theorem strip_ok {o s : AObj} (h : o.ok) (h1 : s.labels = o.labels ∨ s.labels = []) (h2 : s.ports = o.ports ∨ s.ports = []) (h3 : s.listeners = o.listeners ∨ s.listeners = []) (h4 : s.parents = o.parents ∨ s.parents = []) (h5 : s.hosts = o.hosts ∨ s.hosts = [])
 (h6 : s.rules = o.rules ∨ s.rules = []) (h7 : s.from_ = o.from_ ∨ s.from_ = []) (h8 : s.to_ = o.to_ ∨ s.to_ = []) : s.ok where
 la := by rcases h1 with e | e <;> rw [e] <;> first | exact h.la | simp
 po := by rcases h2 with e | e <;> rw [e] <;> first | exact h.po | simp
 li := by rcases h3 with e | e <;> rw [e] <;> first | exact h.li | simp
 pa := by rcases h4 with e | e <;> rw [e] <;> first | exact h.pa | simp
 ho := by rcases h5 with e | e <;> rw [e] <;> first | exact h.ho | simp
 ru := by rcases h6 with e | e <;> rw [e] <;> first | exact h.ru | simp
 fr := by rcases h7 with e | e <;> rw [e] <;> first | exact h.fr | simp
 to := by rcases h8 with e | e <;> rw [e] <;> first | exact h.to | simp
 lis := by rcases h3 with e | e <;> rw [e] <;> first | exact h.lis | simp
 rus := by rcases h6 with e | e <;> rw [e] <;> first | exact h.rus | simp

set_option maxHeartbeats 4000000 in
theorem object_May (o : AObj) (h : o.ok) : Pure Tryz.prog 29 [o.d] (fun d => d = bln (objMay o)) := by
 refine pure_of_run follows an_zfwje Tryz.func29 rfl ok_zfwje.1 ok_zfwje.2 (by simp [Tryz.ntmps29]) ?_
 rw [run_start]
 simp (maxSteps := 5000000) only [ac_zfwje, go_sem, simprocAttr, go_sem]
 refine (object_MayRef o.ref).callX (enters_of Tryz.func55 rfl rfl) _ rfl rfl ?_
 rintro d rfl
 by_cases hm : mayRef o.ref = true
 ·have stop : kindMay o = false → objMay o = false := fun e => by simp [objMay, e]
  have go : ∀ s : AObj, o.strip = s → kindMay o = true → objMay o = objSame s (AObj.zero o.ref) := fun s e1 e2 => by simp [objMay, hm, e1, e2]
  rcases mayRef_kind hm with hk | hk | hk | hk | hk | hk | hk
  ·obtain ⟨⟨kd, sp, nm⟩, gd, la, po, cl, li, pa, ho, ru, fr, to⟩ := o
   simp only at hk
   subst hk
   simp (maxSteps := 5000000) only [go_sem, simprocAttr, go_sem, hm]
   refine (thing_class ⟨⟨1, sp, nm⟩, gd, la, po, cl, li, pa, ho, ru, fr, to⟩).callW (enters_of Tryz.func49 rfl rfl) _ false [(9, 500001)] [] [] [] rfl rfl rfl ?_
   rintro d bs ⟨rfl, rfl⟩
   simp (maxSteps := 5000000) only [go_sem, simprocAttr, go_sem]
   have hs : (⟨⟨1, sp, nm⟩, gd, la, po, cl, li, pa, ho, ru, fr, to⟩ : AObj).strip = { (⟨⟨1, sp, nm⟩, gd, la, po, cl, li, pa, ho, ru, fr, to⟩ : AObj) with good := false } := by simp [AObj.strip]
   have hkm : kindMay (⟨⟨1, sp, nm⟩, gd, la, po, cl, li, pa, ho, ru, fr, to⟩ : AObj) = true := by simp [kindMay]
   refine (object_Same ({ (⟨⟨1, sp, nm⟩, gd, la, po, cl, li, pa, ho, ru, fr, to⟩ : AObj) with good := false } : AObj) (AObj.zero ⟨1, sp, nm⟩) (strip_ok h (by simp) (by simp) (by simp) (by simp) (by simp) (by simp) (by simp) (by simp)) (AObj.zero_ok ⟨1, sp, nm⟩)).callX (enters_of Tryz.func56 rfl rfl) _ rfl rfl ?_
   rintro d rfl
   simp (maxSteps := 5000000) only [go_sem, simprocAttr, go_sem]
   simp only [retK, resD, retL, oneD, simprocAttr, Tryz.results29]
   exact ⟨_, rfl, rfl, congrArg bln (go _ hs (by rw [hkm])).symm⟩
  ·obtain ⟨⟨kd, sp, nm⟩, gd, la, po, cl, li, pa, ho, ru, fr, to⟩ := o
   simp only at hk
   subst hk
   simp (maxSteps := 5000000) only [go_sem, simprocAttr, go_sem, hm]
   refine (thing_space ⟨⟨2, sp, nm⟩, gd, la, po, cl, li, pa, ho, ru, fr, to⟩ h).callW (enters_of Tryz.func50 rfl rfl) _ false [(9, 500001)] [] [] [] rfl rfl rfl ?_
   rintro d bs ⟨rfl, rfl⟩
   simp (maxSteps := 5000000) only [go_sem, simprocAttr, go_sem]
   have hs : (⟨⟨2, sp, nm⟩, gd, la, po, cl, li, pa, ho, ru, fr, to⟩ : AObj).strip = { (⟨⟨2, sp, nm⟩, gd, la, po, cl, li, pa, ho, ru, fr, to⟩ : AObj) with labels := [] } := by simp [AObj.strip]
   have hkm : kindMay (⟨⟨2, sp, nm⟩, gd, la, po, cl, li, pa, ho, ru, fr, to⟩ : AObj) = labelsMay la := by simp [kindMay]
   refine Gif.mk (fun h1 => ?_) (fun h1 => ?_)
   ·refine (object_Same ({ (⟨⟨2, sp, nm⟩, gd, la, po, cl, li, pa, ho, ru, fr, to⟩ : AObj) with labels := [] } : AObj) (AObj.zero ⟨2, sp, nm⟩) (strip_ok h (by simp) (by simp) (by simp) (by simp) (by simp) (by simp) (by simp) (by simp)) (AObj.zero_ok ⟨2, sp, nm⟩)).callX (enters_of Tryz.func56 rfl rfl) _ rfl rfl ?_
    rintro d rfl
    simp (maxSteps := 5000000) only [go_sem, simprocAttr, go_sem]
    simp only [retK, resD, retL, oneD, simprocAttr, Tryz.results29]
    exact ⟨_, rfl, rfl, congrArg bln (go _ hs (by rw [hkm]; exact h1)).symm⟩
   ·simp only [retK, resD, retL, oneD, simprocAttr, Tryz.results29]
    exact ⟨_, rfl, rfl, congrArg bln (stop (by rw [hkm]; exact h1)).symm⟩
  ·obtain ⟨⟨kd, sp, nm⟩, gd, la, po, cl, li, pa, ho, ru, fr, to⟩ := o
   simp only at hk
   subst hk
   simp (maxSteps := 5000000) only [go_sem, simprocAttr, go_sem, hm]
   refine (thing_service ⟨⟨3, sp, nm⟩, gd, la, po, cl, li, pa, ho, ru, fr, to⟩ h).callW (enters_of Tryz.func51 rfl rfl) _ false [(9, 500001)] [] [] [] rfl rfl rfl ?_
   rintro d bs ⟨rfl, rfl⟩
   simp (maxSteps := 5000000) only [go_sem, simprocAttr, go_sem]
   have hs : (⟨⟨3, sp, nm⟩, gd, la, po, cl, li, pa, ho, ru, fr, to⟩ : AObj).strip = { (⟨⟨3, sp, nm⟩, gd, la, po, cl, li, pa, ho, ru, fr, to⟩ : AObj) with ports := [] } := by simp [AObj.strip]
   have hkm : kindMay (⟨⟨3, sp, nm⟩, gd, la, po, cl, li, pa, ho, ru, fr, to⟩ : AObj) = serviceMay po := by simp [kindMay]
   refine Gif.mk (fun h1 => ?_) (fun h1 => ?_)
   ·refine (object_Same ({ (⟨⟨3, sp, nm⟩, gd, la, po, cl, li, pa, ho, ru, fr, to⟩ : AObj) with ports := [] } : AObj) (AObj.zero ⟨3, sp, nm⟩) (strip_ok h (by simp) (by simp) (by simp) (by simp) (by simp) (by simp) (by simp) (by simp)) (AObj.zero_ok ⟨3, sp, nm⟩)).callX (enters_of Tryz.func56 rfl rfl) _ rfl rfl ?_
    rintro d rfl
    simp (maxSteps := 5000000) only [go_sem, simprocAttr, go_sem]
    simp only [retK, resD, retL, oneD, simprocAttr, Tryz.results29]
    exact ⟨_, rfl, rfl, congrArg bln (go _ hs (by rw [hkm]; exact h1)).symm⟩
   ·simp only [retK, resD, retL, oneD, simprocAttr, Tryz.results29]
    exact ⟨_, rfl, rfl, congrArg bln (stop (by rw [hkm]; exact h1)).symm⟩
  ·obtain ⟨⟨kd, sp, nm⟩, gd, la, po, cl, li, pa, ho, ru, fr, to⟩ := o
   simp only at hk
   subst hk
   simp (maxSteps := 5000000) only [go_sem, simprocAttr, go_sem, hm]
   refine (thing_class ⟨⟨4, sp, nm⟩, gd, la, po, cl, li, pa, ho, ru, fr, to⟩).callW (enters_of Tryz.func49 rfl rfl) _ false [(9, 500001)] [] [] [] rfl rfl rfl ?_
   rintro d bs ⟨rfl, rfl⟩
   simp (maxSteps := 5000000) only [go_sem, simprocAttr, go_sem]
   have hs : (⟨⟨4, sp, nm⟩, gd, la, po, cl, li, pa, ho, ru, fr, to⟩ : AObj).strip = { (⟨⟨4, sp, nm⟩, gd, la, po, cl, li, pa, ho, ru, fr, to⟩ : AObj) with good := false } := by simp [AObj.strip]
   have hkm : kindMay (⟨⟨4, sp, nm⟩, gd, la, po, cl, li, pa, ho, ru, fr, to⟩ : AObj) = true := by simp [kindMay]
   refine (object_Same ({ (⟨⟨4, sp, nm⟩, gd, la, po, cl, li, pa, ho, ru, fr, to⟩ : AObj) with good := false } : AObj) (AObj.zero ⟨4, sp, nm⟩) (strip_ok h (by simp) (by simp) (by simp) (by simp) (by simp) (by simp) (by simp) (by simp)) (AObj.zero_ok ⟨4, sp, nm⟩)).callX (enters_of Tryz.func56 rfl rfl) _ rfl rfl ?_
   rintro d rfl
   simp (maxSteps := 5000000) only [go_sem, simprocAttr, go_sem]
   simp only [retK, resD, retL, oneD, simprocAttr, Tryz.results29]
   exact ⟨_, rfl, rfl, congrArg bln (go _ hs (by rw [hkm])).symm⟩
  ·obtain ⟨⟨kd, sp, nm⟩, gd, la, po, cl, li, pa, ho, ru, fr, to⟩ := o
   simp only at hk
   subst hk
   simp (maxSteps := 5000000) only [go_sem, simprocAttr, go_sem, hm]
   refine (thing_gateway ⟨⟨5, sp, nm⟩, gd, la, po, cl, li, pa, ho, ru, fr, to⟩ h).callW (enters_of Tryz.func52 rfl rfl) _ false [(9, 500001)] [] [] [] rfl rfl rfl ?_
   rintro d bs ⟨rfl, rfl⟩
   simp (maxSteps := 5000000) only [go_sem, simprocAttr, go_sem]
   have hs : (⟨⟨5, sp, nm⟩, gd, la, po, cl, li, pa, ho, ru, fr, to⟩ : AObj).strip = { (⟨⟨5, sp, nm⟩, gd, la, po, cl, li, pa, ho, ru, fr, to⟩ : AObj) with listeners := [], cls := ⟨#[]⟩ } := by simp [AObj.strip]
   have hkm : kindMay (⟨⟨5, sp, nm⟩, gd, la, po, cl, li, pa, ho, ru, fr, to⟩ : AObj) = gatewayMay cl li := by simp [kindMay]
   refine Gif.mk (fun h1 => ?_) (fun h1 => ?_)
   ·refine (object_Same ({ (⟨⟨5, sp, nm⟩, gd, la, po, cl, li, pa, ho, ru, fr, to⟩ : AObj) with listeners := [], cls := ⟨#[]⟩ } : AObj) (AObj.zero ⟨5, sp, nm⟩) (strip_ok h (by simp) (by simp) (by simp) (by simp) (by simp) (by simp) (by simp) (by simp)) (AObj.zero_ok ⟨5, sp, nm⟩)).callX (enters_of Tryz.func56 rfl rfl) _ rfl rfl ?_
    rintro d rfl
    simp (maxSteps := 5000000) only [go_sem, simprocAttr, go_sem]
    simp only [retK, resD, retL, oneD, simprocAttr, Tryz.results29]
    exact ⟨_, rfl, rfl, congrArg bln (go _ hs (by rw [hkm]; exact h1)).symm⟩
   ·simp only [retK, resD, retL, oneD, simprocAttr, Tryz.results29]
    exact ⟨_, rfl, rfl, congrArg bln (stop (by rw [hkm]; exact h1)).symm⟩
  ·obtain ⟨⟨kd, sp, nm⟩, gd, la, po, cl, li, pa, ho, ru, fr, to⟩ := o
   simp only at hk
   subst hk
   simp (maxSteps := 5000000) only [go_sem, simprocAttr, go_sem, hm]
   refine (thing_route ⟨⟨6, sp, nm⟩, gd, la, po, cl, li, pa, ho, ru, fr, to⟩ h).callW (enters_of Tryz.func53 rfl rfl) _ false [(9, 500001)] [] [] [] rfl rfl rfl ?_
   rintro d bs ⟨rfl, rfl⟩
   simp (maxSteps := 5000000) only [go_sem, simprocAttr, go_sem]
   have hs : (⟨⟨6, sp, nm⟩, gd, la, po, cl, li, pa, ho, ru, fr, to⟩ : AObj).strip = { (⟨⟨6, sp, nm⟩, gd, la, po, cl, li, pa, ho, ru, fr, to⟩ : AObj) with parents := [], hosts := [], rules := [] } := by simp [AObj.strip]
   have hkm : kindMay (⟨⟨6, sp, nm⟩, gd, la, po, cl, li, pa, ho, ru, fr, to⟩ : AObj) = routeMay pa ho ru := by simp [kindMay]
   refine Gif.mk (fun h1 => ?_) (fun h1 => ?_)
   ·refine (object_Same ({ (⟨⟨6, sp, nm⟩, gd, la, po, cl, li, pa, ho, ru, fr, to⟩ : AObj) with parents := [], hosts := [], rules := [] } : AObj) (AObj.zero ⟨6, sp, nm⟩) (strip_ok h (by simp) (by simp) (by simp) (by simp) (by simp) (by simp) (by simp) (by simp)) (AObj.zero_ok ⟨6, sp, nm⟩)).callX (enters_of Tryz.func56 rfl rfl) _ rfl rfl ?_
    rintro d rfl
    simp (maxSteps := 5000000) only [go_sem, simprocAttr, go_sem]
    simp only [retK, resD, retL, oneD, simprocAttr, Tryz.results29]
    exact ⟨_, rfl, rfl, congrArg bln (go _ hs (by rw [hkm]; exact h1)).symm⟩
   ·simp only [retK, resD, retL, oneD, simprocAttr, Tryz.results29]
    exact ⟨_, rfl, rfl, congrArg bln (stop (by rw [hkm]; exact h1)).symm⟩
  ·obtain ⟨⟨kd, sp, nm⟩, gd, la, po, cl, li, pa, ho, ru, fr, to⟩ := o
   simp only at hk
   subst hk
   simp (maxSteps := 5000000) only [go_sem, simprocAttr, go_sem, hm]
   refine (thing_grant ⟨⟨7, sp, nm⟩, gd, la, po, cl, li, pa, ho, ru, fr, to⟩ h).callW (enters_of Tryz.func54 rfl rfl) _ false [(9, 500001)] [] [] [] rfl rfl rfl ?_
   rintro d bs ⟨rfl, rfl⟩
   simp (maxSteps := 5000000) only [go_sem, simprocAttr, go_sem]
   have hs : (⟨⟨7, sp, nm⟩, gd, la, po, cl, li, pa, ho, ru, fr, to⟩ : AObj).strip = { (⟨⟨7, sp, nm⟩, gd, la, po, cl, li, pa, ho, ru, fr, to⟩ : AObj) with from_ := [], to_ := [] } := by simp [AObj.strip]
   have hkm : kindMay (⟨⟨7, sp, nm⟩, gd, la, po, cl, li, pa, ho, ru, fr, to⟩ : AObj) = grantMay fr to := by simp [kindMay]
   refine Gif.mk (fun h1 => ?_) (fun h1 => ?_)
   ·refine (object_Same ({ (⟨⟨7, sp, nm⟩, gd, la, po, cl, li, pa, ho, ru, fr, to⟩ : AObj) with from_ := [], to_ := [] } : AObj) (AObj.zero ⟨7, sp, nm⟩) (strip_ok h (by simp) (by simp) (by simp) (by simp) (by simp) (by simp) (by simp) (by simp)) (AObj.zero_ok ⟨7, sp, nm⟩)).callX (enters_of Tryz.func56 rfl rfl) _ rfl rfl ?_
    rintro d rfl
    simp (maxSteps := 5000000) only [go_sem, simprocAttr, go_sem]
    simp only [retK, resD, retL, oneD, simprocAttr, Tryz.results29]
    exact ⟨_, rfl, rfl, congrArg bln (go _ hs (by rw [hkm]; exact h1)).symm⟩
   ·simp only [retK, resD, retL, oneD, simprocAttr, Tryz.results29]
    exact ⟨_, rfl, rfl, congrArg bln (stop (by rw [hkm]; exact h1)).symm⟩
 ·have hm' : mayRef o.ref = false := by simpa using hm
  simp (maxSteps := 5000000) only [go_sem, simprocAttr, go_sem, hm']
  simp only [retK, resD, retL, oneD, simprocAttr, Tryz.results29]
  exact ⟨_, rfl, rfl, congrArg bln (by simp [objMay, hm'])⟩


def near (r : ARef) (s : ByteArray) : ARef := if r.space = ⟨#[]⟩ ∧ r.kind ≠ 1 ∧ r.kind ≠ 2 then { r with space := s } else r

set_option maxRecDepth 100000 in
theorem grant_Near (r : ARef) (s : ByteArray) : Pure Tryz.prog 31 [r.d, str s] (fun d => d = (near r s).d) := by
 refine pure_of_run follows an_zrkgf Tryz.func31 rfl ok_zrkgf.1 ok_zrkgf.2 (by simp [Tryz.ntmps31]) ?_
 rw [run_start]
 simp only [ac_zrkgf, go_sem, simprocAttr]
 simp only [retK, resD, resA, AOp.ex, St.ev, retL, oneD, simprocAttr, ret_zrkgf]
 refine ⟨fun h1 => ⟨fun h2 => ?_, fun h2 => ⟨fun h3 => ?_, fun h3 => ?_⟩⟩, fun h1 => ?_⟩
 ·exact ⟨_, rfl, rfl, by simp [near, h1, h2, oneD, D.pub, D.pubs]⟩
 ·exact ⟨_, rfl, rfl, by simp [near, h1, h3, oneD, D.pub, D.pubs]⟩
 ·exact ⟨_, rfl, rfl, by simp [near, h1, h2, h3, oneD, D.pub, D.pubs]⟩
 ·exact ⟨_, rfl, rfl, by simp [near, h1, oneD, D.pub, D.pubs]⟩


def isRef (r : ARef) (o : AObj) : Bool := decide (o.ref = r)

theorem Find_1 (r : ARef) (o : AObj) : PureB Tryz.prog 58 [o.d, .ptr 1000001 0] [(1000001, [int r.kind, str r.space, str r.name])] (fun d => d = bln (isRef r o)) := by
 refine pureB_of_run follows an_zl31y Tryz.func58 rfl ok_zl31y.1 ok_zl31y.2 (by simp [Tryz.ntmps58]) ?_
 rw [run_start]
 simp only [ac_zl31y, go_sem, simprocAttr, eqVs, eqV, eq_Ref]
 simp only [retK, resD, retL, oneD, simprocAttr, Tryz.results58]
 exact ⟨_, rfl, rfl, rfl⟩

theorem lidx_find {α : Type} (p : α → Bool) : ∀ (l : List α) (k : Nat), (l.find? p = none ∧ lidx p l k = -1) ∨ ∃ x j, l.find? p = some x ∧ lidx p l k = ((k + j : Nat) : Int) ∧ l[j]? = some x
 | [], k => .inl ⟨rfl, rfl⟩
 | x :: l, k => by
   rw [List.find?_cons, lidx]
   by_cases h : p x = true
   ·rw [if_pos h, h]; exact .inr ⟨x, 0, rfl, by simp, by simp⟩
   ·rw [if_neg h]
    have h' : p x = false := by simpa using h
    rw [h']
    rcases lidx_find p l (k + 1) with h1 | ⟨y, j, h1, h2, h3⟩
    ·exact .inl h1
    ·exact .inr ⟨y, j + 1, h1, by rw [h2]; omega, by simpa using h3⟩

def ref0 : ARef := ⟨0, ⟨#[]⟩, ⟨#[]⟩⟩

def found (os : List AObj) (r : ARef) : Option AObj := os.find? (isRef r)

def foundD : Option AObj → D
 | some o => .tup [o.d, bln true]
 | none => .tup [(AObj.zero ref0).d, bln false]

theorem grant_Find (os : List AObj) (hos : os.length ≤ 1000000) (r : ARef) : Pure Tryz.prog 30 [.pd (.slice (rows AObj.pd os)), r.d] (fun d => d = foundD (found os r)) := by
 refine pure_of_run follows an_z88d6 Tryz.func30 rfl ok_z88d6.1 ok_z88d6.2 (by simp [Tryz.ntmps30]) ?_
 rw [run_start]
 simp only [ac_z88d6, go_sem, simprocAttr]
 refine (IndexFunc_Object (isRef r) 58 (enters_of Tryz.func58 rfl rfl) [(1000001, 0)] [(1000001, [int r.kind, str r.space, str r.name])] (Cl.of rfl rfl rfl rfl rfl) os hos (fun o _ => Find_1 r o)).callW (enters_of Tryz.func57 rfl rfl) _ [(3, 1000001)] rfl rfl rfl ?_
 rintro d rfl
 rcases lidx_find (isRef r) os 0 with ⟨h1, h2⟩ | ⟨x, j, h1, h2, h3⟩
 ·rw [h2]
  simp only [go_sem, simprocAttr]
  simp only [retK, resD, resA, AOp.ex, St.ev, retL, oneD, simprocAttr, ret_z88d6]
  refine ⟨_, rfl, rfl, ?_⟩
  rw [found, h1]; rfl
 ·rw [h2, Nat.zero_add]
  have hn : ((j : Int) < 0) = False := eq_false (by omega)
  simp only [go_sem, simprocAttr, hn, rows_get h3]
  simp only [retK, resD, resA, AOp.ex, St.ev, retL, oneD, simprocAttr, ret_z88d6]
  refine ⟨_, rfl, rfl, ?_⟩
  rw [found, h1]; rfl

def isRoute (r : AObj) : Bool := decide (r.ref.kind = 6) && objMay r


def goodAt (os : List AObj) (r : ARef) : Bool := match found os r with
 | some o => objMay o && o.good
 | none => false

theorem listen_good (os : List AObj) (hos : os.length ≤ 1000000) (h : ∀ o ∈ os, o.ok) (r : ARef) : Pure Tryz.prog 60 [.pd (.slice (rows AObj.pd os)), r.d] (fun d => d = bln (goodAt os r)) := by
 refine pure_of_run follows an_zb5tb Tryz.func60 rfl ok_zb5tb.1 ok_zb5tb.2 (by simp [Tryz.ntmps60]) ?_
 rw [run_start]
 simp only [ac_zb5tb, go_sem, simprocAttr]
 refine (grant_Find os hos r).callW (enters_of Tryz.func30 rfl rfl) _ rfl rfl ?_
 rintro _ rfl
 unfold goodAt
 rcases hf : found os r with _ | o
 ·simp only [foundD, go_sem, simprocAttr]
  simp only [retK, resD, retL, oneD, simprocAttr, Tryz.results60]
  exact ⟨_, rfl, rfl, rfl⟩
 ·simp only [foundD, go_sem, simprocAttr]
  refine (object_May o (h o (List.mem_of_find?_eq_some hf))).callW (enters_of Tryz.func29 rfl rfl) _ rfl rfl ?_
  rintro _ rfl
  simp only [go_sem, simprocAttr]
  cases objMay o
  all_goals
   simp only [go_sem, simprocAttr]
   simp only [retK, resD, retL, oneD, simprocAttr, Tryz.results60]
   exact ⟨_, rfl, rfl, rfl⟩

def gwOk (g : AObj) : Bool := decide (g.ref.kind = 5) && objMay g

theorem listen_gateway (g : AObj) (h : g.ok) : Pure Tryz.prog 59 [g.d] (fun d => d = bln (gwOk g)) := by
 refine pure_of_run follows an_zjbl5 Tryz.func59 rfl ok_zjbl5.1 ok_zjbl5.2 (by simp [Tryz.ntmps59]) ?_
 rw [run_start]
 simp only [ac_zjbl5, go_sem, simprocAttr]
 (repeat' (first | (refine GifP.mk (fun _ => ?_) (fun _ => ?_)) | (refine Gif.mk (fun _ => ?_) (fun _ => ?_)) | (refine (object_May g h).callW (enters_of Tryz.func29 rfl rfl) _ rfl rfl ?_; rintro _ rfl; try simp only [go_sem, simprocAttr]))) <;> (simp only [retK, resD, retL, oneD, simprocAttr, Tryz.results59]; exact ⟨_, rfl, rfl, congrArg bln (by first | rfl | (rw [Bool.eq_iff_iff]; simp only [gwOk]; (first | (simp; done) | (simp; omega) | (simp [*]; done) | (simp [*]; omega))) | (simp_all [gwOk]; done) | (exfalso; omega))⟩)

def ours (os : List AObj) (g : AObj) : Bool := gwOk g && goodAt os ⟨1, ⟨#[]⟩, g.cls⟩

theorem listen_Ours (os : List AObj) (hos : os.length ≤ 1000000) (h : ∀ o ∈ os, o.ok) (g : AObj) (hg : g.ok) : Pure Tryz.prog 32 [.pd (.slice (rows AObj.pd os)), g.d] (fun d => d = bln (ours os g)) := by
 refine pure_of_run follows an_zws5f Tryz.func32 rfl ok_zws5f.1 ok_zws5f.2 (by simp [Tryz.ntmps32]) ?_
 rw [run_start]
 simp only [ac_zws5f, go_sem, simprocAttr]
 (repeat' (first | (refine GifP.mk (fun _ => ?_) (fun _ => ?_)) | (refine Gif.mk (fun _ => ?_) (fun _ => ?_)) | ((first | refine (listen_gateway g hg).callW (enters_of Tryz.func59 rfl rfl) _ rfl rfl ?_ | refine (listen_good os hos h ⟨1, ⟨#[]⟩, g.cls⟩).callW (enters_of Tryz.func60 rfl rfl) _ rfl rfl ?_); rintro _ rfl; try simp only [go_sem, simprocAttr]))) <;> (simp only [retK, resD, retL, oneD, simprocAttr, Tryz.results32]; exact ⟨_, rfl, rfl, congrArg bln (by first | rfl | (rw [Bool.eq_iff_iff]; simp only [ours]; (first | (simp; done) | (simp; omega) | (simp [*]; done) | (simp [*]; omega))) | (simp_all [ours]; done) | (exfalso; omega))⟩)

def atL (g : AObj) (i : Int) : Option AListener := if gwOk g = true then (if i < 0 then none else g.listeners[i.toNat]?) else none


abbrev star : ByteArray := ⟨#[42, 46]⟩
abbrev dot : ByteArray := ⟨#[46]⟩

def under (s z : ByteArray) : Bool := dname s && dname z && hasSuffix s (dot ++ z)

def below (p q : ByteArray) : Bool :=
 if q = ⟨#[]⟩ ∨ p = q then true
 else if p = ⟨#[]⟩ ∨ hasPrefix q star = false then false
 else if hasPrefix p star = true then under (cutPrefix p star) (cutPrefix q star)
 else under p (cutPrefix q star)

def hostMeet (a b : ByteArray) : Option ByteArray :=
 if hostMay a = false ∨ hostMay b = false then none
 else if below a b = true then some a
 else if below b a = true then some b
 else none

theorem below_nil (p : ByteArray) : below p ⟨#[]⟩ = true := by simp [below]
theorem below_self (p : ByteArray) : below p p = true := by simp [below]

theorem meet_nil {a : ByteArray} (h : hostMay a = true) : hostMeet a ⟨#[]⟩ = some a := by
 have h0 : hostMay ⟨#[]⟩ = true := by simp [hostMay]
 simp [hostMeet, h, h0, below_nil]

def hasStr (l : List ByteArray) (v : ByteArray) : Bool := l.any fun x => decide (v = x)

theorem hasStr_iff {l : List ByteArray} {v : ByteArray} : hasStr l v = true ↔ v ∈ l := by
 unfold hasStr
 rw [List.any_eq_true]
 exact ⟨fun ⟨x, hx, h⟩ => by rw [of_decide_eq_true h]; exact hx, fun h => ⟨v, h, decide_eq_true rfl⟩⟩

def meetStep (p : ByteArray) (out : List ByteArray) (h : ByteArray) : List ByteArray := match hostMeet p h with
 | some m => if hasStr out m = true then out else out ++ [m]
 | none => out

def someHosts (hosts : List ByteArray) : List ByteArray := if hosts = [] then [⟨#[]⟩] else hosts

def meets (p : ByteArray) (hosts : List ByteArray) : List ByteArray := (someHosts hosts).foldl (meetStep p) []

def isName (n : ByteArray) (p : APair) : Bool := decide (p.name = n)
def labFind (l : List APair) (n : ByteArray) : Option ByteArray := (l.find? (isName n)).map (·.val)

def labAmong (l : List APair) (n : ByteArray) (vals : List ByteArray) : Bool := match labFind l n with
 | some v => hasStr vals v
 | none => false

def metBy (n : ANeed) (l : List APair) : Bool :=
 if n.kind = 1 then labAmong l n.name n.vals
 else if n.kind = 2 then !labAmong l n.name n.vals
 else if n.kind = 3 then (labFind l n.name).isSome
 else !(labFind l n.name).isSome

def metNeed (n : ANeed) (l : List APair) : Bool := labelsMay l && (askMay n && metBy n l)
def labelsAll (needs : List ANeed) (l : List APair) : Bool := needsMay needs && labelsMay l && !needs.any fun n => !metNeed n l

structure ASpot where
 gateway : ARef
 listener : ByteArray
 hosts : List ByteArray

abbrev ASpot.pd (s : ASpot) : List PD := [pInt s.gateway.kind, pStr s.gateway.space, pStr s.gateway.name, pStr s.listener, .slice (strs s.hosts)]

abbrev ASpot.ds (s : ASpot) : List D := [int s.gateway.kind, str s.gateway.space, str s.gateway.name, str s.listener, .pd (.slice (strs s.hosts))]
abbrev ASpot.d (s : ASpot) : D := .agg [int s.gateway.kind, str s.gateway.space, str s.gateway.name, str s.listener, .pd (.slice (strs s.hosts))]

abbrev ASpot.at_ (s : ASpot) (g : ARef) (l : ByteArray) : Bool := decide (s.gateway = g) && decide (s.listener = l)

def asked (x : AListener) (p : AParent) : Bool := (decide (p.section_ = ⟨#[]⟩) || decide (p.section_ = x.name)) && (decide (p.port = 0) || decide (p.port = x.port))

def noParent : ByteArray := ⟨#[78, 111, 77, 97, 116, 99, 104, 105, 110, 103, 80, 97, 114, 101, 110, 116]⟩
def noSpace : ByteArray := ⟨#[78, 111, 116, 65, 108, 108, 111, 119, 101, 100, 66, 121, 76, 105, 115, 116, 101, 110, 101, 114, 115]⟩
def noHost : ByteArray := ⟨#[78, 111, 77, 97, 116, 99, 104, 105, 110, 103, 76, 105, 115, 116, 101, 110, 101, 114, 72, 111, 115, 116, 110, 97, 109, 101]⟩

def attLets (met : List ANeed → List APair → Bool) (os : List AObj) (g : AObj) (x : AListener) (space : ByteArray) : Bool :=
 if x.from_ = 1 then true
 else if x.from_ = 2 then (match found os ⟨2, ⟨#[]⟩, space⟩ with
  | some s => objMay s && met x.needs s.labels
  | none => false)
 else decide (space = g.ref.space)

section
variable (met : List ANeed → List APair → Bool)

def atStep (os : List AObj) (g r : AObj) (p : AParent) (x : AListener) (a : List ASpot × ByteArray) : List ASpot × ByteArray :=
 if asked x p = false then a
 else if attLets met os g x r.ref.space = false then (a.1, if a.2 = noParent then noSpace else a.2)
 else if meets x.host r.hosts = [] then (a.1, noHost)
 else (a.1 ++ [⟨g.ref, x.name, meets x.host r.hosts⟩], a.2)

def atFold (os : List AObj) (g r : AObj) (p : AParent) (l : List AListener) : List ASpot × ByteArray := l.foldl (fun a x => atStep met os g r p x a) ([], noParent)

def attAt (os : List AObj) (r : AObj) (p : Int) : List ASpot × ByteArray × Bool :=
 if isRoute r = true ∧ 0 ≤ p then match r.parents[p.toNat]? with
  | some x => match found os (near ⟨5, x.space, x.name⟩ r.ref.space) with
    | some g => if ours os g = true then ((atFold met os g r x g.listeners).1, if (atFold met os g r x g.listeners).1 = [] then (atFold met os g r x g.listeners).2 else ⟨#[]⟩, true) else ([], ⟨#[]⟩, false)
    | none => ([], ⟨#[]⟩, false)
  | none => ([], ⟨#[]⟩, false)
 else ([], ⟨#[]⟩, false)

def gatherStep (out : List ASpot) (s : ASpot) : List ASpot := if out.any (fun x => x.at_ s.gateway s.listener) = true then out else out ++ [s]
def gatherS (out more : List ASpot) : List ASpot := more.foldl gatherStep out

def allUpto (os : List AObj) (r : AObj) : Nat → List ASpot
 | 0 => []
 | n + 1 => gatherS (allUpto os r n) (attAt met os r n).1

def attAll (os : List AObj) (r : AObj) : List ASpot := allUpto met os r r.parents.length

structure Like (os us : List AObj) (r : AObj) : Prop where
 cls : ∀ n, found os ⟨1, ⟨#[]⟩, n⟩ = found us ⟨1, ⟨#[]⟩, n⟩
 spc : ∀ n, found os ⟨2, ⟨#[]⟩, n⟩ = found us ⟨2, ⟨#[]⟩, n⟩
 gws : ∀ x ∈ r.parents, found os (near ⟨5, x.space, x.name⟩ r.ref.space) = found us (near ⟨5, x.space, x.name⟩ r.ref.space)

theorem mem_atFold {os : List AObj} {g r : AObj} {p : AParent} {s : ASpot} : ∀ {l : List AListener} {a : List ASpot × ByteArray}, s ∈ (l.foldl (fun a x => atStep met os g r p x a) a).1 ↔
 s ∈ a.1 ∨ ∃ x ∈ l, asked x p = true ∧ attLets met os g x r.ref.space = true ∧ meets x.host r.hosts ≠ [] ∧ s = ⟨g.ref, x.name, meets x.host r.hosts⟩
 | [], a => by simp
 | x :: l, a => by
   rw [List.foldl_cons, mem_atFold]
   have : s ∈ (atStep met os g r p x a).1 ↔ s ∈ a.1 ∨ (asked x p = true ∧ attLets met os g x r.ref.space = true ∧ meets x.host r.hosts ≠ [] ∧ s = ⟨g.ref, x.name, meets x.host r.hosts⟩) := by
    unfold atStep
    by_cases h1 : asked x p = false
    ·rw [if_pos h1]; simp [h1]
    ·rw [if_neg h1]
     simp only [Bool.not_eq_false] at h1
     by_cases h2 : attLets met os g x r.ref.space = false
     ·rw [if_pos h2]; simp [h2]
     ·rw [if_neg h2]
      simp only [Bool.not_eq_false] at h2
      by_cases h3 : meets x.host r.hosts = []
      ·rw [if_pos h3]; simp [h3]
      ·rw [if_neg h3]
       simp [h1, h2, h3]
   rw [this]
   simp only [List.mem_cons, exists_eq_or_imp, or_assoc]

theorem gather_mem {s : ASpot} : ∀ {more out : List ASpot}, s ∈ gatherS out more → s ∈ out ∨ s ∈ more
 | [], _, h => .inl h
 | x :: more, out, h => by
   rcases gather_mem (more := more) (out := gatherStep out x) h with h | h
   ·unfold gatherStep at h
    split at h
    ·exact .inl h
    ·rcases List.mem_append.1 h with h | h
     ·exact .inl h
     ·exact .inr (by rw [List.mem_singleton.1 h]; exact List.mem_cons_self)
   ·exact .inr (List.mem_cons_of_mem _ h)

end


theorem get_byte {s : ByteArray} {i : Nat} {b : UInt8} (h : s[i]? = some b) : s.get! i = b := by
 rw [bytes_get] at h
 have h1 : s.data[i]? = some b := by rw [← Array.getElem?_toList]; exact h
 simp only [ByteArray.get!]
 rw [getElem!_def, h1]

theorem decode_low {s : ByteArray} {i : Nat} {b : UInt8} (h : s[i]? = some b) (hb : b.toNat < 128) : Utf8.decode s i = (b.toNat, 1) := by
 rw [Lib.decode_at, get_byte h, Lib.decodeN, if_pos hb]

theorem decode_high {s : ByteArray} {i : Nat} {b : UInt8} (h : s[i]? = some b) (hb : ¬ b.toNat < 128) : 128 ≤ (Utf8.decode s i).1 := by
 rw [Lib.decode_at, get_byte h, Lib.decodeN, if_neg hb]
 repeat' split
 all_goals first | omega | (simp only []; omega)

theorem runeAll_bytes {p : Int → Bool} (hp : ∀ c, 128 ≤ c → p c = false) (s : ByteArray) : ∀ (k pos : Nat), s.size ≤ pos + k → runeAll p s k pos = (s.data.toList.drop pos).all fun b => p b.toNat
 | 0, pos, h => by
   rw [byte_end (by omega)]
   rfl
 | k + 1, pos, h => by
   by_cases hlt : pos < s.size
   ·obtain ⟨b, hb, hd⟩ := byte_at hlt
    rw [hd, List.all_cons]
    simp only [runeAll, hlt, if_true]
    by_cases h1 : b.toNat < 128
    ·rw [decode_low hb h1, runeAll_bytes hp s k (pos + 1) (by omega)]
    ·have h2 := decode_high hb h1
     rw [hp _ (by omega), hp (b.toNat : Int) (by omega)]
     simp
   ·rw [runeAll_end hlt, byte_end hlt]
    rfl

theorem runeIdx_all (p : Int → Bool) (s : ByteArray) : ∀ (k pos : Nat), (runeIdx (fun c => !p c) s k pos < 0) = (runeAll p s k pos = true)
 | 0, pos => by simp [runeIdx, runeAll]
 | k + 1, pos => by
   simp only [runeIdx, runeAll]
   split
   ·obtain ⟨q, hq⟩ : ∃ q, p (Utf8.decode s pos).1 = q := ⟨_, rfl⟩
    cases q with
    | false => simp only [hq, Bool.not_false, if_true, Bool.false_and, Bool.false_eq_true, eq_iff_iff, iff_false]; omega
    | true =>
      simp only [hq, Bool.not_true, Bool.false_eq_true, if_false, Bool.true_and]
      exact runeIdx_all p s k _
   ·simp

theorem idx_none {p : Int → Bool} (hp : ∀ c, 128 ≤ c → p c = false) (s : ByteArray) : decide (runeIdx (fun c => !p c) s s.size 0 < 0) = s.data.toList.all fun b => p b.toNat := by
 rw [Bool.eq_iff_iff, decide_eq_true_eq, runeIdx_all, runeAll_bytes hp s s.size 0 (by omega)]
 rfl

theorem all_bytes {s : ByteArray} {p : UInt8 → Bool} : s.data.toList.all p = true ↔ ∀ (j : Nat) (b : UInt8), s[j]? = some b → p b = true := by
 rw [List.all_eq_true]
 constructor
 ·intro h j b hb
  rw [bytes_get] at hb
  exact h b (List.mem_of_getElem? hb)
 ·intro h b hb
  obtain ⟨j, hj⟩ := List.getElem?_of_mem hb
  exact h j b (by rw [bytes_get]; exact hj)

def labAt (n j : Nat) (b : UInt8) : Bool := ((decide (97 ≤ b.toNat) && decide (b.toNat ≤ 122)) || (decide (48 ≤ b.toNat) && decide (b.toNat ≤ 57))) || (decide (b.toNat = 45) && !(decide (j = 0) || decide (j + 1 = n)))

theorem size0 {s : ByteArray} : s = ⟨#[]⟩ ↔ s.size = 0 := by
 constructor
 ·intro h; rw [h]; rfl
 ·intro h
  have : s.data = #[] := Array.eq_empty_of_size_eq_zero h
  cases s; simp_all

theorem label_iff (s : ByteArray) : label s = true ↔ 1 ≤ s.size ∧ s.size ≤ 20 ∧ ∀ (j : Nat) (b : UInt8), s[j]? = some b → labAt s.size j b = true := by
 have ho : ∀ c : Int, 128 ≤ c → octet c = false := fun c h => by simp [octet]; omega
 simp only [label, idx_none ho, Bool.and_eq_true, Bool.not_eq_true', decide_eq_true_eq, decide_eq_false_iff_not, size0, all_bytes]
 constructor
 ·rintro ⟨⟨⟨⟨h1, h2⟩, h3⟩, h4⟩, h5⟩
  refine ⟨by omega, h2, fun j b hb => ?_⟩
  have h6 := h3 j b hb
  simp only [octet, Bool.or_eq_true, Bool.and_eq_true, decide_eq_true_eq] at h6
  simp only [labAt, Bool.or_eq_true, Bool.and_eq_true, decide_eq_true_eq, Bool.not_eq_true', Bool.or_eq_false_iff, decide_eq_false_iff_not]
  by_cases e : b.toNat = 45
  ·right
   refine ⟨e, fun e0 => ?_, fun e1 => ?_⟩
   ·subst e0
    rw [hb] at h4
    simp [e] at h4
   ·have : j = s.size - 1 := by omega
    rw [← this, hb] at h5
    simp [e] at h5
  ·left
   omega
 ·rintro ⟨h1, h2, h3⟩
  refine ⟨⟨⟨⟨by omega, h2⟩, fun j b hb => ?_⟩, ?_⟩, ?_⟩
  ·have h6 := h3 j b hb
   simp only [labAt, Bool.or_eq_true, Bool.and_eq_true, decide_eq_true_eq] at h6
   simp only [octet, Bool.or_eq_true, Bool.and_eq_true, decide_eq_true_eq]
   omega
  ·obtain ⟨b, hb⟩ := at_byte (show 0 < s.size by omega)
   have h6 := h3 0 b hb
   rw [hb]
   simp [labAt] at h6 ⊢
   omega
  ·obtain ⟨b, hb⟩ := at_byte (show s.size - 1 < s.size by omega)
   have h6 := h3 _ b hb
   rw [hb]
   have : s.size - 1 + 1 = s.size := by omega
   simp [labAt, this] at h6 ⊢
   omega

def stepR (c : UInt8) (out : List ByteArray) (b : UInt8) : List ByteArray :=
 if b = c then out ++ [⟨#[]⟩] else out.set (out.length - 1) (out.getD (out.length - 1) default ++ ⟨#[b]⟩)

def splitR (c : UInt8) (l : List UInt8) : List ByteArray := l.foldl (stepR c) [⟨#[]⟩]

def partsL (c : UInt8) : ByteArray → List UInt8 → List ByteArray
 | cur, [] => [cur]
 | cur, b :: l => if b = c then cur :: partsL c ⟨#[]⟩ l else partsL c (cur ++ ⟨#[b]⟩) l

theorem foldl_parts (c : UInt8) : ∀ (l : List UInt8) (pre : List ByteArray) (cur : ByteArray), l.foldl (stepR c) (pre ++ [cur]) = pre ++ partsL c cur l
 | [], _, _ => rfl
 | b :: l, pre, cur => by
   simp only [List.foldl_cons, partsL]
   by_cases e : b = c
   ·simp only [stepR, e, if_true]
    rw [foldl_parts c l (pre ++ [cur]) ⟨#[]⟩, List.append_assoc]
    rfl
   ·simp only [stepR, e, if_false]
    have h1 : (pre ++ [cur]).length - 1 = pre.length := by simp
    rw [h1, List.getD_eq_getElem?_getD, List.getElem?_append_right (Nat.le_refl _), Nat.sub_self, List.set_append_right _ _ (Nat.le_refl _), Nat.sub_self]
    exact foldl_parts c l pre (cur ++ ⟨#[b]⟩)

theorem app_assoc (a b c : ByteArray) : a ++ b ++ c = a ++ (b ++ c) := ByteArray.append_assoc
theorem app_nil (a : ByteArray) : a ++ ⟨#[]⟩ = a := by
 apply ByteArray.ext
 simp
theorem app_list (a : ByteArray) (b : UInt8) (l : List UInt8) : a ++ ⟨#[b]⟩ ++ ⟨l.toArray⟩ = a ++ ⟨(b :: l).toArray⟩ := by
 rw [app_assoc]
 congr 1

theorem partsL_eq (c : UInt8) : ∀ (l : List UInt8) (cur : ByteArray),
 partsL c cur l = if Lib.indexByte l c < 0 then [cur ++ ⟨l.toArray⟩] else (cur ++ ⟨(l.take (Lib.indexByte l c).toNat).toArray⟩) :: partsL c ⟨#[]⟩ (l.drop ((Lib.indexByte l c).toNat + 1))
 | [], cur => by
   have h : Lib.indexByte [] c < 0 := by simp [Lib.indexByte]
   rw [if_pos h]
   simp only [partsL, app_nil]
 | b :: l, cur => by
   have hg := Lib.indexByte_ge l c
   have hi : Lib.indexByte (b :: l) c = if b == c then 0 else if Lib.indexByte l c == -1 then -1 else Lib.indexByte l c + 1 := rfl
   simp only [beq_iff_eq] at hi
   simp only [partsL]
   by_cases e : b = c
   ·rw [if_pos e] at hi
    rw [hi]
    simp [e, app_nil]
   ·rw [if_neg e] at hi
    rw [if_neg e, partsL_eq c l (cur ++ ⟨#[b]⟩)]
    by_cases h : Lib.indexByte l c = -1
    ·rw [if_pos h] at hi
     rw [if_pos (by omega), hi, if_pos (by decide), app_list]
    ·rw [if_neg h] at hi
     have hn : ¬ Lib.indexByte l c < 0 := by omega
     have h1 : (Lib.indexByte l c + 1).toNat = (Lib.indexByte l c).toNat + 1 := by omega
     rw [hi, if_neg hn, if_neg (by omega), h1, List.take_succ_cons, List.drop_succ_cons, app_list]

theorem extract_list (s : ByteArray) (i j : Nat) : s.extract i j = ⟨((s.data.toList.take j).drop i).toArray⟩ := by
 apply ByteArray.ext
 rw [ByteArray.data_extract]
 apply Array.ext'
 simp [List.drop_take]

theorem parts_splitB (c : UInt8) : ∀ (k : Nat) (s : ByteArray), s.size ≤ k → partsL c ⟨#[]⟩ s.data.toList = splitB c k s
 | 0, s, h => by
   have hs : s.data.toList = [] := List.eq_nil_of_length_eq_zero (by rw [size_list]; omega)
   rw [hs]
   have := size0.2 (show s.size = 0 by omega)
   simp only [partsL, splitB, this]
 | k + 1, s, h => by
   rw [partsL_eq]
   simp only [splitB]
   have e0 : ∀ l : List UInt8, (⟨#[]⟩ : ByteArray) ++ ⟨l.toArray⟩ = ⟨l.toArray⟩ := fun l => by apply ByteArray.ext; simp
   split
   ·rw [e0]
   ·rename_i hn
    have hlt := (indexByte_lt s.data.toList c).resolve_left hn
    rw [size_list] at hlt
    rw [e0, extract_list s 0, List.drop_zero]
    congr 1
    rw [← parts_splitB c k (s.extract ((Lib.indexByte s.data.toList c).toNat + 1) s.size) (by rw [ByteArray.size_extract]; omega)]
    rw [extract_list]
    simp only [List.take_of_length_le (show s.data.toList.length ≤ s.size from Nat.le_of_eq (size_list s))]

theorem splitR_eq (c : UInt8) (s : ByteArray) : splitR c s.data.toList = splitB c s.size s := by
 rw [← parts_splitB c s.size s (Nat.le_refl _)]
 exact foldl_parts c s.data.toList [] ⟨#[]⟩

theorem splitR_step (c : UInt8) {s : ByteArray} {i : Nat} {b : UInt8} (hb : s[i]? = some b) : splitR c (s.data.toList.take (i + 1)) = stepR c (splitR c (s.data.toList.take i)) b := by
 rw [take_at (by rw [← bytes_get]; exact hb)]
 unfold splitR
 rw [List.foldl_append]
 rfl

theorem stepR_len (c : UInt8) (out : List ByteArray) (b : UInt8) : out.length ≤ (stepR c out b).length ∧ (stepR c out b).length ≤ out.length + 1 := by
 unfold stepR
 split <;> simp

theorem splitR_len (c : UInt8) (l : List UInt8) : 1 ≤ (splitR c l).length ∧ (splitR c l).length ≤ l.length + 1 := by
 unfold splitR
 suffices h : ∀ (l : List UInt8) (out : List ByteArray), out.length ≤ (l.foldl (stepR c) out).length ∧ (l.foldl (stepR c) out).length ≤ l.length + out.length from by
  have := h l [⟨#[]⟩]
  simpa using this
 intro l
 induction l with
 | nil => intro out; simp
 | cons b l ih =>
   intro out
   have h1 := ih (stepR c out b)
   have h2 := stepR_len c out b
   simp only [List.foldl_cons, List.length_cons]
   omega

theorem stepR_size (c : UInt8) {out : List ByteArray} {b : UInt8} {n : Nat} (h : ∀ x ∈ out, x.size ≤ n) : ∀ x ∈ stepR c out b, x.size ≤ n + 1 := by
 intro x hx
 unfold stepR at hx
 split at hx
 ·rcases List.mem_append.1 hx with h1 | h1
  ·have := h x h1; omega
  ·simp only [List.mem_singleton] at h1
   subst h1
   exact Nat.zero_le _
 ·rcases List.mem_or_eq_of_mem_set hx with h1 | h1
  ·have := h x h1; omega
  ·subst h1
   rw [ByteArray.size_append]
   have h2 : (out.getD (out.length - 1) default).size ≤ n := by
    rw [List.getD_eq_getElem?_getD]
    cases h3 : out[out.length - 1]? with
    | none => exact Nat.zero_le _
    | some y => exact h y (List.mem_of_getElem? h3)
   have h4 : (ByteArray.mk #[b]).size = 1 := rfl
   omega

theorem splitR_size (c : UInt8) (l : List UInt8) : ∀ x ∈ splitR c l, x.size ≤ l.length := by
 unfold splitR
 suffices h : ∀ (l : List UInt8) (out : List ByteArray) (n : Nat), (∀ x ∈ out, x.size ≤ n) → ∀ x ∈ l.foldl (stepR c) out, x.size ≤ n + l.length from by
  have := h l [⟨#[]⟩] 0 (fun x hx => by simp only [List.mem_singleton] at hx; subst hx; exact Nat.zero_le _)
  simpa using this
 intro l
 induction l with
 | nil => intro out n h; simpa using h
 | cons b l ih =>
   intro out n h x hx
   have := ih (stepR c out b) (n + 1) (stepR_size c h) x hx
   simp only [List.length_cons]
   omega

theorem byte_one {s : ByteArray} {i : Nat} {b : UInt8} (hb : s[i]? = some b) : s.extract i (i + 1) = ⟨#[b]⟩ := by
 rw [extract_list, take_at (by rw [← bytes_get]; exact hb)]
 have hi : i < s.data.toList.length := (List.getElem?_eq_some_iff.1 ((bytes_get s i).symm.trans hb)).1
 rw [List.drop_append_of_le_length (by rw [List.length_take]; omega), List.drop_eq_nil_of_le (by rw [List.length_take]; omega)]
 rfl


def sp (c : UInt8) : List UInt8 → List (List UInt8)
 | [] => [[]]
 | b :: l => if b = c then [] :: sp c l else match sp c l with
   | h :: t => (b :: h) :: t
   | [] => [[b]]

theorem sp_cons (c b : UInt8) (l : List UInt8) : sp c (b :: l) = if b = c then [] :: sp c l else (match sp c l with
 | h :: t => (b :: h) :: t
 | [] => [[b]]) := rfl

theorem sp_ne (c : UInt8) : ∀ l, sp c l ≠ []
 | [] => by simp [sp]
 | b :: l => by
   unfold sp
   split
   ·simp
   ·split <;> simp

theorem parts_sp (c : UInt8) : ∀ (l : List UInt8) (cur : ByteArray), (partsL c cur l).map (fun x => x.data.toList) = (match sp c l with
 | h :: t => (cur.data.toList ++ h) :: t
 | [] => [])
 | [], cur => by simp [partsL, sp]
 | b :: l, cur => by
   unfold partsL sp
   by_cases hb : b = c
   ·rw [if_pos hb, if_pos hb]
    have ih := parts_sp c l ⟨#[]⟩
    rw [List.map_cons, ih]
    cases h : sp c l with
    | nil => exact absurd h (sp_ne c l)
    | cons x t => simp
   ·rw [if_neg hb, if_neg hb]
    have ih := parts_sp c l (cur ++ ⟨#[b]⟩)
    rw [ih]
    cases h : sp c l with
    | nil => exact absurd h (sp_ne c l)
    | cons x t => simp

theorem splitB_sp (c : UInt8) (s : ByteArray) : (splitB c s.size s).map (fun x => x.data.toList) = sp c s.data.toList := by
 rw [← parts_splitB c s.size s (Nat.le_refl _), parts_sp]
 cases h : sp c s.data.toList with
 | nil => exact absurd h (sp_ne c _)
 | cons x t => simp

theorem sp_append (c : UInt8) (m : List UInt8) : ∀ l, sp c (l ++ c :: m) = sp c l ++ sp c m
 | [] => by simp [sp]
 | b :: l => by
   have ih := sp_append c m l
   rw [List.cons_append, sp_cons, sp_cons c b l]
   by_cases hb : b = c
   ·rw [if_pos hb, if_pos hb, ih]; rfl
   ·rw [if_neg hb, if_neg hb, ih]
    cases h : sp c l with
    | nil => exact absurd h (sp_ne c l)
    | cons x t => rfl

def joinL (c : UInt8) : List (List UInt8) → List UInt8
 | [] => []
 | [x] => x
 | x :: y :: r => x ++ c :: joinL c (y :: r)

theorem joinL_cons (c : UInt8) (x : List UInt8) {r : List (List UInt8)} (h : r ≠ []) : joinL c (x :: r) = x ++ c :: joinL c r := by
 cases r with
 | nil => exact absurd rfl h
 | cons y r => rfl

theorem joinL_sp (c : UInt8) : ∀ l, joinL c (sp c l) = l
 | [] => rfl
 | b :: l => by
   have ih := joinL_sp c l
   unfold sp
   by_cases hb : b = c
   ·rw [if_pos hb, joinL_cons c [] (sp_ne c l), ih, hb]; rfl
   ·rw [if_neg hb]
    cases h : sp c l with
    | nil => exact absurd h (sp_ne c l)
    | cons x t =>
      rw [h] at ih
      simp only
      cases t with
      | nil => simp only [joinL] at ih ⊢; rw [ih]
      | cons y t =>
        simp only [joinL, List.cons_append] at ih ⊢
        rw [ih]

theorem joinL_append (c : UInt8) {B : List (List UInt8)} (hB : B ≠ []) : ∀ {A : List (List UInt8)}, A ≠ [] → joinL c (A ++ B) = joinL c A ++ c :: joinL c B
 | [], h => absurd rfl h
 | [x], _ => by rw [List.singleton_append, joinL_cons c x hB]; rfl
 | x :: y :: A, _ => by
   rw [List.cons_append, joinL_cons c x (by simp), joinL_append c hB (A := y :: A) (by simp), joinL_cons c x (by simp)]
   simp

theorem suffix_sp {c : UInt8} {l m : List UInt8} : (∃ x, l = x ++ c :: m) ↔ ∃ A, A ≠ [] ∧ sp c l = A ++ sp c m := by
 constructor
 ·rintro ⟨x, rfl⟩
  exact ⟨sp c x, sp_ne c x, sp_append c m x⟩
 ·rintro ⟨A, hA, h⟩
  refine ⟨joinL c A, ?_⟩
  have := congrArg (joinL c) h
  rwa [joinL_sp, joinL_append c (sp_ne c m) hA, joinL_sp] at this

theorem last_iff {α : Type} {A B : List α} : (∃ X, X ≠ [] ∧ A = X ++ B) ↔ B.length < A.length ∧ ∀ i, i < B.length → A[A.length - 1 - i]? = B[B.length - 1 - i]? := by
 constructor
 ·rintro ⟨X, hX, rfl⟩
  have h0 : 0 < X.length := List.length_pos_iff.2 hX
  refine ⟨by rw [List.length_append]; omega, fun i hi => ?_⟩
  rw [List.getElem?_append_right (by rw [List.length_append]; omega)]
  congr 1
  rw [List.length_append]
  omega
 ·rintro ⟨h1, h2⟩
  refine ⟨A.take (A.length - B.length), List.ne_nil_of_length_pos (by rw [List.length_take]; omega), ?_⟩
  have : A.drop (A.length - B.length) = B := by
   apply List.ext_getElem?
   intro j
   rw [List.getElem?_drop]
   by_cases hj : j < B.length
   ·have := h2 (B.length - 1 - j) (by omega)
    rw [show A.length - 1 - (B.length - 1 - j) = A.length - B.length + j by omega, show B.length - 1 - (B.length - 1 - j) = j by omega] at this
    exact this
   ·rw [List.getElem?_eq_none (by omega), List.getElem?_eq_none (by omega)]
  conv => lhs; rw [← List.take_append_drop (A.length - B.length) A, this]

theorem hasSuffix_iff (s p : ByteArray) : hasSuffix s p = true ↔ ∃ x, s.data.toList = x ++ p.data.toList := by
 simp only [hasSuffix, Bool.and_eq_true, decide_eq_true_eq]
 have hl : s.data.toList.length = s.size := size_list s
 have hp : p.data.toList.length = p.size := size_list p
 constructor
 ·rintro ⟨h1, h2⟩
  refine ⟨s.data.toList.take (s.size - p.size), ?_⟩
  have h3 : s.data.toList.drop (s.size - p.size) = p.data.toList := by
   have h4 := congrArg (fun x => x.data.toList) h2
   rw [extract_list, List.take_of_length_le (by omega)] at h4
   exact h4
  conv => lhs; rw [← List.take_append_drop (s.size - p.size) s.data.toList, h3]
 ·rintro ⟨x, hx⟩
  have h1 : x.length + p.size = s.size := by rw [← hl, hx, List.length_append, hp]
  refine ⟨by omega, ?_⟩
  rw [extract_list, List.take_of_length_le (by omega), hx, show s.size - p.size = x.length by omega, List.drop_left]

theorem map_inj_get {α β : Type} {f : α → β} (hf : ∀ x y, f x = f y → x = y) {l m : List α} {i j : Nat} : (l.map f)[i]? = (m.map f)[j]? ↔ l[i]? = m[j]? := by
 rw [List.getElem?_map, List.getElem?_map]
 cases l[i]? <;> cases m[j]? <;> simp
 exact ⟨hf _ _, fun e => by rw [e]⟩

theorem under_iff (s z : ByteArray) : under s z = true ↔ (dname s = true ∧ dname z = true) ∧ (splitB 46 z.size z).length < (splitB 46 s.size s).length ∧
 ∀ i, i < (splitB 46 z.size z).length → (splitB 46 s.size s)[(splitB 46 s.size s).length - 1 - i]? = (splitB 46 z.size z)[(splitB 46 z.size z).length - 1 - i]? := by
 have hd : (dot ++ z).data.toList = 46 :: z.data.toList := by simp [dot]
 simp only [under, Bool.and_eq_true]
 refine and_congr_right fun _ => ?_
 rw [hasSuffix_iff, hd, suffix_sp, last_iff, ← splitB_sp, ← splitB_sp, List.length_map, List.length_map]
 refine and_congr_right fun _ => forall_congr' fun i => forall_congr' fun _ => ?_
 exact map_inj_get fun x y e => ByteArray.ext (Array.ext' e)


theorem eqf_dec {α : Type} [DecidableEq α] {q : α → α → Bool} (h : ∀ x y, q x y = decide (x = y)) : ∀ l m : List α, eqf q l m = decide (l = m)
 | [], [] => rfl
 | [], _ :: _ => rfl
 | _ :: _, [] => rfl
 | x :: l, y :: m => by
   simp only [eqf, h, eqf_dec h l m]
   rw [Bool.eq_iff_iff]
   simp

theorem needSame_dec (a b : ANeed) : needSame a b = decide (a = b) := by
 cases a; cases b
 rw [Bool.eq_iff_iff]
 simp [needSame, and_assoc]

theorem listenerSame_dec (a b : AListener) : listenerSame a b = decide (a = b) := by
 simp only [listenerSame, eqf_dec needSame_dec]
 cases a; cases b
 rw [Bool.eq_iff_iff]
 simp [and_assoc]

theorem matchSame_dec (a b : AMatch) : matchSame a b = decide (a = b) := by
 cases a; cases b
 rw [Bool.eq_iff_iff]
 simp [matchSame, and_assoc]

theorem ruleSame_dec (a b : ARule) : ruleSame a b = decide (a = b) := by
 simp only [ruleSame, eqf_dec matchSame_dec]
 cases a; cases b
 rw [Bool.eq_iff_iff]
 simp [and_assoc]

theorem objSame_iff (a b : AObj) : objSame a b = true ↔ a = b := by
 simp only [objSame, eqf_dec listenerSame_dec, eqf_dec ruleSame_dec]
 cases a; cases b
 simp [and_assoc]
 intro _ _
 constructor
 ·rintro ⟨h1, h2, h3, h4, h5, h6, h7, h8, h9⟩
  exact ⟨h2, h3, h1, h8, h5, h4, h9, h6, h7⟩
 ·rintro ⟨h2, h3, h1, h8, h5, h4, h9, h6, h7⟩
  exact ⟨h1, h2, h3, h4, h5, h6, h7, h8, h9⟩

def AObj.keep (o : AObj) : AObj :=
 if o.ref.kind = 1 ∨ o.ref.kind = 4 then { AObj.zero o.ref with good := o.good }
 else if o.ref.kind = 2 then { AObj.zero o.ref with labels := o.labels }
 else if o.ref.kind = 3 then { AObj.zero o.ref with ports := o.ports }
 else if o.ref.kind = 5 then { AObj.zero o.ref with listeners := o.listeners, cls := o.cls }
 else if o.ref.kind = 6 then { AObj.zero o.ref with parents := o.parents, hosts := o.hosts, rules := o.rules }
 else { AObj.zero o.ref with from_ := o.from_, to_ := o.to_ }

theorem keep_iff (o : AObj) : o.keep = o ↔ o.strip = AObj.zero o.ref := by
 obtain ⟨r, gd, la, po, cl, li, pa, ho, ru, fr, to⟩ := o
 unfold AObj.keep AObj.strip
 simp only [AObj.zero]
 repeat' split
 all_goals
  simp only [AObj.mk.injEq]
  constructor
  ·intro h; simp_all
  ·intro h; simp_all

theorem objMay_keep (o : AObj) : objMay o = (mayRef o.ref && (kindMay o && decide (o.keep = o))) := by
 rw [Bool.eq_iff_iff]
 simp only [objMay, Bool.and_eq_true, objSame_iff, decide_eq_true_eq, keep_iff, and_assoc]

theorem keep_ok {o : AObj} (h : o.ok) : o.keep.ok := by
 unfold AObj.keep
 repeat' split
 all_goals exact ⟨by first | exact h.la | simp [AObj.zero], by first | exact h.po | simp [AObj.zero], by first | exact h.li | simp [AObj.zero], by first | exact h.pa | simp [AObj.zero], by first | exact h.ho | simp [AObj.zero], by first | exact h.ru | simp [AObj.zero], by first | exact h.fr | simp [AObj.zero], by first | exact h.to | simp [AObj.zero], by first | exact h.lis | simp [AObj.zero], by first | exact h.rus | simp [AObj.zero]⟩

abbrev AObj.wide (r : AObj) : AObj := { r with hosts := [] }
section
variable (met : List ANeed → List APair → Bool)

theorem attAt_off {os : List AObj} {r : AObj} {p : Int} (h : (attAt met os r p).2.2 = false) : (attAt met os r p).1 = [] := by
 unfold attAt at h ⊢
 split
 ·rename_i h1
  rw [if_pos h1] at h
  split
  ·rename_i x hx
   simp only [hx] at h
   split
   ·rename_i g hg
    simp only [hg] at h
    split
    ·rename_i ho
     rw [if_pos ho] at h
     cases h
    ·rfl
   ·rfl
  ·rfl
 ·rfl

theorem attAt_on {os : List AObj} {r : AObj} {p : Int} (h : (attAt met os r p).2.2 = true) : ∃ (x : AParent) (g : AObj), isRoute r = true ∧ 0 ≤ p ∧ r.parents[p.toNat]? = some x ∧ found os (near ⟨5, x.space, x.name⟩ r.ref.space) = some g ∧ ours os g = true ∧
 (attAt met os r p).1 = (atFold met os g r x g.listeners).1 := by
 unfold attAt at h ⊢
 by_cases h1 : isRoute r = true ∧ 0 ≤ p
 ·rw [if_pos h1] at h ⊢
  cases hx : r.parents[p.toNat]? with
  | none => rw [hx] at h; cases h
  | some x =>
    rw [hx] at h
    simp only at h ⊢
    cases hg : found os (near ⟨5, x.space, x.name⟩ r.ref.space) with
    | none => rw [hg] at h; cases h
    | some g =>
      rw [hg] at h
      simp only at h ⊢
      by_cases ho : ours os g = true
      ·rw [if_pos ho]
       exact ⟨x, g, h1.1, h1.2, rfl, hg, ho, rfl⟩
      ·rw [if_neg ho] at h; cases h
 ·rw [if_neg h1] at h; cases h

theorem mem_fold {os : List AObj} {g r : AObj} {p : AParent} {s : ASpot} {l : List AListener} : s ∈ (atFold met os g r p l).1 ↔
 ∃ x ∈ l, asked x p = true ∧ attLets met os g x r.ref.space = true ∧ meets x.host r.hosts ≠ [] ∧ s = ⟨g.ref, x.name, meets x.host r.hosts⟩ := by
 unfold atFold
 rw [mem_atFold]
 simp

end


def refMeet (a b : ByteArray) : Option ByteArray :=
 if hostMay a = false ∨ hostMay b = false then none
 else if a = ⟨#[]⟩ then some b
 else if b = ⟨#[]⟩ ∨ a = b then some a
 else if hasPrefix b star = true ∧ under (cutPrefix a star) (cutPrefix b star) = true then some a
 else if hasPrefix a star = true ∧ under (cutPrefix b star) (cutPrefix a star) = true then some b
 else none

theorem below_both {p q : ByteArray} (hp : ¬ p = ⟨#[]⟩) (hq : ¬ q = ⟨#[]⟩) (h : ¬ p = q) : below p q = true ↔ hasPrefix q star = true ∧ under (cutPrefix p star) (cutPrefix q star) = true := by
 unfold below
 rw [if_neg (by simp [hq, h])]
 by_cases h1 : hasPrefix q star = true
 ·rw [if_neg (by simp [hp, h1])]
  by_cases h2 : hasPrefix p star = true
  ·rw [if_pos h2]; simp [h1]
  ·rw [if_neg h2]
   have : cutPrefix p star = p := by simp only [cutPrefix, h2]; rfl
   rw [this]; simp [h1]
 ·rw [if_pos (.inr (by simpa using h1))]
  simp [h1]

theorem below_from_nil {q : ByteArray} (hq : ¬ q = ⟨#[]⟩) : below ⟨#[]⟩ q = false := by
 unfold below
 rw [if_neg (by simp [hq, Ne.symm hq]), if_pos (.inl rfl)]

theorem refMeet_eq (a b : ByteArray) : refMeet a b = hostMeet a b := by
 unfold refMeet hostMeet
 by_cases hm : hostMay a = false ∨ hostMay b = false
 ·rw [if_pos hm, if_pos hm]
 rw [if_neg hm, if_neg hm]
 by_cases ha : a = ⟨#[]⟩
 ·rw [if_pos ha]
  by_cases hb : b = ⟨#[]⟩
  ·rw [hb, if_pos (below_nil a), ha]
  ·rw [ha, below_from_nil hb, if_neg (by decide), below_nil, if_pos rfl]
 rw [if_neg ha]
 by_cases hb : b = ⟨#[]⟩
 ·rw [if_pos (.inl hb), hb, below_nil, if_pos rfl]
 by_cases hab : a = b
 ·rw [if_pos (.inr hab), hab, below_self, if_pos rfl]
 rw [if_neg (by simp [hb, hab])]
 have e1 := below_both ha hb hab
 have e2 := below_both hb ha (Ne.symm hab)
 by_cases h1 : below a b = true
 ·rw [if_pos (e1.1 h1), if_pos h1]
 ·rw [if_neg (fun h => h1 (e1.2 h)), if_neg h1]
  by_cases h2 : below b a = true
  ·rw [if_pos (e2.1 h2), if_pos h2]
  ·rw [if_neg (fun h => h2 (e2.2 h)), if_neg h2]

section
variable (met : List ANeed → List APair → Bool)

def isAsked (p : AParent) (x : AListener) : Bool := asked x p
def isLet (os : List AObj) (g r : AObj) (p : AParent) (x : AListener) : Bool := asked x p && attLets met os g x r.ref.space

def whyOf (a l : Nat) (out : List ASpot) : ByteArray := if out ≠ [] then ⟨#[]⟩ else if a = 0 then noParent else if l = 0 then noSpace else noHost

theorem texts_ne : noParent ≠ noSpace ∧ noParent ≠ noHost ∧ noSpace ≠ noHost := by decide +kernel

theorem why_fold {os : List AObj} {g r : AObj} {p : AParent} (l : List AListener) :
 (l.countP (isLet met os g r p) = 0 → (atFold met os g r p l).1 = []) ∧
 (l.countP (isAsked p) = 0 → (atFold met os g r p l).2 = noParent) ∧
 (0 < l.countP (isAsked p) → l.countP (isLet met os g r p) = 0 → (atFold met os g r p l).2 = noSpace) ∧
 (0 < l.countP (isLet met os g r p) → (atFold met os g r p l).1 = [] → (atFold met os g r p l).2 = noHost) ∧
 l.countP (isLet met os g r p) ≤ l.countP (isAsked p) := by
 obtain ⟨m, rfl⟩ : ∃ m : List AListener, l = m.reverse := ⟨l.reverse, by simp⟩
 induction m with
 | nil => simp [atFold]
 | cons x m ih =>
   obtain ⟨i1, i2, i3, i4, i5⟩ := ih
   rw [List.reverse_cons]
   generalize m.reverse = l at i1 i2 i3 i4 i5 ⊢
   have hs : atFold met os g r p (l ++ [x]) = atStep met os g r p x (atFold met os g r p l) := by
    unfold atFold
    rw [List.foldl_append]
    rfl
   rw [hs, List.countP_append, List.countP_append]
   generalize atFold met os g r p l = a at i1 i2 i3 i4 ⊢
   generalize l.countP (isLet met os g r p) = L at i1 i3 i4 i5 ⊢
   generalize l.countP (isAsked p) = A at i2 i3 i5 ⊢
   obtain ⟨t1, t2, t3⟩ := texts_ne
   unfold atStep
   by_cases h1 : asked x p = false
   ·rw [if_pos h1]
    have c1 : [x].countP (isAsked p) = 0 := by simp [isAsked, h1]
    have c2 : [x].countP (isLet met os g r p) = 0 := by simp [isLet, h1]
    rw [c1, c2]
    exact ⟨i1, i2, i3, i4, i5⟩
   rw [if_neg h1]
   simp only [Bool.not_eq_false] at h1
   have c1 : [x].countP (isAsked p) = 1 := by simp [isAsked, h1]
   by_cases h2 : attLets met os g x r.ref.space = false
   ·rw [if_pos h2]
    have c2 : [x].countP (isLet met os g r p) = 0 := by simp [isLet, h2]
    rw [c1, c2]
    refine ⟨i1, fun h => by omega, fun _ hL => ?_, fun hL h0 => ?_, by omega⟩
    ·simp only
     rcases Nat.eq_zero_or_pos A with hA | hA
     ·rw [if_pos (i2 hA)]
     ·rw [i3 hA hL, if_neg (Ne.symm t1)]
    ·simp only at h0 ⊢
     rw [i4 hL h0, if_neg (Ne.symm t2)]
   rw [if_neg h2]
   simp only [Bool.not_eq_false] at h2
   have c2 : [x].countP (isLet met os g r p) = 1 := by simp [isLet, h1, h2]
   rw [c1, c2]
   by_cases h3 : meets x.host r.hosts = []
   ·rw [if_pos h3]
    exact ⟨fun h => by omega, fun h => by omega, fun _ h => by omega, fun _ _ => rfl, by omega⟩
   ·rw [if_neg h3]
    exact ⟨fun h => by omega, fun h => by omega, fun _ h => by omega, fun _ h => by simp at h, by omega⟩

theorem why_end {os : List AObj} {g r : AObj} {p : AParent} (l : List AListener) :
 (if (atFold met os g r p l).1 = [] then (atFold met os g r p l).2 else ⟨#[]⟩) = whyOf (l.countP (isAsked p)) (l.countP (isLet met os g r p)) (atFold met os g r p l).1 := by
 obtain ⟨_, i2, i3, i4, i5⟩ := why_fold met (os := os) (g := g) (r := r) (p := p) l
 unfold whyOf
 by_cases h : (atFold met os g r p l).1 = []
 ·rw [if_pos h, if_neg (by simpa using h)]
  by_cases hA : l.countP (isAsked p) = 0
  ·rw [if_pos hA, i2 hA]
  ·rw [if_neg hA]
   by_cases hL : l.countP (isLet met os g r p) = 0
   ·rw [if_pos hL, i3 (by omega) hL]
   ·rw [if_neg hL, i4 (by omega) h]
 ·rw [if_neg h, if_pos h]

end


theorem labAt_true {n j : Nat} {b : UInt8} : labAt n j b = true ↔ ((97 ≤ b.toNat ∧ b.toNat ≤ 122) ∨ (48 ≤ b.toNat ∧ b.toNat ≤ 57)) ∨ (b.toNat = 45 ∧ ¬ (j = 0 ∨ j + 1 = n)) := by
 simp [labAt]
theorem labAt_false {n j : Nat} {b : UInt8} : labAt n j b = false ↔ ¬ (((97 ≤ b.toNat ∧ b.toNat ≤ 122) ∨ (48 ≤ b.toNat ∧ b.toNat ≤ 57)) ∨ (b.toNat = 45 ∧ ¬ (j = 0 ∨ j + 1 = n))) := by
 rw [← labAt_true]; simp
theorem bool_no {b : Bool} (h : ¬ b = true) : bln false = bln b := by cases b <;> simp_all
theorem bool_yes {b : Bool} (h : b = true) : bln true = bln b := by rw [h]

set_option maxHeartbeats 1000000 in
theorem ref1_Label (s : ByteArray) (hs : s.size ≤ 1000000) : Pure Tryz.prog 118 [str s] (fun d => d = bln (label s)) := by
 refine pure_of_run follows an_z4drv Tryz.func118 rfl ok_z4drv.1 ok_z4drv.2 (by simp [Tryz.ntmps118]) ?_
 rw [run_start]
 simp only [ac_z4drv, go_sem, simprocAttr]
 refine loopS (fun k st => ∃ i : Nat, k = s.size - i ∧ i ≤ s.size ∧ (∀ (j : Nat) (b : UInt8), j < i → s[j]? = some b → labAt s.size j b = true) ∧ st = ⟨[(0, str s), (3, int i)], [], [], .no⟩) s.size _ ?_ ⟨0, rfl, by omega, fun _ _ h => absurd h (Nat.not_lt_zero _), rfl⟩ ?_
 ·exact lessA
 rintro k st ⟨i, rfl, hi, hT, rfl⟩
 have hw := i64_succ (show i < 1000000000 by omega)
 have hw1 : IntKind.i64.wrap ((s.size : Int) - 1) = (s.size : Int) - 1 := IntWalk.i64_in _ (by omega)
 by_cases hlt : i < s.size
 ·obtain ⟨b, hb⟩ := at_byte hlt
  have h1 : ((i : Int) < (s.size : Int)) = True := eq_true (by omega)
  have bad : labAt s.size i b = false → bln false = bln (label s) := fun h => bool_no fun e => by
   have := ((label_iff s).1 e).2.2 i b hb
   rw [h] at this
   cases this
  have good : labAt s.size i b = true → ∀ st, Weak Tryz.prog st ⟨[(0, str s), (3, int (i + 1 : Nat))], [], [], .no⟩ → Round Tryz.prog (fun k st => ∃ i : Nat, k = s.size - i ∧ i ≤ s.size ∧ (∀ (j : Nat) (b : UInt8), j < i → s[j]? = some b → labAt s.size j b = true) ∧ st = ⟨[(0, str s), (3, int i)], [], [], .no⟩) (s.size - i) st := fun h st hw =>
   ⟨s.size - (i + 1), _, by omega, hw, i + 1, rfl, by omega, fun j b' hj hb' => by
    rcases Nat.lt_or_ge j i with h2 | h2
    ·exact hT j b' h2 hb'
    ·obtain rfl : j = i := by omega
     rw [hb] at hb'; cases hb'; exact h, rfl⟩
  simp only [go_sem, simprocAttr, h1, hb, hw, hw1]
  repeat' (first | refine GifP.mk (fun _ => ?_) (fun _ => ?_) | refine Gif.mk (fun _ => ?_) (fun _ => ?_))
  all_goals first
   | (refine good (labAt_true.2 (by omega)) _ ?_; exact lessA)
   | (simp only [retK, resD, retL, oneD, simprocAttr, Tryz.results118]; exact ⟨_, rfl, rfl, bad (labAt_false.2 (by omega))⟩)
 have h1 : ((i : Int) < (s.size : Int)) = False := eq_false (by omega)
 obtain rfl : i = s.size := by omega
 clear hw hw1
 simp only [go_sem, simprocAttr, h1]
 clear h1
 repeat' (first | refine GifP.mk (fun _ => ?_) (fun _ => ?_) | refine Gif.mk (fun _ => ?_) (fun _ => ?_))
 all_goals
  simp only [retK, resD, retL, oneD, simprocAttr, Tryz.results118]
  first
   | exact ⟨_, rfl, rfl, bool_no fun e => by obtain ⟨e1, e2, _⟩ := (label_iff s).1 e; omega⟩
   | exact ⟨_, rfl, rfl, congrArg bln (Bool.eq_iff_iff.2 ⟨fun h => (label_iff s).2 ⟨by omega, by have := of_decide_eq_true h; omega, fun j b hb => hT j b (by rw [bytes_get] at hb; exact (List.getElem?_eq_some_iff.1 hb).1) hb⟩, fun h => decide_eq_true (by have := ((label_iff s).1 h).2.1; omega)⟩)⟩

set_option maxHeartbeats 1000000 in
theorem ref1_Split (s : ByteArray) (hs : s.size ≤ 1000000) (c : UInt8) (k : Int) (hk : k = c.toNat) : Pure Tryz.prog 79 [str s, u8 k] (fun d => d = .pd (.slice (rows cStr (splitB c s.size s)))) := by
 subst hk
 refine pure_of_run_solo follows an_zwnk2 Tryz.func79 rfl ok_zwnk2.1 ok_zwnk2.2 (by simp [Tryz.ntmps79]) ?_
 rw [run_start]
 simp only [ac_zwnk2, go_sem, simprocAttr]
 refine loopS (fun k st => ∃ (i : Nat) (t : Nat), (t = 7 ∨ t = 21) ∧ k = s.size - i ∧ i ≤ s.size ∧ st = ⟨[(0, str s), (1, u8 c.toNat), (5, .own 9 1 (rows cStr (splitR c (s.data.toList.take i))) t), (6, int i)], [], [], .solo⟩) s.size _ ?_ ⟨0, 7, .inl rfl, rfl, by omega, rfl⟩ ?_
 ·have h0 : rows cStr (splitR c (s.data.toList.take 0)) = [[.raw (.string ⟨#[]⟩)]] := rfl
  rw [h0]; exact lessA
 rintro k st ⟨i, t, ht, rfl, hi, rfl⟩
 have hw := i64_succ (show i < 1000000000 by omega)
 obtain ⟨out, hout⟩ : ∃ out, splitR c (s.data.toList.take i) = out := ⟨_, rfl⟩
 have hlen := splitR_len c (s.data.toList.take i)
 have hsz := splitR_size c (s.data.toList.take i)
 rw [hout, List.length_take, size_list] at hlen
 rw [hout, List.length_take, size_list] at hsz
 rw [hout]
 by_cases hlt : i < s.size
 ·obtain ⟨b, hb⟩ := at_byte hlt
  have h1 : ((i : Int) < (s.size : Int)) = True := eq_true (by omega)
  have hst := splitR_step c hb
  rw [hout] at hst
  obtain ⟨m, hm⟩ : ∃ m, out.length = m + 1 := ⟨out.length - 1, by omega⟩
  obtain ⟨z, hz⟩ := at_lt (show m < out.length by omega)
  have hwl : IntKind.i64.wrap ((out.length : Int) - 1) = (m : Int) := by rw [IntWalk.i64_in _ (by omega)]; omega
  have hm0 : ((0 : Int) ≤ (m : Int)) = True := eq_true (by omega)
  have hzs := hsz z (List.mem_of_getElem? hz)
  have hcat : (z.size + #[b].size ≤ 9223372036854775807) = True := eq_true (by have : #[b].size = 1 := rfl; omega)
  have hs1 : (i ≤ i + 1) = True := eq_true (by omega)
  have hs2 : (i + 1 ≤ s.size) = True := eq_true (by omega)
  have hfl : flatR (rows cStr out) := fun r hr => by
   obtain ⟨x, _, rfl⟩ := List.mem_map.1 hr
   exact ⟨.string x, rfl⟩
  have e1 : b = c → rows cStr out ++ [[PD.raw (Value.string ⟨#[]⟩)]] = rows cStr (splitR c (s.data.toList.take (i + 1))) := fun e => by
   rw [hst, stepR, if_pos e]
   simp [rows]
  have e2 : ¬ b = c → (rows cStr out).set m [PD.raw (Value.string (z ++ ⟨#[b]⟩))] = rows cStr (splitR c (s.data.toList.take (i + 1))) := fun e => by
   have h3 : out.length - 1 = m := by omega
   rw [hst, stepR, if_neg e, h3, List.getD_eq_getElem?_getD, hz, rows, rows, List.map_set]
   rfl
  rcases ht with rfl | rfl
  all_goals
   simp only [go_sem, simprocAttr, h1, hb, hw, rows_len, hwl, rows_get hz, hm0, byte_one hb, hcat, hs1, hs2]
   refine GifP.mk (fun he => ?_) (fun he => ?_)
  ·refine ⟨by simp, by simp only [maxLen]; omega, by omega, s.size - (i + 1), _, by omega, ?_, i + 1, 21, .inr rfl, rfl, by omega, rfl⟩
   rw [e1 (by apply UInt8.toNat_inj.1; omega)]
   exact lessA
  ·refine ⟨rfl, by omega, hfl, s.size - (i + 1), _, by omega, ?_, i + 1, 7, .inl rfl, rfl, by omega, rfl⟩
   rw [e2 (fun e => he (by rw [e]))]
   exact lessA
  ·refine ⟨by simp, by simp only [maxLen]; omega, by omega, s.size - (i + 1), _, by omega, ?_, i + 1, 21, .inr rfl, rfl, by omega, rfl⟩
   rw [e1 (by apply UInt8.toNat_inj.1; omega)]
   exact lessA
  ·refine ⟨rfl, by omega, hfl, s.size - (i + 1), _, by omega, ?_, i + 1, 21, .inr rfl, rfl, by omega, rfl⟩
   rw [e2 (fun e => he (by rw [e]))]
   exact lessA
 have h1 : ((i : Int) < (s.size : Int)) = False := eq_false (by omega)
 obtain rfl : i = s.size := by omega
 have hE : splitB c s.size s = out := by rw [← splitR_eq, ← hout, List.take_of_length_le (Nat.le_of_eq (size_list s))]
 rcases ht with rfl | rfl
 all_goals
  simp only [go_sem, simprocAttr, h1]
  simp only [retK, resD, retL, oneD, simprocAttr, Tryz.results79]
  rw [hE]
  exact ⟨_, rfl, rfl, rfl⟩

set_option maxHeartbeats 1000000 in
theorem ref1_Name (s : ByteArray) : Pure Tryz.prog 78 [str s] (fun d => d = bln (dname s)) := by
 refine pure_of_run follows an_zvp8y Tryz.func78 rfl ok_zvp8y.1 ok_zvp8y.2 (by simp [Tryz.ntmps78]) ?_
 rw [run_start]
 simp only [ac_zvp8y, go_sem, simprocAttr]
 refine GifP.mk (fun h => ?_) (fun h => ?_)
 ·simp only [retK, resD, retL, oneD, simprocAttr, Tryz.results78]
  exact ⟨_, rfl, rfl, congrArg bln (by simp only [dname]; simp; omega)⟩
 have h60 : s.size ≤ 60 := by omega
 refine (ref1_Split s (by omega) 46 46 rfl).callW (enters_of Tryz.func79 rfl rfl) _ rfl rfl ?_
 rintro d rfl
 simp only [go_sem, simprocAttr]
 obtain ⟨l, hl⟩ : ∃ l, splitB 46 s.size s = l := ⟨_, rfl⟩
 have hln : l.length ≤ 61 := by
  have h1 := splitR_len 46 s.data.toList
  rw [splitR_eq, hl, size_list] at h1
  omega
 have hsz : ∀ x ∈ l, x.size ≤ 1000000 := fun x hx => by
  have h1 := splitR_size 46 s.data.toList
  rw [splitR_eq, hl, size_list] at h1
  have := h1 x hx
  omega
 rw [hl]
 refine loopS (fun k st => ∃ i : Nat, k = l.length - i ∧ i ≤ l.length ∧ (l.drop i).all label = l.all label ∧ st = ⟨[(3, .pd (.slice (rows cStr l))), (4, int i)], [], [], .no⟩) l.length _ ?_ ⟨0, rfl, by omega, rfl, rfl⟩ ?_
 ·exact lessA
 rintro k st ⟨i, rfl, hi, hT, rfl⟩
 have hw := i64_succ (show i < 1000000000 by omega)
 by_cases hlt : i < l.length
 ·obtain ⟨x, hx⟩ := at_lt hlt
  have h1 : ((i : Int) < (l.length : Int)) = True := eq_true (by omega)
  rw [drop_at hx, List.all_cons] at hT
  simp only [go_sem, simprocAttr, rows_get hx, h1, hw]
  refine (ref1_Label x (hsz x (List.mem_of_getElem? hx))).callW (enters_of Tryz.func118 rfl rfl) _ rfl rfl ?_
  rintro d rfl
  simp only [go_sem, simprocAttr]
  refine Gif.mk (fun hl' => ?_) (fun hl' => ?_)
  ·refine ⟨l.length - (i + 1), _, by omega, ?_, i + 1, rfl, by omega, by rw [hl', Bool.true_and] at hT; exact hT, rfl⟩
   simp only [hw]
   exact lessA
  ·simp only [retK, resD, retL, oneD, simprocAttr, Tryz.results78]
   refine ⟨_, rfl, rfl, congrArg bln ?_⟩
   rw [hl', Bool.false_and] at hT
   simp [dname, hl, ← hT]
 have h1 : ((i : Int) < (l.length : Int)) = False := eq_false (by omega)
 rw [List.drop_eq_nil_of_le (by omega), List.all_nil] at hT
 simp only [go_sem, simprocAttr, h1]
 simp only [retK, resD, retL, oneD, simprocAttr, Tryz.results78]
 exact ⟨_, rfl, rfl, congrArg bln (by simp [dname, hl, ← hT, h60])⟩

theorem fold_step {s : ByteArray} {i : Nat} {b : UInt8} (hb : s[i]? = some b) : octStr ((s.data.toList.take (i + 1)).map fun b => foldO b.toNat) = octStr ((s.data.toList.take i).map fun b => foldO b.toNat) ++ octStr [foldO b.toNat] := by
 rw [take_at (by rw [← bytes_get]; exact hb), List.map_append]
 unfold octStr
 rw [List.foldl_append]
 simp only [List.map_cons, List.map_nil, List.foldl_cons, List.foldl_nil]
 apply ByteArray.ext
 simp [ByteArray.push]

theorem octStr_size (l : List Int) : (octStr l).size = l.length := by
 unfold octStr
 suffices h : ∀ (l : List Int) (r : ByteArray), (l.foldl (fun r n => r.push (UInt8.ofNat n.toNat)) r).size = r.size + l.length from by simpa using h l ByteArray.empty
 intro l
 induction l with
 | nil => intro r; rfl
 | cons n l ih =>
   intro r
   rw [List.foldl_cons, ih, ByteArray.size_push, List.length_cons]
   omega

theorem low_add (n : Nat) (h : 65 ≤ n ∧ n ≤ 90) : IntKind.u8.wrap ((n : Int) + 32) = low n := by
 have h1 : ∀ k : Fin 26, IntKind.u8.wrap (((k.val + 65 : Nat) : Int) + 32) = low ((k.val + 65 : Nat) : Int) := by decide
 have h2 := h1 ⟨n - 65, by omega⟩
 have h3 : n - 65 + 65 = n := by omega
 simp only [h3] at h2
 exact h2

set_option maxHeartbeats 1000000 in
theorem ref1_Fold (s : ByteArray) (hs : s.size ≤ 1000000) : Pure Tryz.prog 232 [str s] (fun d => d = str (fold s)) := by
 refine pure_of_run follows an_z5okg Tryz.func232 rfl ok_z5okg.1 ok_z5okg.2 (by simp [Tryz.ntmps232]) ?_
 rw [run_start]
 simp only [ac_z5okg, go_sem, simprocAttr]
 refine loopS (fun k st => ∃ i : Nat, k = s.size - i ∧ i ≤ s.size ∧ st = ⟨[(0, str s), (3, str (octStr ((s.data.toList.take i).map fun b => foldO b.toNat))), (4, int i)], [], [], .no⟩) s.size _ ?_ ⟨0, rfl, by omega, rfl⟩ ?_
 ·have h0 : octStr ((s.data.toList.take 0).map fun b => foldO b.toNat) = ⟨#[]⟩ := rfl
  rw [h0]
  exact lessA
 rintro k st ⟨i, rfl, hi, rfl⟩
 have hw := i64_succ (show i < 1000000000 by omega)
 by_cases hlt : i < s.size
 ·obtain ⟨b, hb⟩ := at_byte hlt
  have h1 : ((i : Int) < (s.size : Int)) = True := eq_true (by omega)
  have hf := fold_step hb
  obtain ⟨r, hr⟩ : ∃ r, octStr ((s.data.toList.take i).map fun b => foldO b.toNat) = r := ⟨_, rfl⟩
  have hrs : r.size ≤ 1000000 := by rw [← hr, octStr_size, List.length_map, List.length_take]; omega
  rw [hr] at hf ⊢
  have hcat : ∀ c, (r.size + (octStr [c]).size ≤ 9223372036854775807) = True := fun c => eq_true (by rw [octStr_size]; simp only [List.length_singleton]; omega)
  have go : ∀ (c : Int) st, c = foldO b.toNat → Weak Tryz.prog st ⟨[(0, str s), (3, str (r ++ octStr [c])), (4, int (i + 1 : Nat))], [], [], .no⟩ → Round Tryz.prog (fun k st => ∃ i : Nat, k = s.size - i ∧ i ≤ s.size ∧ st = ⟨[(0, str s), (3, str (octStr ((s.data.toList.take i).map fun b => foldO b.toNat))), (4, int i)], [], [], .no⟩) (s.size - i) st := fun c st e hw => by
   subst e
   rw [← hf] at hw
   exact ⟨s.size - (i + 1), _, by omega, hw, i + 1, rfl, by omega, rfl⟩
  simp only [go_sem, simprocAttr, h1, hb, hw, hcat]
  repeat' (first | refine GifP.mk (fun _ => ?_) (fun _ => ?_) | refine Gif.mk (fun _ => ?_) (fun _ => ?_))
  ·exact go (IntKind.u8.wrap ((b.toNat : Int) + 32)) _ (by rw [foldO, if_pos (by omega)]; exact low_add b.toNat (by omega)) (lessA)
  ·exact go b.toNat _ (by rw [foldO, if_neg (by omega)]) (lessA)
  ·exact go b.toNat _ (by rw [foldO, if_neg (by omega)]) (lessA)
 have h1 : ((i : Int) < (s.size : Int)) = False := eq_false (by omega)
 simp only [go_sem, simprocAttr, h1]
 simp only [retK, resD, retL, oneD, simprocAttr, Tryz.results232]
 exact ⟨_, rfl, rfl, by rw [List.take_of_length_le (by rw [size_list]; omega)]; rfl⟩


theorem hasPrefix_one (s : ByteArray) (c : UInt8) : hasPrefix s ⟨#[c]⟩ = true ↔ s[0]? = some c := by
 have h1 : (ByteArray.mk #[c]).size = 1 := rfl
 simp only [hasPrefix, Bool.and_eq_true, decide_eq_true_eq, h1]
 constructor
 ·rintro ⟨h2, h3⟩
  obtain ⟨b, hb⟩ := at_byte (show 0 < s.size by omega)
  have h4 := byte_one hb
  rw [Nat.zero_add, h3] at h4
  rw [hb]
  have := congrArg (fun a : ByteArray => a.data.toList) h4
  simpa using this.symm
 ·intro h
  have h2 : 0 < s.size := by
   rw [bytes_get] at h
   exact (List.getElem?_eq_some_iff.1 h).1
  exact ⟨by omega, by simpa using byte_one h⟩

theorem hasSuffix_one (s : ByteArray) (c : UInt8) : hasSuffix s ⟨#[c]⟩ = true ↔ 1 ≤ s.size ∧ s[s.size - 1]? = some c := by
 have h1 : (ByteArray.mk #[c]).size = 1 := rfl
 simp only [hasSuffix, Bool.and_eq_true, decide_eq_true_eq, h1]
 refine and_congr_right fun h2 => ?_
 have h0 : s.size - 1 + 1 = s.size := by omega
 constructor
 ·intro h3
  obtain ⟨b, hb⟩ := at_byte (show s.size - 1 < s.size by omega)
  have h4 := byte_one hb
  rw [h0, h3] at h4
  rw [hb]
  have := congrArg (fun a : ByteArray => a.data.toList) h4
  simpa using this.symm
 ·intro h
  have := byte_one h
  rwa [h0] at this

theorem hasPrefix_two (s : ByteArray) (c e : UInt8) : hasPrefix s ⟨#[c, e]⟩ = true ↔ 2 ≤ s.size ∧ s[0]? = some c ∧ s[1]? = some e := by
 have h1 : (ByteArray.mk #[c, e]).size = 2 := rfl
 simp only [hasPrefix, Bool.and_eq_true, decide_eq_true_eq, h1]
 refine and_congr_right fun h2 => ?_
 rw [extract_list, List.drop_zero, bytes_get, bytes_get]
 have h3 : 2 ≤ s.data.toList.length := h2
 match hl : s.data.toList with
 | [] => rw [hl] at h3; simp at h3
 | [_] => rw [hl] at h3; simp at h3
 | a :: b :: r =>
   simp only [List.take_succ_cons, List.take_zero, List.getElem?_cons_zero, List.getElem?_cons_succ, Option.some.injEq]
   constructor
   ·intro h
    have := congrArg (fun a : ByteArray => a.data.toList) h
    simpa using this
   ·rintro ⟨rfl, rfl⟩; rfl

def pathOct (b : UInt8) : Bool := decide (33 ≤ b.toNat) && decide (b.toNat ≤ 126) && !decide (b.toNat = 63) && !decide (b.toNat = 35)

theorem pathIs_iff (s : ByteArray) : pathIs s = true ↔ 1 ≤ s.size ∧ s.size ≤ 60 ∧ s[0]? = some 47 ∧ s.data.toList.all pathOct = true := by
 have hp : ∀ c : Int, 128 ≤ c → pathRune c = false := fun c h => by simp [pathRune]; omega
 have he : (fun b : UInt8 => pathRune b.toNat) = pathOct := by
  funext b
  rw [Bool.eq_iff_iff]
  simp [pathRune, pathOct]
  omega
 simp only [pathIs, runeAll_bytes hp s s.size 0 (by omega), List.drop_zero, he, Bool.and_eq_true, decide_eq_true_eq, hasPrefix_one]
 constructor
 ·rintro ⟨⟨h1, h2⟩, h3⟩
  refine ⟨?_, h3, h2, h1⟩
  rw [bytes_get] at h2
  exact (List.getElem?_eq_some_iff.1 h2).1
 ·rintro ⟨_, h3, h2, h1⟩
  exact ⟨⟨h1, h2⟩, h3⟩

theorem pathAbove_iff (s : ByteArray) : pathAbove s = true ↔ pathIs s = true ∧ (s.size = 1 ∨ s[s.size - 1]? ≠ some 47) := by
 simp only [pathAbove, Bool.and_eq_true, Bool.or_eq_true, decide_eq_true_eq, Bool.not_eq_true']
 refine and_congr_right fun h => ?_
 obtain ⟨h1, h2, h3, h4⟩ := (pathIs_iff s).1 h
 constructor
 ·rintro (h5 | h5)
  ·left; rw [h5]; rfl
  ·right
   intro h6
   have := (hasSuffix_one s 47).2 ⟨h1, h6⟩
   rw [h5] at this; cases this
 ·rintro (h5 | h5)
  ·left
   have h6 := byte_one h3
   rw [Nat.zero_add] at h6
   rw [← h6, extract_list, List.drop_zero, List.take_of_length_le (by rw [size_list]; omega)]
  ·right
   cases h6 : hasSuffix s ⟨#[47]⟩ with
   | false => rfl
   | true => exact absurd ((hasSuffix_one s 47).1 h6).2 h5

def tokR (b : UInt8) : Bool := ((decide (48 ≤ b.toNat) && decide (b.toNat ≤ 57)) || (decide (65 ≤ b.toNat) && decide (b.toNat ≤ 90)) || (decide (97 ≤ b.toNat) && decide (b.toNat ≤ 122))) || marks.data.toList.contains b

theorem tokR_eq (b : UInt8) : tokenOct b = tokR b := by
 have h : ∀ k : Fin 256, tokenOct (UInt8.ofNat k.val) = tokR (UInt8.ofNat k.val) := by decide +kernel
 have := h ⟨b.toNat, b.toNat_lt⟩
 simpa using this

theorem trimL_size (c : Int) : ∀ (k : Nat) (s : ByteArray), (trimL c k s).size ≤ s.size
 | 0, s => Nat.le_refl _
 | k + 1, s => by
   simp only [trimL]
   split
   ·split
    ·have := trimL_size c k (s.extract 1 s.size)
     rw [ByteArray.size_extract] at this
     omega
    ·exact Nat.le_refl _
   ·exact Nat.le_refl _

theorem trimR_size (c : Int) : ∀ (k : Nat) (s : ByteArray), (trimR c k s).size ≤ s.size
 | 0, s => Nat.le_refl _
 | k + 1, s => by
   simp only [trimR]
   split
   ·split
    ·have := trimR_size c k (s.extract 0 (s.size - 1))
     rw [ByteArray.size_extract] at this
     omega
    ·exact Nat.le_refl _
   ·exact Nat.le_refl _

theorem trim_iff (s : ByteArray) : trim s = s ↔ s[0]? ≠ some 32 ∧ s[s.size - 1]? ≠ some 32 := by
 have h32 : ∀ b : UInt8, ((b.toNat : Int) = 32) ↔ b = 32 := fun b => by
  constructor
  ·intro h; apply UInt8.toNat_inj.1; have : (32 : UInt8).toNat = 32 := rfl; omega
  ·rintro rfl; rfl
 rcases Nat.eq_zero_or_pos s.size with h0 | hpos
 ·have : s = ⟨#[]⟩ := size0.2 h0
  subst this
  have hn : ∀ j : Nat, (⟨#[]⟩ : ByteArray)[j]? = none := fun j => by rw [bytes_get]; rfl
  rw [hn, hn]
  exact ⟨fun _ => ⟨by simp, by simp⟩, fun _ => rfl⟩
 obtain ⟨k, hk⟩ : ∃ k, s.size = k + 1 := ⟨s.size - 1, by omega⟩
 obtain ⟨b, hb⟩ := at_byte (show s.size - 1 < s.size by omega)
 obtain ⟨a, ha⟩ := at_byte hpos
 rw [hb, ha]
 by_cases hl : b = 32
 ·subst hl
  have h1 : (trimR 32 s.size s).size < s.size := by
   rw [hk]
   simp only [trimR, hb]
   rw [if_pos ((h32 _).2 rfl)]
   have := trimR_size 32 k (s.extract 0 (s.size - 1))
   rw [ByteArray.size_extract] at this
   omega
  have h2 : (trim s).size < s.size := Nat.lt_of_le_of_lt (trimL_size 32 _ _) h1
  constructor
  ·intro h; rw [h] at h2; omega
  ·rintro ⟨_, h⟩; exact absurd rfl h
 ·have h1 : trimR 32 s.size s = s := by
   rw [hk]
   simp only [trimR, hb]
   rw [if_neg (fun h => hl ((h32 _).1 h))]
  by_cases hf : a = 32
  ·subst hf
   have h2 : (trim s).size < s.size := by
    unfold trim
    rw [h1, hk]
    simp only [trimL, ha]
    rw [if_pos ((h32 _).2 rfl)]
    have := trimL_size 32 k (s.extract 1 s.size)
    rw [ByteArray.size_extract] at this
    omega
   constructor
   ·intro h; rw [h] at h2; omega
   ·rintro ⟨h, _⟩; exact absurd rfl h
  ·have h2 : trim s = s := by
    unfold trim
    rw [h1, hk]
    simp only [trimL, ha]
    rw [if_neg (fun h => hf ((h32 _).1 h))]
   simp [h2, hl, hf]

theorem fvalue_iff (s : ByteArray) : fvalue s = true ↔ s.size ≤ 40 ∧ ∀ (j : Nat) (b : UInt8), s[j]? = some b → 32 ≤ b.toNat ∧ b.toNat ≤ 126 ∧ ¬ (b.toNat = 32 ∧ (j = 0 ∨ j + 1 = s.size)) := by
 have h32 : (32 : UInt8).toNat = 32 := rfl
 simp only [fvalue, Bool.and_eq_true, decide_eq_true_eq, all_bytes, trim_iff]
 constructor
 ·rintro ⟨⟨h1, h2⟩, h3, h4⟩
  refine ⟨h2, fun j b hb => ?_⟩
  have h5 := h1 j b hb
  simp only [valOct, Bool.and_eq_true, decide_eq_true_eq] at h5
  refine ⟨h5.1, h5.2, ?_⟩
  rintro ⟨h6, h7 | h7⟩
  ·subst h7
   exact h3 (by rw [hb]; congr 1; exact UInt8.toNat_inj.1 (h6.trans h32.symm))
  ·have : s.size - 1 = j := by omega
   exact h4 (by rw [this, hb]; congr 1; exact UInt8.toNat_inj.1 (h6.trans h32.symm))
 ·rintro ⟨h1, h2⟩
  refine ⟨⟨fun j b hb => ?_, h1⟩, fun h => ?_, fun h => ?_⟩
  ·have := h2 j b hb
   simp [valOct]; omega
  ·exact (h2 0 _ h).2.2 ⟨rfl, .inl rfl⟩
  ·have hlt : s.size - 1 < s.size := by
    rw [bytes_get] at h
    exact (List.getElem?_eq_some_iff.1 h).1
   exact (h2 _ _ h).2.2 ⟨rfl, .inr (by omega)⟩

def methOct (b : UInt8) : Bool := decide (65 ≤ b.toNat) && decide (b.toNat ≤ 90)

theorem method_iff (s : ByteArray) : method s = true ↔ 1 ≤ s.size ∧ s.size ≤ 10 ∧ s.data.toList.all methOct = true := by
 have hp : ∀ c : Int, 128 ≤ c → methodRune c = false := fun c h => by simp [methodRune]; omega
 have he : (fun b : UInt8 => methodRune b.toNat) = methOct := by
  funext b
  rw [Bool.eq_iff_iff]
  simp [methodRune, methOct]
  omega
 simp only [method, idx_none hp, he, Bool.and_eq_true, Bool.not_eq_true', decide_eq_true_eq, decide_eq_false_iff_not, size0]
 constructor
 ·rintro ⟨⟨h1, h2⟩, h3⟩; exact ⟨by omega, h2, h3⟩
 ·rintro ⟨h1, h2, h3⟩; exact ⟨⟨by omega, h2⟩, h3⟩

theorem tw_from {α : Type} {q : α → α → Bool} {l : List α} : ∀ {k i : Nat}, twiceFrom q l k i = false ↔ ∀ j x, i ≤ j → j < i + k → l[j]? = some x → (l.take j).any (fun y => q x y) = false
 | 0, i => by
   simp only [twiceFrom, true_iff]
   intro j x h1 h2; omega
 | k + 1, i => by
   simp only [twiceFrom, Bool.or_eq_false_iff, tw_from]
   constructor
   ·rintro ⟨h1, h2⟩ j x hj hk hx
    rcases Nat.eq_or_lt_of_le hj with e | e
    ·subst e; rw [hx] at h1; exact h1
    ·exact h2 j x e (by omega) hx
   ·intro h
    refine ⟨?_, fun j x hj hk hx => h j x (by omega) (by omega) hx⟩
    cases hx : l[i]? with
    | none => rfl
    | some x => exact h i x (Nat.le_refl _) (by omega) hx

theorem tw_iff {α : Type} {q : α → α → Bool} {l : List α} : twice q l = false ↔ ∀ (i : Nat) (x : α), l[i]? = some x → ∀ (k : Nat) (y : α), k < i → l[k]? = some y → q x y = false := by
 unfold twice
 rw [tw_from]
 constructor
 ·intro h i x hx k y hk hy
  have h1 := h i x (Nat.zero_le _) (by have := (List.getElem?_eq_some_iff.1 hx).1; omega) hx
  rw [List.any_eq_false] at h1
  have := h1 y (List.mem_of_getElem? (by rw [List.getElem?_take, if_pos hk]; exact hy))
  simpa using this
 ·intro h j x _ _ hx
  rw [List.any_eq_false]
  intro y hy
  obtain ⟨k, hk⟩ := List.getElem?_of_mem hy
  rw [List.getElem?_take] at hk
  split at hk
  ·rename_i hkj
   simpa using h j x hx k y hkj hk
  ·cases hk

theorem lessL_total : ∀ x y : List UInt8, (Op.bytesLess x y || decide (x = y)) = !Op.bytesLess y x
 | [], [] => rfl
 | [], b :: y => rfl
 | a :: x, [] => rfl
 | a :: x, b :: y => by
   have ih := lessL_total x y
   simp only [Op.bytesLess]
   by_cases h1 : a < b
   ·have h2 : ¬ b < a := fun h => by have := UInt8.lt_iff_toNat_lt.1 h; have := UInt8.lt_iff_toNat_lt.1 h1; omega
    have h3 : (b == a) = false := by
     rw [beq_eq_false_iff_ne]
     rintro rfl
     exact h2 h1
    simp [h1, h2, h3]
   ·by_cases h2 : b < a
    ·have h3 : (a == b) = false := by
      rw [beq_eq_false_iff_ne]
      rintro rfl
      exact h1 h2
     have h4 : ¬ a = b := by simpa using h3
     simp [h1, h2, h3, h4]
    ·have h3 : a = b := UInt8.toNat_inj.1 (by
      have := mt UInt8.lt_iff_toNat_lt.2 h1
      have := mt UInt8.lt_iff_toNat_lt.2 h2
      omega)
     subst h3
     simpa [h1] using ih

theorem less_total (a b : ByteArray) : (Op.bytesLess a.toList b.toList || decide (a = b)) = !Op.bytesLess b.toList a.toList := by
 rw [← lessL_total]
 congr 1
 rw [Bool.eq_iff_iff, decide_eq_true_eq, decide_eq_true_eq]
 constructor
 ·rintro rfl; rfl
 ·intro h
  have := bytes_eq a b
  rw [h] at this
  simpa using this


theorem bool_is {a b : Bool} (h : a = true ↔ b = true) : bln a = bln b := congrArg bln (Bool.eq_iff_iff.2 h)
theorem bool_dec {p : Prop} [Decidable p] {b : Bool} (h : p ↔ b = true) : bln (decide p) = bln b := congrArg bln (Bool.eq_iff_iff.2 (by rw [decide_eq_true_eq]; exact h))
theorem eight {b : UInt8} {n : Nat} (hn : n < 256) : (b.toNat : Int) = n ↔ b = UInt8.ofNat n := by
 constructor
 ·intro h
  apply UInt8.toNat_inj.1
  rw [UInt8.toNat_ofNat']
  omega
 ·rintro rfl
  rw [UInt8.toNat_ofNat']
  omega

def wide (p : ByteArray) : Bool := hasPrefix p ⟨#[42, 46]⟩

theorem ref2_wide (p : ByteArray) : Pure Tryz.prog 44 [str p] (fun d => d = .tup [str (cutPrefix p ⟨#[42, 46]⟩), bln (wide p)]) := by
 refine pure_of_run follows an_zsoo6 Tryz.func44 rfl ok_zsoo6.1 ok_zsoo6.2 (by simp [Tryz.ntmps44]) ?_
 rw [run_start]
 have no : wide p = false → D.tup [str p, bln false] = .tup [str (cutPrefix p ⟨#[42, 46]⟩), bln (wide p)] := fun h => by
  rw [h]
  unfold wide at h
  rw [cutPrefix, h]
  rfl
 by_cases h2 : 2 ≤ p.size
 ·obtain ⟨a, ha⟩ := at_byte (show 0 < p.size by omega)
  obtain ⟨b, hb⟩ := at_byte (show 1 < p.size by omega)
  have h3 : ((2 : Int) ≤ (p.size : Int)) = True := eq_true (by omega)
  have h2' : (2 ≤ p.size) = True := eq_true h2
  simp only [ac_zsoo6, go_sem, simprocAttr, h3, ha, hb, h2']
  have yes : (a.toNat : Int) = 42 → (b.toNat : Int) = 46 → wide p = true := fun e1 e2 => (hasPrefix_two p 42 46).2 ⟨h2, by rw [ha]; congr 1; exact (eight (n := 42) (by omega)).1 e1, by rw [hb]; congr 1; exact (eight (n := 46) (by omega)).1 e2⟩
  have not : ¬ ((a.toNat : Int) = 42 ∧ (b.toNat : Int) = 46) → wide p = false := fun h => by
   cases hw : wide p with
   | false => rfl
   | true =>
     obtain ⟨_, e1, e2⟩ := (hasPrefix_two p 42 46).1 hw
     rw [ha] at e1; rw [hb] at e2
     cases e1; cases e2
     exact absurd ⟨rfl, rfl⟩ h
  repeat' (first | refine GifP.mk (fun _ => ?_) (fun _ => ?_) | refine Gif.mk (fun _ => ?_) (fun _ => ?_))
  all_goals
   simp only [retK, resD, retL, oneD, simprocAttr, Tryz.results44]
   first
    | exact ⟨_, rfl, rfl, no (not (fun h => by omega))⟩
    | (refine ⟨_, rfl, rfl, ?_⟩
       have h4 := yes (by assumption) (by assumption)
       rw [h4]
       unfold wide at h4
       rw [cutPrefix, h4]
       rfl)
 ·have h3 : ((2 : Int) ≤ (p.size : Int)) = False := eq_false (by omega)
  simp only [ac_zsoo6, go_sem, simprocAttr, h3]
  simp only [retK, resD, retL, oneD, simprocAttr, Tryz.results44]
  exact ⟨_, rfl, rfl, no (by
   cases hw : wide p with
   | false => rfl
   | true => exact absurd ((hasPrefix_two p 42 46).1 hw).1 h2)⟩

theorem hostMay_eq (p : ByteArray) : hostMay p = (decide (p = ⟨#[]⟩) || (decide (p.size ≤ 60) && dname (cutPrefix p ⟨#[42, 46]⟩))) := by
 have h : (hasPrefix p ⟨#[42, 46]⟩ || decide (cutPrefix p ⟨#[42, 46]⟩ = p)) = true := by
  unfold cutPrefix
  cases hasPrefix p ⟨#[42, 46]⟩ <;> simp
 rw [hostMay, h, Bool.and_true]

theorem ref2_May (p : ByteArray) : Pure Tryz.prog 43 [str p] (fun d => d = bln (hostMay p)) := by
 rw [hostMay_eq]
 refine pure_of_run follows an_z8jqh Tryz.func43 rfl ok_z8jqh.1 ok_z8jqh.2 (by simp [Tryz.ntmps43]) ?_
 rw [run_start]
 simp only [ac_z8jqh, go_sem, simprocAttr]
 (repeat' (first | (refine GifP.mk (fun _ => ?_) (fun _ => ?_)) | (refine Gif.mk (fun _ => ?_) (fun _ => ?_)) | ((first | refine (ref2_wide p).callW (enters_of Tryz.func44 rfl rfl) _ rfl rfl ?_ | refine (ref1_Name _).callW (enters_of Tryz.func78 rfl rfl) _ rfl rfl ?_); rintro _ rfl; try simp only [go_sem, simprocAttr]))) <;> (simp only [retK, resD, retL, oneD, simprocAttr, Tryz.results43]; refine ⟨_, rfl, rfl, ?_⟩; by_cases h60 : p.size ≤ 60 <;> first | (exfalso; omega) | exact congrArg bln (by simp [*]))

set_option maxHeartbeats 1000000 in
theorem ref3_Is (s : ByteArray) : Pure Tryz.prog 233 [str s] (fun d => d = bln (pathIs s)) := by
 refine pure_of_run follows an_z9wy Tryz.func233 rfl ok_z9wy.1 ok_z9wy.2 (by simp [Tryz.ntmps233]) ?_
 rw [run_start]
 by_cases h0 : s.size = 0
 ·have h3 : ((s.size : Int) < 1) = True := eq_true (by omega)
  simp only [ac_z9wy, go_sem, simprocAttr, h3]
  simp only [retK, resD, retL, oneD, simprocAttr, Tryz.results233]
  exact ⟨_, rfl, rfl, bool_no fun e => by have := ((pathIs_iff s).1 e).1; omega⟩
 obtain ⟨a, ha⟩ := at_byte (show 0 < s.size by omega)
 have h3 : ((s.size : Int) < 1) = False := eq_false (by omega)
 have hL : 60 < s.size ∨ ¬ a.toNat = 47 → bln false = bln (pathIs s) := fun h => bool_no fun e => by
  obtain ⟨_, e1, e2, _⟩ := (pathIs_iff s).1 e
  rw [ha] at e2; cases e2
  rcases h with h | h
  ·omega
  ·exact h rfl
 simp only [ac_z9wy, go_sem, simprocAttr, h3, ha]
 refine GifP.mk (fun h1 => ?_) (fun h1 => ?_)
 ·simp only [retK, resD, retL, oneD, simprocAttr, Tryz.results233]
  exact ⟨_, rfl, rfl, hL (.inl (by omega))⟩
 refine GifP.mk (fun h2 => ?_) (fun h2 => ?_)
 rotate_left
 ·simp only [retK, resD, retL, oneD, simprocAttr, Tryz.results233]
  exact ⟨_, rfl, rfl, hL (.inr (by omega))⟩
 clear hL
 refine loopS (fun k st => ∃ i : Nat, k = s.size - i ∧ i ≤ s.size ∧ (s.data.toList.drop i).all pathOct = s.data.toList.all pathOct ∧ st = ⟨[(0, str s), (3, int i)], [], [], .no⟩) s.size _ ?_ ⟨0, rfl, by omega, rfl, rfl⟩ ?_
 ·exact lessA
 rintro k st ⟨i, rfl, hi, hT, rfl⟩
 have hw := i64_succ (show i < 1000000000 by omega)
 by_cases hlt : i < s.size
 ·obtain ⟨b, hb, hd⟩ := byte_at hlt
  have h4 : ((i : Int) < (s.size : Int)) = True := eq_true (by omega)
  rw [hd, List.all_cons] at hT
  have good : pathOct b = true → ∀ st, Weak Tryz.prog st ⟨[(0, str s), (3, int (i + 1 : Nat))], [], [], .no⟩ → Round Tryz.prog (fun k st => ∃ i : Nat, k = s.size - i ∧ i ≤ s.size ∧ (s.data.toList.drop i).all pathOct = s.data.toList.all pathOct ∧ st = ⟨[(0, str s), (3, int i)], [], [], .no⟩) (s.size - i) st := fun h st hw => by
   rw [h, Bool.true_and] at hT
   exact ⟨s.size - (i + 1), _, by omega, hw, i + 1, rfl, by omega, hT, rfl⟩
  have bad : pathOct b = false → bln false = bln (pathIs s) := fun h => bool_no fun e => by
   rw [h, Bool.false_and] at hT
   have := ((pathIs_iff s).1 e).2.2.2
   rw [← hT] at this; cases this
  simp only [go_sem, simprocAttr, h4, hb, hw]
  repeat' (first | refine GifP.mk (fun _ => ?_) (fun _ => ?_) | refine Gif.mk (fun _ => ?_) (fun _ => ?_))
  all_goals first
   | (refine good (by simp [pathOct]; omega) _ ?_; exact lessA)
   | (simp only [retK, resD, retL, oneD, simprocAttr, Tryz.results233]; exact ⟨_, rfl, rfl, bad (by simp [pathOct]; omega)⟩)
 have h4 : ((i : Int) < (s.size : Int)) = False := eq_false (by omega)
 rw [byte_end hlt, List.all_nil] at hT
 simp only [go_sem, simprocAttr, h4]
 simp only [retK, resD, retL, oneD, simprocAttr, Tryz.results233]
 exact ⟨_, rfl, rfl, bool_yes ((pathIs_iff s).2 ⟨by omega, by omega, by rw [ha]; congr 1; exact (eight (n := 47) (by omega)).1 (by omega), hT.symm⟩)⟩

set_option maxHeartbeats 1000000 in
theorem ref3_Above (s : ByteArray) : Pure Tryz.prog 234 [str s] (fun d => d = bln (pathAbove s)) := by
 refine pure_of_run follows an_z3bmw Tryz.func234 rfl ok_z3bmw.1 ok_z3bmw.2 (by simp [Tryz.ntmps234]) ?_
 rw [run_start]
 simp only [ac_z3bmw, go_sem, simprocAttr]
 refine (ref3_Is s).callW (enters_of Tryz.func233 rfl rfl) _ rfl rfl ?_
 rintro d rfl
 cases his : pathIs s with
 | false =>
   simp only [go_sem, simprocAttr]
   simp only [retK, resD, retL, oneD, simprocAttr, Tryz.results234]
   exact ⟨_, rfl, rfl, bool_no fun e => by rw [((pathAbove_iff s).1 e).1] at his; cases his⟩
 | true =>
   have h1 := ((pathIs_iff s).1 his).1
   have h60 := ((pathIs_iff s).1 his).2.1
   have hw1 : IntKind.i64.wrap ((s.size : Int) - 1) = (s.size : Int) - 1 := IntWalk.i64_in _ (by omega)
   obtain ⟨b, hb⟩ := at_byte (show s.size - 1 < s.size by omega)
   have h2 : ((s.size : Int) - 1).toNat = s.size - 1 := by omega
   have h3 : (0 ≤ (s.size : Int) - 1) = True := eq_true (by omega)
   simp only [go_sem, simprocAttr, hw1, h2, h3, hb]
   repeat' (first | refine GifP.mk (fun _ => ?_) (fun _ => ?_) | refine Gif.mk (fun _ => ?_) (fun _ => ?_))
   all_goals
    simp only [retK, resD, retL, oneD, simprocAttr, Tryz.results234]
    first
     | exact ⟨_, rfl, rfl, bool_yes ((pathAbove_iff s).2 ⟨his, .inl (by omega)⟩)⟩
     | (refine ⟨_, rfl, rfl, congrArg bln (Bool.eq_iff_iff.2 ?_)⟩
        rw [pathAbove_iff, hb]
        simp only [Bool.not_eq_true', decide_eq_false_iff_not]
        constructor
        ·intro h
         exact ⟨his, .inr fun e => h (by cases e; rfl)⟩
        ·rintro ⟨_, h⟩ h5
         rcases h with h | h
         ·omega
         ·exact h (by congr 1; exact (eight (n := 47) (by omega)).1 h5))

theorem ref3_May (k : Int) (v : ByteArray) : Pure Tryz.prog 208 [.agg [int k, str v]] (fun d => d = bln (pathMay k v)) := by
 refine pure_of_run follows an_zetzt Tryz.func208 rfl ok_zetzt.1 ok_zetzt.2 (by simp [Tryz.ntmps208]) ?_
 rw [run_start]
 simp only [ac_zetzt, go_sem, simprocAttr]
 (repeat' (first | (refine GifP.mk (fun _ => ?_) (fun _ => ?_)) | (refine Gif.mk (fun _ => ?_) (fun _ => ?_)) | ((first | refine (ref3_Is _).callW (enters_of Tryz.func233 rfl rfl) _ rfl rfl ?_ | refine (ref3_Above _).callW (enters_of Tryz.func234 rfl rfl) _ rfl rfl ?_); rintro _ rfl; try simp only [go_sem, simprocAttr]))) <;> (simp only [retK, resD, retL, oneD, simprocAttr, Tryz.results208]; exact ⟨_, rfl, rfl, congrArg bln (by first | rfl | (rw [Bool.eq_iff_iff]; simp only [pathMay]; (first | (simp; done) | (simp; omega) | (simp [*]; done) | (simp [*]; omega))) | (simp_all [pathMay]; done) | (exfalso; omega))⟩)

theorem pairMay_iff (p : APair) : pairMay p = true ↔ 1 ≤ p.name.size ∧ p.name.size ≤ 40 ∧ p.val.size ≤ 40 := by
 simp only [pairMay, Bool.and_eq_true, Bool.not_eq_true', decide_eq_true_eq, decide_eq_false_iff_not, size0]
 omega
theorem off_of {b : Bool} {p : Prop} (h : b = true ↔ p) (hn : ¬ p) : b = false := by cases b <;> simp_all

theorem ref4_May (l : List APair) (hl : l.length ≤ 1000000) : Pure Tryz.prog 210 [.pd (.slice (rows APair.pd l))] (fun d => d = bln (queryMay l)) := by
 refine pure_of_run follows an_z6q89 Tryz.func210 rfl ok_z6q89.1 ok_z6q89.2 (by simp [Tryz.ntmps210]) ?_
 rw [run_start]
 simp only [ac_z6q89, go_sem, simprocAttr]
 refine loopS (fun k st => ∃ i : Nat, k = l.length - i ∧ i ≤ l.length ∧ (l.drop i).all pairMay = l.all pairMay ∧ st = ⟨[(0, .pd (.slice (rows APair.pd l))), (3, int i)], [], [], .no⟩) l.length _ ?_ ⟨0, rfl, by omega, rfl, rfl⟩ ?_
 ·exact lessA
 rintro k st ⟨i, rfl, hi, hT, rfl⟩
 have hw := i64_succ (show i < 1000000000 by omega)
 by_cases hlt : i < l.length
 ·obtain ⟨x, hx⟩ := at_lt hlt
  have h1 : ((i : Int) < (l.length : Int)) = True := eq_true (by omega)
  rw [drop_at hx, List.all_cons] at hT
  have good : pairMay x = true → ∀ st, Weak Tryz.prog st ⟨[(0, .pd (.slice (rows APair.pd l))), (3, int (i + 1 : Nat))], [], [], .no⟩ → Round Tryz.prog (fun k st => ∃ i : Nat, k = l.length - i ∧ i ≤ l.length ∧ (l.drop i).all pairMay = l.all pairMay ∧ st = ⟨[(0, .pd (.slice (rows APair.pd l))), (3, int i)], [], [], .no⟩) (l.length - i) st := fun h st hw => by
   rw [h, Bool.true_and] at hT
   exact ⟨l.length - (i + 1), _, by omega, hw, i + 1, rfl, by omega, hT, rfl⟩
  have bad : pairMay x = false → bln false = bln (queryMay l) := fun h => by
   rw [h, Bool.false_and] at hT
   rw [queryMay, ← hT, Bool.false_and]
  simp only [go_sem, simprocAttr, rows_get hx, h1, hw]
  repeat' (first | refine GifP.mk (fun _ => ?_) (fun _ => ?_) | refine Gif.mk (fun _ => ?_) (fun _ => ?_))
  all_goals first
   | (refine good ((pairMay_iff x).2 (by omega)) _ ?_; exact lessA)
   | (simp only [retK, resD, retL, oneD, simprocAttr, Tryz.results210]; exact ⟨_, rfl, rfl, bad (off_of (pairMay_iff x) (by omega))⟩)
 have h1 : ((i : Int) < (l.length : Int)) = False := eq_false (by omega)
 rw [List.drop_eq_nil_of_le (by omega), List.all_nil] at hT
 simp only [go_sem, simprocAttr, h1]
 simp only [retK, resD, retL, oneD, simprocAttr, Tryz.results210]
 exact ⟨_, rfl, rfl, bool_dec (by rw [queryMay, ← hT]; simp; omega)⟩

theorem token_iff (s : ByteArray) : token s = true ↔ 1 ≤ s.size ∧ s.size ≤ 40 ∧ s.data.toList.all tokenOct = true := by
 simp only [token, Bool.and_eq_true, Bool.not_eq_true', decide_eq_true_eq, decide_eq_false_iff_not, size0]
 constructor
 ·rintro ⟨⟨h1, h2⟩, h3⟩; exact ⟨by omega, h3, h1⟩
 ·rintro ⟨h1, h2, h3⟩; exact ⟨⟨h3, by omega⟩, h2⟩

set_option maxHeartbeats 4000000 in
theorem ref5_Token (s : ByteArray) (hs : s.size ≤ 1000000) : Pure Tryz.prog 211 [str s] (fun d => d = bln (token s)) := by
 refine pure_of_run follows an_zrlh7 Tryz.func211 rfl ok_zrlh7.1 ok_zrlh7.2 (by simp [Tryz.ntmps211]) ?_
 rw [run_start]
 simp only [ac_zrlh7, go_sem, simprocAttr]
 refine loopS (fun k st => ∃ i : Nat, k = s.size - i ∧ i ≤ s.size ∧ (s.data.toList.drop i).all tokenOct = s.data.toList.all tokenOct ∧ st = ⟨[(0, str s), (3, int i)], [], [], .no⟩) s.size _ ?_ ⟨0, rfl, by omega, rfl, rfl⟩ ?_
 ·exact lessA
 rintro k st ⟨i, rfl, hi, hT, rfl⟩
 have hw := i64_succ (show i < 1000000000 by omega)
 by_cases hlt : i < s.size
 ·obtain ⟨b, hb, hd⟩ := byte_at hlt
  have h4 : ((i : Int) < (s.size : Int)) = True := eq_true (by omega)
  rw [hd, List.all_cons] at hT
  have good : tokenOct b = true → ∀ st, Weak Tryz.prog st ⟨[(0, str s), (3, int (i + 1 : Nat))], [], [], .no⟩ → Round Tryz.prog (fun k st => ∃ i : Nat, k = s.size - i ∧ i ≤ s.size ∧ (s.data.toList.drop i).all tokenOct = s.data.toList.all tokenOct ∧ st = ⟨[(0, str s), (3, int i)], [], [], .no⟩) (s.size - i) st := fun h st hw => by
   rw [h, Bool.true_and] at hT
   exact ⟨s.size - (i + 1), _, by omega, hw, i + 1, rfl, by omega, hT, rfl⟩
  have bad : tokenOct b = false → bln false = bln (token s) := fun h => by
   rw [h, Bool.false_and] at hT
   rw [token, ← hT]
   rfl
  rw [tokR_eq] at good bad
  have hm : marks.data.toList.contains b = true ↔ ((b.toNat : Int) = 33 ∨ (b.toNat : Int) = 35 ∨ (b.toNat : Int) = 36 ∨ (b.toNat : Int) = 37 ∨ (b.toNat : Int) = 38 ∨ (b.toNat : Int) = 39 ∨ (b.toNat : Int) = 42 ∨ (b.toNat : Int) = 43 ∨ (b.toNat : Int) = 45 ∨ (b.toNat : Int) = 46 ∨ (b.toNat : Int) = 94 ∨ (b.toNat : Int) = 95 ∨ (b.toNat : Int) = 96 ∨ (b.toNat : Int) = 124 ∨ (b.toNat : Int) = 126) := by
   have h256 : ∀ k : Fin 256, marks.data.toList.contains (UInt8.ofNat k.val) = decide (k.val = 33 ∨ k.val = 35 ∨ k.val = 36 ∨ k.val = 37 ∨ k.val = 38 ∨ k.val = 39 ∨ k.val = 42 ∨ k.val = 43 ∨ k.val = 45 ∨ k.val = 46 ∨ k.val = 94 ∨ k.val = 95 ∨ k.val = 96 ∨ k.val = 124 ∨ k.val = 126) := by decide +kernel
   have h := h256 ⟨b.toNat, b.toNat_lt⟩
   dsimp only at h
   rw [UInt8.ofNat_toNat] at h
   rw [h, decide_eq_true_eq]
   omega
  have tokT : ((48 ≤ b.toNat ∧ b.toNat ≤ 57) ∨ (65 ≤ b.toNat ∧ b.toNat ≤ 90) ∨ (97 ≤ b.toNat ∧ b.toNat ≤ 122)) ∨ marks.data.toList.contains b = true → tokR b = true := fun h => by
   simp only [tokR, Bool.or_eq_true, Bool.and_eq_true, decide_eq_true_eq]
   rcases h with h | h
   ·left; omega
   ·exact .inr h
  have tokF : ¬ (((48 ≤ b.toNat ∧ b.toNat ≤ 57) ∨ (65 ≤ b.toNat ∧ b.toNat ≤ 90) ∨ (97 ≤ b.toNat ∧ b.toNat ≤ 122)) ∨ marks.data.toList.contains b = true) → tokR b = false := fun h => by
   rw [← Bool.not_eq_true]
   intro h'
   simp only [tokR, Bool.or_eq_true, Bool.and_eq_true, decide_eq_true_eq] at h'
   refine h ?_
   rcases h' with h' | h'
   ·left; omega
   ·exact .inr h'
  rw [hm] at tokT tokF
  clear hm
  simp only [go_sem, simprocAttr, h4, hb, hw]
  repeat' (first | refine GifP.mk (fun _ => ?_) (fun _ => ?_) | refine Gif.mk (fun _ => ?_) (fun _ => ?_))
  all_goals first
   | (refine good (tokT (by omega)) _ ?_; exact lessA)
   | (simp only [retK, resD, retL, oneD, simprocAttr, Tryz.results211]; exact ⟨_, rfl, rfl, bad (tokF (by omega))⟩)
 have h4 : ((i : Int) < (s.size : Int)) = False := eq_false (by omega)
 rw [byte_end hlt, List.all_nil] at hT
 simp only [go_sem, simprocAttr, h4]
 repeat' (first | refine GifP.mk (fun _ => ?_) (fun _ => ?_) | refine Gif.mk (fun _ => ?_) (fun _ => ?_))
 all_goals
  simp only [retK, resD, retL, oneD, simprocAttr, Tryz.results211]
  first
   | exact ⟨_, rfl, rfl, bool_no fun e => by obtain ⟨e1, e2, _⟩ := (token_iff s).1 e; omega⟩
   | exact ⟨_, rfl, rfl, bool_dec ⟨fun h => (token_iff s).2 ⟨by omega, by omega, hT.symm⟩, fun h => by have := ((token_iff s).1 h).2.1; omega⟩⟩


theorem dns_Under (s z : ByteArray) (hs : s.size ≤ 1000000) (hz : z.size ≤ 1000000) : Pure Tryz.prog 166 [str s, str z] (fun d => d = bln (under s z)) := by
 have hadd : binV .add (.string ⟨#[46]⟩) (.string z) = some (.string (⟨#[46]⟩ ++ z)) := if_pos (by have : (⟨#[46]⟩ : ByteArray).size = 1 := rfl; omega)
 refine pure_of_run follows an_zyyse Tryz.func166 rfl ok_zyyse.1 ok_zyyse.2 (by simp [Tryz.ntmps166]) ?_
 rw [run_start]
 simp only [ac_zyyse, go_sem, simprocAttr, ↓hadd]
 (repeat' (first | (refine GifP.mk (fun _ => ?_) (fun _ => ?_)) | (refine Gif.mk (fun _ => ?_) (fun _ => ?_)) | ((first | refine (dns_Name s).callW (enters_of Tryz.func87 rfl rfl) _ rfl rfl ?_ | refine (dns_Name z).callW (enters_of Tryz.func87 rfl rfl) _ rfl rfl ?_ | refine (strings_HasSuffix s (dot ++ z) hs).callW (enters_of Tryz.func205 rfl rfl) _ rfl rfl ?_); rintro _ rfl; try simp only [go_sem, simprocAttr, ↓hadd]))) <;> (simp only [retK, resD, retL, oneD, simprocAttr, Tryz.results166]; exact ⟨_, rfl, rfl, congrArg bln (by first | rfl | (rw [Bool.eq_iff_iff]; simp only [under]; (first | (simp; done) | (simp; omega) | (simp [*]; done) | (simp [*]; omega))) | (simp_all [under]; done) | (exfalso; omega))⟩)

theorem cut_size (p : ByteArray) : (cutPrefix p star).size ≤ p.size := by
 unfold cutPrefix
 split
 ·rw [ByteArray.size_extract]; omega
 ·exact Nat.le_refl _

theorem host_below (p q : ByteArray) (hp : p.size ≤ 1000000) (hq : q.size ≤ 1000000) : Pure Tryz.prog 116 [str p, str q] (fun d => d = bln (below p q)) := by
 have cp := Nat.le_trans (cut_size p) hp
 have cq := Nat.le_trans (cut_size q) hq
 refine pure_of_run follows an_ziiwx Tryz.func116 rfl ok_ziiwx.1 ok_ziiwx.2 (by simp [Tryz.ntmps116]) ?_
 rw [run_start]
 simp only [ac_ziiwx, go_sem, simprocAttr]
 (repeat' (first | (refine GifP.mk (fun _ => ?_) (fun _ => ?_)) | (refine Gif.mk (fun _ => ?_) (fun _ => ?_)) | ((first | refine (strings_CutPrefix p star).callW (enters_of Tryz.func146 rfl rfl) _ rfl rfl ?_ | refine (strings_CutPrefix q star).callW (enters_of Tryz.func146 rfl rfl) _ rfl rfl ?_ | refine (dns_Under (cutPrefix p star) (cutPrefix q star) cp cq).callW (enters_of Tryz.func166 rfl rfl) _ rfl rfl ?_ | refine (dns_Under p (cutPrefix q star) hp cq).callW (enters_of Tryz.func166 rfl rfl) _ rfl rfl ?_); rintro _ rfl; try simp only [go_sem, simprocAttr]))) <;> (simp only [retK, resD, retL, oneD, simprocAttr, Tryz.results116]; exact ⟨_, rfl, rfl, congrArg bln (by first | rfl | (rw [Bool.eq_iff_iff]; simp only [below]; (first | (simp; done) | (simp; omega) | (simp [*]; done) | (simp [*]; omega))) | (simp_all [below]; done) | (exfalso; omega))⟩)

def meetD : Option ByteArray → D
 | some m => .tup [str m, bln true]
 | none => .tup [str ⟨#[]⟩, bln false]

theorem host_Meet' (a b : ByteArray) (ha : a.size ≤ 1000000) (hb : b.size ≤ 1000000) : Pure Tryz.prog 61 [str a, str b] (fun d => d = meetD (hostMeet a b)) := by
 refine pure_of_run follows an_zoiaa Tryz.func61 rfl ok_zoiaa.1 ok_zoiaa.2 (by simp [Tryz.ntmps61]) ?_
 rw [run_start]
 simp only [ac_zoiaa, go_sem, simprocAttr]
 (repeat' (first | (refine GifP.mk (fun _ => ?_) (fun _ => ?_)) | (refine Gif.mk (fun _ => ?_) (fun _ => ?_)) | ((first | refine (host_May a).callW (enters_of Tryz.func96 rfl rfl) _ rfl rfl ?_ | refine (host_May b).callW (enters_of Tryz.func96 rfl rfl) _ rfl rfl ?_ | refine (host_below a b ha hb).callW (enters_of Tryz.func116 rfl rfl) _ rfl rfl ?_ | refine (host_below b a hb ha).callW (enters_of Tryz.func116 rfl rfl) _ rfl rfl ?_); rintro _ rfl; try simp only [go_sem, simprocAttr]))) <;> (simp only [retK, resD, retL, oneD, simprocAttr, Tryz.results61]; exact ⟨_, rfl, rfl, by simp_all [hostMeet, meetD, D.pub, D.pubs]⟩)

theorem may_size {a : ByteArray} (h : hostMay a = true) : a.size ≤ 1000000 := by
 simp only [hostMay, Bool.or_eq_true, Bool.and_eq_true, decide_eq_true_eq] at h
 rcases h with h | h
 ·subst h; decide
 ·have := h.1; omega

theorem host_Meet_no (a b : ByteArray) (h : hostMay a = false) : Pure Tryz.prog 61 [str a, str b] (fun d => d = meetD none) := by
 have c1 := host_May a
 rw [h] at c1
 refine pure_of_run follows an_zoiaa Tryz.func61 rfl ok_zoiaa.1 ok_zoiaa.2 (by simp [Tryz.ntmps61]) ?_
 rw [run_start]
 simp only [ac_zoiaa, go_sem, simprocAttr]
 (repeat' (first | (refine GifP.mk (fun _ => ?_) (fun _ => ?_)) | (refine Gif.mk (fun _ => ?_) (fun _ => ?_)) | (refine c1.callW (enters_of Tryz.func96 rfl rfl) _ rfl rfl ?_; rintro _ rfl; try simp only [go_sem, simprocAttr]))) <;> (simp only [retK, resD, retL, oneD, simprocAttr, Tryz.results61]; exact ⟨_, rfl, rfl, rfl⟩)

theorem host_Meet_nob (a b : ByteArray) (h1 : hostMay a = true) (h : hostMay b = false) : Pure Tryz.prog 61 [str a, str b] (fun d => d = meetD none) := by
 have c1 := host_May a
 have c2 := host_May b
 rw [h1] at c1
 rw [h] at c2
 refine pure_of_run follows an_zoiaa Tryz.func61 rfl ok_zoiaa.1 ok_zoiaa.2 (by simp [Tryz.ntmps61]) ?_
 rw [run_start]
 simp only [ac_zoiaa, go_sem, simprocAttr]
 (repeat' (first | (refine GifP.mk (fun _ => ?_) (fun _ => ?_)) | (refine Gif.mk (fun _ => ?_) (fun _ => ?_)) | ((first | refine c1.callW (enters_of Tryz.func96 rfl rfl) _ rfl rfl ?_ | refine c2.callW (enters_of Tryz.func96 rfl rfl) _ rfl rfl ?_); rintro _ rfl; try simp only [go_sem, simprocAttr]))) <;> (simp only [retK, resD, retL, oneD, simprocAttr, Tryz.results61]; exact ⟨_, rfl, rfl, rfl⟩)

theorem host_Meet (a b : ByteArray) : Pure Tryz.prog 61 [str a, str b] (fun d => d = meetD (hostMeet a b)) := by
 cases h1 : hostMay a
 ·have e : hostMeet a b = none := by unfold hostMeet; rw [if_pos (.inl h1)]
  rw [e]; exact host_Meet_no a b h1
 cases h2 : hostMay b
 ·have e : hostMeet a b = none := by unfold hostMeet; rw [if_pos (.inr h2)]
  rw [e]; exact host_Meet_nob a b h1 h2
 exact host_Meet' a b (may_size h1) (may_size h2)

theorem attach_asked (x : AListener) (p : AParent) : Pure Tryz.prog 33 [x.d, p.d] (fun d => d = bln (asked x p)) := by
 refine pure_of_run follows an_zsw2x Tryz.func33 rfl ok_zsw2x.1 ok_zsw2x.2 (by simp [Tryz.ntmps33]) ?_
 rw [run_start]
 simp only [ac_zsw2x, go_sem, simprocAttr]
 (repeat' (first | (refine GifP.mk (fun _ => ?_) (fun _ => ?_)) | (refine Gif.mk (fun _ => ?_) (fun _ => ?_)))) <;> (simp only [retK, resD, retL, oneD, simprocAttr, Tryz.results33]; exact ⟨_, rfl, rfl, congrArg bln (by first | rfl | (rw [Bool.eq_iff_iff]; simp only [asked]; (first | (simp; done) | (simp; omega) | (simp [*]; done) | (simp [*]; omega))) | (simp_all [asked]; done) | (exfalso; omega))⟩)


theorem dname_size {s : ByteArray} (h : dname s = true) : s.size ≤ 1000000 := by
 simp only [dname, Bool.and_eq_true, decide_eq_true_eq] at h
 omega

theorem under_no {s z : ByteArray} (h : dname s = false ∨ dname z = false) : under s z = false := by
 cases hu : under s z with
 | false => rfl
 | true =>
   have := ((under_iff s z).1 hu).1
   rcases h with h | h
   ·rw [h] at this; cases this.1
   ·rw [h] at this; cases this.2

theorem splitB_len {s : ByteArray} (hs : s.size ≤ 1000000) (c : UInt8) : (splitB c s.size s).length ≤ 1000001 := by
 have h1 := splitR_len c s.data.toList
 rw [splitR_eq, size_list] at h1
 omega

set_option maxHeartbeats 4000000 in
theorem ref1_Under (s z : ByteArray) : Pure Tryz.prog 45 [str s, str z] (fun d => d = bln (under s z)) := by
 refine pure_of_run follows an_zor7z Tryz.func45 rfl ok_zor7z.1 ok_zor7z.2 (by simp [Tryz.ntmps45]) ?_
 rw [run_start]
 simp only [ac_zor7z, go_sem, simprocAttr]
 refine (ref1_Name s).callW (enters_of Tryz.func78 rfl rfl) _ rfl rfl ?_
 rintro _ rfl
 have c2 := ref1_Name z
 cases h1 : dname s
 ·simp only [go_sem, simprocAttr]
  simp only [retK, resD, retL, oneD, simprocAttr, Tryz.results45]
  exact ⟨_, rfl, rfl, congrArg bln (under_no (.inl h1)).symm⟩
 simp only [go_sem, simprocAttr]
 refine c2.callW (enters_of Tryz.func78 rfl rfl) _ rfl rfl ?_
 rintro _ rfl
 cases h2 : dname z
 ·simp only [go_sem, simprocAttr]
  simp only [retK, resD, retL, oneD, simprocAttr, Tryz.results45]
  exact ⟨_, rfl, rfl, congrArg bln (under_no (.inr h2)).symm⟩
 have hA := splitB_len (dname_size h1) 46
 have hB := splitB_len (dname_size h2) 46
 have hu := under_iff s z
 simp only [h1, h2, and_self, true_and] at hu
 have c3 := ref1_Split s (dname_size h1) 46 46 rfl
 have c4 := ref1_Split z (dname_size h2) 46 46 rfl
 generalize splitB 46 s.size s = A at hA hu c3
 generalize splitB 46 z.size z = B at hB hu c4
 simp only [go_sem, simprocAttr]
 refine c3.callW (enters_of Tryz.func79 rfl rfl) _ rfl rfl ?_
 rintro _ rfl
 simp only [go_sem, simprocAttr]
 refine c4.callW (enters_of Tryz.func79 rfl rfl) _ rfl rfl ?_
 rintro _ rfl
 simp only [go_sem, simprocAttr]
 refine GifP.mk (fun hl => ?_) (fun hl => ?_)
 ·simp only [retK, resD, retL, oneD, simprocAttr, Tryz.results45]
  exact ⟨_, rfl, rfl, (bool_is (b := false) (by rw [hu]; simp; omega)).symm⟩
 refine loopS (fun k st => ∃ i : Nat, k = B.length - i ∧ i ≤ B.length ∧ (∀ j, j < i → A[A.length - 1 - j]? = B[B.length - 1 - j]?) ∧
  st = ⟨[(5, .pd (.slice (rows cStr A))), (6, .pd (.slice (rows cStr B))), (7, int i)], [], [], .no⟩) B.length _ ?_ ⟨0, rfl, by omega, fun j hj => absurd hj (by omega), rfl⟩ ?_
 ·exact lessA
 rintro k st ⟨i, rfl, hi, hT, rfl⟩
 have hw := i64_succ (show i < 1000000000 by omega)
 by_cases hlt : i < B.length
 ·have h3 : ((i : Int) < (B.length : Int)) = True := eq_true (by omega)
  obtain ⟨x, hx⟩ := at_lt (show A.length - 1 - i < A.length by omega)
  obtain ⟨y, hy⟩ := at_lt (show B.length - 1 - i < B.length by omega)
  have wa : IntKind.i64.wrap ((A.length : Int) - 1) = ((A.length - 1 : Nat) : Int) := by rw [IntWalk.i64_in _ (by omega)]; omega
  have wb : IntKind.i64.wrap ((B.length : Int) - 1) = ((B.length - 1 : Nat) : Int) := by rw [IntWalk.i64_in _ (by omega)]; omega
  have va : IntKind.i64.wrap (((A.length - 1 : Nat) : Int) - i) = ((A.length - 1 - i : Nat) : Int) := by rw [IntWalk.i64_in _ (by omega)]; omega
  have vb : IntKind.i64.wrap (((B.length - 1 : Nat) : Int) - i) = ((B.length - 1 - i : Nat) : Int) := by rw [IntWalk.i64_in _ (by omega)]; omega
  have za : ((0 : Int) ≤ ((A.length - 1 - i : Nat) : Int)) = True := eq_true (by omega)
  have zb : ((0 : Int) ≤ ((B.length - 1 - i : Nat) : Int)) = True := eq_true (by omega)
  simp only [go_sem, simprocAttr, h3, wa, wb, va, vb, za, zb, rows_get hx, rows_get hy, hw]
  refine GifP.mk (fun he => ?_) (fun he => ?_)
  ·refine ⟨B.length - (i + 1), _, by omega, ?_, i + 1, rfl, by omega, fun j hj => ?_, rfl⟩
   ·exact lessA
   ·rcases Nat.lt_succ_iff_lt_or_eq.1 hj with h | rfl
    ·exact hT j h
    ·rw [hx, hy, he]
  ·simp only [retK, resD, retL, oneD, simprocAttr, Tryz.results45]
   exact ⟨_, rfl, rfl, (bool_is (b := false) (by rw [hu]; simp only [Bool.false_eq_true, iff_false]; rintro ⟨_, h⟩; have := h i hlt; rw [hx, hy] at this; exact he (Option.some.inj this))).symm⟩
 ·have h3 : ((i : Int) < (B.length : Int)) = False := eq_false (by omega)
  simp only [go_sem, simprocAttr, h3]
  simp only [retK, resD, retL, oneD, simprocAttr, Tryz.results45]
  exact ⟨_, rfl, rfl, (bool_is (b := true) (by rw [hu]; simp only [iff_true]; exact ⟨by omega, fun j hj => hT j (by omega)⟩)).symm⟩

theorem ref2_Meet (a b : ByteArray) : Pure Tryz.prog 19 [str a, str b] (fun d => d = meetD (hostMeet a b)) := by
 rw [← refMeet_eq]
 refine pure_of_run follows an_zvnqs Tryz.func19 rfl ok_zvnqs.1 ok_zvnqs.2 (by simp [Tryz.ntmps19]) ?_
 rw [run_start]
 simp only [ac_zvnqs, go_sem, simprocAttr]
 (repeat' (first | (refine GifP.mk (fun _ => ?_) (fun _ => ?_)) | (refine Gif.mk (fun _ => ?_) (fun _ => ?_)) | ((first | refine (ref2_May a).callW (enters_of Tryz.func43 rfl rfl) _ rfl rfl ?_ | refine (ref2_May b).callW (enters_of Tryz.func43 rfl rfl) _ rfl rfl ?_ | refine (ref2_wide a).callW (enters_of Tryz.func44 rfl rfl) _ rfl rfl ?_ | refine (ref2_wide b).callW (enters_of Tryz.func44 rfl rfl) _ rfl rfl ?_ | refine (ref1_Under _ _).callW (enters_of Tryz.func45 rfl rfl) _ rfl rfl ?_); rintro _ rfl; try simp only [go_sem, simprocAttr]))) <;> (simp only [retK, resD, retL, oneD, simprocAttr, Tryz.results19]; exact ⟨_, rfl, rfl, by simp_all [refMeet, wide, meetD, D.pub, D.pubs]⟩)


theorem snoc_all {α : Type} {l : List α} {i : Nat} {x : α} {P : Nat → α → Prop} (h : ∀ (j : Nat) (x : α), j < i → l[j]? = some x → P j x) (hx : l[i]? = some x) (hp : P i x) : ∀ (j : Nat) (x : α), j < i + 1 → l[j]? = some x → P j x := fun j y hj hy => by
 rcases Nat.lt_or_ge j i with h2 | h2
 ·exact h j y h2 hy
 ·obtain rfl : j = i := by omega
  rw [hx] at hy; cases hy; exact hp

theorem all_at {α : Type} {l : List α} {p : α → Bool} : l.all p = true ↔ ∀ (j : Nat) (x : α), l[j]? = some x → p x = true := by
 rw [List.all_eq_true]
 constructor
 ·intro h j x hx; exact h x (List.mem_of_getElem? hx)
 ·intro h x hx
  obtain ⟨j, hj⟩ := List.getElem?_of_mem hx
  exact h j x hj

theorem any_at {α : Type} {l : List α} {p : α → Bool} : l.any p = false ↔ ∀ (j : Nat) (x : α), l[j]? = some x → p x = false := by
 rw [List.any_eq_false]
 constructor
 ·intro h j x hx; simpa using h x (List.mem_of_getElem? hx)
 ·intro h x hx
  obtain ⟨j, hj⟩ := List.getElem?_of_mem hx
  simpa using h j x hj

set_option maxHeartbeats 1000000 in
theorem ref5_Value (s : ByteArray) (hs : s.size ≤ 1000000) : Pure Tryz.prog 212 [str s] (fun d => d = bln (fvalue s)) := by
 refine pure_of_run follows an_z86s Tryz.func212 rfl ok_z86s.1 ok_z86s.2 (by simp [Tryz.ntmps212]) ?_
 rw [run_start]
 simp only [ac_z86s, go_sem, simprocAttr]
 refine loopS (fun k st => ∃ i : Nat, k = s.size - i ∧ i ≤ s.size ∧ (∀ (j : Nat) (b : UInt8), j < i → s[j]? = some b → 32 ≤ b.toNat ∧ b.toNat ≤ 126 ∧ ¬ (b.toNat = 32 ∧ (j = 0 ∨ j + 1 = s.size))) ∧ st = ⟨[(0, str s), (3, int i)], [], [], .no⟩) s.size _ ?_ ⟨0, rfl, by omega, fun _ _ h => absurd h (Nat.not_lt_zero _), rfl⟩ ?_
 ·exact lessA
 rintro k st ⟨i, rfl, hi, hT, rfl⟩
 have hw := i64_succ (show i < 1000000000 by omega)
 have hw1 : IntKind.i64.wrap ((s.size : Int) - 1) = (s.size : Int) - 1 := IntWalk.i64_in _ (by omega)
 by_cases hlt : i < s.size
 ·obtain ⟨b, hb⟩ := at_byte hlt
  have h1 : ((i : Int) < (s.size : Int)) = True := eq_true (by omega)
  have bad : ¬ (32 ≤ b.toNat ∧ b.toNat ≤ 126 ∧ ¬ (b.toNat = 32 ∧ (i = 0 ∨ i + 1 = s.size))) → bln false = bln (fvalue s) := fun h => bool_no fun e => h (((fvalue_iff s).1 e).2 i b hb)
  have good : (32 ≤ b.toNat ∧ b.toNat ≤ 126 ∧ ¬ (b.toNat = 32 ∧ (i = 0 ∨ i + 1 = s.size))) → ∀ st, Weak Tryz.prog st ⟨[(0, str s), (3, int (i + 1 : Nat))], [], [], .no⟩ → Round Tryz.prog (fun k st => ∃ i : Nat, k = s.size - i ∧ i ≤ s.size ∧ (∀ (j : Nat) (b : UInt8), j < i → s[j]? = some b → 32 ≤ b.toNat ∧ b.toNat ≤ 126 ∧ ¬ (b.toNat = 32 ∧ (j = 0 ∨ j + 1 = s.size))) ∧ st = ⟨[(0, str s), (3, int i)], [], [], .no⟩) (s.size - i) st := fun h st hw =>
   ⟨s.size - (i + 1), _, by omega, hw, i + 1, rfl, by omega, fun j b' hj hb' => by
    rcases Nat.lt_or_ge j i with h2 | h2
    ·exact hT j b' h2 hb'
    ·obtain rfl : j = i := by omega
     rw [hb] at hb'; cases hb'; exact h, rfl⟩
  simp only [go_sem, simprocAttr, h1, hb, hw, hw1]
  repeat' (first | refine GifP.mk (fun _ => ?_) (fun _ => ?_) | refine Gif.mk (fun _ => ?_) (fun _ => ?_))
  all_goals first
   | (refine good (by omega) _ ?_; exact lessA)
   | (simp only [retK, resD, retL, oneD, simprocAttr, Tryz.results212]; exact ⟨_, rfl, rfl, bad (by omega)⟩)
 have h1 : ((i : Int) < (s.size : Int)) = False := eq_false (by omega)
 have hall : ∀ (j : Nat) (b : UInt8), s[j]? = some b → 32 ≤ b.toNat ∧ b.toNat ≤ 126 ∧ ¬ (b.toNat = 32 ∧ (j = 0 ∨ j + 1 = s.size)) := fun j b hb => hT j b (by rw [bytes_get] at hb; have := (List.getElem?_eq_some_iff.1 hb).1; rw [size_list] at this; omega) hb
 clear hw hw1 hT
 simp only [go_sem, simprocAttr, h1]
 simp only [retK, resD, retL, oneD, simprocAttr, Tryz.results212]
 exact ⟨_, rfl, rfl, bool_dec ⟨fun h => (fvalue_iff s).2 ⟨by omega, hall⟩, fun h => by have := ((fvalue_iff s).1 h).1; omega⟩⟩

theorem ref5_Same (a b : ByteArray) (ha : a.size ≤ 1000000) (hb : b.size ≤ 1000000) : Pure Tryz.prog 207 [str a, str b] (fun d => d = bln (foldSame a b)) := by
 refine pure_of_run follows an_zm0ue Tryz.func207 rfl ok_zm0ue.1 ok_zm0ue.2 (by simp [Tryz.ntmps207]) ?_
 rw [run_start]
 simp only [ac_zm0ue, go_sem, simprocAttr]
 (repeat' (first | (refine GifP.mk (fun _ => ?_) (fun _ => ?_)) | (refine Gif.mk (fun _ => ?_) (fun _ => ?_)) | ((first | refine (ref1_Fold a ha).callW (enters_of Tryz.func232 rfl rfl) _ rfl rfl ?_ | refine (ref1_Fold b hb).callW (enters_of Tryz.func232 rfl rfl) _ rfl rfl ?_); rintro _ rfl; try simp only [go_sem, simprocAttr]))) <;> (simp only [retK, resD, retL, oneD, simprocAttr, Tryz.results207]; exact ⟨_, rfl, rfl, congrArg bln (by first | rfl | (rw [Bool.eq_iff_iff]; simp only [foldSame]; (first | (simp; done) | (simp; omega) | (simp [*]; done) | (simp [*]; omega))) | (simp_all [foldSame]; done) | (exfalso; omega))⟩)

set_option maxHeartbeats 1000000 in
theorem ref6_Method (s : ByteArray) (hs : s.size ≤ 1000000) : Pure Tryz.prog 209 [str s] (fun d => d = bln (method s)) := by
 refine pure_of_run follows an_zhynl Tryz.func209 rfl ok_zhynl.1 ok_zhynl.2 (by simp [Tryz.ntmps209]) ?_
 rw [run_start]
 simp only [ac_zhynl, go_sem, simprocAttr]
 refine loopS (fun k st => ∃ i : Nat, k = s.size - i ∧ i ≤ s.size ∧ (s.data.toList.drop i).all methOct = s.data.toList.all methOct ∧ st = ⟨[(0, str s), (3, int i)], [], [], .no⟩) s.size _ ?_ ⟨0, rfl, by omega, rfl, rfl⟩ ?_
 ·exact lessA
 rintro k st ⟨i, rfl, hi, hT, rfl⟩
 have hw := i64_succ (show i < 1000000000 by omega)
 by_cases hlt : i < s.size
 ·obtain ⟨b, hb, hd⟩ := byte_at hlt
  have h4 : ((i : Int) < (s.size : Int)) = True := eq_true (by omega)
  rw [hd, List.all_cons] at hT
  have good : methOct b = true → ∀ st, Weak Tryz.prog st ⟨[(0, str s), (3, int (i + 1 : Nat))], [], [], .no⟩ → Round Tryz.prog (fun k st => ∃ i : Nat, k = s.size - i ∧ i ≤ s.size ∧ (s.data.toList.drop i).all methOct = s.data.toList.all methOct ∧ st = ⟨[(0, str s), (3, int i)], [], [], .no⟩) (s.size - i) st := fun h st hw => by
   rw [h, Bool.true_and] at hT
   exact ⟨s.size - (i + 1), _, by omega, hw, i + 1, rfl, by omega, hT, rfl⟩
  have bad : methOct b = false → bln false = bln (method s) := fun h => bool_no fun e => by
   rw [h, Bool.false_and] at hT
   have := ((method_iff s).1 e).2.2
   rw [← hT] at this; cases this
  simp only [go_sem, simprocAttr, h4, hb, hw]
  repeat' (first | refine GifP.mk (fun _ => ?_) (fun _ => ?_) | refine Gif.mk (fun _ => ?_) (fun _ => ?_))
  all_goals first
   | (refine good (by simp [methOct]; omega) _ ?_; exact lessA)
   | (simp only [retK, resD, retL, oneD, simprocAttr, Tryz.results209]; exact ⟨_, rfl, rfl, bad (by simp [methOct]; omega)⟩)
 have h4 : ((i : Int) < (s.size : Int)) = False := eq_false (by omega)
 rw [byte_end hlt, List.all_nil] at hT
 clear hw
 simp only [go_sem, simprocAttr, h4]
 repeat' (first | refine GifP.mk (fun _ => ?_) (fun _ => ?_) | refine Gif.mk (fun _ => ?_) (fun _ => ?_))
 all_goals
  simp only [retK, resD, retL, oneD, simprocAttr, Tryz.results209]
  first
   | exact ⟨_, rfl, rfl, bool_no fun e => by obtain ⟨e1, e2, _⟩ := (method_iff s).1 e; omega⟩
   | exact ⟨_, rfl, rfl, bool_dec ⟨fun h => (method_iff s).2 ⟨by omega, by omega, hT.symm⟩, fun h => by have := ((method_iff s).1 h).2.1; omega⟩⟩

theorem fold_sym (a b : ByteArray) : foldSame a b = foldSame b a := by
 simp only [foldSame, eq_comm]

theorem matchMay_iff (m : AMatch) : matchMay m = true ↔ (pathMay m.pkind m.pval = true ∧ (m.method = ⟨#[]⟩ ∨ method m.method = true) ∧ m.head.length ≤ 8 ∧ m.query.length ≤ 8 ∧ queryMay m.query = true) ∧
 (∀ (j : Nat) (x : APair), m.head[j]? = some x → (token x.name = true ∧ fvalue x.val = true) ∧ ∀ (k : Nat) (y : APair), k < j → m.head[k]? = some y → foldSame x.name y.name = false) ∧
 (∀ (j : Nat) (x : APair), m.query[j]? = some x → ∀ (k : Nat) (y : APair), k < j → m.query[k]? = some y → ¬ x.name = y.name) := by
 simp only [matchMay, pairTwice, Bool.and_eq_true, Bool.or_eq_true, Bool.not_eq_true', decide_eq_true_eq, any_at, tw_iff, pairOdd, Bool.or_eq_false_iff, Bool.not_eq_false', strSame, decide_eq_false_iff_not]
 constructor
 ·rintro ⟨⟨⟨⟨⟨⟨⟨h1, h2⟩, h3⟩, h4⟩, h5⟩, h6⟩, h7⟩, h8⟩
  exact ⟨⟨h1, h2, h3, h6, h7⟩, fun j x hx => ⟨h4 j x hx, fun k y hk hy => by rw [fold_sym]; exact h5 j x hx k y hk hy⟩, fun j x hx k y hk hy e => h8 j x hx k y hk hy e.symm⟩
 ·rintro ⟨⟨h1, h2, h3, h6, h7⟩, h4, h8⟩
  exact ⟨⟨⟨⟨⟨⟨⟨h1, h2⟩, h3⟩, fun j x hx => (h4 j x hx).1⟩, fun j x hx k y hk hy => by rw [fold_sym]; exact (h4 j x hx).2 k y hk hy⟩, h6⟩, h7⟩, fun j x hx k y hk hy e => h8 j x hx k y hk hy e.symm⟩

set_option maxHeartbeats 4000000 in
theorem ref6_May (m : AMatch) (h : m.ok) (hm : m.method.size ≤ 1000000) : Pure Tryz.prog 169 [m.d] (fun d => d = bln (matchMay m)) := by
 have hhl := h.hl
 have hql := h.ql
 refine pure_of_run follows an_z1jc9 Tryz.func169 rfl ok_z1jc9.1 ok_z1jc9.2 (by simp [Tryz.ntmps169]) ?_
 rw [run_start]
 simp only [ac_z1jc9, go_sem, simprocAttr]
 have key : ¬ (pathMay m.pkind m.pval = true ∧ (m.method = ⟨#[]⟩ ∨ method m.method = true) ∧ m.head.length ≤ 8 ∧ m.query.length ≤ 8 ∧ queryMay m.query = true) → bln false = bln (matchMay m) := fun hn => bool_no fun e => hn ((matchMay_iff m).1 e).1
 repeat' (first | refine GifP.mk (fun _ => ?_) (fun _ => ?_) | refine Gif.mk (fun _ => ?_) (fun _ => ?_) | (refine (ref3_May m.pkind m.pval).callW (enters_of Tryz.func208 rfl rfl) _ rfl rfl ?_; rintro _ rfl; simp only [go_sem, simprocAttr]) | (refine (ref6_Method m.method hm).callW (enters_of Tryz.func209 rfl rfl) _ rfl rfl ?_; rintro _ rfl; simp only [go_sem, simprocAttr]) | (refine (ref4_May m.query hql).callW (enters_of Tryz.func210 rfl rfl) _ rfl rfl ?_; rintro _ rfl; simp only [go_sem, simprocAttr]) | refine And.intro ?_ ?_)
 all_goals first
  | (simp only [retK, resD, retL, oneD, simprocAttr, Tryz.results169]; exact ⟨_, rfl, rfl, key (by first | omega | (simp_all; done) | (simp_all; omega))⟩)
  | skip
 all_goals
  have hA : pathMay m.pkind m.pval = true ∧ (m.method = ⟨#[]⟩ ∨ method m.method = true) ∧ m.head.length ≤ 8 ∧ m.query.length ≤ 8 ∧ queryMay m.query = true := by refine ⟨by assumption, by first | (left; assumption) | (right; assumption), by omega, by omega, by assumption⟩
  clear key
  refine loopS (fun k st => ∃ i : Nat, k = m.head.length - i ∧ i ≤ m.head.length ∧ (∀ (j : Nat) (x : APair), j < i → m.head[j]? = some x → (token x.name = true ∧ fvalue x.val = true) ∧ ∀ (k : Nat) (y : APair), k < (j) → m.head[k]? = some y → foldSame x.name y.name = false) ∧ st = ⟨[(1, .ptr 1 0), (3, int i)], [(1, [int m.pkind, str m.pval, str m.method, .pd (.slice (rows APair.pd m.head)), .pd (.slice (rows APair.pd m.query))])], [], .no⟩) m.head.length _ ?_ ⟨0, rfl, by omega, fun _ _ h => absurd h (Nat.not_lt_zero _), rfl⟩ ?_
  ·exact lessA
  rintro k st ⟨i, rfl, hi, hT, rfl⟩
  have hw := i64_succ (show i < 1000000000 by omega)
  by_cases hlt : i < m.head.length
  ·obtain ⟨x, hx⟩ := at_lt hlt
   have hmem := List.mem_of_getElem? hx
   have h1 : ((i : Int) < (m.head.length : Int)) = True := eq_true (by omega)
   have good : ((token x.name = true ∧ fvalue x.val = true) ∧ ∀ (k : Nat) (y : APair), k < i → m.head[k]? = some y → foldSame x.name y.name = false) → ∀ st, Weak Tryz.prog st ⟨[(1, .ptr 1 0), (3, int (i + 1 : Nat))], [(1, [int m.pkind, str m.pval, str m.method, .pd (.slice (rows APair.pd m.head)), .pd (.slice (rows APair.pd m.query))])], [], .no⟩ → Round Tryz.prog (fun k st => ∃ i : Nat, k = m.head.length - i ∧ i ≤ m.head.length ∧ (∀ (j : Nat) (x : APair), j < i → m.head[j]? = some x → (token x.name = true ∧ fvalue x.val = true) ∧ ∀ (k : Nat) (y : APair), k < (j) → m.head[k]? = some y → foldSame x.name y.name = false) ∧ st = ⟨[(1, .ptr 1 0), (3, int i)], [(1, [int m.pkind, str m.pval, str m.method, .pd (.slice (rows APair.pd m.head)), .pd (.slice (rows APair.pd m.query))])], [], .no⟩) (m.head.length - i) st := fun h st hw => ⟨m.head.length - (i + 1), _, by omega, hw, i + 1, rfl, by omega, snoc_all hT hx h, rfl⟩
   have bad : ¬ ((token x.name = true ∧ fvalue x.val = true) ∧ ∀ (k : Nat) (y : APair), k < i → m.head[k]? = some y → foldSame x.name y.name = false) → bln false = bln (matchMay m) := fun h => bool_no fun e => h (((matchMay_iff m).1 e).2.1 i x hx)
   simp only [go_sem, simprocAttr, rows_get hx, h1, hw]
   repeat' (first | refine GifP.mk (fun _ => ?_) (fun _ => ?_) | refine Gif.mk (fun _ => ?_) (fun _ => ?_) | (refine (ref5_Token x.name (h.h x hmem).1).callW (enters_of Tryz.func211 rfl rfl) _ rfl rfl ?_; rintro _ rfl; simp only [go_sem, simprocAttr, rows_get hx, hw]) | (refine (ref5_Value x.val (h.h x hmem).2).callW (enters_of Tryz.func212 rfl rfl) _ rfl rfl ?_; rintro _ rfl; simp only [go_sem, simprocAttr, rows_get hx, hw]) | refine And.intro ?_ ?_)
   all_goals first
    | (simp only [retK, resD, retL, oneD, simprocAttr, Tryz.results169]; exact ⟨_, rfl, rfl, bad (fun h => by simp_all)⟩)
    | skip
   have htok : token x.name = true ∧ fvalue x.val = true := ⟨by assumption, by assumption⟩
   refine loopS (fun n st => ∃ k : Nat, n = i - k ∧ k ≤ i ∧ (∀ (k' : Nat) (y : APair), k' < k → m.head[k']? = some y → foldSame x.name y.name = false) ∧ st = ⟨[(1, .ptr 1 0), (3, int i), (4, int k)], [(1, [int m.pkind, str m.pval, str m.method, .pd (.slice (rows APair.pd m.head)), .pd (.slice (rows APair.pd m.query))])], [], .no⟩) i _ ?_ ⟨0, rfl, by omega, fun _ _ h => absurd h (Nat.not_lt_zero _), rfl⟩ ?_
   ·exact lessA
   rintro n st ⟨k, rfl, hk, hS, rfl⟩
   have hwk := i64_succ (show k < 1000000000 by omega)
   by_cases hki : k < i
   ·obtain ⟨y, hy⟩ := at_lt (show k < m.head.length by omega)
    have hmy := List.mem_of_getElem? hy
    have h2 : ((k : Int) < (i : Int)) = True := eq_true (by omega)
    have goodk : (foldSame x.name y.name = false) → ∀ st, Weak Tryz.prog st ⟨[(1, .ptr 1 0), (3, int i), (4, int (k + 1 : Nat))], [(1, [int m.pkind, str m.pval, str m.method, .pd (.slice (rows APair.pd m.head)), .pd (.slice (rows APair.pd m.query))])], [], .no⟩ → Round Tryz.prog (fun n st => ∃ k : Nat, n = i - k ∧ k ≤ i ∧ (∀ (k' : Nat) (y : APair), k' < k → m.head[k']? = some y → foldSame x.name y.name = false) ∧ st = ⟨[(1, .ptr 1 0), (3, int i), (4, int k)], [(1, [int m.pkind, str m.pval, str m.method, .pd (.slice (rows APair.pd m.head)), .pd (.slice (rows APair.pd m.query))])], [], .no⟩) (i - k) st := fun h st hw => ⟨i - (k + 1), _, by omega, hw, k + 1, rfl, by omega, snoc_all hS hy h, rfl⟩
    have badk : ¬ (foldSame x.name y.name = false) → bln false = bln (matchMay m) := fun h => bad (fun e => h (e.2 k y hki hy))
    simp only [go_sem, simprocAttr, rows_get hx, rows_get hy, h2, hwk]
    repeat' (first | refine GifP.mk (fun _ => ?_) (fun _ => ?_) | refine Gif.mk (fun _ => ?_) (fun _ => ?_) | (refine (ref5_Same x.name y.name (h.h x hmem).1 (h.h y hmy).1).callX (enters_of Tryz.func207 rfl rfl) _ rfl rfl ?_; rintro _ rfl; simp only [go_sem, simprocAttr, rows_get hx, rows_get hy, hwk]) | refine And.intro ?_ ?_)
    all_goals first
     | (refine goodk (by first | omega | (simp_all; done) | (simp_all; omega)) _ ?_; exact lessA)
     | (simp only [retK, resD, retL, oneD, simprocAttr, Tryz.results169]; exact ⟨_, rfl, rfl, badk (by first | omega | (simp_all; done) | (simp_all; omega))⟩)
   have h2 : ((k : Int) < (i : Int)) = False := eq_false (by omega)
   have hIn : ∀ (k : Nat) (y : APair), k < i → m.head[k]? = some y → foldSame x.name y.name = false := fun k' y hk' hy => hS k' y (by omega) hy
   clear hS hwk hk
   simp only [go_sem, simprocAttr, rows_get hx, h2, hw]
   first | clear h2 hki k | clear h2 hki
   refine good ⟨htok, hIn⟩ _ ?_
   exact lessA
  have h1 : ((i : Int) < (m.head.length : Int)) = False := eq_false (by omega)
  have hHead : ∀ (j : Nat) (x : APair), m.head[j]? = some x → (token x.name = true ∧ fvalue x.val = true) ∧ ∀ (k : Nat) (y : APair), k < (j) → m.head[k]? = some y → foldSame x.name y.name = false := fun j x hx => hT j x (by have := (List.getElem?_eq_some_iff.1 hx).1; omega) hx
  clear hT hw hi
  simp only [go_sem, simprocAttr, h1]
  first | clear h1 hlt i | clear h1 hlt
  refine loopS (fun k st => ∃ i : Nat, k = m.query.length - i ∧ i ≤ m.query.length ∧ (∀ (j : Nat) (x : APair), j < i → m.query[j]? = some x → ∀ (k : Nat) (y : APair), k < (j) → m.query[k]? = some y → ¬ x.name = y.name) ∧ st = ⟨[(1, .ptr 1 0), (5, int i)], [(1, [int m.pkind, str m.pval, str m.method, .pd (.slice (rows APair.pd m.head)), .pd (.slice (rows APair.pd m.query))])], [], .no⟩) m.query.length _ ?_ ⟨0, rfl, by omega, fun _ _ h => absurd h (Nat.not_lt_zero _), rfl⟩ ?_
  ·exact lessA
  rintro k st ⟨i, rfl, hi, hT, rfl⟩
  have hw := i64_succ (show i < 1000000000 by omega)
  by_cases hlt : i < m.query.length
  ·obtain ⟨x, hx⟩ := at_lt hlt
   have hmem := List.mem_of_getElem? hx
   have h1 : ((i : Int) < (m.query.length : Int)) = True := eq_true (by omega)
   have good : (∀ (k : Nat) (y : APair), k < i → m.query[k]? = some y → ¬ x.name = y.name) → ∀ st, Weak Tryz.prog st ⟨[(1, .ptr 1 0), (5, int (i + 1 : Nat))], [(1, [int m.pkind, str m.pval, str m.method, .pd (.slice (rows APair.pd m.head)), .pd (.slice (rows APair.pd m.query))])], [], .no⟩ → Round Tryz.prog (fun k st => ∃ i : Nat, k = m.query.length - i ∧ i ≤ m.query.length ∧ (∀ (j : Nat) (x : APair), j < i → m.query[j]? = some x → ∀ (k : Nat) (y : APair), k < (j) → m.query[k]? = some y → ¬ x.name = y.name) ∧ st = ⟨[(1, .ptr 1 0), (5, int i)], [(1, [int m.pkind, str m.pval, str m.method, .pd (.slice (rows APair.pd m.head)), .pd (.slice (rows APair.pd m.query))])], [], .no⟩) (m.query.length - i) st := fun h st hw => ⟨m.query.length - (i + 1), _, by omega, hw, i + 1, rfl, by omega, snoc_all hT hx h, rfl⟩
   have bad : ¬ (∀ (k : Nat) (y : APair), k < i → m.query[k]? = some y → ¬ x.name = y.name) → bln false = bln (matchMay m) := fun h => bool_no fun e => h (((matchMay_iff m).1 e).2.2 i x hx)
   simp only [go_sem, simprocAttr, rows_get hx, h1, hw]
   refine loopS (fun n st => ∃ k : Nat, n = i - k ∧ k ≤ i ∧ (∀ (k' : Nat) (y : APair), k' < k → m.query[k']? = some y → ¬ x.name = y.name) ∧ st = ⟨[(1, .ptr 1 0), (5, int i), (6, int k)], [(1, [int m.pkind, str m.pval, str m.method, .pd (.slice (rows APair.pd m.head)), .pd (.slice (rows APair.pd m.query))])], [], .no⟩) i _ ?_ ⟨0, rfl, by omega, fun _ _ h => absurd h (Nat.not_lt_zero _), rfl⟩ ?_
   ·exact lessA
   rintro n st ⟨k, rfl, hk, hS, rfl⟩
   have hwk := i64_succ (show k < 1000000000 by omega)
   by_cases hki : k < i
   ·obtain ⟨y, hy⟩ := at_lt (show k < m.query.length by omega)
    have hmy := List.mem_of_getElem? hy
    have h2 : ((k : Int) < (i : Int)) = True := eq_true (by omega)
    have goodk : (¬ x.name = y.name) → ∀ st, Weak Tryz.prog st ⟨[(1, .ptr 1 0), (5, int i), (6, int (k + 1 : Nat))], [(1, [int m.pkind, str m.pval, str m.method, .pd (.slice (rows APair.pd m.head)), .pd (.slice (rows APair.pd m.query))])], [], .no⟩ → Round Tryz.prog (fun n st => ∃ k : Nat, n = i - k ∧ k ≤ i ∧ (∀ (k' : Nat) (y : APair), k' < k → m.query[k']? = some y → ¬ x.name = y.name) ∧ st = ⟨[(1, .ptr 1 0), (5, int i), (6, int k)], [(1, [int m.pkind, str m.pval, str m.method, .pd (.slice (rows APair.pd m.head)), .pd (.slice (rows APair.pd m.query))])], [], .no⟩) (i - k) st := fun h st hw => ⟨i - (k + 1), _, by omega, hw, k + 1, rfl, by omega, snoc_all hS hy h, rfl⟩
    have badk : ¬ (¬ x.name = y.name) → bln false = bln (matchMay m) := fun h => bad (fun e => h (e k y hki hy))
    simp only [go_sem, simprocAttr, rows_get hx, rows_get hy, h2, hwk]
    repeat' (first | refine GifP.mk (fun _ => ?_) (fun _ => ?_) | refine Gif.mk (fun _ => ?_) (fun _ => ?_) | refine And.intro ?_ ?_)
    all_goals first
     | (refine goodk (by first | omega | (simp_all; done) | (simp_all; omega)) _ ?_; exact lessA)
     | (simp only [retK, resD, retL, oneD, simprocAttr, Tryz.results169]; exact ⟨_, rfl, rfl, badk (by first | omega | (simp_all; done) | (simp_all; omega))⟩)
   have h2 : ((k : Int) < (i : Int)) = False := eq_false (by omega)
   have hIn : ∀ (k : Nat) (y : APair), k < i → m.query[k]? = some y → ¬ x.name = y.name := fun k' y hk' hy => hS k' y (by omega) hy
   clear hS hwk hk
   simp only [go_sem, simprocAttr, rows_get hx, h2, hw]
   first | clear h2 hki k | clear h2 hki
   refine good hIn _ ?_
   exact lessA
  have h1 : ((i : Int) < (m.query.length : Int)) = False := eq_false (by omega)
  have hQuery : ∀ (j : Nat) (x : APair), m.query[j]? = some x → ∀ (k : Nat) (y : APair), k < (j) → m.query[k]? = some y → ¬ x.name = y.name := fun j x hx => hT j x (by have := (List.getElem?_eq_some_iff.1 hx).1; omega) hx
  clear hT hw hi
  simp only [go_sem, simprocAttr, h1]
  first | clear h1 hlt i | clear h1 hlt
  simp only [retK, resD, retL, oneD, simprocAttr, Tryz.results169]
  exact ⟨_, rfl, rfl, bool_yes ((matchMay_iff m).2 ⟨hA, hHead, hQuery⟩)⟩


theorem ref8_value (s : ByteArray) (hs : s.size ≤ 1000000) : Pure Tryz.prog 119 [str s] (fun d => d = bln (labValue s)) := by
 refine pure_of_run follows an_z1s4w Tryz.func119 rfl ok_z1s4w.1 ok_z1s4w.2 (by simp [Tryz.ntmps119]) ?_
 rw [run_start]
 simp only [ac_z1s4w, go_sem, simprocAttr]
 (repeat' (first | (refine GifP.mk (fun _ => ?_) (fun _ => ?_)) | (refine Gif.mk (fun _ => ?_) (fun _ => ?_)) | (refine (ref1_Label _ hs).callW (enters_of Tryz.func118 rfl rfl) _ rfl rfl ?_; rintro _ rfl; try simp only [go_sem, simprocAttr]))) <;> (simp only [retK, resD, retL, oneD, simprocAttr, Tryz.results119]; exact ⟨_, rfl, rfl, congrArg bln (by first | rfl | (rw [Bool.eq_iff_iff]; simp only [labValue]; (first | (simp; done) | (simp; omega) | (simp [*]; done) | (simp [*]; omega))) | (simp_all [labValue]; done) | (exfalso; omega))⟩)

theorem askMay_iff (n : ANeed) : askMay n = true ↔ (dname n.name = true ∧ (((n.kind = 1 ∨ n.kind = 2) ∧ 1 ≤ n.vals.length ∧ n.vals.length ≤ 8) ∨ ((n.kind = 3 ∨ n.kind = 4) ∧ n.vals.length = 0))) ∧ ∀ (j : Nat) (x : ByteArray), n.vals[j]? = some x → labValue x = true := by
 simp only [askMay, fewVals, Bool.and_eq_true, Bool.or_eq_true, decide_eq_true_eq, Bool.not_eq_true', any_at, Bool.not_eq_false']
 constructor
 ·rintro ⟨h1, h2⟩
  rcases h2 with ((⟨h2, ⟨h3, h4⟩, h5⟩ | ⟨h2, ⟨h3, h4⟩, h5⟩) | ⟨h2, h3⟩) | ⟨h2, h3⟩
  ·exact ⟨⟨h1, .inl ⟨.inl h2, h3, h4⟩⟩, h5⟩
  ·exact ⟨⟨h1, .inl ⟨.inr h2, h3, h4⟩⟩, h5⟩
  ·exact ⟨⟨h1, .inr ⟨.inl h2, h3⟩⟩, fun j x hx => by have := (List.getElem?_eq_some_iff.1 hx).1; omega⟩
  ·exact ⟨⟨h1, .inr ⟨.inr h2, h3⟩⟩, fun j x hx => by have := (List.getElem?_eq_some_iff.1 hx).1; omega⟩
 ·rintro ⟨⟨h1, h2⟩, h5⟩
  refine ⟨h1, ?_⟩
  rcases h2 with ⟨h2 | h2, h3, h4⟩ | ⟨h2 | h2, h3⟩
  ·exact .inl (.inl (.inl ⟨h2, ⟨h3, h4⟩, h5⟩))
  ·exact .inl (.inl (.inr ⟨h2, ⟨h3, h4⟩, h5⟩))
  ·exact .inl (.inr ⟨h2, h3⟩)
  ·exact .inr ⟨h2, h3⟩

theorem needsMay_iff (l : List ANeed) : needsMay l = true ↔ l.length ≤ 8 ∧ ∀ (j : Nat) (x : ANeed), l[j]? = some x → askMay x = true := by
 simp only [needsMay, Bool.and_eq_true, decide_eq_true_eq, Bool.not_eq_true', any_at, Bool.not_eq_false']

theorem labels_from {l : List APair} : ∀ {k i : Nat}, labelsFrom l k i = true ↔ ∀ (j : Nat) (x : APair), i ≤ j → j < i + k → l[j]? = some x → (dname x.name = true ∧ labValue x.val = true) ∧ ∀ y : APair, 0 < j → l[j - 1]? = some y → Op.bytesLess y.name.toList x.name.toList = true
 | 0, i => by
   simp only [labelsFrom, true_iff]
   intro j x h1 h2; omega
 | k + 1, i => by
   simp only [labelsFrom, Bool.and_eq_true, labels_from]
   have one : ∀ x : APair, l[i]? = some x → ((dname x.name && labValue x.val && (decide (i = 0) || (match l[i - 1]? with | some q => Op.bytesLess q.name.toList x.name.toList | none => false))) = true ↔ (dname x.name = true ∧ labValue x.val = true) ∧ ∀ y : APair, 0 < i → l[i - 1]? = some y → Op.bytesLess y.name.toList x.name.toList = true) := fun x hx => by
    simp only [Bool.and_eq_true, Bool.or_eq_true, decide_eq_true_eq]
    refine and_congr_right fun _ => ?_
    have hlt := (List.getElem?_eq_some_iff.1 hx).1
    constructor
    ·rintro (h | h) y h0 hy
     ·omega
     ·rw [hy] at h; exact h
    ·intro h
     by_cases h0 : i = 0
     ·exact .inl h0
     ·right
      obtain ⟨y, hy⟩ := at_lt (show i - 1 < l.length by omega)
      rw [hy]
      exact h y (by omega) hy
   constructor
   ·rintro ⟨h1, h2⟩ j x hj hk hx
    rcases Nat.eq_or_lt_of_le hj with e | e
    ·subst e
     rw [hx] at h1
     exact (one x hx).1 h1
    ·exact h2 j x e (by omega) hx
   ·intro h
    refine ⟨?_, fun j x hj hk hx => h j x (by omega) (by omega) hx⟩
    cases hx : l[i]? with
    | none => rfl
    | some x => exact (one x hx).2 (h i x (Nat.le_refl _) (by omega) hx)

theorem labelsMay_iff (l : List APair) : labelsMay l = true ↔ l.length ≤ 8 ∧ ∀ (j : Nat) (x : APair), l[j]? = some x → (dname x.name = true ∧ labValue x.val = true) ∧ ∀ y : APair, 0 < j → l[j - 1]? = some y → Op.bytesLess y.name.toList x.name.toList = true := by
 simp only [labelsMay, Bool.and_eq_true, decide_eq_true_eq, labels_from]
 constructor
 ·rintro ⟨h1, h2⟩
  exact ⟨h2, fun j x hx => h1 j x (Nat.zero_le _) (by have := (List.getElem?_eq_some_iff.1 hx).1; omega) hx⟩
 ·rintro ⟨h1, h2⟩
  exact ⟨fun j x _ _ hx => h2 j x hx, h1⟩

set_option maxHeartbeats 2000000 in
theorem ref8_One (n : ANeed) (hn : n.vals.length ≤ 1000000) (hv : ∀ s ∈ n.vals, s.size ≤ 1000000) : Pure Tryz.prog 167 [n.d] (fun d => d = bln (askMay n)) := by
 refine pure_of_run follows an_zqap2 Tryz.func167 rfl ok_zqap2.1 ok_zqap2.2 (by simp [Tryz.ntmps167]) ?_
 rw [run_start]
 simp only [ac_zqap2, go_sem, simprocAttr]
 refine loopS (fun k st => ∃ i : Nat, k = n.vals.length - i ∧ i ≤ n.vals.length ∧ (∀ (j : Nat) (x : ByteArray), j < i → n.vals[j]? = some x → labValue x = true) ∧ st = ⟨[(1, .ptr 1 0), (3, int i)], [(1, [int n.kind, str n.name, .pd (.slice (strs n.vals))])], [], .no⟩) n.vals.length _ ?_ ⟨0, rfl, by omega, fun _ _ h => absurd h (Nat.not_lt_zero _), rfl⟩ ?_
 ·exact lessA
 rintro k st ⟨i, rfl, hi, hT, rfl⟩
 have hw := i64_succ (show i < 1000000000 by omega)
 by_cases hlt : i < n.vals.length
 ·obtain ⟨x, hx⟩ := at_lt hlt
  have hmem := List.mem_of_getElem? hx
  have h1 : ((i : Int) < (n.vals.length : Int)) = True := eq_true (by omega)
  have good : (labValue x = true) → ∀ st, Weak Tryz.prog st ⟨[(1, .ptr 1 0), (3, int (i + 1 : Nat))], [(1, [int n.kind, str n.name, .pd (.slice (strs n.vals))])], [], .no⟩ → Round Tryz.prog (fun k st => ∃ i : Nat, k = n.vals.length - i ∧ i ≤ n.vals.length ∧ (∀ (j : Nat) (x : ByteArray), j < i → n.vals[j]? = some x → labValue x = true) ∧ st = ⟨[(1, .ptr 1 0), (3, int i)], [(1, [int n.kind, str n.name, .pd (.slice (strs n.vals))])], [], .no⟩) (n.vals.length - i) st := fun h st hw => ⟨n.vals.length - (i + 1), _, by omega, hw, i + 1, rfl, by omega, snoc_all hT hx h, rfl⟩
  have bad : ¬ (labValue x = true) → bln false = bln (askMay n) := fun h => bool_no fun e => h (((askMay_iff n).1 e).2 i x hx)
  simp only [go_sem, simprocAttr, rows_get hx, h1, hw]
  repeat' (first | refine GifP.mk (fun _ => ?_) (fun _ => ?_) | refine Gif.mk (fun _ => ?_) (fun _ => ?_) | (refine (ref8_value x (hv x hmem)).callW (enters_of Tryz.func119 rfl rfl) _ rfl rfl ?_; rintro _ rfl; simp only [go_sem, simprocAttr, rows_get hx, hw]) | refine And.intro ?_ ?_)
  all_goals first
   | (refine good (by assumption) _ ?_; exact lessA)
   | (simp only [retK, resD, retL, oneD, simprocAttr, Tryz.results167]; exact ⟨_, rfl, rfl, bad (by simp_all)⟩)
 have h1 : ((i : Int) < (n.vals.length : Int)) = False := eq_false (by omega)
 have hall : ∀ (j : Nat) (x : ByteArray), n.vals[j]? = some x → labValue x = true := fun j x hx => hT j x (by have := (List.getElem?_eq_some_iff.1 hx).1; omega) hx
 clear hT hw hi
 simp only [go_sem, simprocAttr, h1]
 first | clear h1 hlt i | clear h1 hlt
 repeat' (first | refine GifP.mk (fun _ => ?_) (fun _ => ?_) | refine Gif.mk (fun _ => ?_) (fun _ => ?_) | (refine (ref1_Name n.name).callW (enters_of Tryz.func78 rfl rfl) _ rfl rfl ?_; rintro _ rfl; simp only [go_sem, simprocAttr]) | refine And.intro ?_ ?_)
 all_goals
  simp only [retK, resD, retL, oneD, simprocAttr, Tryz.results167]
  refine ⟨_, rfl, rfl, congrArg bln ?_⟩
  rw [Bool.eq_iff_iff, askMay_iff, eq_true hall, and_true]
  clear hall hv
  first
   | (simp_all; done)
   | (simp_all; omega)
   | (simp only [decide_eq_true_eq, *]; omega)
   | (simp [*]; omega)
   | trace_state

theorem ref8_Needs (l : List ANeed) (hl : l.length ≤ 1000000) (h : ∀ n ∈ l, n.vals.length ≤ 1000000) (hv : ∀ n ∈ l, ∀ s ∈ n.vals, s.size ≤ 1000000) : Pure Tryz.prog 120 [.pd (.slice (rows ANeed.pd l))] (fun d => d = bln (needsMay l)) := by
 refine pure_of_run follows an_zc60e Tryz.func120 rfl ok_zc60e.1 ok_zc60e.2 (by simp [Tryz.ntmps120]) ?_
 rw [run_start]
 simp only [ac_zc60e, go_sem, simprocAttr]
 refine loopS (fun k st => ∃ i : Nat, k = l.length - i ∧ i ≤ l.length ∧ (∀ (j : Nat) (x : ANeed), j < i → l[j]? = some x → askMay x = true) ∧ st = ⟨[(0, .pd (.slice (rows ANeed.pd l))), (3, int i)], [], [], .no⟩) l.length _ ?_ ⟨0, rfl, by omega, fun _ _ h => absurd h (Nat.not_lt_zero _), rfl⟩ ?_
 ·exact lessA
 rintro k st ⟨i, rfl, hi, hT, rfl⟩
 have hw := i64_succ (show i < 1000000000 by omega)
 by_cases hlt : i < l.length
 ·obtain ⟨x, hx⟩ := at_lt hlt
  have hmem := List.mem_of_getElem? hx
  have h1 : ((i : Int) < (l.length : Int)) = True := eq_true (by omega)
  have good : (askMay x = true) → ∀ st, Weak Tryz.prog st ⟨[(0, .pd (.slice (rows ANeed.pd l))), (3, int (i + 1 : Nat))], [], [], .no⟩ → Round Tryz.prog (fun k st => ∃ i : Nat, k = l.length - i ∧ i ≤ l.length ∧ (∀ (j : Nat) (x : ANeed), j < i → l[j]? = some x → askMay x = true) ∧ st = ⟨[(0, .pd (.slice (rows ANeed.pd l))), (3, int i)], [], [], .no⟩) (l.length - i) st := fun h st hw => ⟨l.length - (i + 1), _, by omega, hw, i + 1, rfl, by omega, snoc_all hT hx h, rfl⟩
  have bad : ¬ (askMay x = true) → bln false = bln (needsMay l) := fun h => bool_no fun e => h (((needsMay_iff l).1 e).2 i x hx)
  simp only [go_sem, simprocAttr, rows_get hx, h1, hw]
  repeat' (first | refine GifP.mk (fun _ => ?_) (fun _ => ?_) | refine Gif.mk (fun _ => ?_) (fun _ => ?_) | (refine (ref8_One x (h x hmem) (hv x hmem)).callW (enters_of Tryz.func167 rfl rfl) _ rfl rfl ?_; rintro _ rfl; simp only [go_sem, simprocAttr, rows_get hx, hw]) | refine And.intro ?_ ?_)
  all_goals first
   | (refine good (by assumption) _ ?_; exact lessA)
   | (simp only [retK, resD, retL, oneD, simprocAttr, Tryz.results120]; exact ⟨_, rfl, rfl, bad (by simp_all)⟩)
 have h1 : ((i : Int) < (l.length : Int)) = False := eq_false (by omega)
 have hall : ∀ (j : Nat) (x : ANeed), l[j]? = some x → askMay x = true := fun j x hx => hT j x (by have := (List.getElem?_eq_some_iff.1 hx).1; omega) hx
 clear hT hw hi
 simp only [go_sem, simprocAttr, h1]
 first | clear h1 hlt i | clear h1 hlt
 simp only [retK, resD, retL, oneD, simprocAttr, Tryz.results120]
 exact ⟨_, rfl, rfl, bool_dec ⟨fun h => (needsMay_iff l).2 ⟨by omega, hall⟩, fun h => by have := ((needsMay_iff l).1 h).1; omega⟩⟩

set_option maxHeartbeats 2000000 in
theorem ref8_May (l : List APair) (hl : l.length ≤ 1000000) (hv : ∀ p ∈ l, p.val.size ≤ 1000000) : Pure Tryz.prog 64 [.pd (.slice (rows APair.pd l))] (fun d => d = bln (labelsMay l)) := by
 refine pure_of_run follows an_zgvgo Tryz.func64 rfl ok_zgvgo.1 ok_zgvgo.2 (by simp [Tryz.ntmps64]) ?_
 rw [run_start]
 simp only [ac_zgvgo, go_sem, simprocAttr]
 refine loopS (fun k st => ∃ i : Nat, k = l.length - i ∧ i ≤ l.length ∧ (∀ (j : Nat) (x : APair), j < i → l[j]? = some x → (dname x.name = true ∧ labValue x.val = true) ∧ ∀ y : APair, 0 < (j) → l[(j) - 1]? = some y → Op.bytesLess y.name.toList x.name.toList = true) ∧ st = ⟨[(0, .pd (.slice (rows APair.pd l))), (3, int i)], [], [], .no⟩) l.length _ ?_ ⟨0, rfl, by omega, fun _ _ h => absurd h (Nat.not_lt_zero _), rfl⟩ ?_
 ·exact lessA
 rintro k st ⟨i, rfl, hi, hT, rfl⟩
 have hw := i64_succ (show i < 1000000000 by omega)
 by_cases hlt : i < l.length
 ·obtain ⟨x, hx⟩ := at_lt hlt
  have hmem := List.mem_of_getElem? hx
  have h1 : ((i : Int) < (l.length : Int)) = True := eq_true (by omega)
  have good : ((dname x.name = true ∧ labValue x.val = true) ∧ ∀ y : APair, 0 < i → l[i - 1]? = some y → Op.bytesLess y.name.toList x.name.toList = true) → ∀ st, Weak Tryz.prog st ⟨[(0, .pd (.slice (rows APair.pd l))), (3, int (i + 1 : Nat))], [], [], .no⟩ → Round Tryz.prog (fun k st => ∃ i : Nat, k = l.length - i ∧ i ≤ l.length ∧ (∀ (j : Nat) (x : APair), j < i → l[j]? = some x → (dname x.name = true ∧ labValue x.val = true) ∧ ∀ y : APair, 0 < (j) → l[(j) - 1]? = some y → Op.bytesLess y.name.toList x.name.toList = true) ∧ st = ⟨[(0, .pd (.slice (rows APair.pd l))), (3, int i)], [], [], .no⟩) (l.length - i) st := fun h st hw => ⟨l.length - (i + 1), _, by omega, hw, i + 1, rfl, by omega, snoc_all hT hx h, rfl⟩
  have bad : ¬ ((dname x.name = true ∧ labValue x.val = true) ∧ ∀ y : APair, 0 < i → l[i - 1]? = some y → Op.bytesLess y.name.toList x.name.toList = true) → bln false = bln (labelsMay l) := fun h => bool_no fun e => h (((labelsMay_iff l).1 e).2 i x hx)
  have hw1 : IntKind.i64.wrap ((i : Int) - 1) = (i : Int) - 1 := IntWalk.i64_in _ (by omega)
  by_cases h0 : i = 0
  ·subst h0
   have hw0 : IntKind.i64.wrap 1 = 1 := rfl
   simp only [go_sem, simprocAttr, rows_get hx, h1, hw, hw0]
   repeat' (first | refine GifP.mk (fun _ => ?_) (fun _ => ?_) | refine Gif.mk (fun _ => ?_) (fun _ => ?_) | (refine (ref1_Name x.name).callX (enters_of Tryz.func78 rfl rfl) _ rfl rfl ?_; rintro _ rfl; simp only [go_sem, simprocAttr, rows_get hx, h1, hw, hw0]) | (refine (ref8_value x.val (hv x hmem)).callX (enters_of Tryz.func119 rfl rfl) _ rfl rfl ?_; rintro _ rfl; simp only [go_sem, simprocAttr, rows_get hx, h1, hw, hw0]) | refine And.intro ?_ ?_)
   all_goals first
    | (refine good ⟨⟨by assumption, by assumption⟩, fun _ h => absurd h (Nat.lt_irrefl _)⟩ _ ?_; exact lessA)
    | (simp only [retK, resD, retL, oneD, simprocAttr, Tryz.results64]; exact ⟨_, rfl, rfl, bad (by simp_all)⟩)
    | (exfalso; omega)
  ·obtain ⟨y, hy⟩ := at_lt (show i - 1 < l.length by omega)
   have hi1 : ((i : Int) - 1).toNat = i - 1 := by omega
   have hi2 : (0 ≤ (i : Int) - 1) = True := eq_true (by omega)
   have hi3 : ((0 : Int) < (i : Int)) = True := eq_true (by omega)
   have hq : (∀ y : APair, 0 < i → l[i - 1]? = some y → Op.bytesLess y.name.toList x.name.toList = true) ↔ Op.bytesLess y.name.toList x.name.toList = true := ⟨fun h => h y (by omega) hy, fun h y' _ hy' => by rw [hy] at hy'; cases hy'; exact h⟩
   rw [hq] at good bad
   simp only [go_sem, simprocAttr, rows_get hx, h1, hw, hw1, hi1, hi2, hi3, rows_get hy, less_total]
   repeat' (first | refine GifP.mk (fun _ => ?_) (fun _ => ?_) | refine Gif.mk (fun _ => ?_) (fun _ => ?_) | (refine (ref1_Name x.name).callX (enters_of Tryz.func78 rfl rfl) _ rfl rfl ?_; rintro _ rfl; simp only [go_sem, simprocAttr, rows_get hx, h1, hw, hw1, hi1, hi2, hi3, rows_get hy, less_total]) | (refine (ref8_value x.val (hv x hmem)).callX (enters_of Tryz.func119 rfl rfl) _ rfl rfl ?_; rintro _ rfl; simp only [go_sem, simprocAttr, rows_get hx, h1, hw, hw1, hi1, hi2, hi3, rows_get hy, less_total]) | refine And.intro ?_ ?_)
   all_goals first
    | (refine good ⟨⟨by assumption, by assumption⟩, by simp_all⟩ _ ?_; exact lessA)
    | (simp only [retK, resD, retL, oneD, simprocAttr, Tryz.results64]; exact ⟨_, rfl, rfl, bad (by simp_all)⟩)
 have h1 : ((i : Int) < (l.length : Int)) = False := eq_false (by omega)
 have hall : ∀ (j : Nat) (x : APair), l[j]? = some x → (dname x.name = true ∧ labValue x.val = true) ∧ ∀ y : APair, 0 < (j) → l[(j) - 1]? = some y → Op.bytesLess y.name.toList x.name.toList = true := fun j x hx => hT j x (by have := (List.getElem?_eq_some_iff.1 hx).1; omega) hx
 clear hT hw hi
 simp only [go_sem, simprocAttr, h1]
 first | clear h1 hlt i | clear h1 hlt
 simp only [retK, resD, retL, oneD, simprocAttr, Tryz.results64]
 exact ⟨_, rfl, rfl, bool_dec ⟨fun h => (labelsMay_iff l).2 ⟨by omega, hall⟩, fun h => by have := ((labelsMay_iff l).1 h).1; omega⟩⟩


theorem less_irrefl : ∀ x : List UInt8, Op.bytesLess x x = false
 | [] => rfl
 | a :: x => by
   have h : ¬ a < a := fun h => by have := UInt8.lt_iff_toNat_lt.1 h; omega
   simp [Op.bytesLess, h, less_irrefl x]

theorem less_trans : ∀ {x y z : List UInt8}, Op.bytesLess x y = true → Op.bytesLess y z = true → Op.bytesLess x z = true
 | x, [], _, h, _ => by simp [Op.bytesLess] at h
 | _, _ :: _, [], _, h => by simp [Op.bytesLess] at h
 | [], _ :: _, _ :: _, _, _ => rfl
 | a :: x, b :: y, c :: z, h, k => by
   simp only [Op.bytesLess, Bool.or_eq_true, decide_eq_true_eq, Bool.and_eq_true, beq_iff_eq] at h k ⊢
   rcases h with h | ⟨rfl, h⟩
   ·rcases k with k | ⟨rfl, k⟩
    ·left
     have h1 := UInt8.lt_iff_toNat_lt.1 h
     have h2 := UInt8.lt_iff_toNat_lt.1 k
     exact UInt8.lt_iff_toNat_lt.2 (by omega)
    ·exact .inl h
   ·rcases k with k | ⟨rfl, k⟩
    ·exact .inl k
    ·exact .inr ⟨rfl, less_trans h k⟩

theorem labels_rise {l : List APair} (h : labelsMay l = true) : ∀ (d i : Nat) (x y : APair), l[i]? = some x → l[i + d + 1]? = some y → Op.bytesLess x.name.toList y.name.toList = true
 | 0, i, x, y, hx, hy => (((labelsMay_iff l).1 h).2 (i + 0 + 1) y hy).2 x (by omega) (by simpa using hx)
 | d + 1, i, x, y, hx, hy => by
   have hlt := (List.getElem?_eq_some_iff.1 hy).1
   obtain ⟨z, hz⟩ := at_lt (show i + d + 1 < l.length by omega)
   refine less_trans (labels_rise h d i x z hx hz) ((((labelsMay_iff l).1 h).2 (i + (d + 1) + 1) y hy).2 z (by omega) ?_)
   rw [show i + (d + 1) + 1 - 1 = i + d + 1 by omega]
   exact hz

theorem labels_one {l : List APair} (h : labelsMay l = true) {i j : Nat} {x y : APair} (hx : l[i]? = some x) (hy : l[j]? = some y) (e : x.name = y.name) : i = j := by
 rcases Nat.lt_trichotomy i j with k | k | k
 ·have := labels_rise h (j - i - 1) i x y hx (by rw [show i + (j - i - 1) + 1 = j by omega]; exact hy)
  rw [e, less_irrefl] at this; cases this
 ·exact k
 ·have := labels_rise h (i - j - 1) j y x hy (by rw [show j + (i - j - 1) + 1 = i by omega]; exact hx)
  rw [e, less_irrefl] at this; cases this

theorem labFind_some {l : List APair} (h : labelsMay l = true) {n v : ByteArray} : labFind l n = some v ↔ ∃ (i : Nat) (p : APair), l[i]? = some p ∧ p.name = n ∧ p.val = v := by
 unfold labFind
 constructor
 ·intro e
  obtain ⟨p, hp, rfl⟩ := Option.map_eq_some_iff.1 e
  obtain ⟨i, hi⟩ := List.getElem?_of_mem (List.mem_of_find?_eq_some hp)
  have := List.find?_some hp
  exact ⟨i, p, hi, by simpa [isName] using this, rfl⟩
 ·rintro ⟨i, p, hi, rfl, rfl⟩
  cases hf : l.find? (isName p.name) with
  | none =>
    have := List.find?_eq_none.1 hf p (List.mem_of_getElem? hi)
    simp [isName] at this
  | some q =>
    obtain ⟨j, hj⟩ := List.getElem?_of_mem (List.mem_of_find?_eq_some hf)
    have h2 := List.find?_some hf
    simp only [isName, decide_eq_true_eq] at h2
    obtain rfl := labels_one h hj hi h2
    rw [hi] at hj
    cases hj
    rfl

def docHas (l : List APair) (n : ByteArray) : Bool := l.any (isName n)
def docOne (l : List APair) (n : ByteArray) (vals : List ByteArray) : Bool := l.any fun p => isName n p && vals.any fun v => decide (v = p.val)

theorem docHas_eq (l : List APair) (n : ByteArray) : docHas l n = (labFind l n).isSome := by
 unfold docHas labFind
 rw [Option.isSome_map, Bool.eq_iff_iff, List.any_eq_true, Option.isSome_iff_exists]
 constructor
 ·rintro ⟨p, hp, h⟩
  cases hf : l.find? (isName n) with
  | none => exact absurd h (by simpa using List.find?_eq_none.1 hf p hp)
  | some q => exact ⟨q, rfl⟩
 ·rintro ⟨q, hq⟩
  exact ⟨q, List.mem_of_find?_eq_some hq, List.find?_some hq⟩

theorem docOne_eq {l : List APair} (h : labelsMay l = true) (n : ByteArray) (vals : List ByteArray) : docOne l n vals = labAmong l n vals := by
 unfold docOne labAmong
 rw [Bool.eq_iff_iff, List.any_eq_true]
 constructor
 ·rintro ⟨p, hp, h1⟩
  simp only [Bool.and_eq_true, isName, decide_eq_true_eq, List.any_eq_true] at h1
  obtain ⟨i, hi⟩ := List.getElem?_of_mem hp
  rw [(labFind_some h).2 ⟨i, p, hi, h1.1, rfl⟩]
  obtain ⟨v, hv, e⟩ := h1.2
  exact hasStr_iff.2 (e ▸ hv)
 ·intro h1
  cases hf : labFind l n with
  | none => rw [hf] at h1; cases h1
  | some v =>
    rw [hf] at h1
    obtain ⟨i, p, hi, hn, rfl⟩ := (labFind_some h).1 hf
    exact ⟨p, List.mem_of_getElem? hi, by simp only [Bool.and_eq_true, isName, decide_eq_true_eq, List.any_eq_true]; exact ⟨hn, p.val, hasStr_iff.1 h1, rfl⟩⟩


theorem ask_kind {n : ANeed} (h : askMay n = true) : n.kind = 1 ∨ n.kind = 2 ∨ n.kind = 3 ∨ n.kind = 4 := by
 have := (askMay_iff n).1 h
 omega

theorem met_doc {n : ANeed} {l : List APair} (hn : askMay n = true) (hl : labelsMay l = true) :
 metNeed n l = (if n.kind = 1 then docOne l n.name n.vals else if n.kind = 2 then !docOne l n.name n.vals else if n.kind = 3 then docHas l n.name else !docHas l n.name) := by
 unfold metNeed metBy
 rw [hn, hl, docHas_eq, docOne_eq hl]
 simp

set_option maxHeartbeats 4000000 in
theorem ref8_Met (n : ANeed) (hn : n.vals.length ≤ 1000000) (hv : ∀ s ∈ n.vals, s.size ≤ 1000000) (l : List APair) (hl : l.length ≤ 1000000) (hlv : ∀ p ∈ l, p.val.size ≤ 1000000) :
 Pure Tryz.prog 127 [n.d, .pd (.slice (rows APair.pd l))] (fun d => d = bln (metNeed n l)) := by
 refine pure_of_run follows an_zsqnl Tryz.func127 rfl ok_zsqnl.1 ok_zsqnl.2 (by simp [Tryz.ntmps127]) ?_
 rw [run_start]
 simp only [ac_zsqnl, go_sem, simprocAttr]
 refine (ref8_One n hn hv).callW (enters_of Tryz.func167 rfl rfl) _ rfl rfl ?_
 rintro _ rfl
 cases h1 : askMay n
 ·simp only [go_sem, simprocAttr]
  simp only [retK, resD, retL, oneD, simprocAttr, Tryz.results127]
  exact ⟨_, rfl, rfl, by simp [metNeed, h1, D.pub]⟩
 simp only [go_sem, simprocAttr]
 refine (ref8_May l hl hlv).callW (enters_of Tryz.func64 rfl rfl) _ rfl rfl ?_
 rintro _ rfl
 cases h2 : labelsMay l
 ·simp only [go_sem, simprocAttr]
  simp only [retK, resD, retL, oneD, simprocAttr, Tryz.results127]
  exact ⟨_, rfl, rfl, by simp [metNeed, h2, D.pub]⟩
 have hdoc := met_doc h1 h2
 simp only [go_sem, simprocAttr]
 refine loopS (fun k st => ∃ i : Nat, k = l.length - i ∧ i ≤ l.length ∧
  st = ⟨[(1, .pd (.slice (rows APair.pd l))), (2, .ptr 2 0), (5, bln (docHas (l.take i) n.name)), (6, bln (docOne (l.take i) n.name n.vals)), (7, int i)], [(2, [int n.kind, str n.name, .pd (.slice (strs n.vals))])], [], .no⟩) l.length _ ?_ ⟨0, rfl, by omega, rfl⟩ ?_
 ·rw [show docHas (l.take 0) n.name = false from rfl, show docOne (l.take 0) n.name n.vals = false from rfl]
  exact lessA
 rintro k st ⟨i, rfl, hi, rfl⟩
 have hw := i64_succ (show i < 1000000000 by omega)
 by_cases hlt : i < l.length
 rotate_left
 ·have h3 : ((i : Int) < (l.length : Int)) = False := eq_false (by omega)
  rw [List.take_of_length_le (by omega)]
  generalize docHas l n.name = A at hdoc ⊢
  generalize docOne l n.name n.vals = B at hdoc ⊢
  rcases ask_kind h1 with hk | hk | hk | hk
  ·have k1 := eq_true hk
   simp only [go_sem, simprocAttr, h3, k1]
   simp only [retK, resD, retL, oneD, simprocAttr, Tryz.results127]
   exact ⟨_, rfl, rfl, by rw [hdoc]; simp [hk, D.pub]⟩
  ·have k1 : (n.kind = 1) = False := eq_false (by omega)
   have k2 := eq_true hk
   simp only [go_sem, simprocAttr, h3, k1, k2]
   simp only [retK, resD, retL, oneD, simprocAttr, Tryz.results127]
   exact ⟨_, rfl, rfl, by rw [hdoc]; simp [hk, D.pub]⟩
  ·have k1 : (n.kind = 1) = False := eq_false (by omega)
   have k2 : (n.kind = 2) = False := eq_false (by omega)
   have k3 := eq_true hk
   simp only [go_sem, simprocAttr, h3, k1, k2, k3]
   simp only [retK, resD, retL, oneD, simprocAttr, Tryz.results127]
   exact ⟨_, rfl, rfl, by rw [hdoc]; simp [hk, D.pub]⟩
  ·have k1 : (n.kind = 1) = False := eq_false (by omega)
   have k2 : (n.kind = 2) = False := eq_false (by omega)
   have k3 : (n.kind = 3) = False := eq_false (by omega)
   simp only [go_sem, simprocAttr, h3, k1, k2, k3]
   simp only [retK, resD, retL, oneD, simprocAttr, Tryz.results127]
   exact ⟨_, rfl, rfl, by rw [hdoc]; simp [hk, D.pub]⟩
 obtain ⟨x, hx⟩ := at_lt hlt
 have h3 : ((i : Int) < (l.length : Int)) = True := eq_true (by omega)
 have s1 : docHas (l.take (i + 1)) n.name = (docHas (l.take i) n.name || decide (x.name = n.name)) := by
  unfold docHas
  rw [take_at hx, List.any_append]
  simp [isName]
 have s2 : docOne (l.take (i + 1)) n.name n.vals = (docOne (l.take i) n.name n.vals || (decide (x.name = n.name) && n.vals.any fun v => decide (v = x.val))) := by
  unfold docOne
  rw [take_at hx, List.any_append]
  simp [isName]
 generalize docHas (l.take i) n.name = A at s1 ⊢
 generalize docOne (l.take i) n.name n.vals = B at s2 ⊢
 by_cases hq : x.name = n.name
 rotate_left
 ·have hq' := eq_false hq
  rw [decide_eq_false hq, Bool.or_false] at s1
  rw [decide_eq_false hq, Bool.false_and, Bool.or_false] at s2
  simp only [go_sem, simprocAttr, rows_get hx, h3, hq', hw]
  refine ⟨l.length - (i + 1), _, by omega, ?_, i + 1, rfl, by omega, rfl⟩
  rw [s1, s2]
  exact lessA
 have hq' := eq_true hq
 rw [decide_eq_true hq, Bool.or_true] at s1
 rw [decide_eq_true hq, Bool.true_and] at s2
 simp only [go_sem, simprocAttr, rows_get hx, h3, hq']
 refine loopS (fun k st => ∃ j : Nat, k = n.vals.length - j ∧ j ≤ n.vals.length ∧
  st = ⟨[(1, .pd (.slice (rows APair.pd l))), (2, .ptr 2 0), (5, bln true), (6, bln (B || (n.vals.take j).any fun v => decide (v = x.val))), (7, int i), (8, int j)], [(2, [int n.kind, str n.name, .pd (.slice (strs n.vals))])], [], .no⟩) n.vals.length _ ?_ ⟨0, rfl, by omega, rfl⟩ ?_
 ·rw [List.take_zero, List.any_nil, Bool.or_false]
  exact lessA
 rintro k st ⟨j, rfl, hj, rfl⟩
 have hwj := i64_succ (show j < 1000000000 by omega)
 by_cases hjl : j < n.vals.length
 ·obtain ⟨v, hv⟩ := at_lt hjl
  have h4 : ((j : Int) < (n.vals.length : Int)) = True := eq_true (by omega)
  have s3 : (B || (n.vals.take (j + 1)).any fun v => decide (v = x.val)) = ((B || (n.vals.take j).any fun v => decide (v = x.val)) || decide (v = x.val)) := by
   rw [take_at hv, List.any_append, Bool.or_assoc]
   simp
  generalize (B || (n.vals.take j).any fun v => decide (v = x.val)) = C at s3 ⊢
  cases C
  ·simp only [go_sem, simprocAttr, rows_get hx, rows_get hv, h4, hwj]
   refine ⟨n.vals.length - (j + 1), _, by omega, ?_, j + 1, rfl, by omega, rfl⟩
   rw [s3, Bool.false_or]
   exact lessA
  ·simp only [go_sem, simprocAttr, h4, hwj]
   refine ⟨n.vals.length - (j + 1), _, by omega, ?_, j + 1, rfl, by omega, rfl⟩
   rw [s3, Bool.true_or]
   exact lessA
 have h4 : ((j : Int) < (n.vals.length : Int)) = False := eq_false (by omega)
 rw [List.take_of_length_le (by omega)]
 simp only [go_sem, simprocAttr, h4, hw]
 refine ⟨l.length - (i + 1), _, by omega, ?_, i + 1, rfl, by omega, rfl⟩
 rw [s1, s2]
 exact lessA

theorem any_iff_take {α : Type} {p : α → Bool} {l : List α} {i : Nat} {x : α} (hx : l[i]? = some x) (h : p x = true) : l.any p = true := List.any_eq_true.2 ⟨x, List.mem_of_getElem? hx, h⟩

set_option maxHeartbeats 2000000 in
theorem ref8_All (ns : List ANeed) (hs : ns.length ≤ 1000000) (hn : ∀ n ∈ ns, n.vals.length ≤ 1000000) (hv : ∀ n ∈ ns, ∀ s ∈ n.vals, s.size ≤ 1000000) (l : List APair) (hl : l.length ≤ 1000000) (hlv : ∀ p ∈ l, p.val.size ≤ 1000000) :
 Pure Tryz.prog 71 [.pd (.slice (rows ANeed.pd ns)), .pd (.slice (rows APair.pd l))] (fun d => d = bln (labelsAll ns l)) := by
 refine pure_of_run follows an_zho5m Tryz.func71 rfl ok_zho5m.1 ok_zho5m.2 (by simp [Tryz.ntmps71]) ?_
 rw [run_start]
 simp only [ac_zho5m, go_sem, simprocAttr]
 refine loopS (fun k st => ∃ i : Nat, k = ns.length - i ∧ i ≤ ns.length ∧ ((ns.take i).any fun n => !metNeed n l) = false ∧
  st = ⟨[(0, .pd (.slice (rows ANeed.pd ns))), (1, .pd (.slice (rows APair.pd l))), (5, int i)], [], [], .no⟩) ns.length _ ?_ ⟨0, rfl, by omega, rfl, rfl⟩ ?_
 ·exact lessA
 rintro k st ⟨i, rfl, hi, ha, rfl⟩
 have hw := i64_succ (show i < 1000000000 by omega)
 by_cases hlt : i < ns.length
 ·obtain ⟨x, hx⟩ := at_lt hlt
  have hmem := List.mem_of_getElem? hx
  have h1 : ((i : Int) < (ns.length : Int)) = True := eq_true (by omega)
  simp only [go_sem, simprocAttr, rows_get hx, h1]
  refine (ref8_Met x (hn x hmem) (hv x hmem) l hl hlv).callW (enters_of Tryz.func127 rfl rfl) _ rfl rfl ?_
  rintro _ rfl
  cases hm : metNeed x l
  ·simp only [go_sem, simprocAttr]
   simp only [retK, resD, retL, oneD, simprocAttr, Tryz.results71]
   refine ⟨_, rfl, rfl, congrArg bln ?_⟩
   unfold labelsAll
   rw [any_iff_take hx (by rw [hm]; rfl)]
   simp
  ·simp only [go_sem, simprocAttr, hw]
   refine ⟨ns.length - (i + 1), _, by omega, ?_, i + 1, rfl, by omega, by rw [take_at hx, List.any_append, ha]; simp [hm], rfl⟩
   exact lessA
 have h1 : ((i : Int) < (ns.length : Int)) = False := eq_false (by omega)
 rw [List.take_of_length_le (by omega)] at ha
 have he : labelsAll ns l = (needsMay ns && labelsMay l) := by unfold labelsAll; rw [ha]; simp
 rw [he]
 simp only [go_sem, simprocAttr, h1]
 refine (ref8_Needs ns hs hn hv).callW (enters_of Tryz.func120 rfl rfl) _ rfl rfl ?_
 rintro _ rfl
 cases needsMay ns
 ·simp only [go_sem, simprocAttr]
  simp only [retK, resD, retL, oneD, simprocAttr, Tryz.results71]
  exact ⟨_, rfl, rfl, rfl⟩
 ·simp only [go_sem, simprocAttr]
  refine (ref8_May l hl hlv).callW (enters_of Tryz.func64 rfl rfl) _ rfl rfl ?_
  rintro _ rfl
  simp only [go_sem, simprocAttr]
  simp only [retK, resD, retL, oneD, simprocAttr, Tryz.results71]
  exact ⟨_, rfl, rfl, rfl⟩


theorem ref7_turns (f : AFilter) : Pure Tryz.prog 231 [f.d] (fun d => d = bln (fturns f)) := by
 refine pure_of_run follows an_zarsw Tryz.func231 rfl ok_zarsw.1 ok_zarsw.2 (by simp [Tryz.ntmps231]) ?_
 rw [run_start]
 simp only [ac_zarsw, go_sem, simprocAttr]
 (repeat' (first | (refine GifP.mk (fun _ => ?_) (fun _ => ?_)) | (refine Gif.mk (fun _ => ?_) (fun _ => ?_)) | ((first | refine (ref1_Name _).callW (enters_of Tryz.func78 rfl rfl) _ rfl rfl ?_ | refine (ref3_Is _).callW (enters_of Tryz.func233 rfl rfl) _ rfl rfl ?_ | refine (ref3_Above _).callW (enters_of Tryz.func234 rfl rfl) _ rfl rfl ?_); rintro _ rfl; try simp only [go_sem, simprocAttr]))) <;> (simp only [retK, resD, retL, oneD, simprocAttr, Tryz.results231]; exact ⟨_, rfl, rfl, congrArg bln (by simp_all [fturns, pathMay, pathAbove])⟩)

theorem app_empty (a b : ByteArray) : a ++ b = ⟨#[]⟩ ↔ a = ⟨#[]⟩ ∧ b = ⟨#[]⟩ := by
 rw [size0, size0, size0, ByteArray.size_append]
 omega

set_option maxHeartbeats 4000000 in
theorem ref7_May (f : AFilter) (h : f.ok) (hs : f.host.size ≤ 1000000 ∧ f.path.size ≤ 1000000) : Pure Tryz.prog 206 [f.d] (fun d => d = bln (filterMay f)) := by
 have hcat : (f.host.size + f.path.size ≤ 9223372036854775807) = True := eq_true (by omega)
 refine pure_of_run follows an_z6xll Tryz.func206 rfl ok_z6xll.1 ok_z6xll.2 (by simp [Tryz.ntmps206]) ?_
 rw [run_start]
 simp only [ac_z6xll, go_sem, simprocAttr, hcat]
 (repeat' (first | (refine GifP.mk (fun _ => ?_) (fun _ => ?_)) | (refine Gif.mk (fun _ => ?_) (fun _ => ?_)) | ((first | refine (ref5_Token _ h.1).callW (enters_of Tryz.func211 rfl rfl) _ rfl rfl ?_ | refine (ref5_Value _ h.2).callW (enters_of Tryz.func212 rfl rfl) _ rfl rfl ?_ | refine (ref7_turns f).callW (enters_of Tryz.func231 rfl rfl) _ rfl rfl ?_); rintro _ rfl; try simp only [go_sem, simprocAttr, hcat]))) <;> (simp only [retK, resD, retL, oneD, simprocAttr, Tryz.results206]; exact ⟨_, rfl, rfl, congrArg bln (by simp_all [filterMay, fzero, app_empty] <;> (intros; omega))⟩)

theorem filters_from {l : List AFilter} : ∀ {k i : Nat}, filtersFrom l k i = true ↔ ∀ (j : Nat) (x : AFilter), i ≤ j → j < i + k → l[j]? = some x → filterMay x = true ∧ (l.take j).any (likeF x) = false
 | 0, i => by
   simp only [filtersFrom, true_iff]
   intro j x h1 h2; omega
 | k + 1, i => by
   simp only [filtersFrom, Bool.and_eq_true, filters_from]
   constructor
   ·rintro ⟨h1, h2⟩ j x hj hk hx
    rcases Nat.eq_or_lt_of_le hj with e | e
    ·subst e; rw [hx] at h1; simpa using h1
    ·exact h2 j x e (by omega) hx
   ·intro h
    refine ⟨?_, fun j x hj hk hx => h j x (by omega) (by omega) hx⟩
    cases hx : l[i]? with
    | none => rfl
    | some x => simpa using h i x (Nat.le_refl _) (by omega) hx

def turning (f : AFilter) : Bool := decide (3 < f.kind)

theorem turner_of {f : AFilter} (h : filterMay f = true) : fturner f = turning f := by
 unfold filterMay at h
 simp only [fturner, turning]
 rw [Bool.eq_iff_iff]
 simp only [Bool.or_eq_true, decide_eq_true_eq]
 repeat' split at h
 all_goals first | omega | cases h

theorem count_one {α : Type} {p : α → Bool} : ∀ {l : List α}, l.countP p ≤ 1 ↔ l.Pairwise (fun a b => ¬ (p a = true ∧ p b = true))
 | [] => by simp
 | a :: l => by
   rw [List.pairwise_cons, ← count_one (l := l)]
   by_cases ha : p a = true
   ·rw [List.countP_cons_of_pos ha]
    have h0 : l.countP p = 0 ↔ ∀ b ∈ l, ¬ (p a = true ∧ p b = true) := by
     rw [List.countP_eq_zero]
     simp [ha]
    rw [← h0]
    omega
   ·rw [List.countP_cons_of_neg ha]
    simp [ha]

theorem filtersAll_iff (l : List AFilter) : filtersAll l = true ↔ (l.countP turning ≤ 1 ∧ l.length ≤ 8) ∧
 ∀ (j : Nat) (x : AFilter), l[j]? = some x → filterMay x = true ∧ ∀ (k : Nat) (y : AFilter), k < j → l[k]? = some y → ¬ (y.kind = x.kind ∧ foldSame y.name x.name = true) := by
 simp only [filtersAll, Bool.and_eq_true, decide_eq_true_eq, filters_from]
 have hpw : l.countP turning ≤ 1 ↔ ∀ (j : Nat) (x : AFilter), l[j]? = some x → ∀ (k : Nat) (y : AFilter), k < j → l[k]? = some y → ¬ (turning y = true ∧ turning x = true) := by
  rw [count_one, List.pairwise_iff_getElem]
  constructor
  ·intro h j x hx k y hk hy
   obtain ⟨h1, rfl⟩ := List.getElem?_eq_some_iff.1 hx
   obtain ⟨h2, rfl⟩ := List.getElem?_eq_some_iff.1 hy
   exact h k j h2 h1 hk
  ·intro h k j h2 h1 hk
   exact h j _ (List.getElem?_eq_getElem h1) k _ hk (List.getElem?_eq_getElem h2)
 rw [hpw]
 have hany : ∀ (j : Nat) (x : AFilter), (l.take j).any (likeF x) = false ↔ ∀ (k : Nat) (y : AFilter), k < j → l[k]? = some y → likeF x y = false := fun j x => by
  rw [any_at]
  constructor
  ·intro h k y hk hy
   exact h k y (by rw [List.getElem?_take, if_pos hk]; exact hy)
  ·intro h k y hy
   rw [List.getElem?_take] at hy
   split at hy
   ·exact h k y (by assumption) hy
   ·cases hy
 constructor
 ·rintro ⟨h1, h2⟩
  have h3 : ∀ (j : Nat) (x : AFilter), l[j]? = some x → filterMay x = true ∧ ∀ (k : Nat) (y : AFilter), k < j → l[k]? = some y → likeF x y = false := fun j x hx => by
   have h4 := h1 j x (Nat.zero_le _) (by have := (List.getElem?_eq_some_iff.1 hx).1; omega) hx
   exact ⟨h4.1, (hany j x).1 h4.2⟩
  refine ⟨⟨fun j x hx k y hk hy e => ?_, h2⟩, fun j x hx => ⟨(h3 j x hx).1, fun k y hk hy e => ?_⟩⟩
  ·have h5 := (h3 j x hx).2 k y hk hy
   rw [likeF, turner_of (h3 j x hx).1, turner_of (h3 k y hy).1, e.1, e.2] at h5
   simp at h5
  ·have h5 := (h3 j x hx).2 k y hk hy
   rw [likeF, e.2] at h5
   simp [e.1] at h5
 ·rintro ⟨⟨h1, h2⟩, h3⟩
  refine ⟨fun j x _ _ hx => ⟨(h3 j x hx).1, (hany j x).2 fun k y hk hy => ?_⟩, h2⟩
  have h4 := (h3 j x hx).2 k y hk hy
  have h5 := h1 j x hx k y hk hy
  rw [likeF, turner_of (h3 j x hx).1, turner_of (h3 k y hy).1]
  cases ht : turning y <;> cases ht' : turning x <;> cases hf : foldSame y.name x.name <;> simp_all

set_option maxHeartbeats 4000000 in
theorem ref7_All (l : List AFilter) (hl : l.length ≤ 1000000) (h : ∀ f ∈ l, f.ok) (hs : ∀ f ∈ l, f.host.size ≤ 1000000 ∧ f.path.size ≤ 1000000) : Pure Tryz.prog 168 [.pd (.slice (rows AFilter.pd l))] (fun d => d = bln (filtersAll l)) := by
 refine pure_of_run follows an_z3gij Tryz.func168 rfl ok_z3gij.1 ok_z3gij.2 (by simp [Tryz.ntmps168]) ?_
 rw [run_start]
 simp only [ac_z3gij, go_sem, simprocAttr]
 refine loopS (fun k st => ∃ i : Nat, k = l.length - i ∧ i ≤ l.length ∧ (∀ (j : Nat) (x : AFilter), j < i → l[j]? = some x → filterMay x = true ∧ ∀ (k : Nat) (y : AFilter), k < (j) → l[k]? = some y → ¬ (y.kind = x.kind ∧ foldSame y.name x.name = true)) ∧ st = ⟨[(0, .pd (.slice (rows AFilter.pd l))), (3, int ((l.take i).countP turning : Nat)), (4, int i)], [], [], .no⟩) l.length _ ?_ ⟨0, rfl, by omega, fun _ _ h => absurd h (Nat.not_lt_zero _), rfl⟩ ?_
 ·exact lessA
 rintro k st ⟨i, rfl, hi, hT, rfl⟩
 have hw := i64_succ (show i < 1000000000 by omega)
 obtain ⟨c, hc⟩ : ∃ c, (l.take i).countP turning = c := ⟨_, rfl⟩
 have hcl : c ≤ i := by
  rw [← hc]
  have := List.countP_le_length (p := turning) (l := l.take i)
  rw [List.length_take] at this
  omega
 have hwc := i64_succ (show c < 1000000000 by omega)
 by_cases hlt : i < l.length
 ·obtain ⟨x, hx⟩ := at_lt hlt
  have hmem := List.mem_of_getElem? hx
  have h1 : ((i : Int) < (l.length : Int)) = True := eq_true (by omega)
  have hst : (l.take (i + 1)).countP turning = c + (if turning x = true then 1 else 0) := by
   rw [take_at hx, List.countP_append, hc, List.countP_singleton]
  have bad : ¬ (filterMay x = true ∧ ∀ (k : Nat) (y : AFilter), k < i → l[k]? = some y → ¬ (y.kind = x.kind ∧ foldSame y.name x.name = true)) → bln false = bln (filtersAll l) := fun h => bool_no fun e => h (((filtersAll_iff l).1 e).2 i x hx)
  have good : (filterMay x = true ∧ ∀ (k : Nat) (y : AFilter), k < i → l[k]? = some y → ¬ (y.kind = x.kind ∧ foldSame y.name x.name = true)) → ∀ c' st, c' = c + (if turning x = true then 1 else 0) → Weak Tryz.prog st ⟨[(0, .pd (.slice (rows AFilter.pd l))), (3, int (c' : Nat)), (4, int (i + 1 : Nat))], [], [], .no⟩ → Round Tryz.prog (fun k st => ∃ i : Nat, k = l.length - i ∧ i ≤ l.length ∧ (∀ (j : Nat) (x : AFilter), j < i → l[j]? = some x → filterMay x = true ∧ ∀ (k : Nat) (y : AFilter), k < (j) → l[k]? = some y → ¬ (y.kind = x.kind ∧ foldSame y.name x.name = true)) ∧ st = ⟨[(0, .pd (.slice (rows AFilter.pd l))), (3, int ((l.take i).countP turning : Nat)), (4, int i)], [], [], .no⟩) (l.length - i) st := fun h c' st hc' hw =>
   ⟨l.length - (i + 1), _, by omega, hw, i + 1, rfl, by omega, snoc_all hT hx h, by rw [hst, ← hc']⟩
  rw [hc]
  simp only [go_sem, simprocAttr, rows_get hx, h1, hw]
  refine (ref7_May x (h x hmem) (hs x hmem)).callW (enters_of Tryz.func206 rfl rfl) _ rfl rfl ?_
  rintro _ rfl
  simp only [go_sem, simprocAttr, rows_get hx, hw]
  refine Gif.mk (fun hmay => ?_) (fun hmay => ?_)
  rotate_left
  ·simp only [retK, resD, retL, oneD, simprocAttr, Tryz.results168]
   exact ⟨_, rfl, rfl, bad (fun e => by rw [e.1] at hmay; cases hmay)⟩
  refine GifP.mk (fun htn => ?_) (fun htn => ?_)
  ·have ht : turning x = true := decide_eq_true htn
   obtain ⟨c', hc'⟩ : ∃ c', c' = c + 1 := ⟨_, rfl⟩
   simp only [hwc, ← hc']
   refine loopS (fun n st => ∃ k : Nat, n = i - k ∧ k ≤ i ∧ (∀ (k' : Nat) (y : AFilter), k' < k → l[k']? = some y → ¬ (y.kind = x.kind ∧ foldSame y.name x.name = true)) ∧ st = ⟨[(0, .pd (.slice (rows AFilter.pd l))), (3, int c'), (4, int i), (5, int k)], [], [], .no⟩) i _ ?_ ⟨0, rfl, by omega, fun _ _ h => absurd h (Nat.not_lt_zero _), rfl⟩ ?_
   ·exact lessA
   rintro n st ⟨k, rfl, hk, hS, rfl⟩
   have hwk := i64_succ (show k < 1000000000 by omega)
   by_cases hki : k < i
   ·obtain ⟨y, hy⟩ := at_lt (show k < l.length by omega)
    have hmy := List.mem_of_getElem? hy
    have h2 : ((k : Int) < (i : Int)) = True := eq_true (by omega)
    have goodk : (¬ (y.kind = x.kind ∧ foldSame y.name x.name = true)) → ∀ st, Weak Tryz.prog st ⟨[(0, .pd (.slice (rows AFilter.pd l))), (3, int c'), (4, int i), (5, int (k + 1 : Nat))], [], [], .no⟩ → Round Tryz.prog (fun n st => ∃ k : Nat, n = i - k ∧ k ≤ i ∧ (∀ (k' : Nat) (y : AFilter), k' < k → l[k']? = some y → ¬ (y.kind = x.kind ∧ foldSame y.name x.name = true)) ∧ st = ⟨[(0, .pd (.slice (rows AFilter.pd l))), (3, int c'), (4, int i), (5, int k)], [], [], .no⟩) (i - k) st := fun h st hw => ⟨i - (k + 1), _, by omega, hw, k + 1, rfl, by omega, snoc_all hS hy h, rfl⟩
    have badk : ¬ (¬ (y.kind = x.kind ∧ foldSame y.name x.name = true)) → bln false = bln (filtersAll l) := fun h => bad (fun e => h (e.2 k y hki hy))
    simp only [go_sem, simprocAttr, rows_get hx, rows_get hy, h2, hwk]
    repeat' (first | refine GifP.mk (fun _ => ?_) (fun _ => ?_) | refine Gif.mk (fun _ => ?_) (fun _ => ?_) | (refine (ref5_Same y.name x.name (h y hmy).1 (h x hmem).1).callX (enters_of Tryz.func207 rfl rfl) _ rfl rfl ?_; rintro _ rfl; simp only [go_sem, simprocAttr, rows_get hx, rows_get hy, hwk]) | refine And.intro ?_ ?_)
    all_goals first
     | (refine goodk (by first | omega | (simp_all; done) | (simp_all; omega)) _ ?_; exact lessA)
     | (simp only [retK, resD, retL, oneD, simprocAttr, Tryz.results168]; exact ⟨_, rfl, rfl, badk (by first | omega | (simp_all; done) | (simp_all; omega))⟩)
   have h2 : ((k : Int) < (i : Int)) = False := eq_false (by omega)
   have hIn : ∀ (k : Nat) (y : AFilter), k < i → l[k]? = some y → ¬ (y.kind = x.kind ∧ foldSame y.name x.name = true) := fun k' y hk' hy => hS k' y (by omega) hy
   clear hS hwk hk
   simp only [go_sem, simprocAttr, rows_get hx, h2, hw]
   first | clear h2 hki k | clear h2 hki

   refine good ⟨hmay, hIn⟩ c' _ (by rw [ht, hc']; rfl) ?_
   exact lessA
  ·have ht : turning x = false := decide_eq_false htn
   refine loopS (fun n st => ∃ k : Nat, n = i - k ∧ k ≤ i ∧ (∀ (k' : Nat) (y : AFilter), k' < k → l[k']? = some y → ¬ (y.kind = x.kind ∧ foldSame y.name x.name = true)) ∧ st = ⟨[(0, .pd (.slice (rows AFilter.pd l))), (3, int c), (4, int i), (5, int k)], [], [], .no⟩) i _ ?_ ⟨0, rfl, by omega, fun _ _ h => absurd h (Nat.not_lt_zero _), rfl⟩ ?_
   ·exact lessA
   rintro n st ⟨k, rfl, hk, hS, rfl⟩
   have hwk := i64_succ (show k < 1000000000 by omega)
   by_cases hki : k < i
   ·obtain ⟨y, hy⟩ := at_lt (show k < l.length by omega)
    have hmy := List.mem_of_getElem? hy
    have h2 : ((k : Int) < (i : Int)) = True := eq_true (by omega)
    have goodk : (¬ (y.kind = x.kind ∧ foldSame y.name x.name = true)) → ∀ st, Weak Tryz.prog st ⟨[(0, .pd (.slice (rows AFilter.pd l))), (3, int c), (4, int i), (5, int (k + 1 : Nat))], [], [], .no⟩ → Round Tryz.prog (fun n st => ∃ k : Nat, n = i - k ∧ k ≤ i ∧ (∀ (k' : Nat) (y : AFilter), k' < k → l[k']? = some y → ¬ (y.kind = x.kind ∧ foldSame y.name x.name = true)) ∧ st = ⟨[(0, .pd (.slice (rows AFilter.pd l))), (3, int c), (4, int i), (5, int k)], [], [], .no⟩) (i - k) st := fun h st hw => ⟨i - (k + 1), _, by omega, hw, k + 1, rfl, by omega, snoc_all hS hy h, rfl⟩
    have badk : ¬ (¬ (y.kind = x.kind ∧ foldSame y.name x.name = true)) → bln false = bln (filtersAll l) := fun h => bad (fun e => h (e.2 k y hki hy))
    simp only [go_sem, simprocAttr, rows_get hx, rows_get hy, h2, hwk]
    repeat' (first | refine GifP.mk (fun _ => ?_) (fun _ => ?_) | refine Gif.mk (fun _ => ?_) (fun _ => ?_) | (refine (ref5_Same y.name x.name (h y hmy).1 (h x hmem).1).callX (enters_of Tryz.func207 rfl rfl) _ rfl rfl ?_; rintro _ rfl; simp only [go_sem, simprocAttr, rows_get hx, rows_get hy, hwk]) | refine And.intro ?_ ?_)
    all_goals first
     | (refine goodk (by first | omega | (simp_all; done) | (simp_all; omega)) _ ?_; exact lessA)
     | (simp only [retK, resD, retL, oneD, simprocAttr, Tryz.results168]; exact ⟨_, rfl, rfl, badk (by first | omega | (simp_all; done) | (simp_all; omega))⟩)
   have h2 : ((k : Int) < (i : Int)) = False := eq_false (by omega)
   have hIn : ∀ (k : Nat) (y : AFilter), k < i → l[k]? = some y → ¬ (y.kind = x.kind ∧ foldSame y.name x.name = true) := fun k' y hk' hy => hS k' y (by omega) hy
   clear hS hwk hk
   simp only [go_sem, simprocAttr, rows_get hx, h2, hw]
   first | clear h2 hki k | clear h2 hki

   refine good ⟨hmay, hIn⟩ c _ (by rw [ht]; rfl) ?_
   exact lessA
 have h1 : ((i : Int) < (l.length : Int)) = False := eq_false (by omega)
 have hall : ∀ (j : Nat) (x : AFilter), l[j]? = some x → filterMay x = true ∧ ∀ (k : Nat) (y : AFilter), k < (j) → l[k]? = some y → ¬ (y.kind = x.kind ∧ foldSame y.name x.name = true) := fun j x hx => hT j x (by have := (List.getElem?_eq_some_iff.1 hx).1; omega) hx
 rw [List.take_of_length_le (by omega)] at hc ⊢
 rw [hc]
 clear hT hw hwc
 simp only [go_sem, simprocAttr, h1]
 repeat' (first | refine GifP.mk (fun _ => ?_) (fun _ => ?_) | refine Gif.mk (fun _ => ?_) (fun _ => ?_))
 all_goals
  simp only [retK, resD, retL, oneD, simprocAttr, Tryz.results168]
  first
   | exact ⟨_, rfl, rfl, bool_no fun e => by have := ((filtersAll_iff l).1 e).1.1; rw [hc] at this; omega⟩
   | exact ⟨_, rfl, rfl, bool_dec ⟨fun h => (filtersAll_iff l).2 ⟨⟨by rw [hc]; omega, by omega⟩, hall⟩, fun h => by have := ((filtersAll_iff l).1 h).1.2; omega⟩⟩


def few (s : ByteArray) : ByteArray := if s.size ≤ 100 then s else s.extract 0 100

set_option maxRecDepth 100000 in
theorem law1_Few (s : ByteArray) : Pure Tryz.prog 21 [str s] (fun d => d = str (few s)) := by
 refine pure_of_run follows an_zba9k Tryz.func21 rfl ok_zba9k.1 ok_zba9k.2 (by simp [Tryz.ntmps21]) ?_
 rw [run_start]
 by_cases h : 100 < s.size
 ·have h1 : (100 : Int) < (s.size : Int) := by omega
  have h2 : 100 ≤ s.size := by omega
  simp only [ac_zba9k, go_sem, simprocAttr, h1, h2]
  simp only [retK, resD, retL, oneD, simprocAttr, Tryz.results21]
  exact ⟨_, rfl, rfl, by simp [few, show ¬ s.size ≤ 100 by omega, D.pub]⟩
 ·have h1 : ¬ (100 : Int) < (s.size : Int) := by omega
  simp only [ac_zba9k, go_sem, simprocAttr, h1]
  simp only [retK, resD, retL, oneD, simprocAttr, Tryz.results21]
  exact ⟨_, rfl, rfl, by simp [few, show s.size ≤ 100 by omega, D.pub]⟩

def fewRef (r : ARef) : ARef := ⟨r.kind, few r.space, few r.name⟩

set_option maxRecDepth 100000 in
theorem law9_FewRef (r : ARef) : Pure Tryz.prog 20 [r.d] (fun d => d = (fewRef r).d) := by
 refine pure_of_run follows an_zn42u Tryz.func20 rfl ok_zn42u.1 ok_zn42u.2 (by simp [Tryz.ntmps20]) ?_
 rw [run_start]
 simp only [ac_zn42u, go_sem, simprocAttr, go_sem]
 refine (law1_Few r.space).callX (enters_of Tryz.func21 rfl rfl) _ rfl rfl ?_
 rintro d rfl
 simp only [go_sem, simprocAttr, go_sem]
 refine (law1_Few r.name).callX (enters_of Tryz.func21 rfl rfl) _ rfl rfl ?_
 rintro d rfl
 simp only [go_sem, simprocAttr, go_sem]
 simp only [retK, resD, resA, AOp.ex, St.ev, retL, oneD, simprocAttr, ret_zn42u]
 exact ⟨_, rfl, rfl, rfl⟩

end Go.Proofs.YtcnhcamimcpinaaGreatDoor


