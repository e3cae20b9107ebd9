/- Texts of the prover's, joined: FA D2 E7 D6 FF FH FI I0 D1 E4 FD D9 H1 R5 DE L1 L2 JA. -/
import Derived.Test.YtklolokoaooppaaGreatDoorY5
import Derived.Test.YtklolokoaooppaaGreatDoorProg
import Derived.KernelRfl
import Derived.Lib.DecodeN
import Derived.Lib.IndexLaws

namespace Go.Proofs.YtklolokoaooppaaGreatDoor
open Go Go.RowKit
set_option linter.unusedSimpArgs false
set_option linter.unusedVariables false
set_option maxRecDepth 100000

def AObj.zero (r : ARef) : AObj := ⟨r, false, [], [], ⟨#[]⟩, [], [], [], [], [], []⟩

theorem AObj.zero_ok (r : ARef) : (AObj.zero r).ok := ⟨by simp [AObj.zero], by simp [AObj.zero], by simp [AObj.zero], by simp [AObj.zero], by simp [AObj.zero], by simp [AObj.zero], by simp [AObj.zero], by simp [AObj.zero], by simp [AObj.zero], by simp [AObj.zero]⟩

def AObj.strip (o : AObj) : AObj :=
  if o.ref.kind = 1 ∨ o.ref.kind = 4 then { o with good := false }
  else if o.ref.kind = 2 then { o with labels := [] }
  else if o.ref.kind = 3 then { o with ports := [] }
  else if o.ref.kind = 5 then { o with listeners := [], cls := ⟨#[]⟩ }
  else if o.ref.kind = 6 then { o with parents := [], hosts := [], rules := [] }
  else { o with from_ := [], to_ := [] }

def kindMay (o : AObj) : Bool :=
  if o.ref.kind = 1 ∨ o.ref.kind = 4 then true
  else if o.ref.kind = 2 then labelsMay o.labels
  else if o.ref.kind = 3 then serviceMay o.ports
  else if o.ref.kind = 5 then gatewayMay o.cls o.listeners
  else if o.ref.kind = 6 then routeMay o.parents o.hosts o.rules
  else grantMay o.from_ o.to_

def objMay (o : AObj) : Bool := mayRef o.ref && kindMay o && objSame o.strip (AObj.zero o.ref)

theorem mayRef_kind {r : ARef} (h : mayRef r = true) : r.kind = 1 ∨ r.kind = 2 ∨ r.kind = 3 ∨ r.kind = 4 ∨ r.kind = 5 ∨ r.kind = 6 ∨ r.kind = 7 := by
  unfold mayRef at h
  split at h
  · omega
  · split at h
    · omega
    · simp [okind] at h; omega

theorem strip_ok {o s : AObj} (h : o.ok) (h1 : s.labels = o.labels ∨ s.labels = []) (h2 : s.ports = o.ports ∨ s.ports = []) (h3 : s.listeners = o.listeners ∨ s.listeners = []) (h4 : s.parents = o.parents ∨ s.parents = []) (h5 : s.hosts = o.hosts ∨ s.hosts = [])
    (h6 : s.rules = o.rules ∨ s.rules = []) (h7 : s.from_ = o.from_ ∨ s.from_ = []) (h8 : s.to_ = o.to_ ∨ s.to_ = []) : s.ok where
  la := by rcases h1 with e | e <;> rw [e] <;> first | exact h.la | simp
  po := by rcases h2 with e | e <;> rw [e] <;> first | exact h.po | simp
  li := by rcases h3 with e | e <;> rw [e] <;> first | exact h.li | simp
  pa := by rcases h4 with e | e <;> rw [e] <;> first | exact h.pa | simp
  ho := by rcases h5 with e | e <;> rw [e] <;> first | exact h.ho | simp
  ru := by rcases h6 with e | e <;> rw [e] <;> first | exact h.ru | simp
  fr := by rcases h7 with e | e <;> rw [e] <;> first | exact h.fr | simp
  to := by rcases h8 with e | e <;> rw [e] <;> first | exact h.to | simp
  lis := by rcases h3 with e | e <;> rw [e] <;> first | exact h.lis | simp
  rus := by rcases h6 with e | e <;> rw [e] <;> first | exact h.rus | simp

set_option maxHeartbeats 4000000 in
theorem object_May (o : AObj) (h : o.ok) : Pure Tryz.prog 52 [o.d] (fun d => d = bln (objMay o)) := by
  refine pure_of_run follows an_zfwje Tryz.func52 rfl ok_zfwje.1 ok_zfwje.2 (by simp [Tryz.ntmps52]) ?_
  rw [run_start]
  simp (maxSteps := 5000000) only [ac_zfwje, oo, og, tp, ci, cq, mq, lq, fi, sr, go_sem, contS_seq, simprocAttr, go_sem]
  refine (object_MayRef o.ref).callX (enters_of Tryz.func85 rfl rfl) _ rfl rfl ?_
  rintro d rfl
  by_cases hm : mayRef o.ref = true
  · have stop : kindMay o = false → objMay o = false := fun e => by simp [objMay, e]
    have go : ∀ s : AObj, o.strip = s → kindMay o = true → objMay o = objSame s (AObj.zero o.ref) := fun s e1 e2 => by simp [objMay, hm, e1, e2]
    rcases mayRef_kind hm with hk | hk | hk | hk | hk | hk | hk
    · obtain ⟨⟨kd, sp, nm⟩, gd, la, po, cl, li, pa, ho, ru, fr, to⟩ := o
      simp only at hk
      subst hk
      simp (maxSteps := 5000000) only [go_sem, contS_seq, simprocAttr, go_sem, hm]
      refine (thing_class ⟨⟨1, sp, nm⟩, gd, la, po, cl, li, pa, ho, ru, fr, to⟩).callW (enters_of Tryz.func79 rfl rfl) _ false [(9, 500001)] [] [] [] rfl rfl rfl ?_
      rintro d bs ⟨rfl, rfl⟩
      simp (maxSteps := 5000000) only [go_sem, contS_seq, simprocAttr, go_sem]
      have hs : (⟨⟨1, sp, nm⟩, gd, la, po, cl, li, pa, ho, ru, fr, to⟩ : AObj).strip = { (⟨⟨1, sp, nm⟩, gd, la, po, cl, li, pa, ho, ru, fr, to⟩ : AObj) with good := false } := by simp [AObj.strip]
      have hkm : kindMay (⟨⟨1, sp, nm⟩, gd, la, po, cl, li, pa, ho, ru, fr, to⟩ : AObj) = true := by simp [kindMay]
      refine (object_Same ({ (⟨⟨1, sp, nm⟩, gd, la, po, cl, li, pa, ho, ru, fr, to⟩ : AObj) with good := false } : AObj) (AObj.zero ⟨1, sp, nm⟩) (strip_ok h (by simp) (by simp) (by simp) (by simp) (by simp) (by simp) (by simp) (by simp)) (AObj.zero_ok ⟨1, sp, nm⟩)).callX (enters_of Tryz.func86 rfl rfl) _ rfl rfl ?_
      rintro d rfl
      simp (maxSteps := 5000000) only [go_sem, contS_seq, simprocAttr, go_sem]
      simp only [retK, resD, St.get, lk, oneD, D.pub, D.pubs, retL, reduceIte, Nat.reduceEqDiff, Nat.reduceAdd, Nat.reduceLeDiff, Tryz.results52]
      exact ⟨_, rfl, rfl, congrArg bln (go _ hs (by rw [hkm])).symm⟩
    · obtain ⟨⟨kd, sp, nm⟩, gd, la, po, cl, li, pa, ho, ru, fr, to⟩ := o
      simp only at hk
      subst hk
      simp (maxSteps := 5000000) only [go_sem, contS_seq, simprocAttr, go_sem, hm]
      refine (thing_space ⟨⟨2, sp, nm⟩, gd, la, po, cl, li, pa, ho, ru, fr, to⟩ h).callW (enters_of Tryz.func80 rfl rfl) _ false [(9, 500001)] [] [] [] rfl rfl rfl ?_
      rintro d bs ⟨rfl, rfl⟩
      simp (maxSteps := 5000000) only [go_sem, contS_seq, simprocAttr, go_sem]
      have hs : (⟨⟨2, sp, nm⟩, gd, la, po, cl, li, pa, ho, ru, fr, to⟩ : AObj).strip = { (⟨⟨2, sp, nm⟩, gd, la, po, cl, li, pa, ho, ru, fr, to⟩ : AObj) with labels := [] } := by simp [AObj.strip]
      have hkm : kindMay (⟨⟨2, sp, nm⟩, gd, la, po, cl, li, pa, ho, ru, fr, to⟩ : AObj) = labelsMay la := by simp [kindMay]
      refine Gif.mk (fun h1 => ?_) (fun h1 => ?_)
      · refine (object_Same ({ (⟨⟨2, sp, nm⟩, gd, la, po, cl, li, pa, ho, ru, fr, to⟩ : AObj) with labels := [] } : AObj) (AObj.zero ⟨2, sp, nm⟩) (strip_ok h (by simp) (by simp) (by simp) (by simp) (by simp) (by simp) (by simp) (by simp)) (AObj.zero_ok ⟨2, sp, nm⟩)).callX (enters_of Tryz.func86 rfl rfl) _ rfl rfl ?_
        rintro d rfl
        simp (maxSteps := 5000000) only [go_sem, contS_seq, simprocAttr, go_sem]
        simp only [retK, resD, St.get, lk, oneD, D.pub, D.pubs, retL, reduceIte, Nat.reduceEqDiff, Nat.reduceAdd, Nat.reduceLeDiff, Tryz.results52]
        exact ⟨_, rfl, rfl, congrArg bln (go _ hs (by rw [hkm]; exact h1)).symm⟩
      · simp only [retK, resD, St.get, lk, oneD, D.pub, D.pubs, retL, reduceIte, Nat.reduceEqDiff, Nat.reduceAdd, Nat.reduceLeDiff, Tryz.results52]
        exact ⟨_, rfl, rfl, congrArg bln (stop (by rw [hkm]; exact h1)).symm⟩
    · obtain ⟨⟨kd, sp, nm⟩, gd, la, po, cl, li, pa, ho, ru, fr, to⟩ := o
      simp only at hk
      subst hk
      simp (maxSteps := 5000000) only [go_sem, contS_seq, simprocAttr, go_sem, hm]
      refine (thing_service ⟨⟨3, sp, nm⟩, gd, la, po, cl, li, pa, ho, ru, fr, to⟩ h).callW (enters_of Tryz.func81 rfl rfl) _ false [(9, 500001)] [] [] [] rfl rfl rfl ?_
      rintro d bs ⟨rfl, rfl⟩
      simp (maxSteps := 5000000) only [go_sem, contS_seq, simprocAttr, go_sem]
      have hs : (⟨⟨3, sp, nm⟩, gd, la, po, cl, li, pa, ho, ru, fr, to⟩ : AObj).strip = { (⟨⟨3, sp, nm⟩, gd, la, po, cl, li, pa, ho, ru, fr, to⟩ : AObj) with ports := [] } := by simp [AObj.strip]
      have hkm : kindMay (⟨⟨3, sp, nm⟩, gd, la, po, cl, li, pa, ho, ru, fr, to⟩ : AObj) = serviceMay po := by simp [kindMay]
      refine Gif.mk (fun h1 => ?_) (fun h1 => ?_)
      · refine (object_Same ({ (⟨⟨3, sp, nm⟩, gd, la, po, cl, li, pa, ho, ru, fr, to⟩ : AObj) with ports := [] } : AObj) (AObj.zero ⟨3, sp, nm⟩) (strip_ok h (by simp) (by simp) (by simp) (by simp) (by simp) (by simp) (by simp) (by simp)) (AObj.zero_ok ⟨3, sp, nm⟩)).callX (enters_of Tryz.func86 rfl rfl) _ rfl rfl ?_
        rintro d rfl
        simp (maxSteps := 5000000) only [go_sem, contS_seq, simprocAttr, go_sem]
        simp only [retK, resD, St.get, lk, oneD, D.pub, D.pubs, retL, reduceIte, Nat.reduceEqDiff, Nat.reduceAdd, Nat.reduceLeDiff, Tryz.results52]
        exact ⟨_, rfl, rfl, congrArg bln (go _ hs (by rw [hkm]; exact h1)).symm⟩
      · simp only [retK, resD, St.get, lk, oneD, D.pub, D.pubs, retL, reduceIte, Nat.reduceEqDiff, Nat.reduceAdd, Nat.reduceLeDiff, Tryz.results52]
        exact ⟨_, rfl, rfl, congrArg bln (stop (by rw [hkm]; exact h1)).symm⟩
    · obtain ⟨⟨kd, sp, nm⟩, gd, la, po, cl, li, pa, ho, ru, fr, to⟩ := o
      simp only at hk
      subst hk
      simp (maxSteps := 5000000) only [go_sem, contS_seq, simprocAttr, go_sem, hm]
      refine (thing_class ⟨⟨4, sp, nm⟩, gd, la, po, cl, li, pa, ho, ru, fr, to⟩).callW (enters_of Tryz.func79 rfl rfl) _ false [(9, 500001)] [] [] [] rfl rfl rfl ?_
      rintro d bs ⟨rfl, rfl⟩
      simp (maxSteps := 5000000) only [go_sem, contS_seq, simprocAttr, go_sem]
      have hs : (⟨⟨4, sp, nm⟩, gd, la, po, cl, li, pa, ho, ru, fr, to⟩ : AObj).strip = { (⟨⟨4, sp, nm⟩, gd, la, po, cl, li, pa, ho, ru, fr, to⟩ : AObj) with good := false } := by simp [AObj.strip]
      have hkm : kindMay (⟨⟨4, sp, nm⟩, gd, la, po, cl, li, pa, ho, ru, fr, to⟩ : AObj) = true := by simp [kindMay]
      refine (object_Same ({ (⟨⟨4, sp, nm⟩, gd, la, po, cl, li, pa, ho, ru, fr, to⟩ : AObj) with good := false } : AObj) (AObj.zero ⟨4, sp, nm⟩) (strip_ok h (by simp) (by simp) (by simp) (by simp) (by simp) (by simp) (by simp) (by simp)) (AObj.zero_ok ⟨4, sp, nm⟩)).callX (enters_of Tryz.func86 rfl rfl) _ rfl rfl ?_
      rintro d rfl
      simp (maxSteps := 5000000) only [go_sem, contS_seq, simprocAttr, go_sem]
      simp only [retK, resD, St.get, lk, oneD, D.pub, D.pubs, retL, reduceIte, Nat.reduceEqDiff, Nat.reduceAdd, Nat.reduceLeDiff, Tryz.results52]
      exact ⟨_, rfl, rfl, congrArg bln (go _ hs (by rw [hkm])).symm⟩
    · obtain ⟨⟨kd, sp, nm⟩, gd, la, po, cl, li, pa, ho, ru, fr, to⟩ := o
      simp only at hk
      subst hk
      simp (maxSteps := 5000000) only [go_sem, contS_seq, simprocAttr, go_sem, hm]
      refine (thing_gateway ⟨⟨5, sp, nm⟩, gd, la, po, cl, li, pa, ho, ru, fr, to⟩ h).callW (enters_of Tryz.func82 rfl rfl) _ false [(9, 500001)] [] [] [] rfl rfl rfl ?_
      rintro d bs ⟨rfl, rfl⟩
      simp (maxSteps := 5000000) only [go_sem, contS_seq, simprocAttr, go_sem]
      have hs : (⟨⟨5, sp, nm⟩, gd, la, po, cl, li, pa, ho, ru, fr, to⟩ : AObj).strip = { (⟨⟨5, sp, nm⟩, gd, la, po, cl, li, pa, ho, ru, fr, to⟩ : AObj) with listeners := [], cls := ⟨#[]⟩ } := by simp [AObj.strip]
      have hkm : kindMay (⟨⟨5, sp, nm⟩, gd, la, po, cl, li, pa, ho, ru, fr, to⟩ : AObj) = gatewayMay cl li := by simp [kindMay]
      refine Gif.mk (fun h1 => ?_) (fun h1 => ?_)
      · refine (object_Same ({ (⟨⟨5, sp, nm⟩, gd, la, po, cl, li, pa, ho, ru, fr, to⟩ : AObj) with listeners := [], cls := ⟨#[]⟩ } : AObj) (AObj.zero ⟨5, sp, nm⟩) (strip_ok h (by simp) (by simp) (by simp) (by simp) (by simp) (by simp) (by simp) (by simp)) (AObj.zero_ok ⟨5, sp, nm⟩)).callX (enters_of Tryz.func86 rfl rfl) _ rfl rfl ?_
        rintro d rfl
        simp (maxSteps := 5000000) only [go_sem, contS_seq, simprocAttr, go_sem]
        simp only [retK, resD, St.get, lk, oneD, D.pub, D.pubs, retL, reduceIte, Nat.reduceEqDiff, Nat.reduceAdd, Nat.reduceLeDiff, Tryz.results52]
        exact ⟨_, rfl, rfl, congrArg bln (go _ hs (by rw [hkm]; exact h1)).symm⟩
      · simp only [retK, resD, St.get, lk, oneD, D.pub, D.pubs, retL, reduceIte, Nat.reduceEqDiff, Nat.reduceAdd, Nat.reduceLeDiff, Tryz.results52]
        exact ⟨_, rfl, rfl, congrArg bln (stop (by rw [hkm]; exact h1)).symm⟩
    · obtain ⟨⟨kd, sp, nm⟩, gd, la, po, cl, li, pa, ho, ru, fr, to⟩ := o
      simp only at hk
      subst hk
      simp (maxSteps := 5000000) only [go_sem, contS_seq, simprocAttr, go_sem, hm]
      refine (thing_route ⟨⟨6, sp, nm⟩, gd, la, po, cl, li, pa, ho, ru, fr, to⟩ h).callW (enters_of Tryz.func83 rfl rfl) _ false [(9, 500001)] [] [] [] rfl rfl rfl ?_
      rintro d bs ⟨rfl, rfl⟩
      simp (maxSteps := 5000000) only [go_sem, contS_seq, simprocAttr, go_sem]
      have hs : (⟨⟨6, sp, nm⟩, gd, la, po, cl, li, pa, ho, ru, fr, to⟩ : AObj).strip = { (⟨⟨6, sp, nm⟩, gd, la, po, cl, li, pa, ho, ru, fr, to⟩ : AObj) with parents := [], hosts := [], rules := [] } := by simp [AObj.strip]
      have hkm : kindMay (⟨⟨6, sp, nm⟩, gd, la, po, cl, li, pa, ho, ru, fr, to⟩ : AObj) = routeMay pa ho ru := by simp [kindMay]
      refine Gif.mk (fun h1 => ?_) (fun h1 => ?_)
      · refine (object_Same ({ (⟨⟨6, sp, nm⟩, gd, la, po, cl, li, pa, ho, ru, fr, to⟩ : AObj) with parents := [], hosts := [], rules := [] } : AObj) (AObj.zero ⟨6, sp, nm⟩) (strip_ok h (by simp) (by simp) (by simp) (by simp) (by simp) (by simp) (by simp) (by simp)) (AObj.zero_ok ⟨6, sp, nm⟩)).callX (enters_of Tryz.func86 rfl rfl) _ rfl rfl ?_
        rintro d rfl
        simp (maxSteps := 5000000) only [go_sem, contS_seq, simprocAttr, go_sem]
        simp only [retK, resD, St.get, lk, oneD, D.pub, D.pubs, retL, reduceIte, Nat.reduceEqDiff, Nat.reduceAdd, Nat.reduceLeDiff, Tryz.results52]
        exact ⟨_, rfl, rfl, congrArg bln (go _ hs (by rw [hkm]; exact h1)).symm⟩
      · simp only [retK, resD, St.get, lk, oneD, D.pub, D.pubs, retL, reduceIte, Nat.reduceEqDiff, Nat.reduceAdd, Nat.reduceLeDiff, Tryz.results52]
        exact ⟨_, rfl, rfl, congrArg bln (stop (by rw [hkm]; exact h1)).symm⟩
    · obtain ⟨⟨kd, sp, nm⟩, gd, la, po, cl, li, pa, ho, ru, fr, to⟩ := o
      simp only at hk
      subst hk
      simp (maxSteps := 5000000) only [go_sem, contS_seq, simprocAttr, go_sem, hm]
      refine (thing_grant ⟨⟨7, sp, nm⟩, gd, la, po, cl, li, pa, ho, ru, fr, to⟩ h).callW (enters_of Tryz.func84 rfl rfl) _ false [(9, 500001)] [] [] [] rfl rfl rfl ?_
      rintro d bs ⟨rfl, rfl⟩
      simp (maxSteps := 5000000) only [go_sem, contS_seq, simprocAttr, go_sem]
      have hs : (⟨⟨7, sp, nm⟩, gd, la, po, cl, li, pa, ho, ru, fr, to⟩ : AObj).strip = { (⟨⟨7, sp, nm⟩, gd, la, po, cl, li, pa, ho, ru, fr, to⟩ : AObj) with from_ := [], to_ := [] } := by simp [AObj.strip]
      have hkm : kindMay (⟨⟨7, sp, nm⟩, gd, la, po, cl, li, pa, ho, ru, fr, to⟩ : AObj) = grantMay fr to := by simp [kindMay]
      refine Gif.mk (fun h1 => ?_) (fun h1 => ?_)
      · refine (object_Same ({ (⟨⟨7, sp, nm⟩, gd, la, po, cl, li, pa, ho, ru, fr, to⟩ : AObj) with from_ := [], to_ := [] } : AObj) (AObj.zero ⟨7, sp, nm⟩) (strip_ok h (by simp) (by simp) (by simp) (by simp) (by simp) (by simp) (by simp) (by simp)) (AObj.zero_ok ⟨7, sp, nm⟩)).callX (enters_of Tryz.func86 rfl rfl) _ rfl rfl ?_
        rintro d rfl
        simp (maxSteps := 5000000) only [go_sem, contS_seq, simprocAttr, go_sem]
        simp only [retK, resD, St.get, lk, oneD, D.pub, D.pubs, retL, reduceIte, Nat.reduceEqDiff, Nat.reduceAdd, Nat.reduceLeDiff, Tryz.results52]
        exact ⟨_, rfl, rfl, congrArg bln (go _ hs (by rw [hkm]; exact h1)).symm⟩
      · simp only [retK, resD, St.get, lk, oneD, D.pub, D.pubs, retL, reduceIte, Nat.reduceEqDiff, Nat.reduceAdd, Nat.reduceLeDiff, Tryz.results52]
        exact ⟨_, rfl, rfl, congrArg bln (stop (by rw [hkm]; exact h1)).symm⟩
  · have hm' : mayRef o.ref = false := by simpa using hm
    simp (maxSteps := 5000000) only [go_sem, contS_seq, simprocAttr, go_sem, hm']
    simp only [retK, resD, St.get, lk, oneD, D.pub, D.pubs, retL, reduceIte, Nat.reduceEqDiff, Nat.reduceAdd, Nat.reduceLeDiff, Tryz.results52]
    exact ⟨_, rfl, rfl, congrArg bln (by simp [objMay, hm'])⟩

end Go.Proofs.YtklolokoaooppaaGreatDoor



namespace Go.Proofs.YtklolokoaooppaaGreatDoor
open Go

def ac_zrkgf : AC := (sr [oo 2 (.box 23 (tp 0)),oo 4 (.alloc 23 [.pd (.raw (.int .i64 0)),.pd (.raw (.string ⟨#[]⟩)),.pd (.raw (.string ⟨#[]⟩))])] [1,2,4] (.seq (sr [fi 5 1 2,lq 6 5,oo 7 (.bin .eql (tp 6) (.const (.string ⟨#[]⟩))),mq 8 7,og 8 true 9 (.fieldA 0 (tp 2)),og 8 true 10 (.load none (tp 9)),og 8 true 11 (.bin .neq (tp 10) (ci 1)),oo 12 (.pick (tp 8) (tp 11) (cq false)),mq 13 12,og 13 true 14 (.fieldA 0 (tp 2)),og 13 true 15 (.load none (tp 14)),og 13 true 16 (.bin .neq (tp 15) (ci 2)),oo 17 (.pick (tp 13) (tp 16) (cq false))] [1,2,4,17] (.cond (tp 17) (.region [mq 18 1,fi 19 1 2,.mk none none (.store 1 (tp 19) (tp 18))] (some [2,4])) .skip)) (sr [oo 20 (.load (some 3) (tp 2)),.mk none none (.store 3 (tp 4) (tp 20))] [4] .ret)))
def an_zrkgf : Ann := ann (List.range 4) ac_zrkgf
theorem ok_zrkgf : okd Tryz.prog an_zrkgf ac_zrkgf Tryz.f20 := ⟨by kernel_rfl, by kernel_rfl⟩
theorem ret_zrkgf (st : St) : resD Tryz.prog st Tryz.f20.results.toList = resA st [.cell 4 (some 3)] := resD_of (by kernel_rfl)

def ac_zn42u : AC := (sr [oo 1 (.box 23 (tp 0)),oo 2 (.alloc 23 [.pd (.raw (.int .i64 0)),.pd (.raw (.string ⟨#[]⟩)),.pd (.raw (.string ⟨#[]⟩))])] [1,2] (.seq (.draw [fi 3 0 1,lq 4 3,fi 5 1 1,lq 6 5,oo 7 (.call 10 [tp 6]),fi 8 2 1,lq 9 8,oo 10 (.call 10 [tp 9]),oo 11 (.build [.pd (.raw (.int .i64 0)),.pd (.raw (.string ⟨#[]⟩)),.pd (.raw (.string ⟨#[]⟩))] [(0,1,tp 4),(1,1,tp 7),(2,1,tp 10)]),.mk none none (.store 3 (tp 2) (tp 11))] [0,1,0,4,12,0,32,124,255,511] (.take 0 (.take 1 (.take 2 (.take 3 (.take 5 (.take 6 (.alts (.cons 4 false (.alts (.cons 7 false (.take 8 (.alts (.cons 9 true .done .nil))) .nil)) .nil)))))))) (some [2])) .ret))
def an_zn42u : Ann := ann (List.range 2) ac_zn42u
theorem ok_zn42u : okd Tryz.prog an_zn42u ac_zn42u Tryz.f9 := ⟨by kernel_rfl, by kernel_rfl⟩
theorem ret_zn42u (st : St) : resD Tryz.prog st Tryz.f9.results.toList = resA st [.cell 2 (some 3)] := resD_of (by kernel_rfl)

def ac_zba9k : AC := (sr [oo 2 (.mv (.const (.string ⟨#[]⟩)))] [0] (.seq (sr [mq 3 0,oo 4 (.len (tp 3) true),oo 5 (.bin .gtr (tp 4) (ci 100))] [0,5] (.cond (tp 5) (sr [mq 6 0,oo 7 (.slcS (tp 6) none (some (ci 100))),mq 2 7] [2] .ret) .skip)) (sr [mq 8 0,mq 2 8] [2] .ret)))
def an_zba9k : Ann := ann (List.range 4) ac_zba9k
theorem ok_zba9k : okd Tryz.prog an_zba9k ac_zba9k Tryz.f10 := ⟨by kernel_rfl, by kernel_rfl⟩

end Go.Proofs.YtklolokoaooppaaGreatDoor


namespace Go.Proofs.YtklolokoaooppaaGreatDoor
open Go Go.RowKit
set_option linter.unusedSimpArgs false
set_option linter.unusedVariables false
set_option maxRecDepth 100000

def few (s : ByteArray) : ByteArray := if s.size ≤ 100 then s else s.extract 0 100

set_option maxRecDepth 100000 in
theorem law1_Few (s : ByteArray) : Pure Tryz.prog 10 [str s] (fun d => d = str (few s)) := by
  refine pure_of_run follows an_zba9k Tryz.func10 rfl ok_zba9k.1 ok_zba9k.2 (by simp [Tryz.ntmps10]) ?_
  rw [run_start]
  by_cases h : 100 < s.size
  · have h1 : (100 : Int) < (s.size : Int) := by omega
    have h2 : 100 ≤ s.size := by omega
    simp only [ac_zba9k, oo, og, tp, ci, cq, mq, lq, fi, sr, go_sem, contS_seq, simprocAttr, h1, h2]
    simp only [retK, resD, St.get, lk, oneD, D.pub, D.pubs, retL, reduceIte, Nat.reduceEqDiff, Nat.reduceAdd, Nat.reduceLeDiff, Tryz.results10]
    exact ⟨_, rfl, rfl, by simp [few, show ¬ s.size ≤ 100 by omega, D.pub]⟩
  · have h1 : ¬ (100 : Int) < (s.size : Int) := by omega
    simp only [ac_zba9k, oo, og, tp, ci, cq, mq, lq, fi, sr, go_sem, contS_seq, simprocAttr, h1]
    simp only [retK, resD, St.get, lk, oneD, D.pub, D.pubs, retL, reduceIte, Nat.reduceEqDiff, Nat.reduceAdd, Nat.reduceLeDiff, Tryz.results10]
    exact ⟨_, rfl, rfl, by simp [few, show s.size ≤ 100 by omega, D.pub]⟩

def fewRef (r : ARef) : ARef := ⟨r.kind, few r.space, few r.name⟩

set_option maxRecDepth 100000 in
theorem law9_FewRef (r : ARef) : Pure Tryz.prog 9 [r.d] (fun d => d = (fewRef r).d) := by
  refine pure_of_run follows an_zn42u Tryz.func9 rfl ok_zn42u.1 ok_zn42u.2 (by simp [Tryz.ntmps9]) ?_
  rw [run_start]
  simp only [ac_zn42u, oo, og, tp, ci, cq, mq, lq, fi, sr, go_sem, contS_seq, simprocAttr, go_sem]
  refine (law1_Few r.space).callX (enters_of Tryz.func10 rfl rfl) _ rfl rfl ?_
  rintro d rfl
  simp only [go_sem, contS_seq, simprocAttr, go_sem]
  refine (law1_Few r.name).callX (enters_of Tryz.func10 rfl rfl) _ rfl rfl ?_
  rintro d rfl
  simp only [go_sem, contS_seq, simprocAttr, go_sem]
  simp only [retK, resD, resA, AOp.ex, St.ev, St.get, lk, oneD, D.pub, D.pubs, retL, reduceIte, Nat.reduceEqDiff, Nat.reduceAdd, Nat.reduceLeDiff, ret_zn42u]
  exact ⟨_, rfl, rfl, rfl⟩

end Go.Proofs.YtklolokoaooppaaGreatDoor



namespace Go.Proofs.YtklolokoaooppaaGreatDoor
open Go

def ac_zyx20 : AC := (sr [oo 1 (.box 84 (tp 0)),oo 2 (.alloc 84 [.pd (.raw (.int .i64 0)),.pd (.raw (.string ⟨#[]⟩))])] [1,2] (sr [fi 3 1 1,lq 4 3,oo 5 (.call 10 [tp 4]),fi 6 1 1,.mk none none (.store 1 (tp 6) (tp 5))] [1,2] (sr [oo 7 (.load (some 2) (tp 1)),.mk none none (.store 2 (tp 2) (tp 7))] [2] .ret)))
def an_zyx20 : Ann := ann (List.range 3) ac_zyx20
theorem ok_zyx20 : okd Tryz.prog an_zyx20 ac_zyx20 Tryz.f78 := ⟨by kernel_rfl, by kernel_rfl⟩
theorem ret_zyx20 (st : St) : resD Tryz.prog st Tryz.f78.results.toList = resA st [.cell 2 (some 2)] := resD_of (by kernel_rfl)

def ac_ztgmw : AC := (sr [oo 2 (.mv (.const (.slice none 0 0)))] [0] (sr [oo 3 (.mv (.const (.slice none 0 0)))] [0,3] (.seq (sr [oo 4 (.mv (ci 0))] [0,3,4] (.block 0 (.loop (.seq (sr [mq 5 4,mq 6 0,oo 7 (.len (tp 6) false),oo 8 (.bin .lss (tp 5) (tp 7)),mq 9 8,og 9 true 10 (.mv (tp 4)),og 9 true 11 (.bin .lss (tp 10) (ci 31)),oo 12 (.pick (tp 9) (tp 11) (cq false))] [0,3,4,12] (.cond (tp 12) .skip (.exit 0))) (.seq (.block 1 (.draw [mq 15 3,mq 16 0,mq 17 4,oo 18 (.idxA 2 (tp 16) (tp 17)),fi 19 0 18,lq 20 19,oo 21 (.call 10 [tp 20]),mq 22 0,mq 23 4,oo 24 (.idxA 2 (tp 22) (tp 23)),fi 25 1 24,lq 26 25,oo 27 (.call 10 [tp 26]),oo 28 (.build [.pd (.raw (.string ⟨#[]⟩)),.pd (.raw (.string ⟨#[]⟩))] [(0,1,tp 21),(1,1,tp 27)]),oo 29 (.bslice 122 2 [tp 28]),oo 30 (.append 122 2 32 (tp 15) (tp 29)),mq 3 30] [0,0,0,6,14,30,62,0,0,384,896,1920,4094,8190,16382,32767,65535] (.take 0 (.take 1 (.take 2 (.take 3 (.take 4 (.take 5 (.take 7 (.take 8 (.take 9 (.take 10 (.take 11 (.alts (.cons 6 false (.alts (.cons 12 false (.take 13 (.alts (.cons 14 false (.alts (.cons 15 true (.take 16 .done) .nil)) .nil))) .nil)) .nil))))))))))))) (some [0,3,4]))) (.region [mq 13 4,oo 14 (.bin .add (tp 13) (ci 1)),mq 4 14] (some [0,3,4]))))))) (sr [mq 31 3,mq 2 31] [2] .ret))))
def an_ztgmw : Ann := ann [0,1,2,3,5,4,6] ac_ztgmw
theorem ok_ztgmw : okd Tryz.prog an_ztgmw ac_ztgmw Tryz.f45 := ⟨by kernel_rfl, by kernel_rfl⟩

def ac_zt3fs : AC := (sr [oo 1 (.box 86 (tp 0)),oo 2 (.alloc 86 [.pd (.raw (.int .i64 0)),.pd (.raw (.string ⟨#[]⟩)),.pd (.raw (.string ⟨#[]⟩)),.nils,.nils])] [1,2] (.seq (.draw [fi 3 0 1,oo 4 (.load (some 2) (tp 3)),oo 5 (.call 78 [tp 4]),fi 6 2 1,lq 7 6,oo 8 (.call 10 [tp 7]),fi 9 3 1,lq 10 9,oo 11 (.call 45 [tp 10]),fi 12 4 1,lq 13 12,oo 14 (.call 45 [tp 13]),oo 15 (.build [.pd (.raw (.int .i64 0)),.pd (.raw (.string ⟨#[]⟩)),.pd (.raw (.string ⟨#[]⟩)),.nils,.nils] [(0,2,tp 5),(2,1,tp 8),(3,1,tp 11),(4,1,tp 14)]),.mk none none (.store 5 (tp 2) (tp 15))] [0,1,3,0,8,31,0,64,255,0,512,2047,4095,8191] (.take 0 (.take 1 (.take 3 (.take 4 (.take 6 (.take 7 (.take 9 (.take 10 (.alts (.cons 2 false (.alts (.cons 5 false (.alts (.cons 8 false (.alts (.cons 11 true (.take 12 (.alts (.cons 13 true .done .nil))) .nil)) .nil)) .nil)) .nil)))))))))) (some [2])) .ret))
def an_zt3fs : Ann := ann (List.range 2) ac_zt3fs
theorem ok_zt3fs : okd Tryz.prog an_zt3fs ac_zt3fs Tryz.f49 := ⟨by kernel_rfl, by kernel_rfl⟩
theorem ret_zt3fs (st : St) : resD Tryz.prog st Tryz.f49.results.toList = resA st [.cell 2 (some 5)] := resD_of (by kernel_rfl)

def ac_z9moo : AC := (sr [oo 2 (.mv (.const (.slice none 0 0)))] [0] (sr [oo 3 (.mv (.const (.slice none 0 0)))] [0,3] (.seq (sr [oo 4 (.mv (ci 0))] [0,3,4] (.block 0 (.loop (.seq (sr [mq 6 4,mq 7 0,oo 8 (.len (tp 7) false),oo 9 (.bin .lss (tp 6) (tp 8)),mq 10 9,og 10 true 11 (.mv (tp 4)),og 10 true 12 (.bin .lss (tp 11) (ci 9)),oo 13 (.pick (tp 10) (tp 12) (cq false))] [0,3,4,13] (.cond (tp 13) .skip (.exit 0))) (.seq (.block 1 (sr [mq 16 0,mq 17 4,oo 18 (.idxA 8 (tp 16) (tp 17)),oo 19 (.load (some 8) (tp 18)),oo 5 (.alloc 126 [.pd (.raw (.int .i64 0)),.pd (.raw (.string ⟨#[]⟩)),.pd (.raw (.string ⟨#[]⟩)),.pd (.raw (.string ⟨#[]⟩)),.pd (.raw (.int .i64 0)),.pd (.raw (.string ⟨#[]⟩)),.pd (.raw (.bool false)),.pd (.raw (.int .i64 0))]),.mk none none (.store 8 (tp 5) (tp 19))] [0,3,4,5] (.seq (.draw [fi 20 1 5,lq 21 20,oo 22 (.call 10 [tp 21]),fi 23 2 5,lq 24 23,oo 25 (.call 10 [tp 24]),fi 26 3 5,lq 27 26,oo 28 (.call 10 [tp 27]),fi 29 5 5,lq 30 29,oo 31 (.call 10 [tp 30]),fi 32 1 5,.mk none none (.store 1 (tp 32) (tp 22)),fi 33 2 5,.mk none none (.store 1 (tp 33) (tp 25)),fi 34 3 5,.mk none none (.store 1 (tp 34) (tp 28)),fi 35 5 5,.mk none none (.store 1 (tp 35) (tp 31))] [0,1,3,0,8,31,0,64,255,0,512,2047,1759,8191,16383,32767,65535,131071,262143,524287] (.take 0 (.take 1 (.take 3 (.take 4 (.take 6 (.take 7 (.take 9 (.take 10 (.alts (.cons 2 false (.take 12 (.alts (.cons 5 false (.alts (.cons 8 false (.alts (.cons 11 false (.alts (.cons 13 true (.take 14 (.alts (.cons 15 true (.take 16 (.alts (.cons 17 true (.take 18 (.alts (.cons 19 true .done .nil))) .nil))) .nil))) .nil)) .nil)) .nil)) .nil))) .nil)))))))))) (some [0,3,4,5])) (.region [mq 36 3,oo 37 (.load (some 8) (tp 5)),oo 38 (.bslice 126 8 [tp 37]),oo 39 (.append 126 8 96 (tp 36) (tp 38)),mq 3 39] (some [0,3,4]))))) (.region [mq 14 4,oo 15 (.bin .add (tp 14) (ci 1)),mq 4 15] (some [0,3,4]))))))) (sr [mq 40 3,mq 2 40] [2] .ret))))
def an_z9moo : Ann := ann [0,1,2,3,5,6,4,7,8] ac_z9moo
theorem ok_z9moo : okd Tryz.prog an_z9moo ac_z9moo Tryz.f48 := ⟨by kernel_rfl, by kernel_rfl⟩

def ac_zpih5 : AC := (sr [oo 2 (.mv (.const (.slice none 0 0)))] [0] (sr [oo 3 (.mv (.const (.slice none 0 0)))] [0,3] (.seq (sr [oo 4 (.mv (ci 0))] [0,3,4] (.block 0 (.loop (.seq (sr [mq 7 4,mq 8 0,oo 9 (.len (tp 8) false),oo 10 (.bin .lss (tp 7) (tp 9)),mq 11 10,og 11 true 12 (.mv (tp 4)),og 11 true 13 (.bin .lss (tp 12) (ci 9)),oo 14 (.pick (tp 11) (tp 13) (cq false))] [0,3,4,14] (.cond (tp 14) .skip (.exit 0))) (.seq (.block 1 (.seq (.draw [mq 17 0,mq 18 4,oo 19 (.idxA 3 (tp 17) (tp 18)),fi 20 0 19,lq 21 20,mq 22 0,mq 23 4,oo 24 (.idxA 3 (tp 22) (tp 23)),fi 25 1 24,lq 26 25,oo 27 (.call 10 [tp 26]),oo 28 (.build [.pd (.raw (.int .i64 0)),.pd (.raw (.string ⟨#[]⟩)),.nils] [(0,1,tp 21),(1,1,tp 27)]),oo 5 (.alloc 124 [.pd (.raw (.int .i64 0)),.pd (.raw (.string ⟨#[]⟩)),.nils]),.mk none none (.store 3 (tp 5) (tp 28))] [0,0,3,7,15,0,0,96,224,480,992,2047,0,8191] (.take 0 (.take 1 (.take 2 (.take 3 (.take 4 (.take 5 (.take 6 (.take 7 (.take 8 (.take 9 (.alts (.cons 10 false (.take 11 (.alts (.cons 12 false (.alts (.cons 13 true .done .nil)) .nil))) (.cons 12 false (.alts (.cons 10 false (.take 11 (.alts (.cons 13 true .done .nil))) .nil)) .nil))))))))))))) (some [0,3,4,5])) (.seq (sr [oo 6 (.mv (ci 0))] [0,3,4,5,6] (.block 2 (.loop (.seq (sr [mq 29 6,mq 30 0,mq 31 4,oo 32 (.idxA 3 (tp 30) (tp 31)),fi 33 2 32,lq 34 33,oo 35 (.len (tp 34) false),oo 36 (.bin .lss (tp 29) (tp 35)),mq 37 36,og 37 true 38 (.mv (tp 6)),og 37 true 39 (.bin .lss (tp 38) (ci 9)),oo 40 (.pick (tp 37) (tp 39) (cq false))] [0,3,4,5,6,40] (.cond (tp 40) .skip (.exit 2))) (.seq (.block 3 (.draw [fi 43 2 5,lq 44 43,mq 45 0,mq 46 4,oo 47 (.idxA 3 (tp 45) (tp 46)),fi 48 2 47,lq 49 48,mq 50 6,oo 51 (.idxA 1 (tp 49) (tp 50)),lq 52 51,oo 53 (.call 10 [tp 52]),oo 54 (.bslice 9 1 [tp 53]),oo 55 (.append 9 1 16 (tp 44) (tp 54)),fi 56 2 5,.mk none none (.store 1 (tp 56) (tp 55))] [0,1,0,0,12,28,60,0,252,508,1020,2044,4095,8191,16383] (.take 0 (.take 1 (.take 2 (.take 3 (.take 4 (.take 5 (.take 6 (.take 7 (.take 8 (.take 9 (.alts (.cons 10 false (.alts (.cons 11 false (.alts (.cons 12 true (.take 13 (.alts (.cons 14 true .done .nil))) .nil)) .nil)) .nil)))))))))))) (some [0,3,4,5,6]))) (.region [mq 41 6,oo 42 (.bin .add (tp 41) (ci 1)),mq 6 42] (some [0,3,4,5,6]))))))) (.region [mq 57 3,oo 58 (.load (some 3) (tp 5)),oo 59 (.bslice 124 3 [tp 58]),oo 60 (.append 124 3 48 (tp 57) (tp 59)),mq 3 60] (some [0,3,4]))))) (.region [mq 15 4,oo 16 (.bin .add (tp 15) (ci 1)),mq 4 16] (some [0,3,4]))))))) (sr [mq 61 3,mq 2 61] [2] .ret))))
def an_zpih5 : Ann := ann [0,1,2,3,5,6,7,9,8,4,10,11] ac_zpih5
theorem ok_zpih5 : okd Tryz.prog an_zpih5 ac_zpih5 Tryz.f47 := ⟨by kernel_rfl, by kernel_rfl⟩

def ac_zg0x2 : AC := (sr [oo 2 (.mv (.const (.slice none 0 0)))] [0] (sr [oo 3 (.mv (.const (.slice none 0 0)))] [0,3] (.seq (sr [oo 4 (.mv (ci 0))] [0,3,4] (.block 0 (.loop (.seq (sr [mq 5 4,mq 6 0,oo 7 (.len (tp 6) false),oo 8 (.bin .lss (tp 5) (tp 7)),mq 9 8,og 9 true 10 (.mv (tp 4)),og 9 true 11 (.bin .lss (tp 10) (ci 5)),oo 12 (.pick (tp 9) (tp 11) (cq false))] [0,3,4,12] (.cond (tp 12) .skip (.exit 0))) (.seq (.block 1 (.draw [mq 15 3,mq 16 0,mq 17 4,oo 18 (.idxA 3 (tp 16) (tp 17)),fi 19 0 18,lq 20 19,mq 21 0,mq 22 4,oo 23 (.idxA 3 (tp 21) (tp 22)),fi 24 1 23,lq 25 24,oo 26 (.call 10 [tp 25]),mq 27 0,mq 28 4,oo 29 (.idxA 3 (tp 27) (tp 28)),fi 30 2 29,lq 31 30,oo 32 (.call 10 [tp 31]),oo 33 (.build [.pd (.raw (.int .i64 0)),.pd (.raw (.string ⟨#[]⟩)),.pd (.raw (.string ⟨#[]⟩))] [(0,1,tp 20),(1,1,tp 26),(2,1,tp 32)]),oo 34 (.bslice 41 3 [tp 33]),oo 35 (.append 41 3 40 (tp 15) (tp 34)),mq 3 35] [0,0,0,6,14,30,0,0,192,448,960,1984,0,0,12288,28672,61440,131008,262142,524286,1048575,2097151] (.take 0 (.take 1 (.take 2 (.take 3 (.take 4 (.take 5 (.take 6 (.take 7 (.take 8 (.take 9 (.take 10 (.take 12 (.take 13 (.take 14 (.take 15 (.take 16 (.alts (.cons 11 false (.alts (.cons 17 false (.take 18 (.alts (.cons 19 false (.alts (.cons 20 true (.take 21 .done) .nil)) .nil))) .nil)) .nil)))))))))))))))))) (some [0,3,4]))) (.region [mq 13 4,oo 14 (.bin .add (tp 13) (ci 1)),mq 4 14] (some [0,3,4]))))))) (sr [mq 36 3,mq 2 36] [2] .ret))))
def an_zg0x2 : Ann := ann [0,1,2,3,5,4,6] ac_zg0x2
theorem ok_zg0x2 : okd Tryz.prog an_zg0x2 ac_zg0x2 Tryz.f46 := ⟨by kernel_rfl, by kernel_rfl⟩

def ac_z8s55 : AC := (sr [oo 1 (.box 32 (tp 0)),oo 2 (.alloc 32 [.pd (.raw (.int .i64 0)),.pd (.raw (.string ⟨#[]⟩)),.pd (.raw (.string ⟨#[]⟩)),.pd (.raw (.bool false)),.nils,.nils,.pd (.raw (.string ⟨#[]⟩)),.nils,.nils,.nils,.nils,.nils,.nils])] [1,2] (.seq (.draw [fi 15 0 1,oo 16 (.load (some 3) (tp 15)),oo 17 (.call 9 [tp 16]),fi 18 3 1,lq 19 18,fi 20 4 1,lq 21 20,oo 22 (.call 45 [tp 21]),fi 23 6 1,lq 24 23,oo 25 (.call 10 [tp 24]),fi 26 11 1,lq 27 26,oo 28 (.call 46 [tp 27]),fi 29 12 1,lq 30 29,oo 31 (.call 46 [tp 30]),oo 32 (.build [.pd (.raw (.int .i64 0)),.pd (.raw (.string ⟨#[]⟩)),.pd (.raw (.string ⟨#[]⟩)),.pd (.raw (.bool false)),.nils,.nils,.pd (.raw (.string ⟨#[]⟩)),.nils,.nils,.nils,.nils,.nils,.nils] [(0,3,tp 17),(3,1,tp 19),(4,1,tp 22),(6,1,tp 25),(11,1,tp 28),(12,1,tp 31)]),oo 3 (.alloc 32 [.pd (.raw (.int .i64 0)),.pd (.raw (.string ⟨#[]⟩)),.pd (.raw (.string ⟨#[]⟩)),.pd (.raw (.bool false)),.nils,.nils,.pd (.raw (.string ⟨#[]⟩)),.nils,.nils,.nils,.nils,.nils,.nils]),.mk none none (.store 13 (tp 3) (tp 32))] [0,1,3,0,8,0,32,103,0,256,999,0,2048,8167,0,16384,65511,131071,0,524287] (.take 0 (.take 1 (.take 3 (.take 4 (.take 5 (.take 6 (.take 8 (.take 9 (.take 11 (.take 12 (.take 14 (.take 15 (.alts (.cons 2 false (.alts (.cons 7 false (.alts (.cons 10 false (.alts (.cons 13 false (.alts (.cons 16 false (.take 17 (.alts (.cons 18 false (.alts (.cons 19 true .done .nil)) .nil))) (.cons 18 false (.alts (.cons 16 false (.take 17 (.alts (.cons 19 true .done .nil))) .nil)) .nil))) (.cons 18 false (.alts (.cons 13 false (.alts (.cons 16 false (.take 17 (.alts (.cons 19 true .done .nil))) .nil)) .nil)) .nil))) (.cons 18 false (.alts (.cons 10 false (.alts (.cons 13 false (.alts (.cons 16 false (.take 17 (.alts (.cons 19 true .done .nil))) .nil)) .nil)) .nil)) .nil))) (.cons 18 false (.alts (.cons 7 false (.alts (.cons 10 false (.alts (.cons 13 false (.alts (.cons 16 false (.take 17 (.alts (.cons 19 true .done .nil))) .nil)) .nil)) .nil)) .nil)) .nil))) (.cons 18 false (.alts (.cons 2 false (.alts (.cons 7 false (.alts (.cons 10 false (.alts (.cons 13 false (.alts (.cons 16 false (.take 17 (.alts (.cons 19 true .done .nil))) .nil)) .nil)) .nil)) .nil)) .nil)) .nil))))))))))))))) (some [1,2,3])) (.seq (sr [oo 4 (.mv (ci 0))] [1,2,3,4] (.block 0 (.loop (.seq (sr [mq 33 4,fi 34 5 1,lq 35 34,oo 36 (.len (tp 35) false),oo 37 (.bin .lss (tp 33) (tp 36)),mq 38 37,og 38 true 39 (.mv (tp 4)),og 38 true 40 (.bin .lss (tp 39) (ci 9)),oo 41 (.pick (tp 38) (tp 40) (cq false))] [1,2,3,4,41] (.cond (tp 41) .skip (.exit 0))) (.seq (.block 1 (.draw [fi 44 5 3,lq 45 44,fi 46 5 1,lq 47 46,mq 48 4,oo 49 (.idxA 1 (tp 47) (tp 48)),lq 50 49,oo 51 (.bslice 3 1 [tp 50]),oo 52 (.append 3 1 8 (tp 45) (tp 51)),fi 53 5 3,.mk none none (.store 1 (tp 53) (tp 52))] [0,1,0,4,0,28,60,124,255,511,1023] (.take 0 (.take 1 (.take 2 (.take 3 (.take 4 (.take 5 (.take 6 (.alts (.cons 7 false (.alts (.cons 8 true (.take 9 (.alts (.cons 10 true .done .nil))) .nil)) .nil))))))))) (some [1,2,3,4]))) (.region [mq 42 4,oo 43 (.bin .add (tp 42) (ci 1)),mq 4 43] (some [1,2,3,4]))))))) (.seq (sr [oo 5 (.mv (ci 0))] [1,2,3,5] (.block 2 (.loop (.seq (sr [mq 54 5,fi 55 7 1,lq 56 55,oo 57 (.len (tp 56) false),oo 58 (.bin .lss (tp 54) (tp 57)),mq 59 58,og 59 true 60 (.mv (tp 5)),og 59 true 61 (.bin .lss (tp 60) (ci 9)),oo 62 (.pick (tp 59) (tp 61) (cq false))] [1,2,3,5,62] (.cond (tp 62) .skip (.exit 2))) (.seq (.block 3 (sr [fi 65 7 1,lq 66 65,mq 67 5,oo 68 (.idxA 9 (tp 66) (tp 67)),oo 69 (.load (some 9) (tp 68)),oo 6 (.alloc 78 [.pd (.raw (.string ⟨#[]⟩)),.pd (.raw (.int .i64 0)),.pd (.raw (.bool false)),.pd (.raw (.string ⟨#[]⟩)),.pd (.raw (.int .i64 0)),.pd (.raw (.string ⟨#[]⟩)),.pd (.raw (.string ⟨#[]⟩)),.pd (.raw (.int .i64 0)),.nils]),.mk none none (.store 9 (tp 6) (tp 69))] [1,2,3,5,6] (.draw [fi 70 7 3,lq 71 70,fi 72 0 6,lq 73 72,oo 74 (.call 10 [tp 73]),fi 75 1 6,lq 76 75,fi 77 2 6,lq 78 77,fi 79 3 6,lq 80 79,oo 81 (.call 10 [tp 80]),fi 82 4 6,oo 83 (.load (some 3) (tp 82)),oo 84 (.call 9 [tp 83]),fi 85 7 6,lq 86 85,fi 87 8 6,lq 88 87,oo 89 (.call 47 [tp 88]),oo 90 (.build [.pd (.raw (.string ⟨#[]⟩)),.pd (.raw (.int .i64 0)),.pd (.raw (.bool false)),.pd (.raw (.string ⟨#[]⟩)),.pd (.raw (.int .i64 0)),.pd (.raw (.string ⟨#[]⟩)),.pd (.raw (.string ⟨#[]⟩)),.pd (.raw (.int .i64 0)),.nils] [(0,1,tp 74),(1,1,tp 76),(2,1,tp 78),(3,1,tp 81),(4,3,tp 84),(7,1,tp 86),(8,1,tp 89)]),oo 91 (.bslice 78 9 [tp 90]),oo 92 (.append 78 9 120 (tp 71) (tp 91)),fi 93 7 3,.mk none none (.store 1 (tp 93) (tp 92))] [0,1,0,4,12,0,32,0,128,0,512,1564,0,4096,15900,0,32768,0,131072,425500,1048572,2097148,4194303,8388607,16777215] (.take 0 (.take 1 (.take 2 (.take 3 (.take 5 (.take 6 (.take 7 (.take 8 (.take 9 (.take 10 (.take 12 (.take 13 (.take 15 (.take 16 (.take 17 (.take 18 (.alts (.cons 4 false (.alts (.cons 11 false (.alts (.cons 14 false (.alts (.cons 19 false (.take 20 (.alts (.cons 21 false (.alts (.cons 22 true (.take 23 (.alts (.cons 24 true .done .nil))) .nil)) .nil))) .nil)) .nil)) .nil)) .nil)))))))))))))))))) (some [1,2,3,5])))) (.region [mq 63 5,oo 64 (.bin .add (tp 63) (ci 1)),mq 5 64] (some [1,2,3,5]))))))) (.seq (sr [oo 7 (.mv (ci 0))] [1,2,3,7] (.block 4 (.loop (.seq (sr [mq 94 7,fi 95 8 1,lq 96 95,oo 97 (.len (tp 96) false),oo 98 (.bin .lss (tp 94) (tp 97)),mq 99 98,og 99 true 100 (.mv (tp 7)),og 99 true 101 (.bin .lss (tp 100) (ci 5)),oo 102 (.pick (tp 99) (tp 101) (cq false))] [1,2,3,7,102] (.cond (tp 102) .skip (.exit 4))) (.seq (.block 5 (sr [fi 105 8 1,lq 106 105,mq 107 7,oo 108 (.idxA 4 (tp 106) (tp 107)),oo 109 (.load (some 4) (tp 108)),oo 8 (.alloc 81 [.pd (.raw (.string ⟨#[]⟩)),.pd (.raw (.string ⟨#[]⟩)),.pd (.raw (.string ⟨#[]⟩)),.pd (.raw (.int .i64 0))]),.mk none none (.store 4 (tp 8) (tp 109))] [1,2,3,7,8] (.draw [fi 110 8 3,lq 111 110,fi 112 0 8,lq 113 112,oo 114 (.call 10 [tp 113]),fi 115 1 8,lq 116 115,oo 117 (.call 10 [tp 116]),fi 118 2 8,lq 119 118,oo 120 (.call 10 [tp 119]),fi 121 3 8,lq 122 121,oo 123 (.build [.pd (.raw (.string ⟨#[]⟩)),.pd (.raw (.string ⟨#[]⟩)),.pd (.raw (.string ⟨#[]⟩)),.pd (.raw (.int .i64 0))] [(0,1,tp 114),(1,1,tp 117),(2,1,tp 120),(3,1,tp 122)]),oo 124 (.bslice 81 4 [tp 123]),oo 125 (.append 81 4 56 (tp 111) (tp 124)),fi 126 8 3,.mk none none (.store 1 (tp 126) (tp 125))] [0,1,0,4,12,0,32,124,0,256,1020,0,2048,8188,16380,32767,65535,131071] (.take 0 (.take 1 (.take 2 (.take 3 (.take 5 (.take 6 (.take 8 (.take 9 (.take 11 (.take 12 (.alts (.cons 4 false (.alts (.cons 7 false (.alts (.cons 10 false (.take 13 (.alts (.cons 14 false (.alts (.cons 15 true (.take 16 (.alts (.cons 17 true .done .nil))) .nil)) .nil))) .nil)) .nil)) .nil)))))))))))) (some [1,2,3,7])))) (.region [mq 103 7,oo 104 (.bin .add (tp 103) (ci 1)),mq 7 104] (some [1,2,3,7]))))))) (.seq (sr [oo 9 (.mv (ci 0))] [1,2,3,9] (.block 6 (.loop (.seq (sr [mq 127 9,fi 128 9 1,lq 129 128,oo 130 (.len (tp 129) false),oo 131 (.bin .lss (tp 127) (tp 130)),mq 132 131,og 132 true 133 (.mv (tp 9)),og 132 true 134 (.bin .lss (tp 133) (ci 5)),oo 135 (.pick (tp 132) (tp 134) (cq false))] [1,2,3,9,135] (.cond (tp 135) .skip (.exit 6))) (.seq (.block 7 (.draw [fi 138 9 3,lq 139 138,fi 140 9 1,lq 141 140,mq 142 9,oo 143 (.idxA 1 (tp 141) (tp 142)),lq 144 143,oo 145 (.call 10 [tp 144]),oo 146 (.bslice 9 1 [tp 145]),oo 147 (.append 9 1 16 (tp 139) (tp 146)),fi 148 9 3,.mk none none (.store 1 (tp 148) (tp 147))] [0,1,0,4,0,28,60,124,252,511,1023,2047] (.take 0 (.take 1 (.take 2 (.take 3 (.take 4 (.take 5 (.take 6 (.alts (.cons 7 false (.alts (.cons 8 false (.alts (.cons 9 true (.take 10 (.alts (.cons 11 true .done .nil))) .nil)) .nil)) .nil))))))))) (some [1,2,3,9]))) (.region [mq 136 9,oo 137 (.bin .add (tp 136) (ci 1)),mq 9 137] (some [1,2,3,9]))))))) (.seq (sr [oo 10 (.mv (ci 0))] [1,2,3,10] (.block 8 (.loop (.seq (sr [mq 149 10,fi 150 10 1,lq 151 150,oo 152 (.len (tp 151) false),oo 153 (.bin .lss (tp 149) (tp 152)),mq 154 153,og 154 true 155 (.mv (tp 10)),og 154 true 156 (.bin .lss (tp 155) (ci 7)),oo 157 (.pick (tp 154) (tp 156) (cq false))] [1,2,3,10,157] (.cond (tp 157) .skip (.exit 8))) (.seq (.block 9 (sr [fi 160 10 1,lq 161 160,mq 162 10,oo 163 (.idxA 3 (tp 161) (tp 162)),fi 164 1 163,lq 165 164,oo 166 (.call 48 [tp 165]),oo 167 (.build [.nils,.nils,.nils] [(1,1,tp 166)]),oo 11 (.alloc 66 [.nils,.nils,.nils]),.mk none none (.store 3 (tp 11) (tp 167))] [1,2,3,10,11] (.seq (sr [oo 12 (.mv (ci 0))] [1,2,3,10,11,12] (.block 10 (.loop (.seq (sr [mq 168 12,fi 169 10 1,lq 170 169,mq 171 10,oo 172 (.idxA 3 (tp 170) (tp 171)),fi 173 0 172,lq 174 173,oo 175 (.len (tp 174) false),oo 176 (.bin .lss (tp 168) (tp 175)),mq 177 176,og 177 true 178 (.mv (tp 12)),og 177 true 179 (.bin .lss (tp 178) (ci 5)),oo 180 (.pick (tp 177) (tp 179) (cq false))] [1,2,3,10,11,12,180] (.cond (tp 180) .skip (.exit 10))) (.seq (.block 11 (.draw [fi 183 0 11,lq 184 183,fi 185 10 1,lq 186 185,mq 187 10,oo 188 (.idxA 3 (tp 186) (tp 187)),fi 189 0 188,lq 190 189,mq 191 12,oo 192 (.idxA 5 (tp 190) (tp 191)),oo 193 (.load (some 5) (tp 192)),oo 194 (.call 49 [tp 193]),oo 195 (.bslice 86 5 [tp 194]),oo 196 (.append 86 5 88 (tp 184) (tp 195)),fi 197 0 11,.mk none none (.store 1 (tp 197) (tp 196))] [0,1,0,4,0,28,60,124,0,508,1020,2044,4092,8191,16383,32767] (.take 0 (.take 1 (.take 2 (.take 3 (.take 4 (.take 5 (.take 6 (.take 7 (.take 8 (.take 9 (.take 10 (.alts (.cons 11 false (.alts (.cons 12 false (.alts (.cons 13 true (.take 14 (.alts (.cons 15 true .done .nil))) .nil)) .nil)) .nil))))))))))))) (some [1,2,3,10,11,12]))) (.region [mq 181 12,oo 182 (.bin .add (tp 181) (ci 1)),mq 12 182] (some [1,2,3,10,11,12]))))))) (.seq (sr [oo 13 (.mv (ci 0))] [1,2,3,10,11,13] (.block 12 (.loop (.seq (sr [mq 198 13,fi 199 10 1,lq 200 199,mq 201 10,oo 202 (.idxA 3 (tp 200) (tp 201)),fi 203 2 202,lq 204 203,oo 205 (.len (tp 204) false),oo 206 (.bin .lss (tp 198) (tp 205)),mq 207 206,og 207 true 208 (.mv (tp 13)),og 207 true 209 (.bin .lss (tp 208) (ci 5)),oo 210 (.pick (tp 207) (tp 209) (cq false))] [1,2,3,10,11,13,210] (.cond (tp 210) .skip (.exit 12))) (.seq (.block 13 (sr [fi 213 10 1,lq 214 213,mq 215 10,oo 216 (.idxA 3 (tp 214) (tp 215)),fi 217 2 216,lq 218 217,mq 219 13,oo 220 (.idxA 5 (tp 218) (tp 219)),oo 221 (.load (some 5) (tp 220)),oo 14 (.alloc 68 [.pd (.raw (.int .i64 0)),.pd (.raw (.string ⟨#[]⟩)),.pd (.raw (.string ⟨#[]⟩)),.pd (.raw (.int .i64 0)),.pd (.raw (.int .i64 0))]),.mk none none (.store 5 (tp 14) (tp 221))] [1,2,3,10,11,13,14] (.draw [fi 222 2 11,lq 223 222,fi 224 0 14,oo 225 (.load (some 3) (tp 224)),oo 226 (.call 9 [tp 225]),fi 227 3 14,lq 228 227,fi 229 4 14,lq 230 229,oo 231 (.build [.pd (.raw (.int .i64 0)),.pd (.raw (.string ⟨#[]⟩)),.pd (.raw (.string ⟨#[]⟩)),.pd (.raw (.int .i64 0)),.pd (.raw (.int .i64 0))] [(0,3,tp 226),(3,1,tp 228),(4,1,tp 230)]),oo 232 (.bslice 68 5 [tp 231]),oo 233 (.append 68 5 56 (tp 223) (tp 232)),fi 234 2 11,.mk none none (.store 1 (tp 234) (tp 233))] [0,1,0,4,12,0,32,0,128,508,1020,2047,4095,8191] (.take 0 (.take 1 (.take 2 (.take 3 (.take 5 (.take 6 (.take 7 (.take 8 (.alts (.cons 4 false (.take 9 (.alts (.cons 10 false (.alts (.cons 11 true (.take 12 (.alts (.cons 13 true .done .nil))) .nil)) .nil))) .nil)))))))))) (some [1,2,3,10,11,13])))) (.region [mq 211 13,oo 212 (.bin .add (tp 211) (ci 1)),mq 13 212] (some [1,2,3,10,11,13]))))))) (.region [fi 235 10 3,lq 236 235,oo 237 (.load (some 3) (tp 11)),oo 238 (.bslice 66 3 [tp 237]),oo 239 (.append 66 3 72 (tp 236) (tp 238)),fi 240 10 3,.mk none none (.store 1 (tp 240) (tp 239))] (some [1,2,3,10])))))) (.region [mq 158 10,oo 159 (.bin .add (tp 158) (ci 1)),mq 10 159] (some [1,2,3,10]))))))) (sr [oo 241 (.load (some 13) (tp 3)),.mk none none (.store 13 (tp 2) (tp 241))] [2] .ret))))))))
def an_z8s55 : Ann := ann [0,1,2,3,5,4,6,7,9,10,8,11,12,14,15,13,16,17,19,18,20,21,23,24,25,27,26,28,29,31,32,30,22,33,34] ac_z8s55
theorem ok_z8s55 : okd Tryz.prog an_z8s55 ac_z8s55 Tryz.f8 := ⟨by kernel_rfl, by kernel_rfl⟩
theorem ret_z8s55 (st : St) : resD Tryz.prog st Tryz.f8.results.toList = resA st [.cell 2 (some 13)] := resD_of (by kernel_rfl)

def ac_zh218 : AC := (sr [oo 2 (.mv (.const (.slice none 0 0)))] [0] (sr [oo 3 (.mv (.const (.slice none 0 0)))] [0,3] (.seq (sr [oo 4 (.mv (ci 0))] [0,3,4] (.block 0 (.loop (.seq (sr [mq 5 4,mq 6 0,oo 7 (.len (tp 6) false),oo 8 (.bin .lss (tp 5) (tp 7)),mq 9 8,og 9 true 10 (.mv (tp 4)),og 9 true 11 (.bin .lss (tp 10) (ci 24)),oo 12 (.pick (tp 9) (tp 11) (cq false))] [0,3,4,12] (.cond (tp 12) .skip (.exit 0))) (.seq (.block 1 (.region [mq 15 3,mq 16 0,mq 17 4,oo 18 (.idxA 13 (tp 16) (tp 17)),oo 19 (.load (some 13) (tp 18)),oo 20 (.call 8 [tp 19]),oo 21 (.bslice 32 13 [tp 20]),oo 22 (.append 32 13 256 (tp 15) (tp 21)),mq 3 22] (some [0,3,4]))) (.region [mq 13 4,oo 14 (.bin .add (tp 13) (ci 1)),mq 4 14] (some [0,3,4]))))))) (sr [mq 23 3,mq 2 23] [2] .ret))))
def an_zh218 : Ann := ann (List.range 7) ac_zh218
theorem ok_zh218 : okd Tryz.prog an_zh218 ac_zh218 Tryz.f26 := ⟨by kernel_rfl, by kernel_rfl⟩

end Go.Proofs.YtklolokoaooppaaGreatDoor


namespace Go.Proofs.YtklolokoaooppaaGreatDoor
open Go Go.RowKit
set_option linter.unusedSimpArgs false
set_option linter.unusedVariables false
set_option maxRecDepth 100000

theorem Reps.tell {g : Gh} {w : World} {d : D} : ∀ {ds : List D} {vs : List Value} (_ : Reps g w ds vs) (i : Nat) (_ : ∀ v, vs[i]? = some v → Rep g w d v), Reps g w (ds.set i d) vs
  | [], _, h, _, _ => by simpa using h
  | e :: ds, _, h, i, hd => by
    simp only [Reps] at h
    obtain ⟨v, vs', rfl, hv, hs⟩ := h
    cases i with
    | zero => exact ⟨v, vs', rfl, hd v rfl, hs⟩
    | succ i => exact ⟨v, vs', rfl, hv, Reps.tell hs i (fun u hu => hd u (by simpa using hu))⟩

theorem SR.tellB {C : Ctx} {st : St} {g : Gh} {a : Act} {w : World} (h : SR C st g a w) {n : Nat} {ds ds' : List D} (hn : lk st.bs n = some ds) (hd : ∀ vs, Reps g w ds vs → Reps g w ds' vs) : SR C { st with bs := (n, ds') :: st.bs } g a w := by
  have m := h.mem
  refine ⟨h.defers, h.size, h.rep, { m with bxs := fun k es hk => ?_ }, h.x, h.fix⟩
  simp only [lk] at hk
  split at hk
  · rename_i hkn
    subst hkn
    cases hk
    obtain ⟨b, cs, t, h1, h2, h3⟩ := m.bxs _ ds hn
    exact ⟨b, cs, t, h1, h2, hd _ h3⟩
  · exact m.bxs k es hk

theorem purges_at : ∀ (t : Nat) (ds : List D) (i : Nat), ds[i]? = some .nils → (D.purges t ds)[i]? = some .nils
  | _, [], _, h => by simp at h
  | t, d :: ds, 0, h => by
    simp only [List.getElem?_cons_zero, Option.some.injEq] at h
    subst h
    simp [D.purges, D.purge]
  | t, d :: ds, i + 1, h => by
    simp only [List.getElem?_cons_succ] at h
    simpa [D.purges] using purges_at t ds i h

theorem lk_purge {st : St} {t n : Nat} {ds : List D} (h : lk st.bs n = some ds) : lk (st.purge t).bs n = some (D.purges t ds) := by
  simp only [St.purge]
  rw [lk_map (fun ds => D.purges t ds) st.bs n, h]; rfl

theorem Weak.ownB0 {P : Program} {st : St} (n i t : Nat) (e : TypeId) {ti : TypeInfo} (hi : P.info? e = some ti) (hpos : 0 < ti.size) {ds : List D} (h : lk st.bs n = some ds) (hn : ds[i]? = some .nils) :
    Weak P st { st.purge t with bs := (n, (D.purges t ds).set i (.own e ti.size [] t)) :: (st.purge t).bs } := by
  intro C g a w hP hs
  subst hP
  have h1 := hs.purge t
  obtain ⟨h2, _⟩ := SR.owned h1 t (by simp) (grownBy_same w none) _ h1.x (fun k e => by cases e) (fun _ h => h) (fun k e => by cases e) e ti hi hpos (.slice none 0 0) 0 [] (World.ownsRow_nil _ _ _ _) (fun b hb => by cases hb) (fun b o _ hb => by cases hb)
  refine ⟨_, h2.tellB (lk_purge h) fun vs hv => ?_⟩
  refine hv.tell i fun v hvi => ?_
  obtain ⟨u, hu, hr⟩ := hv.get i _ (purges_at t ds i hn)
  rw [hvi] at hu
  cases hu
  simp only [Rep] at hr
  rw [hr]
  simp only [Rep]
  exact ⟨.empty _ _, by simp, by simp⟩

theorem Weak.ownB {P : Program} {st st' : St} (n i t : Nat) (e : TypeId) (sz : Nat) (hi : (P.info? e).map (·.size) = some sz) (hpos : 0 < sz) {ds : List D} (h : lk st.bs n = some ds) (hn : ds[i]? = some .nils)
    (hf : lessL st'.fr (st.purge t).fr) (hb : lessL st'.bs ((n, (D.purges t ds).set i (.own e sz [] t)) :: (st.purge t).bs)) (hm : lessL st'.ms st.ms) (hh : st'.hs = st.hs) : Weak P st st' := by
  obtain ⟨ti, h1, rfl⟩ := Option.map_eq_some_iff.1 hi
  exact (Weak.ownB0 n i t e h1 hpos h hn).trans (Weak.less hf hb hm hh)

theorem run_cut {P : Program} {x y : AC} {st s1 : St} {S : List Fr} {K : Exit → St → Prop} (h1 : ∀ K' : Exit → St → Prop, K' .normal s1 → run P x st (contS P [] K')) (h2 : run P y s1 (contS P S K)) : run P (.seq x y) st (contS P S K) := by
  rw [run_seq]; exact h1 (contS P (.seq y :: S) K) h2

theorem few_size (s : ByteArray) : (few s).size ≤ 100 := by
  unfold few
  split
  · assumption
  · simp [ByteArray.size_extract]; omega

theorem law3_Few (k : Int) (v : ByteArray) : Pure Tryz.prog 78 [.agg [int k, str v]] (fun d => d = .agg [int k, str (few v)]) := by
  refine pure_of_run follows an_zyx20 Tryz.func78 rfl ok_zyx20.1 ok_zyx20.2 (by simp [Tryz.ntmps78]) ?_
  rw [run_start]
  simp only [ac_zyx20, oo, og, tp, ci, cq, mq, lq, fi, sr, go_sem, contS_seq, simprocAttr]
  refine (law1_Few v).callW (enters_of Tryz.func10 rfl rfl) _ rfl rfl ?_
  rintro d rfl
  simp only [go_sem, contS_seq, simprocAttr]
  simp only [retK, resD, resA, AOp.ex, St.ev, St.get, lk, oneD, D.pub, D.pubs, retL, reduceIte, Nat.reduceEqDiff, Nat.reduceAdd, Nat.reduceLeDiff, ret_zyx20]
  exact ⟨_, rfl, rfl, rfl⟩

def fewPair (p : APair) : APair := ⟨few p.name, few p.val⟩
def fewPairs (l : List APair) : List APair := (l.take 31).map fewPair

theorem fewPair_ok (p : APair) : (fewPair p).ok := ⟨by have := few_size p.name; simp [fewPair]; omega, by have := few_size p.val; simp [fewPair]; omega⟩

theorem few_step {α β : Type} {f : β → List PD} {g : α → β} {l : List α} {i : Nat} {x : α} (h : l[i]? = some x) : rows f ((l.take i).map g) ++ [f (g x)] = rows f ((l.take (i + 1)).map g) := by
  rw [take_at h, List.map_append]; exact rows_one _ (g x)

theorem few_len {α β : Type} {f : β → List PD} {g : α → β} {l : List α} {i n : Nat} (h : i ≤ n) : (rows f ((l.take i).map g)).length ≤ n := by simp [rows]; omega

theorem few_end {α β : Type} {g : α → β} {l : List α} {i n : Nat} (h : i ≤ n) (hl : i ≤ l.length) (he : ¬ (i < l.length ∧ i < n)) : (l.take i).map g = (l.take n).map g := by
  rcases Nat.lt_or_ge i n with h6 | h6
  · rw [List.take_of_length_le (by omega), List.take_of_length_le (by omega)]
  · rw [show i = n by omega]

theorem law5_Few (l : List APair) : Pure Tryz.prog 45 [.pd (.slice (rows APair.pd l))] (fun d => d = .pd (.slice (rows APair.pd (fewPairs l)))) := by
  refine pure_of_run follows an_ztgmw Tryz.func45 rfl ok_ztgmw.1 ok_ztgmw.2 (by simp [Tryz.ntmps45]) ?_
  rw [run_start]
  simp only [ac_ztgmw, oo, og, tp, ci, cq, mq, lq, fi, sr, go_sem, contS_seq, simprocAttr, rows_len]
  refine loopS (fun k st => ∃ i : Nat, k = 31 - i ∧ i ≤ 31 ∧ i ≤ l.length ∧
    st = ⟨[(0, .pd (.slice (rows APair.pd l))), (3, .own 122 2 (rows APair.pd ((l.take i).map fewPair)) 30), (4, int i)], [], [], .no⟩) 31 _
    ?_ ⟨0, rfl, by omega, by omega, rfl⟩ ?_
  · exact Weak.own1 3 30 122 2 (by kernel_rfl) (by decide) rfl (by simp [lessL, lk, St.purge, St.put, D.purge, rows]) (by simp [lessL, lk, St.purge, D.purges, D.purge]) (by simp [lessL]) rfl
  rintro k st ⟨i, rfl, hi6, hi, rfl⟩
  have hw := i64_succ (show i < 1000000000 by omega)
  by_cases hlt : i < l.length ∧ i < 31
  · obtain ⟨x, hx⟩ := at_lt hlt.1
    have h1 : ((i : Int) < (l.length : Int)) = True := eq_true (by omega)
    have h2 : ((i : Int) < 31) = True := eq_true (by omega)
    simp only [go_sem, contS_seq, simprocAttr, go_sem, rows_len, rows_get hx, h1, h2]
    refine (law1_Few x.name).callX (enters_of Tryz.func10 rfl rfl) _ rfl rfl ?_
    rintro d rfl
    simp only [go_sem, contS_seq, simprocAttr, go_sem, rows_len, rows_get hx]
    refine (law1_Few x.val).callX (enters_of Tryz.func10 rfl rfl) _ rfl rfl ?_
    rintro d rfl
    simp only [go_sem, contS_seq, simprocAttr, go_sem, hw]
    have hl := few_len (f := APair.pd) (g := fewPair) (l := l) hi6
    have e1 : rows APair.pd ((l.take i).map fewPair) ++ [[PD.raw (Value.string (few x.name)), PD.raw (Value.string (few x.val))]] = rows APair.pd ((l.take (i + 1)).map fewPair) := few_step hx
    rw [e1]
    refine ⟨by simp, by unfold maxLen; omega, by omega, 31 - (i + 1), _, by omega, ?_, i + 1, rfl, by omega, by omega, rfl⟩
    exact lessA
  · have h3 := few_end (g := fewPair) hi6 hi hlt
    rw [h3]
    by_cases h1 : i < l.length
    · have h1' : ((i : Int) < (l.length : Int)) = True := eq_true (by omega)
      have h2 : ((i : Int) < 31) = False := eq_false (by omega)
      simp only [go_sem, contS_seq, simprocAttr, go_sem, rows_len, h1', h2]
      simp only [retK, resD, St.get, lk, oneD, D.pub, D.pubs, retL, reduceIte, Nat.reduceEqDiff, Nat.reduceAdd, Nat.reduceLeDiff, Tryz.results45]
      exact ⟨_, rfl, rfl, rfl⟩
    · have h1' : ((i : Int) < (l.length : Int)) = False := eq_false (by omega)
      simp only [go_sem, contS_seq, simprocAttr, go_sem, rows_len, h1']
      simp only [retK, resD, St.get, lk, oneD, D.pub, D.pubs, retL, reduceIte, Nat.reduceEqDiff, Nat.reduceAdd, Nat.reduceLeDiff, Tryz.results45]
      exact ⟨_, rfl, rfl, rfl⟩

def fewFilter (f : AFilter) : AFilter := { f with name := few f.name, val := few f.val, host := few f.host, path := few f.path }
def fewFilters (l : List AFilter) : List AFilter := (l.take 9).map fewFilter
def fewSide (s : ASide) : ASide := ⟨s.kind, few s.space, few s.name⟩
def fewSides (l : List ASide) : List ASide := (l.take 5).map fewSide

theorem law7_Few (l : List AFilter) : Pure Tryz.prog 48 [.pd (.slice (rows AFilter.pd l))] (fun d => d = .pd (.slice (rows AFilter.pd (fewFilters l)))) := by
  refine pure_of_run follows an_z9moo Tryz.func48 rfl ok_z9moo.1 ok_z9moo.2 (by simp [Tryz.ntmps48]) ?_
  rw [run_start]
  simp only [ac_z9moo, oo, og, tp, ci, cq, mq, lq, fi, sr, go_sem, contS_seq, simprocAttr, rows_len]
  refine loopS (fun k st => ∃ i : Nat, k = 9 - i ∧ i ≤ 9 ∧ i ≤ l.length ∧
    st = ⟨[(0, .pd (.slice (rows AFilter.pd l))), (3, .own 126 8 (rows AFilter.pd ((l.take i).map fewFilter)) 39), (4, int i)], [], [], .no⟩) 9 _
    ?_ ⟨0, rfl, by omega, by omega, rfl⟩ ?_
  · exact Weak.own1 3 39 126 8 (by kernel_rfl) (by decide) rfl (by simp [lessL, lk, St.purge, St.put, D.purge, rows]) (by simp [lessL, lk, St.purge, D.purges, D.purge]) (by simp [lessL]) rfl
  rintro k st ⟨i, rfl, hi6, hi, rfl⟩
  have hw := i64_succ (show i < 1000000000 by omega)
  by_cases hlt : i < l.length ∧ i < 9
  · obtain ⟨x, hx⟩ := at_lt hlt.1
    have h1 : ((i : Int) < (l.length : Int)) = True := eq_true (by omega)
    have h2 : ((i : Int) < 9) = True := eq_true (by omega)
    simp only [go_sem, contS_seq, simprocAttr, rows_len, rows_get hx, h1, h2]
    refine (law1_Few x.name).callX (enters_of Tryz.func10 rfl rfl) _ rfl rfl ?_
    rintro d rfl
    simp only [go_sem, contS_seq, simprocAttr, rows_len, rows_get hx]
    refine (law1_Few x.val).callX (enters_of Tryz.func10 rfl rfl) _ rfl rfl ?_
    rintro d rfl
    simp only [go_sem, contS_seq, simprocAttr, rows_len, rows_get hx]
    refine (law1_Few x.host).callX (enters_of Tryz.func10 rfl rfl) _ rfl rfl ?_
    rintro d rfl
    simp only [go_sem, contS_seq, simprocAttr, rows_len, rows_get hx]
    refine (law1_Few x.path).callX (enters_of Tryz.func10 rfl rfl) _ rfl rfl ?_
    rintro d rfl
    simp only [go_sem, contS_seq, simprocAttr, rows_len, rows_get hx, hw]
    have hl := few_len (f := AFilter.pd) (g := fewFilter) (l := l) hi6
    have hl' : ((l.take i).map fewFilter).length ≤ i := by simp; omega
    have e1 : rows AFilter.pd ((l.take i).map fewFilter) ++ [[PD.raw (Value.int IntKind.i64 x.kind), PD.raw (Value.string (few x.name)), PD.raw (Value.string (few x.val)), PD.raw (Value.string (few x.host)), PD.raw (Value.int IntKind.i64 x.port), PD.raw (Value.string (few x.path)), PD.raw (Value.bool x.whole), PD.raw (Value.int IntKind.i64 x.code)]] = rows AFilter.pd ((l.take (i + 1)).map fewFilter) := few_step hx
    rw [e1]
    refine ⟨by simp, by unfold maxLen; omega, by omega, 9 - (i + 1), _, by omega, ?_, i + 1, rfl, by omega, by omega, rfl⟩
    exact lessA
  · have h3 := few_end (g := fewFilter) hi6 hi hlt
    rw [h3]
    by_cases h1 : i < l.length
    · have h1' : ((i : Int) < (l.length : Int)) = True := eq_true (by omega)
      have h2 : ((i : Int) < 9) = False := eq_false (by omega)
      simp only [go_sem, contS_seq, simprocAttr, rows_len, h1', h2]
      simp only [retK, resD, St.get, lk, oneD, D.pub, D.pubs, retL, reduceIte, Nat.reduceEqDiff, Nat.reduceAdd, Nat.reduceLeDiff, Tryz.results48]
      exact ⟨_, rfl, rfl, rfl⟩
    · have h1' : ((i : Int) < (l.length : Int)) = False := eq_false (by omega)
      simp only [go_sem, contS_seq, simprocAttr, rows_len, h1']
      simp only [retK, resD, St.get, lk, oneD, D.pub, D.pubs, retL, reduceIte, Nat.reduceEqDiff, Nat.reduceAdd, Nat.reduceLeDiff, Tryz.results48]
      exact ⟨_, rfl, rfl, rfl⟩

theorem law9_sides (l : List ASide) : Pure Tryz.prog 46 [.pd (.slice (rows ASide.pd l))] (fun d => d = .pd (.slice (rows ASide.pd (fewSides l)))) := by
  refine pure_of_run follows an_zg0x2 Tryz.func46 rfl ok_zg0x2.1 ok_zg0x2.2 (by simp [Tryz.ntmps46]) ?_
  rw [run_start]
  simp only [ac_zg0x2, oo, og, tp, ci, cq, mq, lq, fi, sr, go_sem, contS_seq, simprocAttr, rows_len]
  refine loopS (fun k st => ∃ i : Nat, k = 5 - i ∧ i ≤ 5 ∧ i ≤ l.length ∧
    st = ⟨[(0, .pd (.slice (rows ASide.pd l))), (3, .own 41 3 (rows ASide.pd ((l.take i).map fewSide)) 35), (4, int i)], [], [], .no⟩) 5 _
    ?_ ⟨0, rfl, by omega, by omega, rfl⟩ ?_
  · exact Weak.own1 3 35 41 3 (by kernel_rfl) (by decide) rfl (by simp [lessL, lk, St.purge, St.put, D.purge, rows]) (by simp [lessL, lk, St.purge, D.purges, D.purge]) (by simp [lessL]) rfl
  rintro k st ⟨i, rfl, hi6, hi, rfl⟩
  have hw := i64_succ (show i < 1000000000 by omega)
  by_cases hlt : i < l.length ∧ i < 5
  · obtain ⟨x, hx⟩ := at_lt hlt.1
    have h1 : ((i : Int) < (l.length : Int)) = True := eq_true (by omega)
    have h2 : ((i : Int) < 5) = True := eq_true (by omega)
    simp only [go_sem, contS_seq, simprocAttr, rows_len, rows_get hx, h1, h2]
    refine (law1_Few x.space).callX (enters_of Tryz.func10 rfl rfl) _ rfl rfl ?_
    rintro d rfl
    simp only [go_sem, contS_seq, simprocAttr, rows_len, rows_get hx]
    refine (law1_Few x.name).callX (enters_of Tryz.func10 rfl rfl) _ rfl rfl ?_
    rintro d rfl
    simp only [go_sem, contS_seq, simprocAttr, rows_len, rows_get hx, hw]
    have hl := few_len (f := ASide.pd) (g := fewSide) (l := l) hi6
    have hl' : ((l.take i).map fewSide).length ≤ i := by simp; omega
    have e1 : rows ASide.pd ((l.take i).map fewSide) ++ [[PD.raw (Value.int IntKind.i64 x.kind), PD.raw (Value.string (few x.space)), PD.raw (Value.string (few x.name))]] = rows ASide.pd ((l.take (i + 1)).map fewSide) := few_step hx
    rw [e1]
    refine ⟨by simp, by unfold maxLen; omega, by omega, 5 - (i + 1), _, by omega, ?_, i + 1, rfl, by omega, by omega, rfl⟩
    exact lessA
  · have h3 := few_end (g := fewSide) hi6 hi hlt
    rw [h3]
    by_cases h1 : i < l.length
    · have h1' : ((i : Int) < (l.length : Int)) = True := eq_true (by omega)
      have h2 : ((i : Int) < 5) = False := eq_false (by omega)
      simp only [go_sem, contS_seq, simprocAttr, rows_len, h1', h2]
      simp only [retK, resD, St.get, lk, oneD, D.pub, D.pubs, retL, reduceIte, Nat.reduceEqDiff, Nat.reduceAdd, Nat.reduceLeDiff, Tryz.results46]
      exact ⟨_, rfl, rfl, rfl⟩
    · have h1' : ((i : Int) < (l.length : Int)) = False := eq_false (by omega)
      simp only [go_sem, contS_seq, simprocAttr, rows_len, h1']
      simp only [retK, resD, St.get, lk, oneD, D.pub, D.pubs, retL, reduceIte, Nat.reduceEqDiff, Nat.reduceAdd, Nat.reduceLeDiff, Tryz.results46]
      exact ⟨_, rfl, rfl, rfl⟩

def fewMatch (m : AMatch) : AMatch := ⟨m.pkind, few m.pval, few m.method, fewPairs m.head, fewPairs m.query⟩

theorem law6_Few (m : AMatch) : Pure Tryz.prog 49 [m.d] (fun d => d = (fewMatch m).d) := by
  refine pure_of_run follows an_zt3fs Tryz.func49 rfl ok_zt3fs.1 ok_zt3fs.2 (by simp [Tryz.ntmps49]) ?_
  rw [run_start]
  simp only [ac_zt3fs, oo, og, tp, ci, cq, mq, lq, fi, sr, go_sem, contS_seq, simprocAttr]
  refine (law3_Few m.pkind m.pval).callX (enters_of Tryz.func78 rfl rfl) _ rfl rfl ?_
  rintro d rfl
  simp only [go_sem, contS_seq, simprocAttr]
  refine (law1_Few m.method).callX (enters_of Tryz.func10 rfl rfl) _ rfl rfl ?_
  rintro d rfl
  simp only [go_sem, contS_seq, simprocAttr]
  refine (law5_Few m.head).callX (enters_of Tryz.func45 rfl rfl) _ rfl rfl ?_
  rintro d rfl
  simp only [go_sem, contS_seq, simprocAttr]
  refine (law5_Few m.query).callX (enters_of Tryz.func45 rfl rfl) _ rfl rfl ?_
  rintro d rfl
  simp only [go_sem, contS_seq, simprocAttr]
  simp only [retK, resD, resA, AOp.ex, St.ev, St.get, lk, oneD, D.pub, D.pubs, retL, reduceIte, Nat.reduceEqDiff, Nat.reduceAdd, Nat.reduceLeDiff, ret_zt3fs]
  exact ⟨_, rfl, rfl, rfl⟩

def fewNeed (n : ANeed) : ANeed := ⟨n.kind, few n.name, (n.vals.take 9).map few⟩
def fewNeeds (l : List ANeed) : List ANeed := (l.take 9).map fewNeed

theorem law8_Few (l : List ANeed) : Pure Tryz.prog 47 [.pd (.slice (rows ANeed.pd l))] (fun d => d = .pd (.slice (rows ANeed.pd (fewNeeds l)))) := by
  refine pure_of_run follows an_zpih5 Tryz.func47 rfl ok_zpih5.1 ok_zpih5.2 (by simp [Tryz.ntmps47]) ?_
  rw [run_start]
  simp only [ac_zpih5, oo, og, tp, ci, cq, mq, lq, fi, sr, go_sem, contS_seq, simprocAttr, rows_len]
  refine loopS (fun k st => ∃ i : Nat, k = 9 - i ∧ i ≤ 9 ∧ i ≤ l.length ∧
    st = ⟨[(0, .pd (.slice (rows ANeed.pd l))), (3, .own 124 3 (rows ANeed.pd ((l.take i).map fewNeed)) 60), (4, int i)], [], [], .no⟩) 9 _
    ?_ ⟨0, rfl, by omega, by omega, rfl⟩ ?_
  · exact Weak.own1 3 60 124 3 (by kernel_rfl) (by decide) rfl (by simp [lessL, lk, St.purge, St.put, D.purge, rows]) (by simp [lessL, lk, St.purge, D.purges, D.purge]) (by simp [lessL]) rfl
  rintro k st ⟨i, rfl, hi6, hi, rfl⟩
  have hw := i64_succ (show i < 1000000000 by omega)
  by_cases hlt : i < l.length ∧ i < 9
  · obtain ⟨x, hx⟩ := at_lt hlt.1
    have h1 : ((i : Int) < (l.length : Int)) = True := eq_true (by omega)
    have h2 : ((i : Int) < 9) = True := eq_true (by omega)
    apply run_cut
    · intro K' hK
      simp only [go_sem, contS_seq, simprocAttr, rows_len, h1, h2]
      exact hK
    apply run_cut
    · intro K' hK
      rw [run_block]
      apply run_cut
      · intro K'' hK'
        simp only [go_sem, contS_seq, simprocAttr, rows_len, rows_get hx]
        repeat' (first | exact hK' | (refine (law1_Few x.name).callX (enters_of Tryz.func10 rfl rfl) _ rfl rfl ?_; rintro _ rfl; simp only [go_sem, contS_seq, simprocAttr, rows_len, rows_get hx]) | refine And.intro ?_ ?_)
      simp only [go_sem, contS_seq, simprocAttr]
      refine loopS (fun k st => ∃ j : Nat, k = 9 - j ∧ j ≤ 9 ∧ j ≤ x.vals.length ∧
        st = ⟨[(0, .pd (.slice (rows ANeed.pd l))), (3, .own 124 3 (rows ANeed.pd ((l.take i).map fewNeed)) 60), (4, int i), (5, .ptr 5 0), (6, int j)],
          [(5, [int x.kind, str (few x.name), .own 9 1 (strs ((x.vals.take j).map few)) 55])], [], .no⟩) 9 _
        ?_ ⟨0, rfl, by omega, by omega, rfl⟩ ?_
      · exact Weak.ownB 5 2 55 9 1 (by kernel_rfl) (by decide) rfl rfl (by simp [lessL, lk, St.purge, D.purge, rows]) (by simp [lessL, lk, St.purge, D.purges, D.purge, rows]) (by simp [lessL]) rfl
      rintro k st ⟨j, rfl, hj6, hj, rfl⟩
      have hwj := i64_succ (show j < 1000000000 by omega)
      by_cases hltj : j < x.vals.length ∧ j < 9
      · obtain ⟨v, hv⟩ := at_lt hltj.1
        have h1' : ((j : Int) < (x.vals.length : Int)) = True := eq_true (by omega)
        have h2' : ((j : Int) < 9) = True := eq_true (by omega)
        simp only [go_sem, contS_seq, simprocAttr, rows_len, rows_get hx, rows_get hv, h1', h2']
        refine (law1_Few v).callX (enters_of Tryz.func10 rfl rfl) _ rfl rfl ?_
        rintro d rfl
        simp only [go_sem, contS_seq, simprocAttr, rows_get hx, rows_get hv, hwj]
        have e1 : strs ((x.vals.take j).map few) ++ [[PD.raw (Value.string (few v))]] = strs ((x.vals.take (j + 1)).map few) := few_step hv
        have hl : (strs ((x.vals.take j).map few)).length ≤ 9 := few_len hj6
        rw [e1]
        refine ⟨by simp, by unfold maxLen; omega, by omega, 9 - (j + 1), _, by omega, ?_, j + 1, rfl, by omega, by omega, rfl⟩
        exact lessA
      · have h3 := few_end (g := few) hj6 hj hltj
        rw [h3]
        have hl' : ((l.take i).map fewNeed).length ≤ i := by simp; omega
        have e1 : rows ANeed.pd ((l.take i).map fewNeed) ++ [[pInt x.kind, pStr (few x.name), .slice (strs ((x.vals.take 9).map few))]] = rows ANeed.pd ((l.take (i + 1)).map fewNeed) := few_step hx
        by_cases h1 : j < x.vals.length
        · have h1' : ((j : Int) < (x.vals.length : Int)) = True := eq_true (by omega)
          have h2' : ((j : Int) < 9) = False := eq_false (by omega)
          simp only [go_sem, contS_seq, simprocAttr, rows_get hx, rows_len, h1', h2']
          refine ⟨by simp, by unfold maxLen; omega, by omega, ?_⟩
          rw [e1]
          exact hK
        · have h1' : ((j : Int) < (x.vals.length : Int)) = False := eq_false (by omega)
          simp only [go_sem, contS_seq, simprocAttr, rows_get hx, rows_len, h1']
          refine ⟨by simp, by unfold maxLen; omega, by omega, ?_⟩
          rw [e1]
          exact hK
    simp only [go_sem, contS_seq, simprocAttr, hw]
    refine ⟨9 - (i + 1), _, by omega, ?_, i + 1, rfl, by omega, by omega, rfl⟩
    exact lessA
  · have h3 := few_end (g := fewNeed) hi6 hi hlt
    rw [h3]
    by_cases h1 : i < l.length
    · have h1' : ((i : Int) < (l.length : Int)) = True := eq_true (by omega)
      have h2 : ((i : Int) < 9) = False := eq_false (by omega)
      simp only [go_sem, contS_seq, simprocAttr, rows_len, h1', h2]
      simp only [retK, resD, St.get, lk, oneD, D.pub, D.pubs, retL, reduceIte, Nat.reduceEqDiff, Nat.reduceAdd, Nat.reduceLeDiff, Tryz.results47]
      exact ⟨_, rfl, rfl, rfl⟩
    · have h1' : ((i : Int) < (l.length : Int)) = False := eq_false (by omega)
      simp only [go_sem, contS_seq, simprocAttr, rows_len, h1']
      simp only [retK, resD, St.get, lk, oneD, D.pub, D.pubs, retL, reduceIte, Nat.reduceEqDiff, Nat.reduceAdd, Nat.reduceLeDiff, Tryz.results47]
      exact ⟨_, rfl, rfl, rfl⟩


theorem run_cutJ {P : Program} {x y : AC} {st : St} {S : List Fr} {K : Exit → St → Prop} (J : St → Prop) (h1 : ∀ K' : Exit → St → Prop, (∀ s, J s → K' .normal s) → run P x st (contS P [] K')) (h2 : ∀ s, J s → run P y s (contS P S K)) : run P (.seq x y) st (contS P S K) := by
  rw [run_seq]; exact h1 (contS P (.seq y :: S) K) h2

def fewListener (l : AListener) : AListener := ⟨few l.name, l.port, l.tls, few l.host, fewRef l.cert, l.from_, fewNeeds l.needs⟩
def fewParent (p : AParent) : AParent := ⟨few p.space, few p.name, few p.section_, p.port⟩
def fewBackend (b : ABackend) : ABackend := ⟨fewRef b.ref, b.port, b.weight⟩
def fewRule (r : ARule) : ARule := ⟨(r.matches_.take 5).map fewMatch, fewFilters r.filters, (r.backends.take 5).map fewBackend⟩
def fewObj (o : AObj) : AObj := ⟨fewRef o.ref, o.good, fewPairs o.labels, o.ports.take 9, few o.cls, (o.listeners.take 9).map fewListener, (o.parents.take 5).map fewParent, (o.hosts.take 5).map few, (o.rules.take 7).map fewRule, fewSides o.from_, fewSides o.to_⟩

set_option maxHeartbeats 4000000 in
theorem law9_Few (o : AObj) : Pure Tryz.prog 8 [o.d] (fun d => d = (fewObj o).d) := by
  refine pure_of_run follows an_z8s55 Tryz.func8 rfl ok_z8s55.1 ok_z8s55.2 (by simp [Tryz.ntmps8]) ?_
  rw [run_start]
  simp only [ac_z8s55, oo, og, tp, ci, cq, mq, lq, fi, sr]
  apply run_cut
  · intro K' hK
    simp only [go_sem, contS_seq, simprocAttr]
    exact hK
  apply run_cut
  · intro K' hK
    simp only [go_sem, contS_seq, simprocAttr]
    repeat' (first | exact hK | (refine (law9_FewRef o.ref).callX (enters_of Tryz.func9 rfl rfl) _ rfl rfl ?_; rintro _ rfl; simp only [go_sem, contS_seq, simprocAttr]) | (refine (law5_Few o.labels).callX (enters_of Tryz.func45 rfl rfl) _ rfl rfl ?_; rintro _ rfl; simp only [go_sem, contS_seq, simprocAttr]) | (refine (law1_Few o.cls).callX (enters_of Tryz.func10 rfl rfl) _ rfl rfl ?_; rintro _ rfl; simp only [go_sem, contS_seq, simprocAttr]) | (refine (law9_sides o.from_).callX (enters_of Tryz.func46 rfl rfl) _ rfl rfl ?_; rintro _ rfl; simp only [go_sem, contS_seq, simprocAttr]) | (refine (law9_sides o.to_).callX (enters_of Tryz.func46 rfl rfl) _ rfl rfl ?_; rintro _ rfl; simp only [go_sem, contS_seq, simprocAttr]) | refine And.intro ?_ ?_)
  refine run_cutJ (fun s => ∃ i : Nat, s = ⟨[(41, bln false), (1, .ptr 1 0), (2, .ptr 2 0), (3, .ptr 3 0), (4, int i), (41, bln false)], [(1, [int o.ref.kind, str o.ref.space, str o.ref.name, bln o.good, .pd (.slice (rows APair.pd o.labels)), .pd (.slice (ints o.ports)), str o.cls, .pd (.slice (rows AListener.pd o.listeners)), .pd (.slice (rows AParent.pd o.parents)), .pd (.slice (strs o.hosts)), .pd (.slice (rows ARule.pd o.rules)), .pd (.slice (rows ASide.pd o.from_)), .pd (.slice (rows ASide.pd o.to_))]), (2, [int 0, str ⟨#[]⟩, str ⟨#[]⟩, bln false, .nils, .nils, str ⟨#[]⟩, .nils, .nils, .nils, .nils, .nils, .nils]), (3, [int (fewRef o.ref).kind, str (fewRef o.ref).space, str (fewRef o.ref).name, bln o.good, .pd (.slice (rows APair.pd (fewPairs o.labels))), .own 3 1 (rows cInt ((o.ports.take 9).map id)) 52, str (few o.cls), .nils, .nils, .nils, .nils, .pd (.slice (rows ASide.pd (fewSides o.from_))), .pd (.slice (rows ASide.pd (fewSides o.to_)))])], [], .no⟩) ?_ ?_
  · intro K' hK
    simp only [go_sem, contS_seq, simprocAttr, rows_len]
    refine loopS (fun k st => ∃ i : Nat, k = 9 - i ∧ i ≤ 9 ∧ i ≤ o.ports.length ∧
      st = ⟨[(1, .ptr 1 0), (2, .ptr 2 0), (3, .ptr 3 0), (4, int i)], [(1, [int o.ref.kind, str o.ref.space, str o.ref.name, bln o.good, .pd (.slice (rows APair.pd o.labels)), .pd (.slice (ints o.ports)), str o.cls, .pd (.slice (rows AListener.pd o.listeners)), .pd (.slice (rows AParent.pd o.parents)), .pd (.slice (strs o.hosts)), .pd (.slice (rows ARule.pd o.rules)), .pd (.slice (rows ASide.pd o.from_)), .pd (.slice (rows ASide.pd o.to_))]), (2, [int 0, str ⟨#[]⟩, str ⟨#[]⟩, bln false, .nils, .nils, str ⟨#[]⟩, .nils, .nils, .nils, .nils, .nils, .nils]), (3, [int (fewRef o.ref).kind, str (fewRef o.ref).space, str (fewRef o.ref).name, bln o.good, .pd (.slice (rows APair.pd (fewPairs o.labels))), .own 3 1 (rows cInt ((o.ports.take i).map id)) 52, str (few o.cls), .nils, .nils, .nils, .nils, .pd (.slice (rows ASide.pd (fewSides o.from_))), .pd (.slice (rows ASide.pd (fewSides o.to_)))])], [], .no⟩) 9 _
      ?_ ⟨0, rfl, by omega, by omega, rfl⟩ ?_
    · exact Weak.ownB 3 5 52 3 1 (by kernel_rfl) (by decide) rfl rfl (by simp [lessL, lk, St.purge, D.purge, rows]) (by simp [lessL, lk, St.purge, D.purges, D.purge, rows]) (by simp [lessL]) rfl
    rintro k st ⟨i, rfl, hi6, hi, rfl⟩
    have hw := i64_succ (show i < 1000000000 by omega)
    by_cases hlt : i < o.ports.length ∧ i < 9
    · obtain ⟨x, hx⟩ := at_lt hlt.1
      have h1 : ((i : Int) < (o.ports.length : Int)) = True := eq_true (by omega)
      have h2 : ((i : Int) < 9) = True := eq_true (by omega)
      have hl' : ((o.ports.take i).map id).length ≤ i := by simp; omega
      have e1 : rows cInt ((o.ports.take i).map id) ++ [[PD.raw (Value.int IntKind.i64 x)]] = rows cInt ((o.ports.take (i + 1)).map id) := few_step hx
      simp only [go_sem, contS_seq, simprocAttr, rows_len, rows_get hx, h1, h2]
      simp only [go_sem, contS_seq, simprocAttr, hw, e1]
      refine ⟨by simp, by unfold maxLen; omega, by omega, 9 - (i + 1), _, by omega, ?_, i + 1, rfl, by omega, by omega, rfl⟩
      exact lessA
    · have h3 := few_end (g := id) hi6 hi hlt
      rw [h3]
      by_cases h1 : i < o.ports.length
      · have h1' : ((i : Int) < (o.ports.length : Int)) = True := eq_true (by omega)
        have h2 : ((i : Int) < 9) = False := eq_false (by omega)
        simp only [go_sem, contS_seq, simprocAttr, rows_len, h1', h2]
        exact hK _ ⟨i, rfl⟩
      · have h1' : ((i : Int) < (o.ports.length : Int)) = False := eq_false (by omega)
        simp only [go_sem, contS_seq, simprocAttr, rows_len, h1']
        exact hK _ ⟨i, rfl⟩
  rintro s ⟨_, rfl⟩
  refine run_cutJ (fun s => ∃ i : Nat, s = ⟨[(62, bln false), (1, .ptr 1 0), (2, .ptr 2 0), (3, .ptr 3 0), (5, int i), (62, bln false)], [(1, [int o.ref.kind, str o.ref.space, str o.ref.name, bln o.good, .pd (.slice (rows APair.pd o.labels)), .pd (.slice (ints o.ports)), str o.cls, .pd (.slice (rows AListener.pd o.listeners)), .pd (.slice (rows AParent.pd o.parents)), .pd (.slice (strs o.hosts)), .pd (.slice (rows ARule.pd o.rules)), .pd (.slice (rows ASide.pd o.from_)), .pd (.slice (rows ASide.pd o.to_))]), (2, [int 0, str ⟨#[]⟩, str ⟨#[]⟩, bln false, .nils, .nils, str ⟨#[]⟩, .nils, .nils, .nils, .nils, .nils, .nils]), (3, [int (fewRef o.ref).kind, str (fewRef o.ref).space, str (fewRef o.ref).name, bln o.good, .pd (.slice (rows APair.pd (fewPairs o.labels))), .own 3 1 (rows cInt ((o.ports.take 9).map id)) 52, str (few o.cls), .own 78 9 (rows AListener.pd ((o.listeners.take 9).map fewListener)) 92, .nils, .nils, .nils, .pd (.slice (rows ASide.pd (fewSides o.from_))), .pd (.slice (rows ASide.pd (fewSides o.to_)))])], [], .no⟩) ?_ ?_
  · intro K' hK
    simp only [go_sem, contS_seq, simprocAttr, rows_len]
    refine loopS (fun k st => ∃ i : Nat, k = 9 - i ∧ i ≤ 9 ∧ i ≤ o.listeners.length ∧
      st = ⟨[(1, .ptr 1 0), (2, .ptr 2 0), (3, .ptr 3 0), (5, int i)], [(1, [int o.ref.kind, str o.ref.space, str o.ref.name, bln o.good, .pd (.slice (rows APair.pd o.labels)), .pd (.slice (ints o.ports)), str o.cls, .pd (.slice (rows AListener.pd o.listeners)), .pd (.slice (rows AParent.pd o.parents)), .pd (.slice (strs o.hosts)), .pd (.slice (rows ARule.pd o.rules)), .pd (.slice (rows ASide.pd o.from_)), .pd (.slice (rows ASide.pd o.to_))]), (2, [int 0, str ⟨#[]⟩, str ⟨#[]⟩, bln false, .nils, .nils, str ⟨#[]⟩, .nils, .nils, .nils, .nils, .nils, .nils]), (3, [int (fewRef o.ref).kind, str (fewRef o.ref).space, str (fewRef o.ref).name, bln o.good, .pd (.slice (rows APair.pd (fewPairs o.labels))), .own 3 1 (rows cInt ((o.ports.take 9).map id)) 52, str (few o.cls), .own 78 9 (rows AListener.pd ((o.listeners.take i).map fewListener)) 92, .nils, .nils, .nils, .pd (.slice (rows ASide.pd (fewSides o.from_))), .pd (.slice (rows ASide.pd (fewSides o.to_)))])], [], .no⟩) 9 _
      ?_ ⟨0, rfl, by omega, by omega, rfl⟩ ?_
    · exact Weak.ownB 3 7 92 78 9 (by kernel_rfl) (by decide) rfl rfl (by simp [lessL, lk, St.purge, D.purge, rows]) (by simp [lessL, lk, St.purge, D.purges, D.purge, rows]) (by simp [lessL]) rfl
    rintro k st ⟨i, rfl, hi6, hi, rfl⟩
    have hw := i64_succ (show i < 1000000000 by omega)
    by_cases hlt : i < o.listeners.length ∧ i < 9
    · obtain ⟨x, hx⟩ := at_lt hlt.1
      have h1 : ((i : Int) < (o.listeners.length : Int)) = True := eq_true (by omega)
      have h2 : ((i : Int) < 9) = True := eq_true (by omega)
      have hl' : ((o.listeners.take i).map fewListener).length ≤ i := by simp; omega
      have e1 : rows AListener.pd ((o.listeners.take i).map fewListener) ++ [[PD.raw (Value.string (few x.name)), PD.raw (Value.int IntKind.i64 x.port), PD.raw (Value.bool x.tls), PD.raw (Value.string (few x.host)), PD.raw (Value.int IntKind.i64 (fewRef x.cert).kind), PD.raw (Value.string ((fewRef x.cert).space)), PD.raw (Value.string ((fewRef x.cert).name)), PD.raw (Value.int IntKind.i64 x.from_), PD.slice (rows ANeed.pd (fewNeeds x.needs))]] = rows AListener.pd ((o.listeners.take (i + 1)).map fewListener) := few_step hx
      simp only [go_sem, contS_seq, simprocAttr, rows_len, rows_get hx, h1, h2]
      repeat' (first | (refine (law1_Few x.name).callX (enters_of Tryz.func10 rfl rfl) _ rfl rfl ?_; rintro _ rfl; simp only [go_sem, contS_seq, simprocAttr, rows_len, rows_get hx]) | (refine (law1_Few x.host).callX (enters_of Tryz.func10 rfl rfl) _ rfl rfl ?_; rintro _ rfl; simp only [go_sem, contS_seq, simprocAttr, rows_len, rows_get hx]) | (refine (law9_FewRef x.cert).callX (enters_of Tryz.func9 rfl rfl) _ rfl rfl ?_; rintro _ rfl; simp only [go_sem, contS_seq, simprocAttr, rows_len, rows_get hx]) | (refine (law8_Few x.needs).callX (enters_of Tryz.func47 rfl rfl) _ rfl rfl ?_; rintro _ rfl; simp only [go_sem, contS_seq, simprocAttr, rows_len, rows_get hx]))
      simp only [go_sem, contS_seq, simprocAttr, hw, e1]
      refine ⟨by simp, by unfold maxLen; omega, by omega, 9 - (i + 1), _, by omega, ?_, i + 1, rfl, by omega, by omega, rfl⟩
      exact lessA
    · have h3 := few_end (g := fewListener) hi6 hi hlt
      rw [h3]
      by_cases h1 : i < o.listeners.length
      · have h1' : ((i : Int) < (o.listeners.length : Int)) = True := eq_true (by omega)
        have h2 : ((i : Int) < 9) = False := eq_false (by omega)
        simp only [go_sem, contS_seq, simprocAttr, rows_len, h1', h2]
        exact hK _ ⟨i, rfl⟩
      · have h1' : ((i : Int) < (o.listeners.length : Int)) = False := eq_false (by omega)
        simp only [go_sem, contS_seq, simprocAttr, rows_len, h1']
        exact hK _ ⟨i, rfl⟩
  rintro s ⟨_, rfl⟩
  refine run_cutJ (fun s => ∃ i : Nat, s = ⟨[(102, bln false), (1, .ptr 1 0), (2, .ptr 2 0), (3, .ptr 3 0), (7, int i), (102, bln false)], [(1, [int o.ref.kind, str o.ref.space, str o.ref.name, bln o.good, .pd (.slice (rows APair.pd o.labels)), .pd (.slice (ints o.ports)), str o.cls, .pd (.slice (rows AListener.pd o.listeners)), .pd (.slice (rows AParent.pd o.parents)), .pd (.slice (strs o.hosts)), .pd (.slice (rows ARule.pd o.rules)), .pd (.slice (rows ASide.pd o.from_)), .pd (.slice (rows ASide.pd o.to_))]), (2, [int 0, str ⟨#[]⟩, str ⟨#[]⟩, bln false, .nils, .nils, str ⟨#[]⟩, .nils, .nils, .nils, .nils, .nils, .nils]), (3, [int (fewRef o.ref).kind, str (fewRef o.ref).space, str (fewRef o.ref).name, bln o.good, .pd (.slice (rows APair.pd (fewPairs o.labels))), .own 3 1 (rows cInt ((o.ports.take 9).map id)) 52, str (few o.cls), .own 78 9 (rows AListener.pd ((o.listeners.take 9).map fewListener)) 92, .own 81 4 (rows AParent.pd ((o.parents.take 5).map fewParent)) 125, .nils, .nils, .pd (.slice (rows ASide.pd (fewSides o.from_))), .pd (.slice (rows ASide.pd (fewSides o.to_)))])], [], .no⟩) ?_ ?_
  · intro K' hK
    simp only [go_sem, contS_seq, simprocAttr, rows_len]
    refine loopS (fun k st => ∃ i : Nat, k = 5 - i ∧ i ≤ 5 ∧ i ≤ o.parents.length ∧
      st = ⟨[(1, .ptr 1 0), (2, .ptr 2 0), (3, .ptr 3 0), (7, int i)], [(1, [int o.ref.kind, str o.ref.space, str o.ref.name, bln o.good, .pd (.slice (rows APair.pd o.labels)), .pd (.slice (ints o.ports)), str o.cls, .pd (.slice (rows AListener.pd o.listeners)), .pd (.slice (rows AParent.pd o.parents)), .pd (.slice (strs o.hosts)), .pd (.slice (rows ARule.pd o.rules)), .pd (.slice (rows ASide.pd o.from_)), .pd (.slice (rows ASide.pd o.to_))]), (2, [int 0, str ⟨#[]⟩, str ⟨#[]⟩, bln false, .nils, .nils, str ⟨#[]⟩, .nils, .nils, .nils, .nils, .nils, .nils]), (3, [int (fewRef o.ref).kind, str (fewRef o.ref).space, str (fewRef o.ref).name, bln o.good, .pd (.slice (rows APair.pd (fewPairs o.labels))), .own 3 1 (rows cInt ((o.ports.take 9).map id)) 52, str (few o.cls), .own 78 9 (rows AListener.pd ((o.listeners.take 9).map fewListener)) 92, .own 81 4 (rows AParent.pd ((o.parents.take i).map fewParent)) 125, .nils, .nils, .pd (.slice (rows ASide.pd (fewSides o.from_))), .pd (.slice (rows ASide.pd (fewSides o.to_)))])], [], .no⟩) 5 _
      ?_ ⟨0, rfl, by omega, by omega, rfl⟩ ?_
    · exact Weak.ownB 3 8 125 81 4 (by kernel_rfl) (by decide) rfl rfl (by simp [lessL, lk, St.purge, D.purge, rows]) (by simp [lessL, lk, St.purge, D.purges, D.purge, rows]) (by simp [lessL]) rfl
    rintro k st ⟨i, rfl, hi6, hi, rfl⟩
    have hw := i64_succ (show i < 1000000000 by omega)
    by_cases hlt : i < o.parents.length ∧ i < 5
    · obtain ⟨x, hx⟩ := at_lt hlt.1
      have h1 : ((i : Int) < (o.parents.length : Int)) = True := eq_true (by omega)
      have h2 : ((i : Int) < 5) = True := eq_true (by omega)
      have hl' : ((o.parents.take i).map fewParent).length ≤ i := by simp; omega
      have e1 : rows AParent.pd ((o.parents.take i).map fewParent) ++ [[PD.raw (Value.string (few x.space)), PD.raw (Value.string (few x.name)), PD.raw (Value.string (few x.section_)), PD.raw (Value.int IntKind.i64 x.port)]] = rows AParent.pd ((o.parents.take (i + 1)).map fewParent) := few_step hx
      simp only [go_sem, contS_seq, simprocAttr, rows_len, rows_get hx, h1, h2]
      repeat' (first | (refine (law1_Few x.space).callX (enters_of Tryz.func10 rfl rfl) _ rfl rfl ?_; rintro _ rfl; simp only [go_sem, contS_seq, simprocAttr, rows_len, rows_get hx]) | (refine (law1_Few x.name).callX (enters_of Tryz.func10 rfl rfl) _ rfl rfl ?_; rintro _ rfl; simp only [go_sem, contS_seq, simprocAttr, rows_len, rows_get hx]) | (refine (law1_Few x.section_).callX (enters_of Tryz.func10 rfl rfl) _ rfl rfl ?_; rintro _ rfl; simp only [go_sem, contS_seq, simprocAttr, rows_len, rows_get hx]))
      simp only [go_sem, contS_seq, simprocAttr, hw, e1]
      refine ⟨by simp, by unfold maxLen; omega, by omega, 5 - (i + 1), _, by omega, ?_, i + 1, rfl, by omega, by omega, rfl⟩
      exact lessA
    · have h3 := few_end (g := fewParent) hi6 hi hlt
      rw [h3]
      by_cases h1 : i < o.parents.length
      · have h1' : ((i : Int) < (o.parents.length : Int)) = True := eq_true (by omega)
        have h2 : ((i : Int) < 5) = False := eq_false (by omega)
        simp only [go_sem, contS_seq, simprocAttr, rows_len, h1', h2]
        exact hK _ ⟨i, rfl⟩
      · have h1' : ((i : Int) < (o.parents.length : Int)) = False := eq_false (by omega)
        simp only [go_sem, contS_seq, simprocAttr, rows_len, h1']
        exact hK _ ⟨i, rfl⟩
  rintro s ⟨_, rfl⟩
  refine run_cutJ (fun s => ∃ i : Nat, s = ⟨[(135, bln false), (1, .ptr 1 0), (2, .ptr 2 0), (3, .ptr 3 0), (9, int i), (135, bln false)], [(1, [int o.ref.kind, str o.ref.space, str o.ref.name, bln o.good, .pd (.slice (rows APair.pd o.labels)), .pd (.slice (ints o.ports)), str o.cls, .pd (.slice (rows AListener.pd o.listeners)), .pd (.slice (rows AParent.pd o.parents)), .pd (.slice (strs o.hosts)), .pd (.slice (rows ARule.pd o.rules)), .pd (.slice (rows ASide.pd o.from_)), .pd (.slice (rows ASide.pd o.to_))]), (2, [int 0, str ⟨#[]⟩, str ⟨#[]⟩, bln false, .nils, .nils, str ⟨#[]⟩, .nils, .nils, .nils, .nils, .nils, .nils]), (3, [int (fewRef o.ref).kind, str (fewRef o.ref).space, str (fewRef o.ref).name, bln o.good, .pd (.slice (rows APair.pd (fewPairs o.labels))), .own 3 1 (rows cInt ((o.ports.take 9).map id)) 52, str (few o.cls), .own 78 9 (rows AListener.pd ((o.listeners.take 9).map fewListener)) 92, .own 81 4 (rows AParent.pd ((o.parents.take 5).map fewParent)) 125, .own 9 1 (rows cStr ((o.hosts.take 5).map few)) 147, .nils, .pd (.slice (rows ASide.pd (fewSides o.from_))), .pd (.slice (rows ASide.pd (fewSides o.to_)))])], [], .no⟩) ?_ ?_
  · intro K' hK
    simp only [go_sem, contS_seq, simprocAttr, rows_len]
    refine loopS (fun k st => ∃ i : Nat, k = 5 - i ∧ i ≤ 5 ∧ i ≤ o.hosts.length ∧
      st = ⟨[(1, .ptr 1 0), (2, .ptr 2 0), (3, .ptr 3 0), (9, int i)], [(1, [int o.ref.kind, str o.ref.space, str o.ref.name, bln o.good, .pd (.slice (rows APair.pd o.labels)), .pd (.slice (ints o.ports)), str o.cls, .pd (.slice (rows AListener.pd o.listeners)), .pd (.slice (rows AParent.pd o.parents)), .pd (.slice (strs o.hosts)), .pd (.slice (rows ARule.pd o.rules)), .pd (.slice (rows ASide.pd o.from_)), .pd (.slice (rows ASide.pd o.to_))]), (2, [int 0, str ⟨#[]⟩, str ⟨#[]⟩, bln false, .nils, .nils, str ⟨#[]⟩, .nils, .nils, .nils, .nils, .nils, .nils]), (3, [int (fewRef o.ref).kind, str (fewRef o.ref).space, str (fewRef o.ref).name, bln o.good, .pd (.slice (rows APair.pd (fewPairs o.labels))), .own 3 1 (rows cInt ((o.ports.take 9).map id)) 52, str (few o.cls), .own 78 9 (rows AListener.pd ((o.listeners.take 9).map fewListener)) 92, .own 81 4 (rows AParent.pd ((o.parents.take 5).map fewParent)) 125, .own 9 1 (rows cStr ((o.hosts.take i).map few)) 147, .nils, .pd (.slice (rows ASide.pd (fewSides o.from_))), .pd (.slice (rows ASide.pd (fewSides o.to_)))])], [], .no⟩) 5 _
      ?_ ⟨0, rfl, by omega, by omega, rfl⟩ ?_
    · exact Weak.ownB 3 9 147 9 1 (by kernel_rfl) (by decide) rfl rfl (by simp [lessL, lk, St.purge, D.purge, rows]) (by simp [lessL, lk, St.purge, D.purges, D.purge, rows]) (by simp [lessL]) rfl
    rintro k st ⟨i, rfl, hi6, hi, rfl⟩
    have hw := i64_succ (show i < 1000000000 by omega)
    by_cases hlt : i < o.hosts.length ∧ i < 5
    · obtain ⟨x, hx⟩ := at_lt hlt.1
      have h1 : ((i : Int) < (o.hosts.length : Int)) = True := eq_true (by omega)
      have h2 : ((i : Int) < 5) = True := eq_true (by omega)
      have hl' : ((o.hosts.take i).map few).length ≤ i := by simp; omega
      have e1 : rows cStr ((o.hosts.take i).map few) ++ [[PD.raw (Value.string (few x))]] = rows cStr ((o.hosts.take (i + 1)).map few) := few_step hx
      simp only [go_sem, contS_seq, simprocAttr, rows_len, rows_get hx, h1, h2]
      repeat' (first | (refine (law1_Few x).callX (enters_of Tryz.func10 rfl rfl) _ rfl rfl ?_; rintro _ rfl; simp only [go_sem, contS_seq, simprocAttr, rows_len, rows_get hx]))
      simp only [go_sem, contS_seq, simprocAttr, hw, e1]
      refine ⟨by simp, by unfold maxLen; omega, by omega, 5 - (i + 1), _, by omega, ?_, i + 1, rfl, by omega, by omega, rfl⟩
      exact lessA
    · have h3 := few_end (g := few) hi6 hi hlt
      rw [h3]
      by_cases h1 : i < o.hosts.length
      · have h1' : ((i : Int) < (o.hosts.length : Int)) = True := eq_true (by omega)
        have h2 : ((i : Int) < 5) = False := eq_false (by omega)
        simp only [go_sem, contS_seq, simprocAttr, rows_len, h1', h2]
        exact hK _ ⟨i, rfl⟩
      · have h1' : ((i : Int) < (o.hosts.length : Int)) = False := eq_false (by omega)
        simp only [go_sem, contS_seq, simprocAttr, rows_len, h1']
        exact hK _ ⟨i, rfl⟩
  rintro s ⟨_, rfl⟩
  refine run_cutJ (fun s => ∃ i : Nat, s = ⟨[(157, bln false), (1, .ptr 1 0), (2, .ptr 2 0), (3, .ptr 3 0), (10, int i), (157, bln false)], [(1, [int o.ref.kind, str o.ref.space, str o.ref.name, bln o.good, .pd (.slice (rows APair.pd o.labels)), .pd (.slice (ints o.ports)), str o.cls, .pd (.slice (rows AListener.pd o.listeners)), .pd (.slice (rows AParent.pd o.parents)), .pd (.slice (strs o.hosts)), .pd (.slice (rows ARule.pd o.rules)), .pd (.slice (rows ASide.pd o.from_)), .pd (.slice (rows ASide.pd o.to_))]), (2, [int 0, str ⟨#[]⟩, str ⟨#[]⟩, bln false, .nils, .nils, str ⟨#[]⟩, .nils, .nils, .nils, .nils, .nils, .nils]), (3, [int (fewRef o.ref).kind, str (fewRef o.ref).space, str (fewRef o.ref).name, bln o.good, .pd (.slice (rows APair.pd (fewPairs o.labels))), .own 3 1 (rows cInt ((o.ports.take 9).map id)) 52, str (few o.cls), .own 78 9 (rows AListener.pd ((o.listeners.take 9).map fewListener)) 92, .own 81 4 (rows AParent.pd ((o.parents.take 5).map fewParent)) 125, .own 9 1 (rows cStr ((o.hosts.take 5).map few)) 147, .own 66 3 (rows ARule.pd ((o.rules.take 7).map fewRule)) 239, .pd (.slice (rows ASide.pd (fewSides o.from_))), .pd (.slice (rows ASide.pd (fewSides o.to_)))])], [], .no⟩) ?_ ?_
  · intro K' hK
    simp only [go_sem, contS_seq, simprocAttr, rows_len]
    refine loopS (fun k st => ∃ i : Nat, k = 7 - i ∧ i ≤ 7 ∧ i ≤ o.rules.length ∧
      st = ⟨[(1, .ptr 1 0), (2, .ptr 2 0), (3, .ptr 3 0), (10, int i)], [(1, [int o.ref.kind, str o.ref.space, str o.ref.name, bln o.good, .pd (.slice (rows APair.pd o.labels)), .pd (.slice (ints o.ports)), str o.cls, .pd (.slice (rows AListener.pd o.listeners)), .pd (.slice (rows AParent.pd o.parents)), .pd (.slice (strs o.hosts)), .pd (.slice (rows ARule.pd o.rules)), .pd (.slice (rows ASide.pd o.from_)), .pd (.slice (rows ASide.pd o.to_))]), (2, [int 0, str ⟨#[]⟩, str ⟨#[]⟩, bln false, .nils, .nils, str ⟨#[]⟩, .nils, .nils, .nils, .nils, .nils, .nils]), (3, [int (fewRef o.ref).kind, str (fewRef o.ref).space, str (fewRef o.ref).name, bln o.good, .pd (.slice (rows APair.pd (fewPairs o.labels))), .own 3 1 (rows cInt ((o.ports.take 9).map id)) 52, str (few o.cls), .own 78 9 (rows AListener.pd ((o.listeners.take 9).map fewListener)) 92, .own 81 4 (rows AParent.pd ((o.parents.take 5).map fewParent)) 125, .own 9 1 (rows cStr ((o.hosts.take 5).map few)) 147, .own 66 3 (rows ARule.pd ((o.rules.take i).map fewRule)) 239, .pd (.slice (rows ASide.pd (fewSides o.from_))), .pd (.slice (rows ASide.pd (fewSides o.to_)))])], [], .no⟩) 7 _
      ?_ ⟨0, rfl, by omega, by omega, rfl⟩ ?_
    · exact Weak.ownB 3 10 239 66 3 (by kernel_rfl) (by decide) rfl rfl (by simp [lessL, lk, St.purge, D.purge, rows]) (by simp [lessL, lk, St.purge, D.purges, D.purge, rows]) (by simp [lessL]) rfl
    rintro k st ⟨i, rfl, hi6, hi, rfl⟩
    have hw := i64_succ (show i < 1000000000 by omega)
    by_cases hlt : i < o.rules.length ∧ i < 7
    · obtain ⟨x, hx⟩ := at_lt hlt.1
      have h1 : ((i : Int) < (o.rules.length : Int)) = True := eq_true (by omega)
      have h2 : ((i : Int) < 7) = True := eq_true (by omega)
      have hl' : ((o.rules.take i).map fewRule).length ≤ i := by simp; omega
      have e1 : rows ARule.pd ((o.rules.take i).map fewRule) ++ [[PD.slice (rows AMatch.pd ((x.matches_.take 5).map fewMatch)), PD.slice (rows AFilter.pd (fewFilters x.filters)), PD.slice (rows ABackend.pd ((x.backends.take 5).map fewBackend))]] = rows ARule.pd ((o.rules.take (i + 1)).map fewRule) := few_step hx
      apply run_cut
      · intro K' hK
        simp only [go_sem, contS_seq, simprocAttr, rows_len, h1, h2]
        exact hK
      apply run_cut
      · intro K' hK
        rw [run_block]
        apply run_cut
        · intro K' hK
          simp only [go_sem, contS_seq, simprocAttr, rows_len, rows_get hx]
          refine (law7_Few x.filters).callW (enters_of Tryz.func48 rfl rfl) _ rfl rfl ?_
          rintro _ rfl
          simp only [go_sem, contS_seq, simprocAttr]
          exact hK
        refine run_cutJ (fun s => ∃ j : Nat, s = ⟨[(180, bln false), (1, .ptr 1 0), (2, .ptr 2 0), (3, .ptr 3 0), (10, int i), (11, .ptr 11 0), (12, int j), (180, bln false)], [(1, [int o.ref.kind, str o.ref.space, str o.ref.name, bln o.good, .pd (.slice (rows APair.pd o.labels)), .pd (.slice (ints o.ports)), str o.cls, .pd (.slice (rows AListener.pd o.listeners)), .pd (.slice (rows AParent.pd o.parents)), .pd (.slice (strs o.hosts)), .pd (.slice (rows ARule.pd o.rules)), .pd (.slice (rows ASide.pd o.from_)), .pd (.slice (rows ASide.pd o.to_))]), (2, [int 0, str ⟨#[]⟩, str ⟨#[]⟩, bln false, .nils, .nils, str ⟨#[]⟩, .nils, .nils, .nils, .nils, .nils, .nils]), (3, [int (fewRef o.ref).kind, str (fewRef o.ref).space, str (fewRef o.ref).name, bln o.good, .pd (.slice (rows APair.pd (fewPairs o.labels))), .own 3 1 (rows cInt ((o.ports.take 9).map id)) 52, str (few o.cls), .own 78 9 (rows AListener.pd ((o.listeners.take 9).map fewListener)) 92, .own 81 4 (rows AParent.pd ((o.parents.take 5).map fewParent)) 125, .own 9 1 (rows cStr ((o.hosts.take 5).map few)) 147, .own 66 3 (rows ARule.pd ((o.rules.take i).map fewRule)) 239, .pd (.slice (rows ASide.pd (fewSides o.from_))), .pd (.slice (rows ASide.pd (fewSides o.to_)))]), (11, [.own 86 5 (rows AMatch.pd ((x.matches_.take 5).map fewMatch)) 196, .pd (.slice (rows AFilter.pd (fewFilters x.filters))), .nils])], [], .no⟩) ?_ ?_
        · intro K' hK
          simp only [go_sem, contS_seq, simprocAttr, rows_len, rows_get hx]
          refine loopS (fun k st => ∃ j : Nat, k = 5 - j ∧ j ≤ 5 ∧ j ≤ x.matches_.length ∧
            st = ⟨[(1, .ptr 1 0), (2, .ptr 2 0), (3, .ptr 3 0), (10, int i), (11, .ptr 11 0), (12, int j)], [(1, [int o.ref.kind, str o.ref.space, str o.ref.name, bln o.good, .pd (.slice (rows APair.pd o.labels)), .pd (.slice (ints o.ports)), str o.cls, .pd (.slice (rows AListener.pd o.listeners)), .pd (.slice (rows AParent.pd o.parents)), .pd (.slice (strs o.hosts)), .pd (.slice (rows ARule.pd o.rules)), .pd (.slice (rows ASide.pd o.from_)), .pd (.slice (rows ASide.pd o.to_))]), (2, [int 0, str ⟨#[]⟩, str ⟨#[]⟩, bln false, .nils, .nils, str ⟨#[]⟩, .nils, .nils, .nils, .nils, .nils, .nils]), (3, [int (fewRef o.ref).kind, str (fewRef o.ref).space, str (fewRef o.ref).name, bln o.good, .pd (.slice (rows APair.pd (fewPairs o.labels))), .own 3 1 (rows cInt ((o.ports.take 9).map id)) 52, str (few o.cls), .own 78 9 (rows AListener.pd ((o.listeners.take 9).map fewListener)) 92, .own 81 4 (rows AParent.pd ((o.parents.take 5).map fewParent)) 125, .own 9 1 (rows cStr ((o.hosts.take 5).map few)) 147, .own 66 3 (rows ARule.pd ((o.rules.take i).map fewRule)) 239, .pd (.slice (rows ASide.pd (fewSides o.from_))), .pd (.slice (rows ASide.pd (fewSides o.to_)))]), (11, [.own 86 5 (rows AMatch.pd ((x.matches_.take j).map fewMatch)) 196, .pd (.slice (rows AFilter.pd (fewFilters x.filters))), .nils])], [], .no⟩) 5 _
            ?_ ⟨0, rfl, by omega, by omega, rfl⟩ ?_
          · exact Weak.ownB 11 0 196 86 5 (by kernel_rfl) (by decide) rfl rfl (by simp [lessL, lk, St.purge, D.purge, rows]) (by simp [lessL, lk, St.purge, D.purges, D.purge, rows]) (by simp [lessL]) rfl
          rintro k st ⟨j, rfl, hj6, hj, rfl⟩
          have hwj := i64_succ (show j < 1000000000 by omega)
          by_cases hltj : j < x.matches_.length ∧ j < 5
          · obtain ⟨y, hy⟩ := at_lt hltj.1
            have h1' : ((j : Int) < (x.matches_.length : Int)) = True := eq_true (by omega)
            have h2' : ((j : Int) < 5) = True := eq_true (by omega)
            have hlj : ((x.matches_.take j).map fewMatch).length ≤ j := by simp; omega
            have e2 : rows AMatch.pd ((x.matches_.take j).map fewMatch) ++ [[PD.raw (Value.int IntKind.i64 (fewMatch y).pkind), PD.raw (Value.string (fewMatch y).pval), PD.raw (Value.string (fewMatch y).method), PD.slice (rows APair.pd (fewMatch y).head), PD.slice (rows APair.pd (fewMatch y).query)]] = rows AMatch.pd ((x.matches_.take (j + 1)).map fewMatch) := few_step hy
            simp only [go_sem, contS_seq, simprocAttr, rows_len, rows_get hx, rows_get hy, h1', h2']
            repeat' (first | (refine (law6_Few y).callX (enters_of Tryz.func49 rfl rfl) _ rfl rfl ?_; rintro _ rfl; simp only [go_sem, contS_seq, simprocAttr, rows_len, rows_get hx, rows_get hy]))
            simp only [go_sem, contS_seq, simprocAttr, hwj, e2]
            refine ⟨by simp, by unfold maxLen; omega, by omega, 5 - (j + 1), _, by omega, ?_, j + 1, rfl, by omega, by omega, rfl⟩
            exact lessA
          · have h3 := few_end (g := fewMatch) hj6 hj hltj
            rw [h3]
            by_cases h1 : j < x.matches_.length
            · have h1' : ((j : Int) < (x.matches_.length : Int)) = True := eq_true (by omega)
              have h2 : ((j : Int) < 5) = False := eq_false (by omega)
              simp only [go_sem, contS_seq, simprocAttr, rows_len, rows_get hx, h1', h2]
              exact hK _ ⟨j, rfl⟩
            · have h1' : ((j : Int) < (x.matches_.length : Int)) = False := eq_false (by omega)
              simp only [go_sem, contS_seq, simprocAttr, rows_len, rows_get hx, h1']
              exact hK _ ⟨j, rfl⟩
        rintro s ⟨_, rfl⟩
        refine run_cutJ (fun s => ∃ j : Nat, s = ⟨[(210, bln false), (1, .ptr 1 0), (2, .ptr 2 0), (3, .ptr 3 0), (10, int i), (11, .ptr 11 0), (13, int j), (210, bln false)], [(1, [int o.ref.kind, str o.ref.space, str o.ref.name, bln o.good, .pd (.slice (rows APair.pd o.labels)), .pd (.slice (ints o.ports)), str o.cls, .pd (.slice (rows AListener.pd o.listeners)), .pd (.slice (rows AParent.pd o.parents)), .pd (.slice (strs o.hosts)), .pd (.slice (rows ARule.pd o.rules)), .pd (.slice (rows ASide.pd o.from_)), .pd (.slice (rows ASide.pd o.to_))]), (2, [int 0, str ⟨#[]⟩, str ⟨#[]⟩, bln false, .nils, .nils, str ⟨#[]⟩, .nils, .nils, .nils, .nils, .nils, .nils]), (3, [int (fewRef o.ref).kind, str (fewRef o.ref).space, str (fewRef o.ref).name, bln o.good, .pd (.slice (rows APair.pd (fewPairs o.labels))), .own 3 1 (rows cInt ((o.ports.take 9).map id)) 52, str (few o.cls), .own 78 9 (rows AListener.pd ((o.listeners.take 9).map fewListener)) 92, .own 81 4 (rows AParent.pd ((o.parents.take 5).map fewParent)) 125, .own 9 1 (rows cStr ((o.hosts.take 5).map few)) 147, .own 66 3 (rows ARule.pd ((o.rules.take i).map fewRule)) 239, .pd (.slice (rows ASide.pd (fewSides o.from_))), .pd (.slice (rows ASide.pd (fewSides o.to_)))]), (11, [.own 86 5 (rows AMatch.pd ((x.matches_.take 5).map fewMatch)) 196, .pd (.slice (rows AFilter.pd (fewFilters x.filters))), .own 68 5 (rows ABackend.pd ((x.backends.take 5).map fewBackend)) 233])], [], .no⟩) ?_ ?_
        · intro K' hK
          simp only [go_sem, contS_seq, simprocAttr, rows_len, rows_get hx]
          refine loopS (fun k st => ∃ j : Nat, k = 5 - j ∧ j ≤ 5 ∧ j ≤ x.backends.length ∧
            st = ⟨[(1, .ptr 1 0), (2, .ptr 2 0), (3, .ptr 3 0), (10, int i), (11, .ptr 11 0), (13, int j)], [(1, [int o.ref.kind, str o.ref.space, str o.ref.name, bln o.good, .pd (.slice (rows APair.pd o.labels)), .pd (.slice (ints o.ports)), str o.cls, .pd (.slice (rows AListener.pd o.listeners)), .pd (.slice (rows AParent.pd o.parents)), .pd (.slice (strs o.hosts)), .pd (.slice (rows ARule.pd o.rules)), .pd (.slice (rows ASide.pd o.from_)), .pd (.slice (rows ASide.pd o.to_))]), (2, [int 0, str ⟨#[]⟩, str ⟨#[]⟩, bln false, .nils, .nils, str ⟨#[]⟩, .nils, .nils, .nils, .nils, .nils, .nils]), (3, [int (fewRef o.ref).kind, str (fewRef o.ref).space, str (fewRef o.ref).name, bln o.good, .pd (.slice (rows APair.pd (fewPairs o.labels))), .own 3 1 (rows cInt ((o.ports.take 9).map id)) 52, str (few o.cls), .own 78 9 (rows AListener.pd ((o.listeners.take 9).map fewListener)) 92, .own 81 4 (rows AParent.pd ((o.parents.take 5).map fewParent)) 125, .own 9 1 (rows cStr ((o.hosts.take 5).map few)) 147, .own 66 3 (rows ARule.pd ((o.rules.take i).map fewRule)) 239, .pd (.slice (rows ASide.pd (fewSides o.from_))), .pd (.slice (rows ASide.pd (fewSides o.to_)))]), (11, [.own 86 5 (rows AMatch.pd ((x.matches_.take 5).map fewMatch)) 196, .pd (.slice (rows AFilter.pd (fewFilters x.filters))), .own 68 5 (rows ABackend.pd ((x.backends.take j).map fewBackend)) 233])], [], .no⟩) 5 _
            ?_ ⟨0, rfl, by omega, by omega, rfl⟩ ?_
          · exact Weak.ownB 11 2 233 68 5 (by kernel_rfl) (by decide) rfl rfl (by simp [lessL, lk, St.purge, D.purge, rows]) (by simp [lessL, lk, St.purge, D.purges, D.purge, rows]) (by simp [lessL]) rfl
          rintro k st ⟨j, rfl, hj6, hj, rfl⟩
          have hwj := i64_succ (show j < 1000000000 by omega)
          by_cases hltj : j < x.backends.length ∧ j < 5
          · obtain ⟨y, hy⟩ := at_lt hltj.1
            have h1' : ((j : Int) < (x.backends.length : Int)) = True := eq_true (by omega)
            have h2' : ((j : Int) < 5) = True := eq_true (by omega)
            have hlj : ((x.backends.take j).map fewBackend).length ≤ j := by simp; omega
            have e2 : rows ABackend.pd ((x.backends.take j).map fewBackend) ++ [[PD.raw (Value.int IntKind.i64 (fewRef y.ref).kind), PD.raw (Value.string (fewRef y.ref).space), PD.raw (Value.string (fewRef y.ref).name), PD.raw (Value.int IntKind.i64 y.port), PD.raw (Value.int IntKind.i64 y.weight)]] = rows ABackend.pd ((x.backends.take (j + 1)).map fewBackend) := few_step hy
            simp only [go_sem, contS_seq, simprocAttr, rows_len, rows_get hx, rows_get hy, h1', h2']
            repeat' (first | (refine (law9_FewRef y.ref).callX (enters_of Tryz.func9 rfl rfl) _ rfl rfl ?_; rintro _ rfl; simp only [go_sem, contS_seq, simprocAttr, rows_len, rows_get hx, rows_get hy]))
            simp only [go_sem, contS_seq, simprocAttr, hwj, e2]
            refine ⟨by simp, by unfold maxLen; omega, by omega, 5 - (j + 1), _, by omega, ?_, j + 1, rfl, by omega, by omega, rfl⟩
            exact lessA
          · have h3 := few_end (g := fewBackend) hj6 hj hltj
            rw [h3]
            by_cases h1 : j < x.backends.length
            · have h1' : ((j : Int) < (x.backends.length : Int)) = True := eq_true (by omega)
              have h2 : ((j : Int) < 5) = False := eq_false (by omega)
              simp only [go_sem, contS_seq, simprocAttr, rows_len, rows_get hx, h1', h2]
              exact hK _ ⟨j, rfl⟩
            · have h1' : ((j : Int) < (x.backends.length : Int)) = False := eq_false (by omega)
              simp only [go_sem, contS_seq, simprocAttr, rows_len, rows_get hx, h1']
              exact hK _ ⟨j, rfl⟩
        rintro s ⟨_, rfl⟩
        simp only [go_sem, contS_seq, simprocAttr, rows_len, e1]
        refine ⟨by simp, by unfold maxLen; omega, by omega, ?_⟩
        exact hK
      simp only [go_sem, contS_seq, simprocAttr, hw]
      refine ⟨7 - (i + 1), _, by omega, ?_, i + 1, rfl, by omega, by omega, rfl⟩
      exact lessA
    · have h3 := few_end (g := fewRule) hi6 hi hlt
      rw [h3]
      by_cases h1 : i < o.rules.length
      · have h1' : ((i : Int) < (o.rules.length : Int)) = True := eq_true (by omega)
        have h2 : ((i : Int) < 7) = False := eq_false (by omega)
        simp only [go_sem, contS_seq, simprocAttr, rows_len, h1', h2]
        exact hK _ ⟨i, rfl⟩
      · have h1' : ((i : Int) < (o.rules.length : Int)) = False := eq_false (by omega)
        simp only [go_sem, contS_seq, simprocAttr, rows_len, h1']
        exact hK _ ⟨i, rfl⟩
  rintro s ⟨_, rfl⟩
  simp only [go_sem, contS_seq, simprocAttr]
  simp only [retK, resD, resA, AOp.ex, St.ev, St.get, lk, oneD, D.pub, D.pubs, retL, reduceIte, Nat.reduceEqDiff, Nat.reduceAdd, Nat.reduceLeDiff, ret_z8s55, List.map_id]
  exact ⟨_, rfl, rfl, rfl⟩


def fewObjs (l : List AObj) : List AObj := (l.take 24).map fewObj

theorem take_map_mem {α β : Type} {g : α → β} {l : List α} {n : Nat} {y : β} (h : y ∈ (l.take n).map g) : ∃ x, x ∈ l ∧ g x = y := by
  obtain ⟨x, hx, rfl⟩ := List.mem_map.1 h
  exact ⟨x, List.mem_of_mem_take hx, rfl⟩

theorem fewPairs_ok {l : List APair} : ∀ p ∈ fewPairs l, p.ok := fun p hp => by
  obtain ⟨x, _, rfl⟩ := take_map_mem hp
  exact fewPair_ok x

theorem fewPairs_len (l : List APair) : (fewPairs l).length ≤ 1000000 := by simp [fewPairs]; omega

theorem fewMatch_ok (m : AMatch) : (fewMatch m).ok := ⟨fewPairs_len _, fewPairs_len _, fewPairs_ok, fewPairs_ok⟩

theorem fewFilter_ok (f : AFilter) : (fewFilter f).ok := ⟨by have := few_size f.name; simp [fewFilter]; omega, by have := few_size f.val; simp [fewFilter]; omega⟩

theorem fewNeed_ok (n : ANeed) : (fewNeed n).ok := by simp [ANeed.ok, fewNeed]; omega

theorem fewListener_ok (l : AListener) : (fewListener l).ok := ⟨by simp [fewListener, fewNeeds]; omega, fun x hx => by
  obtain ⟨y, _, rfl⟩ := take_map_mem hx
  exact fewNeed_ok y⟩

theorem fewRule_ok (r : ARule) : (fewRule r).ok := ⟨by simp [fewRule]; omega, by simp [fewRule, fewFilters]; omega, by simp [fewRule]; omega, fun x hx => by
  obtain ⟨y, _, rfl⟩ := take_map_mem hx
  exact fewMatch_ok y, fun x hx => by
  obtain ⟨y, _, rfl⟩ := take_map_mem hx
  exact fewFilter_ok y⟩

theorem fewObj_ok (o : AObj) : (fewObj o).ok where
  la := fewPairs_len _
  po := by simp [fewObj]; omega
  li := by simp [fewObj]; omega
  pa := by simp [fewObj]; omega
  ho := by simp [fewObj]; omega
  ru := by simp [fewObj]; omega
  fr := by simp [fewObj, fewSides]; omega
  to := by simp [fewObj, fewSides]; omega
  lis := fun x hx => by
    obtain ⟨y, _, rfl⟩ := take_map_mem hx
    exact fewListener_ok y
  rus := fun x hx => by
    obtain ⟨y, _, rfl⟩ := take_map_mem hx
    exact fewRule_ok y

theorem fewObjs_ok {l : List AObj} : ∀ o ∈ fewObjs l, o.ok := fun o ho => by
  obtain ⟨x, _, rfl⟩ := take_map_mem ho
  exact fewObj_ok x

theorem fewObjs_len (l : List AObj) : (fewObjs l).length ≤ 24 := by simp [fewObjs]; omega

theorem law11_Some (l : List AObj) : Pure Tryz.prog 26 [.pd (.slice (rows AObj.pd l))] (fun d => d = .pd (.slice (rows AObj.pd (fewObjs l)))) := by
  refine pure_of_run follows an_zh218 Tryz.func26 rfl ok_zh218.1 ok_zh218.2 (by simp [Tryz.ntmps26]) ?_
  rw [run_start]
  simp only [ac_zh218, oo, og, tp, ci, cq, mq, lq, fi, sr, go_sem, contS_seq, simprocAttr, rows_len]
  refine loopS (fun k st => ∃ i : Nat, k = 24 - i ∧ i ≤ 24 ∧ i ≤ l.length ∧
    st = ⟨[(0, .pd (.slice (rows AObj.pd l))), (3, .own 32 13 (rows AObj.pd ((l.take i).map fewObj)) 22), (4, int i)], [], [], .no⟩) 24 _
    ?_ ⟨0, rfl, by omega, by omega, rfl⟩ ?_
  · exact Weak.own1 3 22 32 13 (by kernel_rfl) (by decide) rfl (by simp [lessL, lk, St.purge, St.put, D.purge, rows]) (by simp [lessL, lk, St.purge, D.purges, D.purge]) (by simp [lessL]) rfl
  rintro k st ⟨i, rfl, hi6, hi, rfl⟩
  have hw := i64_succ (show i < 1000000000 by omega)
  by_cases hlt : i < l.length ∧ i < 24
  · obtain ⟨x, hx⟩ := at_lt hlt.1
    have h1 : ((i : Int) < (l.length : Int)) = True := eq_true (by omega)
    have h2 : ((i : Int) < 24) = True := eq_true (by omega)
    simp only [go_sem, contS_seq, simprocAttr, rows_len, rows_get hx, h1, h2]
    refine (law9_Few x).callW (enters_of Tryz.func8 rfl rfl) _ rfl rfl ?_
    rintro d rfl
    have hl' : ((l.take i).map fewObj).length ≤ i := by simp; omega
    have e1 : rows AObj.pd ((l.take i).map fewObj) ++ [AObj.pd (fewObj x)] = rows AObj.pd ((l.take (i + 1)).map fewObj) := few_step hx
    simp only [go_sem, contS_seq, simprocAttr, rows_len, hw]
    rw [e1]
    refine ⟨by simp, by unfold maxLen; omega, by omega, 24 - (i + 1), _, by omega, ?_, i + 1, rfl, by omega, by omega, rfl⟩
    exact lessA
  · have h3 := few_end (g := fewObj) hi6 hi hlt
    rw [h3]
    by_cases h1 : i < l.length
    · have h1' : ((i : Int) < (l.length : Int)) = True := eq_true (by omega)
      have h2 : ((i : Int) < 24) = False := eq_false (by omega)
      simp only [go_sem, contS_seq, simprocAttr, rows_len, h1', h2]
      simp only [retK, resD, St.get, lk, oneD, D.pub, D.pubs, retL, reduceIte, Nat.reduceEqDiff, Nat.reduceAdd, Nat.reduceLeDiff, Tryz.results26]
      exact ⟨_, rfl, rfl, rfl⟩
    · have h1' : ((i : Int) < (l.length : Int)) = False := eq_false (by omega)
      simp only [go_sem, contS_seq, simprocAttr, rows_len, h1']
      simp only [retK, resD, St.get, lk, oneD, D.pub, D.pubs, retL, reduceIte, Nat.reduceEqDiff, Nat.reduceAdd, Nat.reduceLeDiff, Tryz.results26]
      exact ⟨_, rfl, rfl, rfl⟩


section
variable {α : Type} [DecidableEq α]

end

end Go.Proofs.YtklolokoaooppaaGreatDoor



namespace Go.Proofs.YtklolokoaooppaaGreatDoor
open Go

def ac_zfsgx : AC := (sr [oo 4 (.box 43 (tp 0)),oo 5 (.box 3 (tp 1)),oo 6 (.box 9 (tp 2)),oo 7 (.box 23 (tp 3)),oo 8 (.mv (.const .nilFunc))] [4,5,6,7] (sr [oo 9 (.mkfn 97 [tp 4,tp 5,tp 6,tp 7]),mq 8 9] [8] .ret))
def an_zfsgx : Ann := ann (List.range 2) ac_zfsgx
theorem ok_zfsgx : okd Tryz.prog an_zfsgx ac_zfsgx Tryz.f62 := ⟨by kernel_rfl, by kernel_rfl⟩

def ac_zvbe : AC := (sr [lq 8 1,oo 9 (.len (tp 8) false),oo 10 (.mv (ci 0))] [0,2,3,4,8,9,10] (.block 0 (.loop (sr [oo 11 (.bin .lss (tp 10) (tp 9))] [0,2,3,4,8,9,10,11] (.seq (.cond (tp 11) .skip (.exit 0)) (.seq (.block 1 (sr [oo 12 (.idxA 13 (tp 8) (tp 10)),oo 13 (.load (some 13) (tp 12)),oo 7 (.alloc 32 [.pd (.raw (.int .i64 0)),.pd (.raw (.string ⟨#[]⟩)),.pd (.raw (.string ⟨#[]⟩)),.pd (.raw (.bool false)),.nils,.nils,.pd (.raw (.string ⟨#[]⟩)),.nils,.nils,.nils,.nils,.nils,.nils]),.mk none none (.store 13 (tp 7) (tp 13))] [0,2,3,4,7,8,9,10] (sr [oo 14 (.load (some 13) (tp 7)),lq 15 2,lq 16 3,oo 17 (.load (some 3) (tp 4)),oo 18 (.call 11 [tp 14,tp 15,tp 16,tp 17]),mq 19 18,og 19 true 20 (.mv (tp 0)),og 19 true 21 (.fieldA 0 (tp 7)),og 19 true 22 (.load (some 3) (tp 21)),og 19 true 23 (.callv (tp 20) [tp 22]),og 19 true 24 (.un .not (tp 23)),oo 25 (.pick (tp 19) (tp 24) (cq false))] [0,2,3,4,8,9,10,25] (.cond (tp 25) .ret .skip)))) (.region [oo 26 (.bin .add (tp 10) (ci 1)),mq 10 26] (some [0,2,3,4,8,9,10]))))))))
def an_zvbe : Ann := ann (List.range 5) ac_zvbe
theorem ok_zvbe : okd Tryz.prog an_zvbe ac_zvbe Tryz.f97 := ⟨by kernel_rfl, by kernel_rfl⟩

def ac_zj2qb : AC := (sr [oo 7 (.box 23 (tp 3)),oo 8 (.alloc 4 [.pd (.raw (.bool false))])] [0,1,2,7,8] (.seq (sr [mq 9 0,mq 10 1,mq 11 2,oo 12 (.load (some 3) (tp 7)),oo 13 (.call 62 [tp 9,tp 10,tp 11,tp 12])] [2,7,8,13] (.block 0 (.rangeF [7,8] 14 none (tp 13) (.block 1 (sr [.mk none none (.store 1 (tp 8) (cq true))] [] .ret))))) (sr [mq 15 2,fi 16 1 7,lq 17 16,oo 18 (.bin .eql (tp 15) (tp 17)),.mk none none (.store 1 (tp 8) (tp 18))] [8] .ret)))
def an_zj2qb : Ann := ann (List.range 4) ac_zj2qb
theorem ok_zj2qb : okd Tryz.prog an_zj2qb ac_zj2qb Tryz.f16 := ⟨by kernel_rfl, by kernel_rfl⟩
theorem ret_zj2qb (st : St) : resD Tryz.prog st Tryz.f16.results.toList = resA st [.cell 8 none] := resD_of (by kernel_rfl)

end Go.Proofs.YtklolokoaooppaaGreatDoor


namespace Go.Proofs.YtklolokoaooppaaGreatDoor
open Go Go.RowKit
set_option linter.unusedSimpArgs false
set_option linter.unusedVariables false
set_option maxRecDepth 100000

def near (r : ARef) (s : ByteArray) : ARef := if r.space = ⟨#[]⟩ ∧ r.kind ≠ 1 ∧ r.kind ≠ 2 then { r with space := s } else r

set_option maxRecDepth 100000 in
theorem grant_Near (r : ARef) (s : ByteArray) : Pure Tryz.prog 20 [r.d, str s] (fun d => d = (near r s).d) := by
  refine pure_of_run follows an_zrkgf Tryz.func20 rfl ok_zrkgf.1 ok_zrkgf.2 (by simp [Tryz.ntmps20]) ?_
  rw [run_start]
  simp only [ac_zrkgf, oo, og, tp, ci, cq, mq, lq, fi, sr, go_sem, contS_seq, simprocAttr]
  simp only [retK, resD, resA, AOp.ex, St.ev, St.get, lk, oneD, D.pub, D.pubs, retL, reduceIte, Nat.reduceEqDiff, Nat.reduceAdd, Nat.reduceLeDiff, ret_zrkgf]
  refine ⟨fun h1 => ⟨fun h2 => ?_, fun h2 => ⟨fun h3 => ?_, fun h3 => ?_⟩⟩, fun h1 => ?_⟩
  · exact ⟨_, rfl, rfl, by simp [near, h1, h2, oneD, D.pub, D.pubs]⟩
  · exact ⟨_, rfl, rfl, by simp [near, h1, h3, oneD, D.pub, D.pubs]⟩
  · exact ⟨_, rfl, rfl, by simp [near, h1, h2, h3, oneD, D.pub, D.pubs]⟩
  · exact ⟨_, rfl, rfl, by simp [near, h1, oneD, D.pub, D.pubs]⟩

abbrev refVal (r : ARef) : Value := .agg #[.int .i64 r.kind, .string r.space, .string r.name]

theorem by_iter (p : AObj → Bool) (os : List AObj) (kind : Int) (space : ByteArray) (to_ : ARef) (hos : os.length ≤ 1000000)
    (hp : ∀ o ∈ os, Pure Tryz.prog 11 [o.d, int kind, str space, to_.d] (fun d => d = bln (p o))) :
    IterB Tryz.prog 97 [(500001, 0), (500002, 0), (500003, 0), (500004, 0)]
      [(500001, [.pd (.slice (rows AObj.pd os))]), (500002, [int kind]), (500003, [str space]), (500004, [int to_.kind, str to_.space, str to_.name])] ((os.filter p).map fun o => refVal o.ref) := by
  refine iter_of_run follows an_zvbe Tryz.func97 rfl ok_zvbe.1 ok_zvbe.2 (by simp [Tryz.ntmps97]) rfl ?_
  intro l
  rw [run_start]
  simp only [ac_zvbe, oo, og, tp, ci, cq, mq, lq, fi, sr, go_sem, contS_seq, simprocAttr, rows_len]
  have hb := hos
  refine loopS (fun k st => ∃ i : Nat, k = os.length - i ∧ i ≤ os.length ∧
    st = ⟨[(0, yieldD l), (2, .ptr 500002 0), (3, .ptr 500003 0), (4, .ptr 500004 0), (8, .pd (.slice (rows AObj.pd os))), (9, int os.length), (10, int i)],
      [(500001, [.pd (.slice (rows AObj.pd os))]), (500002, [int kind]), (500003, [str space]), (500004, [int to_.kind, str to_.space, str to_.name])], [], .it l (((os.filter p).map fun o => refVal o.ref).map ([·])) ((os.take i).filter p).length false⟩) os.length _
    (Weak.refl _ _) ⟨0, rfl, Nat.zero_le _, rfl⟩ ?_
  rintro k st ⟨i, rfl, hi, rfl⟩
  by_cases hlt : i < os.length
  · obtain ⟨o, ho⟩ := at_lt hlt
    have hlt' : (i : Int) < (os.length : Int) := by omega
    simp only [go_sem, contS_seq, simprocAttr, hlt', decide_true, rows_get ho]
    refine (hp o (List.mem_of_getElem? ho)).callW (enters_of Tryz.func11 rfl rfl) _ rfl rfl ?_
    rintro d rfl
    have hw : IntKind.i64.wrap ((i : Int) + 1) = ((i + 1 : Nat) : Int) := by rw [IntWalk.i64_in _ (by omega)]; omega
    cases hpo : p o with
    | true =>
      have hx : (((os.filter p).map fun o => refVal o.ref).map ([·]))[((os.take i).filter p).length]? = some [refVal o.ref] := by
        simp [List.getElem?_map, filter_at ho hpo]
      simp only [go_sem, contS_seq, simprocAttr, hx, hw]
      refine ⟨⟨_, _, ?_, ?_, i + 1, rfl, ?_, rfl⟩, ?_⟩
      · omega
      · rw [filter_yes ho hpo]; exact lessA
      · omega
      · exact ⟨[], _, _, rfl, rfl, fun h => by cases h⟩
    | false =>
      simp only [go_sem, contS_seq, simprocAttr, hw]
      refine ⟨_, _, ?_, ?_, i + 1, rfl, ?_, rfl⟩
      · omega
      · rw [filter_no ho hpo]; exact lessA
      · omega
  · have hlt' : ¬ (i : Int) < (os.length : Int) := by omega
    simp only [go_sem, contS_seq, simprocAttr, hlt', decide_false]
    exact ⟨[], _, _, rfl, rfl, fun _ => by rw [List.take_of_length_le (by omega)]; simp⟩

theorem grant_by (os : List AObj) (kind : Int) (space : ByteArray) (to_ : ARef) :
    Full Tryz.prog 62 [.pd (.slice (rows AObj.pd os)), int kind, str space, to_.d] [] true
      (fun d bs => d = .fn 97 [(4, 0), (5, 0), (6, 0), (7, 0)] ∧ bs = [(4, [.pd (.slice (rows AObj.pd os))]), (5, [int kind]), (6, [str space]), (7, [int to_.kind, str to_.space, str to_.name])]) := by
  refine full_of_run follows an_zfsgx Tryz.func62 rfl ok_zfsgx.1 ok_zfsgx.2 (by simp [Tryz.ntmps62]) (by simp [Tryz.ntmps62]) (.inl rfl) ?_
  rw [run_start]
  simp only [ac_zfsgx, oo, og, tp, ci, cq, mq, lq, fi, sr, go_sem, contS_seq, simprocAttr]
  simp only [retK, fullK, resD, St.get, lk, oneD, D.pub, D.pubs, retL, reduceIte, Nat.reduceEqDiff, Nat.reduceAdd, Nat.reduceLeDiff, Tryz.results62]
  exact ⟨_, _, rfl, by simp [lessL, lk], rfl, rfl⟩

theorem grant_Permits (p : AObj → Bool) (os : List AObj) (kind : Int) (space : ByteArray) (to_ : ARef) (hos : os.length ≤ 1000000)
    (hp : ∀ o ∈ os, Pure Tryz.prog 11 [o.d, int kind, str space, to_.d] (fun d => d = bln (p o))) :
    Pure Tryz.prog 16 [.pd (.slice (rows AObj.pd os)), int kind, str space, to_.d] (fun d => d = bln (os.any p || decide (space = to_.space))) := by
  refine pure_of_run follows an_zj2qb Tryz.func16 rfl ok_zj2qb.1 ok_zj2qb.2 (by simp [Tryz.ntmps16]) ?_
  rw [run_start]
  simp only [ac_zj2qb, oo, og, tp, ci, cq, mq, lq, fi, sr, go_sem, contS_seq, simprocAttr]
  refine (grant_by os kind space to_).callW (enters_of Tryz.func62 rfl rfl) _ false [] [] [(4, 200001), (5, 200002), (6, 200003), (7, 200004)] [] rfl rfl rfl ?_
  rintro d bs ⟨rfl, rfl⟩
  simp only [go_sem, contS_seq, simprocAttr]
  refine rangeS ((os.filter p).map fun o => refVal o.ref) (fun i bs => i = 0 ∧ bs = [(7, [int to_.kind, str to_.space, str to_.name]), (8, [bln false])]) rfl rfl rfl
    ((by_iter p os kind space to_ hos hp).iterW (enters_of Tryz.func97 rfl rfl) false [(200001, 500001), (200002, 500002), (200003, 500003), (200004, 500004)] rfl rfl rfl) ⟨rfl, rfl⟩ ?_ ?_
  · rintro i v bs hv ⟨rfl, rfl⟩
    simp only [go_sem, contS_seq, simprocAttr]
    simp only [retK, iterK, resD, resA, AOp.ex, St.ev, St.get, lk, oneD, D.pub, D.pubs, retL, reduceIte, Nat.reduceEqDiff, Nat.reduceAdd, Nat.reduceLeDiff, ret_zj2qb]
    have hany : os.any p = true := by
      rw [List.getElem?_map] at hv
      obtain ⟨o, ho, _⟩ := Option.map_eq_some_iff.1 hv
      have := List.mem_filter.1 (List.mem_of_getElem? ho)
      exact List.any_eq_true.2 ⟨o, this.1, this.2⟩
    exact ⟨_, rfl, rfl, by simp [hany, oneD, D.pub]⟩
  · rintro bs ⟨hl, rfl⟩
    simp only [go_sem, contS_seq, simprocAttr]
    simp only [retK, iterK, resD, resA, AOp.ex, St.ev, St.get, lk, oneD, D.pub, D.pubs, retL, reduceIte, Nat.reduceEqDiff, Nat.reduceAdd, Nat.reduceLeDiff, ret_zj2qb]
    have hany : os.any p = false := by
      rw [List.length_map, List.length_eq_zero_iff, List.filter_eq_nil_iff] at hl
      exact List.any_eq_false.2 hl
    exact ⟨_, rfl, rfl, by simp [hany, oneD, D.pub]⟩


def sideIs (kind : Int) (space : ByteArray) (s : ASide) : Bool := decide (s.kind = kind) && decide (s.space = space)
def sideAt (t : ARef) (s : ASide) : Bool := decide (s.kind = t.kind) && (decide (s.name = ⟨#[]⟩) || decide (s.name = t.name))

theorem Lets_1 (kind : Int) (space : ByteArray) (s : ASide) : PureB Tryz.prog 50 [s.d, .ptr 1000001 0, .ptr 1000002 0] [(1000001, [int kind]), (1000002, [str space])] (fun d => d = bln (sideIs kind space s)) := by
  refine pureB_of_run follows an_z4wyn Tryz.func50 rfl ok_z4wyn.1 ok_z4wyn.2 (by simp [Tryz.ntmps50]) ?_
  rw [run_start]
  simp only [ac_z4wyn, oo, og, tp, ci, cq, mq, lq, fi, sr, go_sem, contS_seq, simprocAttr]
  (repeat' (first | (refine GifP.mk (fun _ => ?_) (fun _ => ?_)) | (refine Gif.mk (fun _ => ?_) (fun _ => ?_)))) <;> (simp only [retK, resD, St.get, lk, oneD, D.pub, D.pubs, retL, reduceIte, Nat.reduceEqDiff, Nat.reduceAdd, Nat.reduceLeDiff, Tryz.results50]; exact ⟨_, rfl, rfl, congrArg bln (by first | rfl | (rw [Bool.eq_iff_iff]; simp only [sideIs]; simp; done) | (rw [Bool.eq_iff_iff]; simp only [sideIs]; simp; omega) | (rw [Bool.eq_iff_iff]; simp only [sideIs]; simp [*]; done) | (rw [Bool.eq_iff_iff]; simp only [sideIs]; simp [*]; omega) | (simp_all [sideIs]; done) | (exfalso; omega))⟩)

theorem Lets_2 (t : ARef) (s : ASide) : PureB Tryz.prog 51 [s.d, .ptr 1000001 0] [(1000001, [int t.kind, str t.space, str t.name])] (fun d => d = bln (sideAt t s)) := by
  refine pureB_of_run follows an_z3e5h Tryz.func51 rfl ok_z3e5h.1 ok_z3e5h.2 (by simp [Tryz.ntmps51]) ?_
  rw [run_start]
  simp only [ac_z3e5h, oo, og, tp, ci, cq, mq, lq, fi, sr, go_sem, contS_seq, simprocAttr]
  (repeat' (first | (refine GifP.mk (fun _ => ?_) (fun _ => ?_)) | (refine Gif.mk (fun _ => ?_) (fun _ => ?_)))) <;> (simp only [retK, resD, St.get, lk, oneD, D.pub, D.pubs, retL, reduceIte, Nat.reduceEqDiff, Nat.reduceAdd, Nat.reduceLeDiff, Tryz.results51]; exact ⟨_, rfl, rfl, congrArg bln (by first | rfl | (rw [Bool.eq_iff_iff]; simp only [sideAt]; simp; done) | (rw [Bool.eq_iff_iff]; simp only [sideAt]; simp; omega) | (rw [Bool.eq_iff_iff]; simp only [sideAt]; simp [*]; done) | (rw [Bool.eq_iff_iff]; simp only [sideAt]; simp [*]; omega) | (simp_all [sideAt]; done) | (exfalso; omega))⟩)

def lets (kind : Int) (space : ByteArray) (t : ARef) (o : AObj) : Bool :=
  decide (o.ref.kind = 7) && decide (o.ref.space = t.space) && objMay o && o.from_.any (sideIs kind space) && o.to_.any (sideAt t)

theorem grant_Lets (o : AObj) (h : o.ok) (kind : Int) (space : ByteArray) (t : ARef) : Pure Tryz.prog 11 [o.d, int kind, str space, t.d] (fun d => d = bln (lets kind space t o)) := by
  refine pure_of_run follows an_zs3t2 Tryz.func11 rfl ok_zs3t2.1 ok_zs3t2.2 (by simp [Tryz.ntmps11]) ?_
  rw [run_start]
  simp only [ac_zs3t2, oo, og, tp, ci, cq, mq, lq, fi, sr, go_sem, contS_seq, simprocAttr]
  (repeat' (first | (refine GifP.mk (fun _ => ?_) (fun _ => ?_)) | (refine Gif.mk (fun _ => ?_) (fun _ => ?_)) | ((first | refine (object_May o h).callW (enters_of Tryz.func52 rfl rfl) _ rfl rfl ?_ | refine (ContainsFunc_Side (sideIs kind space) 50 (enters_of Tryz.func50 rfl rfl) [(1000001, 0), (1000002, 0)] [(1000001, [int kind]), (1000002, [str space])] (Cl.of rfl rfl rfl rfl rfl) o.from_ h.fr (fun s _ => Lets_1 kind space s)).callW (enters_of Tryz.func53 rfl rfl) _ [(5, 1000001), (6, 1000002)] rfl rfl rfl ?_ | refine (ContainsFunc_Side (sideAt t) 51 (enters_of Tryz.func51 rfl rfl) [(1000001, 0)] [(1000001, [int t.kind, str t.space, str t.name])] (Cl.of rfl rfl rfl rfl rfl) o.to_ h.to (fun s _ => Lets_2 t s)).callW (enters_of Tryz.func53 rfl rfl) _ [(7, 1000001)] rfl rfl rfl ?_); rintro _ rfl; try simp only [go_sem, contS_seq, simprocAttr]))) <;> (simp only [retK, resD, St.get, lk, oneD, D.pub, D.pubs, retL, reduceIte, Nat.reduceEqDiff, Nat.reduceAdd, Nat.reduceLeDiff, Tryz.results11]; exact ⟨_, rfl, rfl, congrArg bln (by first | rfl | (rw [Bool.eq_iff_iff]; simp only [lets]; simp; done) | (rw [Bool.eq_iff_iff]; simp only [lets]; simp; omega) | (rw [Bool.eq_iff_iff]; simp only [lets]; simp [*]; done) | (rw [Bool.eq_iff_iff]; simp only [lets]; simp [*]; omega) | (simp_all [lets]; done) | (exfalso; omega))⟩)

def permits (os : List AObj) (kind : Int) (space : ByteArray) (t : ARef) : Bool := os.any (lets kind space t) || decide (space = t.space)

theorem grant_Permits' (os : List AObj) (hos : os.length ≤ 1000000) (h : ∀ o ∈ os, o.ok) (kind : Int) (space : ByteArray) (t : ARef) :
    Pure Tryz.prog 16 [.pd (.slice (rows AObj.pd os)), int kind, str space, t.d] (fun d => d = bln (permits os kind space t)) :=
  grant_Permits (lets kind space t) os kind space t hos (fun o ho => grant_Lets o (h o ho) kind space t)

def isRef (r : ARef) (o : AObj) : Bool := decide (o.ref = r)

theorem Find_1 (r : ARef) (o : AObj) : PureB Tryz.prog 64 [o.d, .ptr 1000001 0] [(1000001, [int r.kind, str r.space, str r.name])] (fun d => d = bln (isRef r o)) := by
  refine pureB_of_run follows an_zl31y Tryz.func64 rfl ok_zl31y.1 ok_zl31y.2 (by simp [Tryz.ntmps64]) ?_
  rw [run_start]
  simp only [ac_zl31y, oo, og, tp, ci, cq, mq, lq, fi, sr, go_sem, contS_seq, simprocAttr, eqVs, eqV, eq_Ref]
  simp only [retK, resD, St.get, lk, oneD, D.pub, D.pubs, retL, reduceIte, Nat.reduceEqDiff, Nat.reduceAdd, Nat.reduceLeDiff, Tryz.results64]
  exact ⟨_, rfl, rfl, rfl⟩

theorem lidx_find {α : Type} (p : α → Bool) : ∀ (l : List α) (k : Nat), (l.find? p = none ∧ lidx p l k = -1) ∨ ∃ x j, l.find? p = some x ∧ lidx p l k = ((k + j : Nat) : Int) ∧ l[j]? = some x
  | [], k => .inl ⟨rfl, rfl⟩
  | x :: l, k => by
    rw [List.find?_cons, lidx]
    by_cases h : p x = true
    · rw [if_pos h, h]; exact .inr ⟨x, 0, rfl, by simp, by simp⟩
    · rw [if_neg h]
      have h' : p x = false := by simpa using h
      rw [h']
      rcases lidx_find p l (k + 1) with h1 | ⟨y, j, h1, h2, h3⟩
      · exact .inl h1
      · exact .inr ⟨y, j + 1, h1, by rw [h2]; omega, by simpa using h3⟩

def ref0 : ARef := ⟨0, ⟨#[]⟩, ⟨#[]⟩⟩

def found (os : List AObj) (r : ARef) : Option AObj := os.find? (isRef r)

def foundD : Option AObj → D
  | some o => .tup [o.d, bln true]
  | none => .tup [(AObj.zero ref0).d, bln false]

theorem grant_Find (os : List AObj) (hos : os.length ≤ 1000000) (r : ARef) : Pure Tryz.prog 17 [.pd (.slice (rows AObj.pd os)), r.d] (fun d => d = foundD (found os r)) := by
  refine pure_of_run follows an_z88d6 Tryz.func17 rfl ok_z88d6.1 ok_z88d6.2 (by simp [Tryz.ntmps17]) ?_
  rw [run_start]
  simp only [ac_z88d6, oo, og, tp, ci, cq, mq, lq, fi, sr, go_sem, contS_seq, simprocAttr]
  refine (IndexFunc_Object (isRef r) 64 (enters_of Tryz.func64 rfl rfl) [(1000001, 0)] [(1000001, [int r.kind, str r.space, str r.name])] (Cl.of rfl rfl rfl rfl rfl) os hos (fun o _ => Find_1 r o)).callW (enters_of Tryz.func63 rfl rfl) _ [(3, 1000001)] rfl rfl rfl ?_
  rintro d rfl
  rcases lidx_find (isRef r) os 0 with ⟨h1, h2⟩ | ⟨x, j, h1, h2, h3⟩
  · rw [h2]
    simp only [go_sem, contS_seq, simprocAttr]
    simp only [retK, resD, resA, AOp.ex, St.ev, St.get, lk, oneD, D.pub, D.pubs, retL, reduceIte, Nat.reduceEqDiff, Nat.reduceAdd, Nat.reduceLeDiff, ret_z88d6]
    refine ⟨_, rfl, rfl, ?_⟩
    rw [found, h1]; rfl
  · rw [h2, Nat.zero_add]
    have hn : ((j : Int) < 0) = False := eq_false (by omega)
    simp only [go_sem, contS_seq, simprocAttr, hn, rows_get h3]
    simp only [retK, resD, resA, AOp.ex, St.ev, St.get, lk, oneD, D.pub, D.pubs, retL, reduceIte, Nat.reduceEqDiff, Nat.reduceAdd, Nat.reduceLeDiff, ret_z88d6]
    refine ⟨_, rfl, rfl, ?_⟩
    rw [found, h1]; rfl

end Go.Proofs.YtklolokoaooppaaGreatDoor



namespace Go.Proofs.YtklolokoaooppaaGreatDoor
open Go

def ac_ze6ao : AC := (sr [oo 1 (.box 45 (tp 0)),oo 2 (.mv (cq false))] [1] (sr [oo 8 (.load (some 6) (tp 1)),oo 9 (.call 14 [tp 8]),.mk none none (.store 6 (tp 1) (tp 9))] [1] (sr [fi 11 0 1,lq 12 11,fi 13 3 1,oo 14 (.load (some 3) (tp 13)),oo 15 (.call 17 [tp 12,tp 14]),mq 10 15,oo 16 (.extract (tp 10) 0),oo 17 (.extract (tp 10) 1),oo 3 (.alloc 32 [.pd (.raw (.int .i64 0)),.pd (.raw (.string ⟨#[]⟩)),.pd (.raw (.string ⟨#[]⟩)),.pd (.raw (.bool false)),.nils,.nils,.pd (.raw (.string ⟨#[]⟩)),.nils,.nils,.nils,.nils,.nils,.nils]),.mk none none (.store 13 (tp 3) (tp 16)),mq 4 17] [1,3,4] (sr [fi 19 0 1,lq 20 19,fi 21 3 1,oo 22 (.load (some 3) (tp 21)),oo 23 (.call 18 [tp 20,tp 22]),mq 18 23,oo 24 (.extract (tp 18) 0),oo 25 (.extract (tp 18) 1),oo 5 (.alloc 32 [.pd (.raw (.int .i64 0)),.pd (.raw (.string ⟨#[]⟩)),.pd (.raw (.string ⟨#[]⟩)),.pd (.raw (.bool false)),.nils,.nils,.pd (.raw (.string ⟨#[]⟩)),.nils,.nils,.nils,.nils,.nils,.nils]),.mk none none (.store 13 (tp 5) (tp 24)),mq 6 25] [1,3,4,5,6] (.seq (.seq (.draw [oo 26 (.load (some 13) (tp 3)),oo 27 (.load (some 13) (tp 5)),oo 28 (.call 19 [tp 26,tp 27]),oo 29 (.un .not (tp 28)),mq 30 29,og 30 false 31 (.mv (tp 4)),og 30 false 32 (.mv (tp 6)),og 30 false 33 (.binB true (tp 31) (tp 32)),oo 34 (.pick (tp 30) (cq true) (tp 33)),mq 35 34,og 35 false 36 (.fieldA 3 (tp 1)),og 35 false 37 (.load (some 3) (tp 36)),og 35 false 38 (.fieldA 2 (tp 1)),og 35 false 39 (.load none (tp 38)),og 35 false 40 (.call 20 [tp 37,tp 39]),og 35 false 41 (.fieldA 3 (tp 1)),og 35 false 42 (.load (some 3) (tp 41)),og 35 false 43 (.fieldA 2 (tp 1)),og 35 false 44 (.load none (tp 43)),og 35 false 45 (.call 21 [tp 42,tp 44]),og 35 false 46 (.eqs true [.int,.str,.str] (tp 40) (tp 45)),oo 47 (.pick (tp 35) (cq true) (tp 46))] [0,0,3,7,15,31,31,127,255,511,1023,2047,1023,5119,16383,1023,33791,1023,132095,524287,1048575,2097151] (.take 0 (.take 1 (.alts (.cons 2 true (.take 3 (.take 4 (.take 5 (.take 6 (.take 7 (.take 8 (.take 9 (.take 10 (.take 11 (.take 12 (.take 13 (.take 15 (.take 16 (.take 17 (.take 18 (.alts (.cons 14 false (.alts (.cons 19 true (.take 20 (.take 21 .done)) .nil)) .nil))))))))))))))))) .nil)))) (some [1,47])) (.cond (tp 47) (sr [oo 2 (.mv (cq false))] [2] .ret) .skip)) (.seq (sr [oo 7 (.mv (ci 0))] [1,7] (.block 0 (.loop (.seq (sr [mq 48 7,fi 49 0 1,lq 50 49,oo 51 (.len (tp 50) false),oo 52 (.bin .lss (tp 48) (tp 51))] [1,7,52] (.cond (tp 52) .skip (.exit 0))) (.seq (.block 1 (.seq (.draw [fi 55 0 1,lq 56 55,mq 57 7,oo 58 (.idxA 13 (tp 56) (tp 57)),oo 59 (.load (some 13) (tp 58)),fi 60 1 1,lq 61 60,fi 62 2 1,lq 63 62,fi 64 3 1,oo 65 (.load (some 3) (tp 64)),oo 66 (.call 11 [tp 59,tp 61,tp 63,tp 65]),fi 67 0 1,lq 68 67,mq 69 7,oo 70 (.idxA 13 (tp 68) (tp 69)),oo 71 (.load (some 13) (tp 70)),fi 72 1 1,lq 73 72,fi 74 2 1,lq 75 74,fi 76 3 1,oo 77 (.load (some 3) (tp 76)),oo 78 (.call 22 [tp 71,tp 73,tp 75,tp 77]),oo 79 (.binB true (tp 66) (tp 78))] [0,1,0,7,15,0,32,0,128,0,512,2047,0,4096,0,28672,61440,0,131072,0,524288,0,2097152,8388607,16777215] (.take 0 (.take 1 (.take 2 (.take 3 (.take 4 (.take 5 (.take 6 (.take 7 (.take 8 (.take 9 (.take 10 (.take 12 (.take 13 (.take 14 (.take 15 (.take 16 (.take 17 (.take 18 (.take 19 (.take 20 (.take 21 (.take 22 (.alts (.cons 11 false (.alts (.cons 23 true (.take 24 .done) .nil)) .nil)))))))))))))))))))))))) (some [1,7,79])) (.cond (tp 79) (sr [oo 2 (.mv (cq false))] [2] .ret) .skip))) (.region [mq 53 7,oo 54 (.bin .add (tp 53) (ci 1)),mq 7 54] (some [1,7]))))))) (.seq (.draw [fi 80 0 1,lq 81 80,fi 82 1 1,lq 83 82,fi 84 2 1,lq 85 84,fi 86 3 1,oo 87 (.load (some 3) (tp 86)),oo 88 (.call 16 [tp 81,tp 83,tp 85,tp 87]),fi 89 0 1,lq 90 89,fi 91 1 1,lq 92 91,fi 93 2 1,lq 94 93,fi 95 3 1,oo 96 (.load (some 3) (tp 95)),oo 97 (.call 23 [tp 90,tp 92,tp 94,tp 96]),oo 98 (.binB false (tp 88) (tp 97)),mq 99 98,og 99 true 100 (.fieldA 0 (tp 1)),og 99 true 101 (.load none (tp 100)),og 99 true 102 (.fieldA 1 (tp 1)),og 99 true 103 (.load none (tp 102)),og 99 true 104 (.fieldA 2 (tp 1)),og 99 true 105 (.load none (tp 104)),og 99 true 106 (.fieldA 3 (tp 1)),og 99 true 107 (.load (some 3) (tp 106)),og 99 true 108 (.call 15 [tp 101,tp 103,tp 105,tp 107]),og 99 true 109 (.fieldA 0 (tp 1)),og 99 true 110 (.load none (tp 109)),og 99 true 111 (.fieldA 1 (tp 1)),og 99 true 112 (.load none (tp 111)),og 99 true 113 (.fieldA 2 (tp 1)),og 99 true 114 (.load none (tp 113)),og 99 true 115 (.fieldA 3 (tp 1)),og 99 true 116 (.load (some 3) (tp 115)),og 99 true 117 (.call 25 [tp 110,tp 112,tp 114,tp 116]),og 99 true 118 (.call 24 [tp 108,tp 117]),oo 119 (.pick (tp 99) (tp 118) (cq false)),mq 120 119,og 120 true 121 (.call 13 []),oo 122 (.pick (tp 120) (tp 121) (cq false)),mq 2 122] [0,1,0,4,0,16,0,64,255,0,512,0,2048,0,8192,0,32768,131071,262143,524287,1048575,2097151,1048575,5242879,1048575,17825791,1048575,68157439,268435455,1048575,537919487,1048575,2148532223,1048575,8590983167,1048575,34360786943,137438953471,274877906943,549755813887,1099511627775,2199023255551,4398046511103,8796093022207] (.take 0 (.take 1 (.take 2 (.take 3 (.take 4 (.take 5 (.take 6 (.take 7 (.take 9 (.take 10 (.take 11 (.take 12 (.take 13 (.take 14 (.take 15 (.take 16 (.alts (.cons 8 false (.alts (.cons 17 true (.take 18 (.take 19 (.take 20 (.take 21 (.take 22 (.take 23 (.take 24 (.take 25 (.take 26 (.take 27 (.take 29 (.take 30 (.take 31 (.take 32 (.take 33 (.take 34 (.take 35 (.take 36 (.alts (.cons 28 false (.alts (.cons 37 true (.alts (.cons 38 true (.take 39 (.take 40 (.alts (.cons 41 true (.take 42 (.take 43 .done)) .nil)))) .nil)) .nil)) .nil)))))))))))))))))))) .nil)) .nil)))))))))))))))))) (some [2])) .ret)))))))
def an_ze6ao : Ann := ann [0,1,2,3,4,5,6,7,9,10,8,11] ac_ze6ao
theorem ok_ze6ao : okd Tryz.prog an_ze6ao ac_ze6ao Tryz.f5 := ⟨by kernel_rfl, by kernel_rfl⟩

def ac_zz6t : AC := (sr [oo 0 (.mv (cq false))] [] (sr [oo 2 (.build [.pd (.raw (.int .i64 0)),.pd (.raw (.string ⟨#[]⟩)),.pd (.raw (.string ⟨#[]⟩))] [(0,1,ci 7),(1,1,.const (.string ⟨#[97,112,112]⟩)),(2,1,.const (.string ⟨#[103]⟩))]),oo 3 (.build [.pd (.raw (.int .i64 0)),.pd (.raw (.string ⟨#[]⟩)),.pd (.raw (.string ⟨#[]⟩))] [(0,1,ci 6),(1,1,.const (.string ⟨#[119,101,98]⟩))]),oo 4 (.bslice 41 3 [tp 3]),oo 5 (.build [.pd (.raw (.int .i64 0)),.pd (.raw (.string ⟨#[]⟩)),.pd (.raw (.string ⟨#[]⟩))] [(0,1,ci 3),(2,1,.const (.string ⟨#[97,112,105]⟩))]),oo 6 (.bslice 41 3 [tp 5]),oo 7 (.build [.pd (.raw (.int .i64 0)),.pd (.raw (.string ⟨#[]⟩)),.pd (.raw (.string ⟨#[]⟩)),.pd (.raw (.bool false)),.nils,.nils,.pd (.raw (.string ⟨#[]⟩)),.nils,.nils,.nils,.nils,.nils,.nils] [(0,3,tp 2),(11,1,tp 4),(12,1,tp 6)]),oo 8 (.bslice 32 13 [tp 7]),mq 1 8] [1] (sr [mq 9 1,oo 10 (.call 60 [.const (.string ⟨#[97,112,112]⟩),.const (.string ⟨#[97,112,105]⟩)]),oo 11 (.call 16 [tp 9,ci 6,.const (.string ⟨#[119,101,98]⟩),tp 10]),mq 12 11,og 12 true 13 (.mv (tp 1)),og 12 true 14 (.call 60 [.const (.string ⟨#[97,112,112]⟩),.const (.string ⟨#[100,98]⟩)]),og 12 true 15 (.call 16 [tp 13,ci 6,.const (.string ⟨#[119,101,98]⟩),tp 14]),og 12 true 16 (.un .not (tp 15)),oo 17 (.pick (tp 12) (tp 16) (cq false)),mq 18 17,og 18 true 19 (.mv (tp 1)),og 18 true 20 (.call 60 [.const (.string ⟨#[97,112,112]⟩),.const (.string ⟨#[97,112,105]⟩)]),og 18 true 21 (.call 16 [tp 19,ci 6,.const (.string ⟨#[111,112,115]⟩),tp 20]),og 18 true 22 (.un .not (tp 21)),oo 23 (.pick (tp 18) (tp 22) (cq false)),mq 0 23] [0] .ret)))
def an_zz6t : Ann := ann (List.range 3) ac_zz6t
theorem ok_zz6t : okd Tryz.prog an_zz6t ac_zz6t Tryz.f13 := ⟨by kernel_rfl, by kernel_rfl⟩

def ac_zaoe5 : AC := (sr [oo 1 (.box 45 (tp 0)),oo 2 (.alloc 45 [.nils,.pd (.raw (.int .i64 0)),.pd (.raw (.string ⟨#[]⟩)),.pd (.raw (.int .i64 0)),.pd (.raw (.string ⟨#[]⟩)),.pd (.raw (.string ⟨#[]⟩))])] [1,2] (.seq (.draw [fi 3 0 1,lq 4 3,oo 5 (.call 26 [tp 4]),fi 6 1 1,lq 7 6,fi 8 2 1,lq 9 8,oo 10 (.call 10 [tp 9]),fi 11 3 1,oo 12 (.load (some 3) (tp 11)),oo 13 (.call 9 [tp 12]),oo 14 (.build [.nils,.pd (.raw (.int .i64 0)),.pd (.raw (.string ⟨#[]⟩)),.pd (.raw (.int .i64 0)),.pd (.raw (.string ⟨#[]⟩)),.pd (.raw (.string ⟨#[]⟩))] [(0,1,tp 5),(1,1,tp 7),(2,1,tp 10),(3,3,tp 13)]),.mk none none (.store 6 (tp 2) (tp 14))] [0,1,3,0,8,0,32,103,0,256,999,2047,4095] (.take 0 (.take 1 (.take 3 (.take 4 (.take 5 (.take 6 (.take 8 (.take 9 (.alts (.cons 2 false (.alts (.cons 7 false (.alts (.cons 10 false (.take 11 (.alts (.cons 12 true .done .nil))) .nil)) .nil)) .nil)))))))))) (some [2])) .ret))
def an_zaoe5 : Ann := ann (List.range 2) ac_zaoe5
theorem ok_zaoe5 : okd Tryz.prog an_zaoe5 ac_zaoe5 Tryz.f14 := ⟨by kernel_rfl, by kernel_rfl⟩
theorem ret_zaoe5 (st : St) : resD Tryz.prog st Tryz.f14.results.toList = resA st [.cell 2 (some 6)] := resD_of (by kernel_rfl)

def ac_zkdi4 : AC := (sr [oo 4 (.alloc 23 [.pd (.raw (.int .i64 0)),.pd (.raw (.string ⟨#[]⟩)),.pd (.raw (.string ⟨#[]⟩))])] [0,1,4] (sr [mq 5 0,mq 6 1,oo 7 (.build [.pd (.raw (.int .i64 0)),.pd (.raw (.string ⟨#[]⟩)),.pd (.raw (.string ⟨#[]⟩))] [(0,1,ci 3),(1,1,tp 5),(2,1,tp 6)]),.mk none none (.store 3 (tp 4) (tp 7))] [4] .ret))
def an_zkdi4 : Ann := ann (List.range 2) ac_zkdi4
theorem ok_zkdi4 : okd Tryz.prog an_zkdi4 ac_zkdi4 Tryz.f60 := ⟨by kernel_rfl, by kernel_rfl⟩
theorem ret_zkdi4 (st : St) : resD Tryz.prog st Tryz.f60.results.toList = resA st [.cell 4 (some 3)] := resD_of (by kernel_rfl)

end Go.Proofs.YtklolokoaooppaaGreatDoor


namespace Go.Proofs.YtklolokoaooppaaGreatDoor
open Go Go.RowKit
set_option linter.unusedSimpArgs false
set_option linter.unusedVariables false
set_option maxRecDepth 100000

structure AAsk where
  os : List AObj
  kind : Int
  space : ByteArray
  to : ARef

abbrev AAsk.pd (q : AAsk) : List PD := [.slice (rows AObj.pd q.os), pInt q.kind, pStr q.space, pInt q.to.kind, pStr q.to.space, pStr q.to.name]
abbrev AAsk.ds (q : AAsk) : List D := [.pd (.slice (rows AObj.pd q.os)), int q.kind, str q.space, int q.to.kind, str q.to.space, str q.to.name]
abbrev AAsk.d (q : AAsk) : D := .agg [.pd (.slice (rows AObj.pd q.os)), int q.kind, str q.space, int q.to.kind, str q.to.space, str q.to.name]

def cutAsk (q : AAsk) : AAsk := ⟨fewObjs q.os, q.kind, few q.space, fewRef q.to⟩

theorem law11_cut (q : AAsk) : Pure Tryz.prog 14 [q.d] (fun d => d = (cutAsk q).d) := by
  refine pure_of_run follows an_zaoe5 Tryz.func14 rfl ok_zaoe5.1 ok_zaoe5.2 (by simp [Tryz.ntmps14]) ?_
  rw [run_start]
  simp only [ac_zaoe5, oo, og, tp, ci, cq, mq, lq, fi, sr, go_sem, contS_seq, simprocAttr]
  repeat' (first | (refine (law11_Some q.os).callX (enters_of Tryz.func26 rfl rfl) _ rfl rfl ?_; rintro _ rfl; simp only [go_sem, contS_seq, simprocAttr]) | (refine (law1_Few q.space).callX (enters_of Tryz.func10 rfl rfl) _ rfl rfl ?_; rintro _ rfl; simp only [go_sem, contS_seq, simprocAttr]) | (refine (law9_FewRef q.to).callX (enters_of Tryz.func9 rfl rfl) _ rfl rfl ?_; rintro _ rfl; simp only [go_sem, contS_seq, simprocAttr]) | refine And.intro ?_ ?_)
  all_goals
    simp only [retK, resD, resA, AOp.ex, St.ev, St.get, lk, oneD, D.pub, D.pubs, retL, reduceIte, Nat.reduceEqDiff, Nat.reduceAdd, Nat.reduceLeDiff, ret_zaoe5]
    exact ⟨_, rfl, rfl, rfl⟩

theorem law11_service (a b : ByteArray) : Pure Tryz.prog 60 [str a, str b] (fun d => d = (ARef.mk 3 a b).d) := by
  refine pure_of_run follows an_zkdi4 Tryz.func60 rfl ok_zkdi4.1 ok_zkdi4.2 (by simp [Tryz.ntmps60]) ?_
  rw [run_start]
  simp only [ac_zkdi4, oo, og, tp, ci, cq, mq, lq, fi, sr, go_sem, contS_seq, simprocAttr]
  simp only [retK, resD, resA, AOp.ex, St.ev, St.get, lk, oneD, D.pub, D.pubs, retL, reduceIte, Nat.reduceEqDiff, Nat.reduceAdd, Nat.reduceLeDiff, ret_zkdi4]
  exact ⟨_, rfl, rfl, rfl⟩

def aGrant : AObj := ⟨⟨7, ⟨#[97, 112, 112]⟩, ⟨#[103]⟩⟩, false, [], [], ⟨#[]⟩, [], [], [], [], [⟨6, ⟨#[119, 101, 98]⟩, ⟨#[]⟩⟩], [⟨3, ⟨#[]⟩, ⟨#[97, 112, 105]⟩⟩]⟩

theorem aGrant_ok : aGrant.ok := by constructor <;> simp [aGrant]

theorem permits_grant (kind : Int) (space : ByteArray) (t : ARef) : Pure Tryz.prog 16 [.pd (.slice (rows AObj.pd [aGrant])), int kind, str space, t.d] (fun d => d = bln (permits [aGrant] kind space t)) :=
  grant_Permits' [aGrant] (by simp) (fun o h => by rw [List.mem_singleton.1 h]; exact aGrant_ok) kind space t

theorem awake11 : Pure Tryz.prog 13 [] (fun d => d = bln true) := by
  refine pure_of_run follows an_zz6t Tryz.func13 rfl ok_zz6t.1 ok_zz6t.2 (by simp [Tryz.ntmps13]) ?_
  rw [run_start]
  simp only [ac_zz6t, oo, og, tp, ci, cq, mq, lq, fi, sr, go_sem, contS_seq, simprocAttr]
  refine (law11_service ⟨#[97, 112, 112]⟩ ⟨#[97, 112, 105]⟩).callW (enters_of Tryz.func60 rfl rfl) _ rfl rfl ?_
  rintro _ rfl
  simp only [go_sem, contS_seq, simprocAttr]
  refine (permits_grant 6 ⟨#[119, 101, 98]⟩ ⟨3, ⟨#[97, 112, 112]⟩, ⟨#[97, 112, 105]⟩⟩).callW (enters_of Tryz.func16 rfl rfl) _ rfl rfl ?_
  rintro _ rfl
  rw [show permits [aGrant] 6 ⟨#[119, 101, 98]⟩ ⟨3, ⟨#[97, 112, 112]⟩, ⟨#[97, 112, 105]⟩⟩ = true by decide +kernel]
  simp only [go_sem, contS_seq, simprocAttr]
  refine (law11_service ⟨#[97, 112, 112]⟩ ⟨#[100, 98]⟩).callW (enters_of Tryz.func60 rfl rfl) _ rfl rfl ?_
  rintro _ rfl
  simp only [go_sem, contS_seq, simprocAttr]
  refine (permits_grant 6 ⟨#[119, 101, 98]⟩ ⟨3, ⟨#[97, 112, 112]⟩, ⟨#[100, 98]⟩⟩).callW (enters_of Tryz.func16 rfl rfl) _ rfl rfl ?_
  rintro _ rfl
  rw [show permits [aGrant] 6 ⟨#[119, 101, 98]⟩ ⟨3, ⟨#[97, 112, 112]⟩, ⟨#[100, 98]⟩⟩ = false by decide +kernel]
  simp only [go_sem, contS_seq, simprocAttr]
  refine (law11_service ⟨#[97, 112, 112]⟩ ⟨#[97, 112, 105]⟩).callW (enters_of Tryz.func60 rfl rfl) _ rfl rfl ?_
  rintro _ rfl
  simp only [go_sem, contS_seq, simprocAttr]
  refine (permits_grant 6 ⟨#[111, 112, 115]⟩ ⟨3, ⟨#[97, 112, 112]⟩, ⟨#[97, 112, 105]⟩⟩).callW (enters_of Tryz.func16 rfl rfl) _ rfl rfl ?_
  rintro _ rfl
  rw [show permits [aGrant] 6 ⟨#[111, 112, 115]⟩ ⟨3, ⟨#[97, 112, 112]⟩, ⟨#[97, 112, 105]⟩⟩ = false by decide +kernel]
  simp only [go_sem, contS_seq, simprocAttr]
  simp only [retK, resD, St.get, lk, oneD, D.pub, D.pubs, retL, reduceIte, Nat.reduceEqDiff, Nat.reduceAdd, Nat.reduceLeDiff, Tryz.results13]
  exact ⟨_, rfl, rfl, rfl⟩

end Go.Proofs.YtklolokoaooppaaGreatDoor



namespace Go.Proofs.YtklolokoaooppaaGreatDoor
open Go Go.RowKit Go.ChangeShapes Go.WideShapes Go.ChangeAt Go.WideMaps Go.WideElems
set_option linter.unusedSimpArgs false
set_option linter.unusedVariables false
set_option maxRecDepth 100000

abbrev askShs : List Sh := [.slice objShs, .int .i64, .str, .int .i64, .str, .str]

theorem ask_row {r : List PD} (h : HasShs askShs r) : ∃ a, r = AAsk.pd a := by
  cases h with
  | cons _ d1 _ _ a1 h1 =>
  cases h1 with
  | cons _ d2 _ _ a2 h2 =>
  cases h2 with
  | cons _ d3 _ _ a3 h3 =>
  cases h3 with
  | cons _ d4 _ _ a4 h4 =>
  cases h4 with
  | cons _ d5 _ _ a5 h5 =>
  cases h5 with
  | cons _ d6 _ _ a6 h6 =>
  cases h6
  cases a1 with
  | slice _ els1 _ k1 =>
  obtain ⟨x1, rfl⟩ := rows_of obj_row k1
  cases a2 with
  | int _ x2 _ =>
  cases a3 with
  | str x3 _ =>
  cases a4 with
  | int _ x4 _ =>
  cases a5 with
  | str x5 _ =>
  cases a6 with
  | str x6 _ =>
  exact ⟨⟨x1, x2, x3, ⟨x4, x5, x6⟩⟩, rfl⟩

section
variable {H : Type} {enc : TypeId × Value → H} {P : Program} {W : World} {base : Nat} {spare : Nat → Bool} {held : Bool}

theorem arg_ask {t : TypeId} {fs : Array Field} {v : Value} {d : DataW H} {ps : List MemPlace} {n : Nat} (hu : P.underlying t = some (.struct fs)) (hv : Value.okWide P W .any base t v) (h : DataW.Trod enc P W 0 spare held t v d ps)
    (hs : shp P n t = some askShs) : ∃ o : AAsk, Rep (gh0 (allFz W)) W o.d v := by
  obtain ⟨ds, h1, h2⟩ := arg_struct hu hv h hs
  obtain ⟨o, rfl⟩ := ask_row h2
  exact ⟨o, h1⟩
end

end Go.Proofs.YtklolokoaooppaaGreatDoor



namespace Go.Proofs.YtklolokoaooppaaGreatDoor
open Go

def ac_z6ves : AC := (sr [oo 2 (.box 47 (tp 0)),oo 4 (.mv (.const (.slice none 0 0)))] [1,2,4] (.seq (sr [mq 6 1] [2,4,6] (.block 0 (.rangeB [2] 7 5 23 3 [.pd (.raw (.int .i64 0)),.pd (.raw (.string ⟨#[]⟩)),.pd (.raw (.string ⟨#[]⟩))] (tp 6) (.block 1 (.region [lq 8 2,oo 9 (.load (some 3) (tp 5)),oo 10 (.bslice 23 3 [tp 9]),oo 11 (.append 23 3 40 (tp 8) (tp 10)),.mk none none (.store 1 (tp 2) (tp 11))] (some [])))))) (sr [lq 12 2,mq 4 12] [4] .ret)))
def an_z6ves : Ann := ann [0,1,3,4] ac_z6ves
theorem ok_z6ves : okd Tryz.prog an_z6ves ac_z6ves Tryz.f96 := ⟨by kernel_rfl, by kernel_rfl⟩

end Go.Proofs.YtklolokoaooppaaGreatDoor


namespace Go.Proofs.YtklolokoaooppaaGreatDoor
open Go Go.RowKit
set_option linter.unusedSimpArgs false
set_option linter.unusedVariables false
set_option maxRecDepth 100000

theorem filt_len {α : Type} {p : α → Bool} {l : List α} : (l.filter p).length ≤ l.length := List.length_filter_le _ _

set_option maxHeartbeats 4000000 in
theorem appendSeq_by (p : AObj → Bool) (os : List AObj) (kind : Int) (space : ByteArray) (to_ : ARef) (hos : os.length ≤ 1000000)
    (hp : ∀ o ∈ os, Pure Tryz.prog 11 [o.d, int kind, str space, to_.d] (fun d => d = bln (p o))) :
    Full Tryz.prog 96 [.nils, .fn 97 [(500001, 0), (500002, 0), (500003, 0), (500004, 0)]]
      [(500001, [.pd (.slice (rows AObj.pd os))]), (500002, [int kind]), (500003, [str space]), (500004, [int to_.kind, str to_.space, str to_.name])] false
      (fun d bs => ((os.filter p = [] ∧ d = .nils) ∨ d = .own 23 3 (rows ARef.pd ((os.filter p).map (·.ref))) 11) ∧ bs = []) := by
  refine full_of_run follows an_z6ves Tryz.func96 rfl ok_z6ves.1 ok_z6ves.2 (by simp [Tryz.ntmps96]) (by simp [Tryz.ntmps96]) (.inr rfl) ?_
  rw [run_start]
  simp only [ac_z6ves, oo, og, tp, ci, cq, mq, lq, fi, sr, go_sem, contS_seq, simprocAttr]
  refine rangeBS ((os.filter p).map fun o => refVal o.ref) (fun i bs => bs = [(2, [if i = 0 then .nils else .own 23 3 (rows ARef.pd (((os.filter p).take i).map (·.ref))) 11])]) rfl rfl rfl
    ((by_iter p os kind space to_ hos hp).iterW (enters_of Tryz.func97 rfl rfl) false [(500001, 500001), (500002, 500002), (500003, 500003), (500004, 500004)] rfl rfl rfl) rfl ?_ ?_
  · rintro i v bs hv rfl
    rw [List.getElem?_map] at hv
    obtain ⟨o, ho, rfl⟩ := Option.map_eq_some_iff.1 hv
    simp only [roundB, boxSt, refVal]
    simp only [go_sem, contS_seq, simprocAttr]
    have hlen : i < (os.filter p).length := (List.getElem?_eq_some_iff.1 ho).1
    have hfl : (os.filter p).length ≤ os.length := filt_len
    refine ⟨⟨[(5, .ptr 5 0), (2, .ptr 2 0)], [(5, [int o.ref.kind, str o.ref.space, str o.ref.name]), (2, [.own 23 3 (rows ARef.pd (((os.filter p).take i).map (·.ref))) 11])], [], .no⟩, ?_, ?_⟩
    · by_cases hi : i = 0
      · subst hi
        simp only [if_true, D.drop, List.take_zero, List.map_nil]
        exact Weak.ownB 2 0 11 23 3 (by kernel_rfl) (by decide) rfl rfl (by simp [lessL, lk, St.purge, D.purge, rows]) (by simp [lessL, lk, St.purge, D.purges, D.purge, rows]) (by simp [lessL]) rfl
      · simp only [if_neg hi, D.drop]
        exact lessA
    have e1 : rows ARef.pd (((os.filter p).take i).map (·.ref)) ++ [[PD.raw (Value.int IntKind.i64 o.ref.kind), PD.raw (Value.string o.ref.space), PD.raw (Value.string o.ref.name)]] = rows ARef.pd (((os.filter p).take (i + 1)).map (·.ref)) := by
      rw [take_at ho, List.map_append]
      exact rows_one _ o.ref
    have e2 : (((os.filter p).take i).map (·.ref)).length = i := by rw [List.length_map, List.length_take]; omega
    simp only [go_sem, contS_seq, simprocAttr, rows_len, e1, e2]
    exact ⟨by simp, by unfold maxLen; omega, by omega⟩
  · rintro bs rfl
    simp only [go_sem, contS_seq, simprocAttr]
    simp only [retK, fullK, iterK, resD, St.get, lk, oneD, D.pub, D.pubs, retL, reduceIte, Nat.reduceEqDiff, Nat.reduceAdd, Nat.reduceLeDiff, Tryz.results96]
    refine ⟨_, [], rfl, trivial, ?_, rfl⟩
    rw [List.length_map, List.take_length]
    by_cases h0 : (os.filter p).length = 0
    · exact .inl ⟨List.length_eq_zero_iff.1 h0, by rw [if_pos h0]⟩
    · exact .inr (by rw [if_neg h0])


theorem run_collect (v0 : Value) (w : World) (R : Ending → World → Prop) (hR : ∀ e w', R e w' → ∃ v, e = .returned v) (h : Calls Tryz.prog 96 #[.slice none 0 0, v0] w R) :
    Calls Tryz.prog 61 #[v0] w R := by
  go_enter Tryz.func61, Tryz.ntmps61
  go_wp2_with (refine h.mono ?_; rintro e w' hr; obtain ⟨v, rfl⟩ := hR e w' hr)
  exact hr

theorem collect_by (p : AObj → Bool) (os : List AObj) (kind : Int) (space : ByteArray) (to_ : ARef) (hos : os.length ≤ 1000000)
    (hp : ∀ o ∈ os, Pure Tryz.prog 11 [o.d, int kind, str space, to_.d] (fun d => d = bln (p o))) :
    Full Tryz.prog 61 [.fn 97 [(500001, 0), (500002, 0), (500003, 0), (500004, 0)]]
      [(500001, [.pd (.slice (rows AObj.pd os))]), (500002, [int kind]), (500003, [str space]), (500004, [int to_.kind, str to_.space, str to_.name])] false
      (fun d bs => ((os.filter p = [] ∧ d = .nils) ∨ d = .own 23 3 (rows ARef.pd ((os.filter p).map (·.ref))) 11) ∧ bs = []) := by
  intro g0 w vs hdf hnm hmem hr
  simp only [Reps] at hr
  obtain ⟨v0, vs', rfl, h1, rfl⟩ := hr
  have hA := appendSeq_by p os kind space to_ hos hp g0 w [.slice none 0 0, v0] hdf hnm hmem (by
    simp only [Reps]
    exact ⟨_, _, rfl, by simp only [Rep], _, _, rfl, h1, rfl⟩)
  exact run_collect v0 w _ (fun e w' ⟨v, _, _, _, he, _⟩ => ⟨v, he⟩) hA

def letRefs (kind : Int) (space : ByteArray) (t : ARef) (os : List AObj) : List ARef := (os.filter (lets kind space t)).map (·.ref)

theorem grant_By' (os : List AObj) (hos : os.length ≤ 1000000) (h : ∀ o ∈ os, o.ok) (kind : Int) (space : ByteArray) (t : ARef) :
    Pure Tryz.prog 15 [.pd (.slice (rows AObj.pd os)), int kind, str space, t.d] (fun d => d = .pd (.slice (rows ARef.pd (letRefs kind space t os)))) := by
  refine pure_of_run follows an_zxv0j Tryz.func15 rfl ok_zxv0j.1 ok_zxv0j.2 (by simp [Tryz.ntmps15]) ?_
  rw [run_start]
  simp only [ac_zxv0j, oo, og, tp, ci, cq, mq, lq, fi, sr, go_sem, contS_seq, simprocAttr]
  refine (grant_by os kind space t).callW (enters_of Tryz.func62 rfl rfl) _ false [] [] [(4, 200001), (5, 200002), (6, 200003), (7, 200004)] [] rfl rfl rfl ?_
  rintro d bs ⟨rfl, rfl⟩
  simp only [go_sem, contS_seq, simprocAttr]
  refine (collect_by (lets kind space t) os kind space t hos (fun o ho => grant_Lets o (h o ho) kind space t)).callW (enters_of Tryz.func61 rfl rfl) _ false [(200001, 500001), (200002, 500002), (200003, 500003), (200004, 500004)] [] [] [] rfl rfl rfl ?_
  rintro d bs ⟨hd, rfl⟩
  rcases hd with ⟨h0, rfl⟩ | rfl
  · have e : letRefs kind space t os = [] := by rw [letRefs, h0]; rfl
    simp only [go_sem, contS_seq, simprocAttr]
    simp only [retK, resD, St.get, lk, oneD, D.pub, D.pubs, retL, reduceIte, Nat.reduceEqDiff, Nat.reduceAdd, Nat.reduceLeDiff, Tryz.results15]
    exact ⟨_, rfl, rfl, by rw [e]; rfl⟩
  · simp only [go_sem, contS_seq, simprocAttr]
    simp only [retK, resD, St.get, lk, oneD, D.pub, D.pubs, retL, reduceIte, Nat.reduceEqDiff, Nat.reduceAdd, Nat.reduceLeDiff, Tryz.results15]
    exact ⟨_, rfl, rfl, rfl⟩


theorem get_byte {s : ByteArray} {i : Nat} {b : UInt8} (h : s[i]? = some b) : s.get! i = b := by
  rw [bytes_get] at h
  have h1 : s.data[i]? = some b := by rw [← Array.getElem?_toList]; exact h
  simp only [ByteArray.get!]
  rw [getElem!_def, h1]

theorem decode_low {s : ByteArray} {i : Nat} {b : UInt8} (h : s[i]? = some b) (hb : b.toNat < 128) : Utf8.decode s i = (b.toNat, 1) := by
  rw [Lib.decode_at, get_byte h, Lib.decodeN, if_pos hb]

theorem decode_high {s : ByteArray} {i : Nat} {b : UInt8} (h : s[i]? = some b) (hb : ¬ b.toNat < 128) : 128 ≤ (Utf8.decode s i).1 := by
  rw [Lib.decode_at, get_byte h, Lib.decodeN, if_neg hb]
  repeat' split
  all_goals first | omega | (simp only []; omega)

theorem runeAll_bytes {p : Int → Bool} (hp : ∀ c, 128 ≤ c → p c = false) (s : ByteArray) : ∀ (k pos : Nat), s.size ≤ pos + k → runeAll p s k pos = (s.data.toList.drop pos).all fun b => p b.toNat
  | 0, pos, h => by
    rw [byte_end (by omega)]
    rfl
  | k + 1, pos, h => by
    by_cases hlt : pos < s.size
    · obtain ⟨b, hb, hd⟩ := byte_at hlt
      rw [hd, List.all_cons]
      simp only [runeAll, hlt, if_true]
      by_cases h1 : b.toNat < 128
      · rw [decode_low hb h1, runeAll_bytes hp s k (pos + 1) (by omega)]
      · have h2 := decode_high hb h1
        rw [hp _ (by omega), hp (b.toNat : Int) (by omega)]
        simp
    · rw [runeAll_end hlt, byte_end hlt]
      rfl

theorem runeIdx_all (p : Int → Bool) (s : ByteArray) : ∀ (k pos : Nat), (runeIdx (fun c => !p c) s k pos < 0) = (runeAll p s k pos = true)
  | 0, pos => by simp [runeIdx, runeAll]
  | k + 1, pos => by
    simp only [runeIdx, runeAll]
    split
    · obtain ⟨q, hq⟩ : ∃ q, p (Utf8.decode s pos).1 = q := ⟨_, rfl⟩
      cases q with
      | false => simp only [hq, Bool.not_false, if_true, Bool.false_and, Bool.false_eq_true, eq_iff_iff, iff_false]; omega
      | true =>
        simp only [hq, Bool.not_true, Bool.false_eq_true, if_false, Bool.true_and]
        exact runeIdx_all p s k _
    · simp

theorem idx_none {p : Int → Bool} (hp : ∀ c, 128 ≤ c → p c = false) (s : ByteArray) : decide (runeIdx (fun c => !p c) s s.size 0 < 0) = s.data.toList.all fun b => p b.toNat := by
  rw [Bool.eq_iff_iff, decide_eq_true_eq, runeIdx_all, runeAll_bytes hp s s.size 0 (by omega)]
  rfl

theorem all_bytes {s : ByteArray} {p : UInt8 → Bool} : s.data.toList.all p = true ↔ ∀ (j : Nat) (b : UInt8), s[j]? = some b → p b = true := by
  rw [List.all_eq_true]
  constructor
  · intro h j b hb
    rw [bytes_get] at hb
    exact h b (List.mem_of_getElem? hb)
  · intro h b hb
    obtain ⟨j, hj⟩ := List.getElem?_of_mem hb
    exact h j b (by rw [bytes_get]; exact hj)

def labAt (n j : Nat) (b : UInt8) : Bool := ((decide (97 ≤ b.toNat) && decide (b.toNat ≤ 122)) || (decide (48 ≤ b.toNat) && decide (b.toNat ≤ 57))) || (decide (b.toNat = 45) && !(decide (j = 0) || decide (j + 1 = n)))

theorem size0 {s : ByteArray} : s = ⟨#[]⟩ ↔ s.size = 0 := by
  constructor
  · intro h; rw [h]; rfl
  · intro h
    have : s.data = #[] := Array.eq_empty_of_size_eq_zero h
    cases s; simp_all

theorem label_iff (s : ByteArray) : label s = true ↔ 1 ≤ s.size ∧ s.size ≤ 20 ∧ ∀ (j : Nat) (b : UInt8), s[j]? = some b → labAt s.size j b = true := by
  have ho : ∀ c : Int, 128 ≤ c → octet c = false := fun c h => by simp [octet]; omega
  simp only [label, idx_none ho, Bool.and_eq_true, Bool.not_eq_true', decide_eq_true_eq, decide_eq_false_iff_not, size0, all_bytes]
  constructor
  · rintro ⟨⟨⟨⟨h1, h2⟩, h3⟩, h4⟩, h5⟩
    refine ⟨by omega, h2, fun j b hb => ?_⟩
    have h6 := h3 j b hb
    simp only [octet, Bool.or_eq_true, Bool.and_eq_true, decide_eq_true_eq] at h6
    simp only [labAt, Bool.or_eq_true, Bool.and_eq_true, decide_eq_true_eq, Bool.not_eq_true', Bool.or_eq_false_iff, decide_eq_false_iff_not]
    by_cases e : b.toNat = 45
    · right
      refine ⟨e, fun e0 => ?_, fun e1 => ?_⟩
      · subst e0
        rw [hb] at h4
        simp [e] at h4
      · have : j = s.size - 1 := by omega
        rw [← this, hb] at h5
        simp [e] at h5
    · left
      omega
  · rintro ⟨h1, h2, h3⟩
    refine ⟨⟨⟨⟨by omega, h2⟩, fun j b hb => ?_⟩, ?_⟩, ?_⟩
    · have h6 := h3 j b hb
      simp only [labAt, Bool.or_eq_true, Bool.and_eq_true, decide_eq_true_eq] at h6
      simp only [octet, Bool.or_eq_true, Bool.and_eq_true, decide_eq_true_eq]
      omega
    · obtain ⟨b, hb⟩ := at_byte (show 0 < s.size by omega)
      have h6 := h3 0 b hb
      rw [hb]
      simp [labAt] at h6 ⊢
      omega
    · obtain ⟨b, hb⟩ := at_byte (show s.size - 1 < s.size by omega)
      have h6 := h3 _ b hb
      rw [hb]
      have : s.size - 1 + 1 = s.size := by omega
      simp [labAt, this] at h6 ⊢
      omega

def stepR (c : UInt8) (out : List ByteArray) (b : UInt8) : List ByteArray :=
  if b = c then out ++ [⟨#[]⟩] else out.set (out.length - 1) (out.getD (out.length - 1) default ++ ⟨#[b]⟩)

def splitR (c : UInt8) (l : List UInt8) : List ByteArray := l.foldl (stepR c) [⟨#[]⟩]

def partsL (c : UInt8) : ByteArray → List UInt8 → List ByteArray
  | cur, [] => [cur]
  | cur, b :: l => if b = c then cur :: partsL c ⟨#[]⟩ l else partsL c (cur ++ ⟨#[b]⟩) l

theorem foldl_parts (c : UInt8) : ∀ (l : List UInt8) (pre : List ByteArray) (cur : ByteArray), l.foldl (stepR c) (pre ++ [cur]) = pre ++ partsL c cur l
  | [], _, _ => rfl
  | b :: l, pre, cur => by
    simp only [List.foldl_cons, partsL]
    by_cases e : b = c
    · simp only [stepR, e, if_true]
      rw [foldl_parts c l (pre ++ [cur]) ⟨#[]⟩, List.append_assoc]
      rfl
    · simp only [stepR, e, if_false]
      have h1 : (pre ++ [cur]).length - 1 = pre.length := by simp
      rw [h1, List.getD_eq_getElem?_getD, List.getElem?_append_right (Nat.le_refl _), Nat.sub_self, List.set_append_right _ _ (Nat.le_refl _), Nat.sub_self]
      exact foldl_parts c l pre (cur ++ ⟨#[b]⟩)

theorem app_assoc (a b c : ByteArray) : a ++ b ++ c = a ++ (b ++ c) := ByteArray.append_assoc
theorem app_nil (a : ByteArray) : a ++ ⟨#[]⟩ = a := by
  apply ByteArray.ext
  simp
theorem app_list (a : ByteArray) (b : UInt8) (l : List UInt8) : a ++ ⟨#[b]⟩ ++ ⟨l.toArray⟩ = a ++ ⟨(b :: l).toArray⟩ := by
  rw [app_assoc]
  congr 1

theorem partsL_eq (c : UInt8) : ∀ (l : List UInt8) (cur : ByteArray),
    partsL c cur l = if Lib.indexByte l c < 0 then [cur ++ ⟨l.toArray⟩] else (cur ++ ⟨(l.take (Lib.indexByte l c).toNat).toArray⟩) :: partsL c ⟨#[]⟩ (l.drop ((Lib.indexByte l c).toNat + 1))
  | [], cur => by
    have h : Lib.indexByte [] c < 0 := by simp [Lib.indexByte]
    rw [if_pos h]
    simp only [partsL, app_nil]
  | b :: l, cur => by
    have hg := Lib.indexByte_ge l c
    have hi : Lib.indexByte (b :: l) c = if b == c then 0 else if Lib.indexByte l c == -1 then -1 else Lib.indexByte l c + 1 := rfl
    simp only [beq_iff_eq] at hi
    simp only [partsL]
    by_cases e : b = c
    · rw [if_pos e] at hi
      rw [hi]
      simp [e, app_nil]
    · rw [if_neg e] at hi
      rw [if_neg e, partsL_eq c l (cur ++ ⟨#[b]⟩)]
      by_cases h : Lib.indexByte l c = -1
      · rw [if_pos h] at hi
        rw [if_pos (by omega), hi, if_pos (by decide), app_list]
      · rw [if_neg h] at hi
        have hn : ¬ Lib.indexByte l c < 0 := by omega
        have h1 : (Lib.indexByte l c + 1).toNat = (Lib.indexByte l c).toNat + 1 := by omega
        rw [hi, if_neg hn, if_neg (by omega), h1, List.take_succ_cons, List.drop_succ_cons, app_list]

theorem extract_list (s : ByteArray) (i j : Nat) : s.extract i j = ⟨((s.data.toList.take j).drop i).toArray⟩ := by
  apply ByteArray.ext
  rw [ByteArray.data_extract]
  apply Array.ext'
  simp [List.drop_take]

theorem parts_splitB (c : UInt8) : ∀ (k : Nat) (s : ByteArray), s.size ≤ k → partsL c ⟨#[]⟩ s.data.toList = splitB c k s
  | 0, s, h => by
    have hs : s.data.toList = [] := List.eq_nil_of_length_eq_zero (by rw [size_list]; omega)
    rw [hs]
    have := size0.2 (show s.size = 0 by omega)
    simp only [partsL, splitB, this]
  | k + 1, s, h => by
    rw [partsL_eq]
    simp only [splitB]
    have e0 : ∀ l : List UInt8, (⟨#[]⟩ : ByteArray) ++ ⟨l.toArray⟩ = ⟨l.toArray⟩ := fun l => by apply ByteArray.ext; simp
    split
    · rw [e0]
    · rename_i hn
      have hlt := (indexByte_lt s.data.toList c).resolve_left hn
      rw [size_list] at hlt
      rw [e0, extract_list s 0, List.drop_zero]
      congr 1
      rw [← parts_splitB c k (s.extract ((Lib.indexByte s.data.toList c).toNat + 1) s.size) (by rw [ByteArray.size_extract]; omega)]
      rw [extract_list]
      simp only [List.take_of_length_le (show s.data.toList.length ≤ s.size from Nat.le_of_eq (size_list s))]

theorem splitR_eq (c : UInt8) (s : ByteArray) : splitR c s.data.toList = splitB c s.size s := by
  rw [← parts_splitB c s.size s (Nat.le_refl _)]
  exact foldl_parts c s.data.toList [] ⟨#[]⟩

theorem splitR_step (c : UInt8) {s : ByteArray} {i : Nat} {b : UInt8} (hb : s[i]? = some b) : splitR c (s.data.toList.take (i + 1)) = stepR c (splitR c (s.data.toList.take i)) b := by
  rw [take_at (by rw [← bytes_get]; exact hb)]
  unfold splitR
  rw [List.foldl_append]
  rfl

theorem stepR_len (c : UInt8) (out : List ByteArray) (b : UInt8) : out.length ≤ (stepR c out b).length ∧ (stepR c out b).length ≤ out.length + 1 := by
  unfold stepR
  split <;> simp

theorem splitR_len (c : UInt8) (l : List UInt8) : 1 ≤ (splitR c l).length ∧ (splitR c l).length ≤ l.length + 1 := by
  unfold splitR
  suffices h : ∀ (l : List UInt8) (out : List ByteArray), out.length ≤ (l.foldl (stepR c) out).length ∧ (l.foldl (stepR c) out).length ≤ l.length + out.length from by
    have := h l [⟨#[]⟩]
    simpa using this
  intro l
  induction l with
  | nil => intro out; simp
  | cons b l ih =>
    intro out
    have h1 := ih (stepR c out b)
    have h2 := stepR_len c out b
    simp only [List.foldl_cons, List.length_cons]
    omega

theorem stepR_size (c : UInt8) {out : List ByteArray} {b : UInt8} {n : Nat} (h : ∀ x ∈ out, x.size ≤ n) : ∀ x ∈ stepR c out b, x.size ≤ n + 1 := by
  intro x hx
  unfold stepR at hx
  split at hx
  · rcases List.mem_append.1 hx with h1 | h1
    · have := h x h1; omega
    · simp only [List.mem_singleton] at h1
      subst h1
      exact Nat.zero_le _
  · rcases List.mem_or_eq_of_mem_set hx with h1 | h1
    · have := h x h1; omega
    · subst h1
      rw [ByteArray.size_append]
      have h2 : (out.getD (out.length - 1) default).size ≤ n := by
        rw [List.getD_eq_getElem?_getD]
        cases h3 : out[out.length - 1]? with
        | none => exact Nat.zero_le _
        | some y => exact h y (List.mem_of_getElem? h3)
      have h4 : (ByteArray.mk #[b]).size = 1 := rfl
      omega

theorem splitR_size (c : UInt8) (l : List UInt8) : ∀ x ∈ splitR c l, x.size ≤ l.length := by
  unfold splitR
  suffices h : ∀ (l : List UInt8) (out : List ByteArray) (n : Nat), (∀ x ∈ out, x.size ≤ n) → ∀ x ∈ l.foldl (stepR c) out, x.size ≤ n + l.length from by
    have := h l [⟨#[]⟩] 0 (fun x hx => by simp only [List.mem_singleton] at hx; subst hx; exact Nat.zero_le _)
    simpa using this
  intro l
  induction l with
  | nil => intro out n h; simpa using h
  | cons b l ih =>
    intro out n h x hx
    have := ih (stepR c out b) (n + 1) (stepR_size c h) x hx
    simp only [List.length_cons]
    omega

theorem byte_one {s : ByteArray} {i : Nat} {b : UInt8} (hb : s[i]? = some b) : s.extract i (i + 1) = ⟨#[b]⟩ := by
  rw [extract_list, take_at (by rw [← bytes_get]; exact hb)]
  have hi : i < s.data.toList.length := (List.getElem?_eq_some_iff.1 ((bytes_get s i).symm.trans hb)).1
  rw [List.drop_append_of_le_length (by rw [List.length_take]; omega), List.drop_eq_nil_of_le (by rw [List.length_take]; omega)]
  rfl

end Go.Proofs.YtklolokoaooppaaGreatDoor


