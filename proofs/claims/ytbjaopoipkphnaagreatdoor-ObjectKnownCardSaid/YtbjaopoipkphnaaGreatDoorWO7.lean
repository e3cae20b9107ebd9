/- Texts of the prover's, joined: QD QE. -/
import Derived.Test.YtbjaopoipkphnaaGreatDoorWO6

namespace Go.Proofs.YtbjaopoipkphnaaGreatDoor
open Go Go.RowKit
set_option linter.unusedSimpArgs false
set_option linter.unusedVariables false
set_option maxRecDepth 100000

def cRef (r : ARef) : List Value := [.int .i64 r.kind, .string r.space, .string r.name]
theorem eq_cRef (a b : ARef) : eqVs [.int, .str, .str] (cRef a) (cRef b) = some (decide (a = b)) := by
 obtain ⟨k, s, n⟩ := a
 obtain ⟨k', s', n'⟩ := b
 by_cases h1 : k = k' <;> by_cases h2 : s = s' <;> by_cases h3 : n = n' <;> simp [cRef, eqVs, eqV, h1, h2, h3]

def idxR (k : ARef) : List ARef → Nat → Option Nat
 | [], _ => none
 | a :: r, i => if k = a then some i else idxR k r (i + 1)

def setE (l : List ARef) : List (Value × Value) := l.map fun r => (.agg (cRef r).toArray, .bool true)

theorem findS_set (k : ARef) : ∀ (l : List ARef) (i : Nat), findS [.int, .str, .str] (cRef k) (setE l) i = some ((idxR k l i).map fun p => (p, Value.bool true))
 | [], _ => rfl
 | a :: r, i => by
   have ih := findS_set k r (i + 1)
   simp only [setE, List.map_cons] at ih ⊢
   simp only [findS, idxR, eq_cRef]
   by_cases h : k = a
   ·simp only [h, decide_true, if_true, Option.map_some]
   ·simp only [h, decide_false, if_false]
    exact ih

theorem idxR_none (k : ARef) : ∀ (l : List ARef) (i : Nat), idxR k l i = none ↔ ¬ k ∈ l
 | [], i => by simp [idxR]
 | a :: r, i => by
   simp only [idxR]
   by_cases h : k = a
   ·simp [h]
   ·rw [if_neg h, idxR_none k r (i + 1)]; simp [h]

theorem idxR_at (k : ARef) : ∀ (l : List ARef) (i p : Nat), idxR k l i = some p → i ≤ p ∧ l[p - i]? = some k
 | [], _, _, h => by simp [idxR] at h
 | a :: r, i, p, h => by
   simp only [idxR] at h
   split at h
   ·cases h; simp_all
   ·have := idxR_at k r (i + 1) p h
    refine ⟨by omega, ?_⟩
    rw [show p - i = (p - (i + 1)) + 1 by omega, List.getElem?_cons_succ]
    exact this.2

theorem cd_set (k : ARef) (l : List ARef) (r : Option (Nat × Value)) (hr : r = (idxR k l 0).map fun p => (p, Value.bool true)) : cD0 ((Option.map (fun p => p.2) r).getD (.bool false)) = bln (decide (k ∈ l)) := by
 subst hr
 cases h : idxR k l 0 with
 | none => rw [decide_eq_false ((idxR_none k l 0).1 h)]; rfl
 | some p =>
   rw [decide_eq_true]
   ·rfl
   ·by_cases hk : k ∈ l
    ·exact hk
    ·rw [(idxR_none k l 0).2 hk] at h; cases h

theorem put_set (k : ARef) (l : List ARef) (r : Option (Nat × Value)) (hr : r = (idxR k l 0).map fun p => (p, Value.bool true)) :
 ∃ m, putM (.agg (cRef k).toArray) (.bool true) r (setE l) = setE m ∧ ∀ x, x ∈ m ↔ x ∈ l ∨ x = k := by
 subst hr
 cases h : idxR k l 0 with
 | none => exact ⟨l ++ [k], by simp [putM, setE], fun x => by simp⟩
 | some p =>
   have h1 := (idxR_at k l 0 p h).2
   rw [Nat.sub_zero] at h1
   have hk : k ∈ l := List.mem_of_getElem? h1
   refine ⟨l, ?_, fun x => ⟨fun hx => .inl hx, fun hx => hx.elim id fun e => e ▸ hk⟩⟩
   simp only [Option.map_some, putM]
   refine List.ext_getElem? fun m => ?_
   rw [List.getElem?_set]
   by_cases hm : p = m
   ·subst hm
    have := (List.getElem?_eq_some_iff.1 h1).1
    simp [setE, h1, this, (List.getElem?_eq_some_iff.1 h1).2]
   ·simp [hm]

def known (r : ARef) : Prop := 1 ≤ r.kind ∧ r.kind ≤ 7 ∧ ¬ r.name = ⟨#[]⟩ ∧ (r.space = ⟨#[]⟩ → r.kind ≤ 2)

theorem dname_ne {s : ByteArray} (h : dname s = true) : ¬ s = ⟨#[]⟩ := fun e => by rw [e, dname_nil] at h; cases h
theorem label_ne {s : ByteArray} (h : label s = true) : ¬ s = ⟨#[]⟩ := fun e => by rw [e, label_nil] at h; cases h

theorem near_known {r : ARef} {s : ByteArray} (hs : ¬ s = ⟨#[]⟩) (h1 : 1 ≤ r.kind) (h2 : r.kind ≤ 7) (h3 : ¬ r.name = ⟨#[]⟩) : known (nearR r s) := by
 unfold nearR
 split
 ·rename_i h
  exact ⟨h1, h2, h3, fun e => absurd e hs⟩
 ·rename_i h
  exact ⟨h1, h2, h3, fun e => by
   by_cases hk : 2 < r.kind
   ·exact absurd ⟨e, hk⟩ h
   ·omega⟩

theorem may_parts {o : AObj} (h : objMay o = true) : mayRef o.ref = true ∧ (o.ref.kind = 5 → gatewayMay o.cls o.listeners = true) ∧ (o.ref.kind = 6 → routeMay o.parents o.hosts o.rules = true) ∧
 (¬ o.ref.kind = 5 → o.listeners = []) ∧ (¬ o.ref.kind = 6 → o.parents = [] ∧ o.rules = []) := by
 rw [objMay_keep] at h
 simp only [Bool.and_eq_true, decide_eq_true_eq] at h
 obtain ⟨hr, hk, he⟩ := h
 refine ⟨hr, fun h5 => ?_, fun h6 => ?_, fun h5 => ?_, fun h6 => ?_⟩
 ·unfold kindMay at hk
  rwa [if_neg (by omega), if_neg (by omega), if_neg (by omega), if_pos h5] at hk
 ·unfold kindMay at hk
  rwa [if_neg (by omega), if_neg (by omega), if_neg (by omega), if_neg (by omega), if_pos h6] at hk
 ·rw [← he]
  unfold AObj.keep
  repeat' split
  all_goals first
   | exact absurd ‹_› h5
   | rfl
 ·rw [← he]
  unfold AObj.keep
  repeat' split
  all_goals first
   | exact absurd ‹_› h6
   | exact ⟨rfl, rfl⟩

theorem may_space {o : AObj} (h : objMay o = true) (h5 : 3 ≤ o.ref.kind) : label o.ref.space = true := by
 rcases (mayRef_iff _).1 (may_parts h).1 with ⟨e, _⟩ | ⟨e, _⟩ | ⟨_, _, e, _⟩
 ·omega
 ·omega
 ·exact e

theorem refs_known {o : AObj} (h : objMay o = true) : ∀ x ∈ refsList o, known x := by
 obtain ⟨hr, hg, hro, hl, hpr⟩ := may_parts h
 have hsp := may_space h
 intro x hx
 unfold refsList at hx
 rw [refsCls_doc h, refsOwn_doc] at hx
 simp only [List.mem_append] at hx
 rcases hx with (((hx | hx) | hx) | hx) | hx
 ·by_cases h5 : o.ref.kind = 5
  ·rw [if_pos h5, List.mem_singleton] at hx
   subst hx
   have := ((gatewayMay_iff _ _).1 (hg h5)).1.1
   exact ⟨by simp, by simp, dname_ne this, fun _ => by simp⟩
  ·rw [if_neg h5] at hx; cases hx
 ·by_cases h5 : o.ref.kind = 5
  ·unfold refsLis at hx
   obtain ⟨l, hl1, rfl⟩ := List.mem_map.1 hx
   obtain ⟨hl2, hl3⟩ := List.mem_filter.1 hl1
   obtain ⟨j, hj⟩ := List.mem_iff_getElem?.1 hl2
   have hm := ((listenerMay_iff l).1 (((gatewayMay_iff _ _).1 (hg h5)).2 j l hj).1).1.1 hl3
   exact near_known (label_ne (hsp (by omega))) (by omega) (by omega) (dname_ne hm.2.2)
  ·rw [hl h5] at hx; simp [refsLis] at hx
 ·by_cases h6 : o.ref.kind = 6
  ·unfold refsPar at hx
   obtain ⟨p, hp, rfl⟩ := List.mem_map.1 hx
   obtain ⟨j, hj⟩ := List.mem_iff_getElem?.1 hp
   have hm := (parentMay_iff p).1 (((routeMay_iff _ _ _).1 (hro h6)).2.1 j p hj).1
   exact near_known (label_ne (hsp (by omega))) (by simp) (by simp) (dname_ne hm.2.1)
  ·rw [(hpr h6).1] at hx; simp [refsPar] at hx
 ·by_cases h6 : o.ref.kind = 6
  ·unfold refsRul refsBack at hx
   obtain ⟨r, hr1, hx⟩ := List.mem_flatMap.1 hx
   obtain ⟨b, hb, rfl⟩ := List.mem_map.1 hx
   obtain ⟨j, hj⟩ := List.mem_iff_getElem?.1 hr1
   obtain ⟨j', hj'⟩ := List.mem_iff_getElem?.1 hb
   have hm := (backendMay_iff b).1 (((ruleMay_iff r).1 (((routeMay_iff _ _ _).1 (hro h6)).2.2.2 j r hj)).2.2 j' b hj')
   have hk := hm.1
   simp only [okind, Bool.and_eq_true, decide_eq_true_eq] at hk
   exact near_known (label_ne (hsp (by omega))) (by omega) (by omega) (dname_ne hm.2.2.1)
  ·rw [(hpr h6).2] at hx; simp [refsRul] at hx
 ·by_cases h6 : o.ref.kind = 6
  ·rw [if_pos h6, List.mem_singleton] at hx
   subst hx
   exact ⟨by simp, by simp, label_ne (hsp (by omega)), fun _ => by simp⟩
  ·rw [if_neg h6] at hx; cases hx

theorem refsOf_mem {o : AObj} (h : objMay o = true) (x : ARef) : x ∈ refsOf o ↔ x ∈ refsList o := by
 unfold refsOf
 rw [if_pos h]
 exact (refs_rise _).2 x

theorem refsOf_known (o : AObj) : ∀ x ∈ refsOf o, known x := by
 intro x hx
 by_cases h : objMay o = true
 ·exact refs_known h x ((refsOf_mem h x).1 hx)
 ·unfold refsOf at hx
  rw [if_neg h] at hx
  cases hx

theorem refsOf_no {o : AObj} (h : objMay o = false) : refsOf o = [] := by unfold refsOf; rw [h]; rfl

theorem has_cls {o : AObj} (h : objMay o = true) (h5 : o.ref.kind = 5) : (⟨1, ⟨#[]⟩, o.cls⟩ : ARef) ∈ refsOf o := by
 rw [refsOf_mem h]
 unfold refsList
 rw [refsCls_doc h, if_pos h5]
 simp

theorem has_own {o : AObj} (h : objMay o = true) (h6 : o.ref.kind = 6) : (⟨2, ⟨#[]⟩, o.ref.space⟩ : ARef) ∈ refsOf o := by
 rw [refsOf_mem h]
 unfold refsList
 rw [refsOwn_doc, if_pos h6]
 simp

theorem has_par {o : AObj} (h : objMay o = true) {p : AParent} (hp : p ∈ o.parents) : nearR ⟨5, p.space, p.name⟩ o.ref.space ∈ refsOf o := by
 rw [refsOf_mem h]
 unfold refsList refsPar
 simp only [List.mem_append]
 exact .inl (.inl (.inr (List.mem_map.2 ⟨p, hp, rfl⟩)))


set_option maxHeartbeats 4000000 in
theorem law_ObjectKnown (o : AObj) : Pure Tryz.prog 7 [o.d] (fun d => d = bln true) := by
 refine pure_of_run follows an_zxxjg Tryz.func7 rfl ok_zxxjg.1 ok_zxxjg.2 (by simp [Tryz.ntmps7]) ?_
 rw [run_start]
 simp only [ac_zxxjg, go_sem, simprocAttr]
 refine (law9_Few o).callW (enters_of Tryz.func10 rfl rfl) _ rfl rfl ?_
 rintro _ rfl
 have ho := fewObj_ok o
 have hs := fewObj_sok o
 have hf := fewObj_few o
 generalize fewObj o = o at ho hs hf ⊢
 simp only [go_sem, simprocAttr]
 refine (object_Refs o ho hf).callW (enters_of Tryz.func17 rfl rfl) _ rfl rfl ?_
 rintro _ rfl
 have hk := refsOf_known o
 have hno := @refsOf_no o
 have hlen := refsOf_len hf
 have hcls := @has_cls o
 have hown := @has_own o
 have hpar := @has_par o
 have hl2 := hf.pa
 generalize refsOf o = l at hk hno hlen hcls hown hpar ⊢
 simp only [go_sem, simprocAttr]
 refine loopS (fun k st => ∃ (i : Nat) (L : List ARef), k = l.length - i ∧ i ≤ l.length ∧ (∀ x, x ∈ L ↔ x ∈ l.take i) ∧
  st = ⟨[(1, .ptr 1 0), (3, .pd (.slice (rows ARef.pd l))), (4, .mp 12), (5, int i)], [(1, o.ds)], [(12, .map (setE L))], .no⟩) l.length _ ?_ ⟨0, [], rfl, by omega, by simp, rfl⟩ ?_
 ·exact Weak.less (by simp [lessL, lk]) (by simp [lessL, lk]) (by simp [lessL, lk, setE]) rfl
 rintro k st ⟨i, L, rfl, hi, hL, rfl⟩
 have hw := i64_succ (show i < 1000000000 by omega)
 by_cases hlt : i < l.length
 ·obtain ⟨x, hx⟩ := at_lt hlt
  have h1 : ((i : Int) < (l.length : Int)) = True := eq_true (by omega)
  obtain ⟨k1, k2, k3, k4⟩ := hk x (List.mem_of_getElem? hx)
  have k1' : (x.kind < 1) = False := eq_false (by omega)
  have k2' : (7 < x.kind) = False := eq_false (by omega)
  have k3' : (x.name = ⟨#[]⟩) = False := eq_false k3
  obtain ⟨r, hr⟩ : ∃ r, r = (idxR x L 0).map fun p => (p, Value.bool true) := ⟨_, rfl⟩
  have f1 : findS [.int, .str, .str] [.int .i64 x.kind, .string x.space, .string x.name] (setE L) 0 = some r := (findS_set x L 0).trans (by rw [hr])
  obtain ⟨M, p1, hM⟩ := put_set x L r hr
  have hM' : ∀ y, y ∈ M ↔ y ∈ l.take (i + 1) := fun y => by rw [hM, hL, take_at hx, List.mem_append, List.mem_singleton]
  have p1' : putM (.agg #[.int .i64 x.kind, .string x.space, .string x.name]) (.bool true) r (setE L) = setE M := p1
  simp only [putM] at p1'
  simp only [go_sem, simprocAttr, rows_get hx, h1, f1, ↓p1', k1', k2', k3']
  refine GifP.mk (fun q => ?_) (fun q => ?_)
  ·have q' : (2 < x.kind) = False := eq_false (by have := k4 q; omega)
   simp only [go_sem, simprocAttr, rows_get hx, q', hw]
   refine ⟨l.length - (i + 1), _, by omega, ?_, i + 1, M, rfl, by omega, hM', rfl⟩
   exact lessA
  ·simp only [go_sem, simprocAttr, rows_get hx, hw]
   refine ⟨l.length - (i + 1), _, by omega, ?_, i + 1, M, rfl, by omega, hM', rfl⟩
   exact lessA
 have h1 : ((i : Int) < (l.length : Int)) = False := eq_false (by omega)
 rw [List.take_of_length_le (by omega)] at hL
 simp only [go_sem, simprocAttr, h1]
 refine (object_May o ho).callW (enters_of Tryz.func11 rfl rfl) _ rfl rfl ?_
 rintro _ rfl
 cases hm : objMay o
 ·have h2 : ((l.length : Int) = 0) = True := eq_true (by rw [hno hm]; rfl)
  simp only [go_sem, simprocAttr, h2]
  refine awake9.callW (enters_of Tryz.func15 rfl rfl) _ rfl rfl ?_
  rintro _ rfl
  simp only [go_sem, simprocAttr]
  simp only [retK, resD, retL, oneD, simprocAttr, Tryz.results7]
  exact ⟨_, rfl, rfl, rfl⟩
 obtain ⟨r5, hr5⟩ : ∃ r, r = (idxR ⟨1, ⟨#[]⟩, o.cls⟩ L 0).map fun p => (p, Value.bool true) := ⟨_, rfl⟩
 have f5 : findS [.int, .str, .str] [.int .i64 1, .string ⟨#[]⟩, .string o.cls] (setE L) 0 = some r5 := (findS_set ⟨1, ⟨#[]⟩, o.cls⟩ L 0).trans (by rw [hr5])
 have l5 := cd_set _ L r5 hr5
 obtain ⟨r6, hr6⟩ : ∃ r, r = (idxR ⟨2, ⟨#[]⟩, o.ref.space⟩ L 0).map fun p => (p, Value.bool true) := ⟨_, rfl⟩
 have f6 : findS [.int, .str, .str] [.int .i64 2, .string ⟨#[]⟩, .string o.ref.space] (setE L) 0 = some r6 := (findS_set ⟨2, ⟨#[]⟩, o.ref.space⟩ L 0).trans (by rw [hr6])
 have l6 := cd_set _ L r6 hr6
 by_cases h5 : o.ref.kind = 5
 case' pos =>
  have h5' := eq_true h5
  have h6' : (o.ref.kind = 6) = False := eq_false (by omega)
  rw [decide_eq_true ((hL _).2 (hcls hm h5))] at l5
  simp only [cD0] at l5
  simp only [go_sem, simprocAttr, h5', h6', f5, ↓l5]
 case' neg =>
  have h5' := eq_false h5
  by_cases h6 : o.ref.kind = 6
  case' pos =>
   have h6' := eq_true h6
   rw [decide_eq_true ((hL _).2 (hown hm h6))] at l6
   simp only [cD0] at l6
   simp only [go_sem, simprocAttr, h5', h6', f6, ↓l6]
  case' neg =>
   have h6' := eq_false h6
   simp only [go_sem, simprocAttr, h5', h6']
 all_goals
  refine loopS (fun k st => ∃ (i : Nat), k = o.parents.length - i ∧ i ≤ o.parents.length ∧
   st = ⟨[(1, .ptr 1 0), (4, .mp 12), (6, int i)], [(1, o.ds)], [(12, .map (setE L))], .no⟩) o.parents.length _ ?_ ⟨0, rfl, by omega, rfl⟩ ?_
  ·exact lessA
  rintro k st ⟨i, rfl, hi, rfl⟩
  have hw := i64_succ (show i < 1000000000 by omega)
  by_cases hlt : i < o.parents.length
  ·obtain ⟨x, hx⟩ := at_lt hlt
   have h1 : ((i : Int) < (o.parents.length : Int)) = True := eq_true (by omega)
   have hin := (hL _).2 (hpar hm (List.mem_of_getElem? hx))
   generalize hk : nearR ⟨5, x.space, x.name⟩ o.ref.space = key at hin
   obtain ⟨r, hr⟩ : ∃ r, r = (idxR key L 0).map fun p => (p, Value.bool true) := ⟨_, rfl⟩
   have f1 : findS [.int, .str, .str] [.int .i64 key.kind, .string key.space, .string key.name] (setE L) 0 = some r := (findS_set key L 0).trans (by rw [hr])
   have l1 := cd_set _ L r hr
   rw [decide_eq_true hin] at l1
   simp only [cD0] at l1
   simp only [go_sem, simprocAttr, rows_get hx, h1]
   refine GifP.mk (fun q => ?_) (fun q => ?_)
   ·have e : key = ⟨5, o.ref.space, x.name⟩ := by rw [← hk]; unfold nearR; rw [if_pos ⟨q, by simp⟩]
    rw [e] at f1
    simp only [go_sem, simprocAttr, f1, ↓l1, hw]
    refine ⟨o.parents.length - (i + 1), _, by omega, ?_, i + 1, rfl, by omega, rfl⟩
    exact lessA
   ·have e : key = ⟨5, x.space, x.name⟩ := by rw [← hk]; unfold nearR; rw [if_neg (fun h => q h.1)]
    rw [e] at f1
    simp only [go_sem, simprocAttr, f1, ↓l1, hw]
    refine ⟨o.parents.length - (i + 1), _, by omega, ?_, i + 1, rfl, by omega, rfl⟩
    exact lessA
  have h1 : ((i : Int) < (o.parents.length : Int)) = False := eq_false (by omega)
  simp only [go_sem, simprocAttr, h1]
  refine awake9.callW (enters_of Tryz.func15 rfl rfl) _ rfl rfl ?_
  rintro _ rfl
  simp only [go_sem, simprocAttr]
  simp only [retK, resD, retL, oneD, simprocAttr, Tryz.results7]
  exact ⟨_, rfl, rfl, rfl⟩

end Go.Proofs.YtbjaopoipkphnaaGreatDoor


