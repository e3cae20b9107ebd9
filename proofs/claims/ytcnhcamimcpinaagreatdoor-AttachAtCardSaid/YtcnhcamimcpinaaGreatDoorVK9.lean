/- Texts of the prover's, joined: N6 N3 N7 N8 P4 P5 M5 O0 N9 O1 O5. -/
import Derived.Test.YtcnhcamimcpinaaGreatDoorVK8

namespace Go.Proofs.YtcnhcamimcpinaaGreatDoor
open Go Go.RowKit
set_option linter.unusedSimpArgs false
set_option linter.unusedVariables false
set_option maxRecDepth 100000

def attD (a : List ASpot × ByteArray × Bool) : D := .tup [.pd (.slice (rows ASpot.pd a.1)), str a.2.1, bln a.2.2]

theorem atFold_len {os : List AObj} {g r : AObj} {p : AParent} : ∀ (l : List AListener) (a : List ASpot × ByteArray), (l.foldl (fun a x => atStep labelsAll os g r p x a) a).1.length ≤ a.1.length + l.length
 | [], _ => by simp
 | x :: l, a => by
   have h1 := atFold_len (os := os) (g := g) (r := r) (p := p) l (atStep labelsAll os g r p x a)
   have h2 : (atStep labelsAll os g r p x a).1.length ≤ a.1.length + 1 := by
    unfold atStep
    repeat' split
    all_goals simp
   simp only [List.foldl_cons, List.length_cons]
   omega

theorem lets_of {os : List AObj} {g : AObj} {i : Nat} {x : AListener} (h : gwOk g = true) (hx : g.listeners[i]? = some x) (s : ByteArray) : letsAt os g i s = attLets labelsAll os g x s := by
 unfold letsAt atL
 rw [if_pos h, if_neg (by omega), Int.toNat_natCast, hx]

set_option maxHeartbeats 4000000 in
theorem attach_At (os : List AObj) (hos : os.length ≤ 1000000) (h : ∀ o ∈ os, o.ok) (r : AObj) (hr : r.ok) (p : Int) :
 Pure Tryz.prog 11 [.pd (.slice (rows AObj.pd os)), r.d, int p] (fun d => d = attD (attAt labelsAll os r p)) := by
 have hpa := hr.pa
 refine pure_of_run follows an_zf3ax Tryz.func11 rfl ok_zf3ax.1 ok_zf3ax.2 (by simp [Tryz.ntmps11]) ?_
 rw [run_start]
 unfold attAt isRoute
 by_cases h6 : r.ref.kind = 6
 case neg =>
  have h6' := eq_false h6
  simp only [ac_zf3ax, go_sem, simprocAttr, h6']
  simp only [retK, resD, retL, oneD, simprocAttr, Tryz.results11]
  exact ⟨_, rfl, rfl, by rw [if_neg (by simp [h6])]; rfl⟩
 have h6' := eq_true h6
 simp only [ac_zf3ax, go_sem, simprocAttr, h6']
 refine (object_May r hr).callW (enters_of Tryz.func29 rfl rfl) _ rfl rfl ?_
 rintro _ rfl
 cases hm : objMay r
 ·simp only [go_sem, simprocAttr]
  simp only [retK, resD, retL, oneD, simprocAttr, Tryz.results11]
  exact ⟨_, rfl, rfl, by rw [if_neg (by simp)]; rfl⟩
 by_cases hi : p < 0
 ·have hi' := eq_true hi
  simp only [go_sem, simprocAttr, hi']
  simp only [retK, resD, retL, oneD, simprocAttr, Tryz.results11]
  exact ⟨_, rfl, rfl, by rw [if_neg (by omega)]; rfl⟩
 obtain ⟨n, rfl⟩ : ∃ n : Nat, p = n := ⟨p.toNat, by omega⟩
 have hi' := eq_false hi
 rw [if_pos ⟨by simp [h6], by omega⟩, Int.toNat_natCast]
 by_cases hl : n < r.parents.length
 case neg =>
  have h1 : ((r.parents.length : Int) ≤ (n : Int)) = True := eq_true (by omega)
  have hno : r.parents[n]? = none := List.getElem?_eq_none (by omega)
  simp only [go_sem, simprocAttr, hi', h1]
  simp only [retK, resD, retL, oneD, simprocAttr, Tryz.results11]
  exact ⟨_, rfl, rfl, by rw [hno]; rfl⟩
 obtain ⟨x, hx⟩ := at_lt hl
 have h1 : ((r.parents.length : Int) ≤ (n : Int)) = False := eq_false (by omega)
 simp only [hx]
 simp only [go_sem, simprocAttr, hi', h1, rows_get hx]
 refine (grant_Near ⟨5, x.space, x.name⟩ r.ref.space).callW (enters_of Tryz.func31 rfl rfl) _ rfl rfl ?_
 rintro _ rfl
 simp only [go_sem, simprocAttr]
 refine (grant_Find os hos (near ⟨5, x.space, x.name⟩ r.ref.space)).callW (enters_of Tryz.func30 rfl rfl) _ rfl rfl ?_
 rintro _ rfl
 rcases hf : found os (near ⟨5, x.space, x.name⟩ r.ref.space) with _ | g
 ·simp only [foundD, go_sem, simprocAttr]
  simp only [retK, resD, retL, oneD, simprocAttr, Tryz.results11]
  exact ⟨_, rfl, rfl, rfl⟩
 have hg := h g (List.mem_of_find?_eq_some hf)
 have hgl := hg.li
 simp only [foundD, go_sem, simprocAttr]
 refine (listen_Ours os hos h g hg).callW (enters_of Tryz.func32 rfl rfl) _ rfl rfl ?_
 rintro _ rfl
 cases ho : ours os g
 ·simp only [go_sem, simprocAttr]
  simp only [retK, resD, retL, oneD, simprocAttr, Tryz.results11]
  exact ⟨_, rfl, rfl, rfl⟩
 have hgw : gwOk g = true := by unfold ours at ho; rw [Bool.and_eq_true] at ho; exact ho.1
 simp only [go_sem, simprocAttr]
 obtain ⟨F, hF⟩ : ∃ F : Nat → List ASpot × ByteArray, F = fun i => (g.listeners.take i).foldl (fun a y => atStep labelsAll os g r x y a) ([], noParent) := ⟨_, rfl⟩
 have hF0 : F 0 = ([], noParent) := by rw [hF]; rfl
 have hFl : ∀ i, i ≤ g.listeners.length → (F i).1.length ≤ i := fun i hi => by
  have := atFold_len (os := os) (g := g) (r := r) (p := x) (g.listeners.take i) ([], noParent)
  rw [List.length_nil, List.length_take] at this
  rw [hF]
  simp only
  omega
 have hFs : ∀ i y, g.listeners[i]? = some y → F (i + 1) = atStep labelsAll os g r x y (F i) := fun i y hy => by
  rw [hF]
  exact foldl_take (f := fun a y => atStep labelsAll os g r x y a) hy
 have hFe : F g.listeners.length = atFold labelsAll os g r x g.listeners := by rw [hF]; simp only [List.take_length]; rfl
 rw [← hFe]
 clear hFe hF
 have hn0 : noParent = ⟨#[78, 111, 77, 97, 116, 99, 104, 105, 110, 103, 80, 97, 114, 101, 110, 116]⟩ := rfl
 refine loopS (fun k st => ∃ i : Nat, k = g.listeners.length - i ∧ i ≤ g.listeners.length ∧
  st = ⟨[(0, .pd (.slice (rows AObj.pd os))), (4, .ptr 4 0), (6, .own 46 5 (rows ASpot.pd (F i).1) 100), (7, str (F i).2), (9, .ptr 9 0), (10, .ptr 10 0), (63, .pd (.slice (rows AListener.pd g.listeners))), (64, int g.listeners.length), (65, int i)],
   [(10, g.ds), (9, x.ds), (4, r.ds)], [], .no⟩) g.listeners.length _ ?_ ⟨0, rfl, by omega, rfl⟩ ?_
 ·rw [hF0, hn0]
  exact Weak.own1 6 100 46 5 (by kernel_rfl) (by decide) rfl (by simp [lessL, lk, St.purge, St.put, D.purge, rows]) (by simp [lessL, lk, St.purge, D.purges, D.purge]) (by simp [lessL]) rfl
 rintro k st ⟨i, rfl, hi, rfl⟩
 by_cases hlt : i < g.listeners.length
 ·obtain ⟨y, hy⟩ := at_lt hlt
  have h2 : ((i : Int) < (g.listeners.length : Int)) = True := eq_true (by omega)
  have hw := i64_succ (show i < 1000000000 by omega)
  have hs := hFs i y hy
  have hfl := hFl i hi
  generalize F i = a at hs hfl ⊢
  simp only [go_sem, simprocAttr, rows_get hy, h2]
  refine (attach_asked y x).callW (enters_of Tryz.func33 rfl rfl) _ rfl rfl ?_
  rintro _ rfl
  unfold atStep at hs
  cases ha : asked y x
  ·rw [ha, if_pos rfl] at hs
   simp only [go_sem, simprocAttr, hw]
   refine ⟨g.listeners.length - (i + 1), _, by omega, ?_, i + 1, rfl, by omega, rfl⟩
   rw [hs]
   exact lessA
  rw [ha, if_neg (by simp)] at hs
  simp only [go_sem, simprocAttr]
  refine (attach_Meet y.host r.hosts hr.ho).callW (enters_of Tryz.func34 rfl rfl) _ rfl rfl ?_
  rintro _ rfl
  simp only [go_sem, simprocAttr]
  refine (attach_Lets os hos h g hg i r.ref.space).callW (enters_of Tryz.func18 rfl rfl) _ rfl rfl ?_
  rintro _ rfl
  rw [lets_of hgw hy]
  cases hle : attLets labelsAll os g y r.ref.space
  ·rw [hle, if_pos rfl] at hs
   by_cases hnp : a.2 = noParent
   ·rw [if_pos hnp] at hs
    have hnp' := eq_true hnp
    rw [hn0] at hnp'
    simp only [go_sem, simprocAttr, hnp', hw]
    refine ⟨g.listeners.length - (i + 1), _, by omega, ?_, i + 1, rfl, by omega, rfl⟩
    rw [hs]
    unfold noSpace
    exact lessA
   ·rw [if_neg hnp] at hs
    have hnp' := eq_false hnp
    rw [hn0] at hnp'
    simp only [go_sem, simprocAttr, hnp', hw]
    refine ⟨g.listeners.length - (i + 1), _, by omega, ?_, i + 1, rfl, by omega, rfl⟩
    rw [hs]
    exact lessA
  rw [hle, if_neg (by simp)] at hs
  by_cases hme : meets y.host r.hosts = []
  ·rw [if_pos hme] at hs
   have hme' : (((meets y.host r.hosts).length : Int) = 0) = True := eq_true (by rw [hme]; rfl)
   simp only [go_sem, simprocAttr, hme', hw]
   refine ⟨g.listeners.length - (i + 1), _, by omega, ?_, i + 1, rfl, by omega, rfl⟩
   rw [hs]
   unfold noHost
   exact lessA
  ·rw [if_neg hme] at hs
   have hme' : (((meets y.host r.hosts).length : Int) = 0) = False := eq_false (fun e => hme (List.length_eq_zero_iff.1 (by omega)))
   simp only [go_sem, simprocAttr, hme', hw]
   rw [show rows ASpot.pd a.1 ++ [[PD.raw (Value.int IntKind.i64 g.ref.kind), PD.raw (Value.string g.ref.space), PD.raw (Value.string g.ref.name), pStr y.name, PD.slice (strs (meets y.host r.hosts))]] = rows ASpot.pd (a.1 ++ [⟨g.ref, y.name, meets y.host r.hosts⟩]) from rows_one a.1 ⟨g.ref, y.name, meets y.host r.hosts⟩]
   refine ⟨fun q hq => by rw [List.mem_singleton.1 hq]; rfl, by unfold maxLen; omega, by omega, g.listeners.length - (i + 1), _, by omega, ?_, i + 1, rfl, by omega, rfl⟩
   rw [hs]
   exact lessA
 ·have h2 : ((i : Int) < (g.listeners.length : Int)) = False := eq_false (by omega)
  obtain rfl : i = g.listeners.length := by omega
  generalize F g.listeners.length = a
  simp only [go_sem, simprocAttr, h2]
  refine GifP.mk (fun h3 => ?_) (fun h3 => ?_)
  ·have : ¬ a.1 = [] := fun e => by rw [e] at h3; exact absurd h3 (by simp)
   rw [if_neg this]
   simp only [retK, resD, retL, oneD, simprocAttr, Tryz.results11]
   exact ⟨_, rfl, rfl, rfl⟩
  ·have : a.1 = [] := List.length_eq_zero_iff.1 (by omega)
   rw [if_pos this]
   simp only [retK, resD, retL, oneD, simprocAttr, Tryz.results11]
   exact ⟨_, rfl, rfl, rfl⟩


theorem IndexFunc_Spot (p : ASpot → Bool) (g : FuncId) (he : Enters Tryz.prog g) (caps : List (Nat × Nat)) (bs : List (Nat × List D)) (hc : Cl bs caps) (l : List ASpot) (hl : l.length ≤ 1000000)
 (hp : ∀ x ∈ l, PureB Tryz.prog g (ASpot.d x :: capD caps) bs (fun d => d = bln (p x))) :
 PureB Tryz.prog 80 [.pd (.slice (rows ASpot.pd l)), .fn g caps] bs (fun d => d = int (lidx p l 0)) := by
 refine pureB_of_run follows an_zid2e Tryz.func80 rfl ok_zid2e.1 ok_zid2e.2 (by simp [Tryz.ntmps80]) ?_
 rw [run_start]
 simp only [ac_zid2e, go_sem, simprocAttr]
 refine loopS (fun k st => ∃ i : Nat, k = l.length - i ∧ i ≤ l.length ∧ lidx p (l.drop i) i = lidx p l 0 ∧
  st = ⟨[(0, .pd (.slice (rows ASpot.pd l))), (1, .fn g caps), (7, int l.length), (8, int i)], bs, [], .no⟩) l.length _ (Weak.refl _ _) ⟨0, rfl, Nat.zero_le _, rfl, rfl⟩ ?_
 rintro k st ⟨i, rfl, hi, hr, rfl⟩
 by_cases hlt : i < l.length
 ·obtain ⟨x, hx⟩ := at_lt hlt
  have hlt' : ((i : Int) < (l.length : Int)) = True := eq_true (by omega)
  have hw := i64_succ (show i < 1000000000 by omega)
  rw [drop_at hx, lidx] at hr
  simp only [go_sem, simprocAttr, hlt', rows_get hx]
  refine (hp x (List.mem_of_getElem? hx)).callW he _ (idr bs) hc.ok (hc.args (by rfl)) hc.see ?_
  rintro d rfl
  simp only [go_sem, simprocAttr]
  refine Gif.mk (fun h => ?_) (fun h => ?_)
  ·rw [if_pos h] at hr
   simp only [retK, resD, retL, oneD, simprocAttr, Tryz.results80]
   exact ⟨_, rfl, rfl, congrArg int hr⟩
  ·rw [if_neg (by simp [h])] at hr
   simp only [go_sem, simprocAttr, hw]
   refine ⟨l.length - (i + 1), _, ?_, ?_, i + 1, rfl, ?_, hr, rfl⟩
   ·omega
   ·exact Weak.less (by simp [lessL, lk]) (lessL_refl hc.nd) (by simp [lessL, lk]) rfl
   ·omega
 ·have hlt' : ((i : Int) < (l.length : Int)) = False := eq_false (by omega)
  rw [List.drop_eq_nil_of_le (by omega), lidx] at hr
  simp only [go_sem, simprocAttr, hlt']
  simp only [retK, resD, retL, oneD, simprocAttr, Tryz.results80]
  exact ⟨_, rfl, rfl, congrArg int hr⟩

theorem ContainsFunc_Spot (p : ASpot → Bool) (g : FuncId) (he : Enters Tryz.prog g) (caps : List (Nat × Nat)) (bs : List (Nat × List D)) (hc : Cl bs caps) (l : List ASpot) (hl : l.length ≤ 1000000)
 (hp : ∀ x ∈ l, PureB Tryz.prog g (ASpot.d x :: capD caps) bs (fun d => d = bln (p x))) :
 PureB Tryz.prog 46 [.pd (.slice (rows ASpot.pd l)), .fn g caps] bs (fun d => d = bln (l.any p)) := by
 refine pureB_of_run follows an_z3l61 Tryz.func46 rfl ok_z3l61.1 ok_z3l61.2 (by simp [Tryz.ntmps46]) ?_
 rw [run_start]
 simp only [ac_z3l61, go_sem, simprocAttr]
 refine (IndexFunc_Spot p g he caps bs hc l hl hp).callW (enters_of Tryz.func80 rfl rfl) _ (idr bs) hc.ok hc.two hc.see ?_
 rintro d rfl
 simp only [go_sem, simprocAttr]
 simp only [retK, resD, retL, oneD, simprocAttr, Tryz.results46]
 exact ⟨_, rfl, rfl, congrArg bln (lidx_any p l)⟩


theorem gather_1 (s x : ASpot) : PureB Tryz.prog 72 [x.d, .ptr 1000001 0] [(1000001, s.ds)] (fun d => d = bln (x.at_ s.gateway s.listener)) := by
 refine pureB_of_run follows an_zez17 Tryz.func72 rfl ok_zez17.1 ok_zez17.2 (by simp [Tryz.ntmps72]) ?_
 rw [run_start]
 simp only [ac_zez17, go_sem, simprocAttr, eqVs, eqV, eq_Ref]
 refine GifP.mk (fun h => ?_) (fun h => ?_)
 all_goals
  simp only [retK, resD, retL, oneD, simprocAttr, Tryz.results72]
  exact ⟨_, rfl, rfl, congrArg bln (by simp [ASpot.at_, h])⟩

theorem gatherS_len : ∀ (more out : List ASpot), (gatherS out more).length ≤ out.length + more.length
 | [], _ => by simp [gatherS]
 | s :: more, out => by
   have h1 := gatherS_len more (gatherStep out s)
   have h2 : (gatherStep out s).length ≤ out.length + 1 := by
    unfold gatherStep
    split <;> simp
   unfold gatherS at h1 ⊢
   simp only [List.foldl_cons, List.length_cons]
   omega

set_option maxHeartbeats 4000000 in
theorem attach_gather (out more : List ASpot) (hm : out.length + more.length ≤ 1000000) :
 Full Tryz.prog 41 [.own 46 5 (rows ASpot.pd out) 500001, .pd (.slice (rows ASpot.pd more))] [] false
  (fun d bs => (d = .own 46 5 (rows ASpot.pd (gatherS out more)) 500001 ∨ d = .own 46 5 (rows ASpot.pd (gatherS out more)) 20) ∧ bs = []) := by
 refine full_of_run follows an_z49r6 Tryz.func41 rfl ok_z49r6.1 ok_z49r6.2 (by simp [Tryz.ntmps41]) (by simp [Tryz.ntmps41]) (.inl rfl) ?_
 rw [run_start]
 simp only [ac_z49r6, go_sem, simprocAttr]
 refine loopS (fun k st => ∃ (i tok : Nat), k = more.length - i ∧ i ≤ more.length ∧ (tok = 500001 ∨ tok = 20) ∧
  st = ⟨[(0, .own 46 5 (rows ASpot.pd (gatherS out (more.take i))) tok), (7, .pd (.slice (rows ASpot.pd more))), (8, int more.length), (9, int i)], [], [], .no⟩) more.length _ (Weak.refl _ _) ⟨0, 500001, rfl, by omega, .inl rfl, rfl⟩ ?_
 rintro k st ⟨i, tok, rfl, hi, htok, rfl⟩
 by_cases hlt : i < more.length
 ·obtain ⟨s, hs⟩ := at_lt hlt
  have h1 : ((i : Int) < (more.length : Int)) = True := eq_true (by omega)
  have hw := i64_succ (show i < 1000000000 by omega)
  have hst : gatherS out (more.take (i + 1)) = gatherStep (gatherS out (more.take i)) s := foldl_take hs
  have hl := gatherS_len (more.take i) out
  rw [List.length_take] at hl
  generalize gatherS out (more.take i) = a at hst hl ⊢
  simp only [go_sem, simprocAttr, rows_get hs, h1]
  refine (ContainsFunc_Spot (fun x => x.at_ s.gateway s.listener) 72 (enters_of Tryz.func72 rfl rfl) [(1000001, 0)] [(1000001, s.ds)] (Cl.of rfl rfl rfl rfl rfl) a (by omega) (fun x _ => gather_1 s x)).callW (enters_of Tryz.func46 rfl rfl) _ [(6, 1000001)] rfl rfl rfl ?_
  rintro _ rfl
  unfold gatherStep at hst
  cases hc : a.any fun x => x.at_ s.gateway s.listener
  ·rw [hc, if_neg (by simp)] at hst
   rcases htok with rfl | rfl
   all_goals
    simp only [go_sem, simprocAttr, hw]
    rw [show rows ASpot.pd a ++ [[PD.raw (Value.int IntKind.i64 s.gateway.kind), PD.raw (Value.string s.gateway.space), PD.raw (Value.string s.gateway.name), PD.raw (Value.string s.listener), PD.slice (strs s.hosts)]] = rows ASpot.pd (a ++ [s]) from rows_one a s]
    refine ⟨fun q hq => by rw [List.mem_singleton.1 hq]; rfl, by unfold maxLen; omega, by omega, more.length - (i + 1), _, by omega, ?_, i + 1, 20, rfl, by omega, .inr rfl, rfl⟩
    rw [hst]
    exact lessA
  ·rw [hc, if_pos rfl] at hst
   simp only [go_sem, simprocAttr, hw]
   refine ⟨more.length - (i + 1), _, by omega, ?_, i + 1, tok, rfl, by omega, htok, rfl⟩
   rw [hst]
   exact lessA
 ·have h1 : ((i : Int) < (more.length : Int)) = False := eq_false (by omega)
  rw [List.take_of_length_le (by omega)]
  simp only [go_sem, simprocAttr, h1]
  simp only [retK, fullK, resD, retL, oneD, simprocAttr, Tryz.results41]
  rcases htok with rfl | rfl
  ·exact ⟨_, [], rfl, trivial, .inl rfl, rfl⟩
  ·exact ⟨_, [], rfl, trivial, .inr rfl, rfl⟩

theorem allUpto_len (os : List AObj) (r : AObj) (B : Nat) (hB : ∀ p, (attAt labelsAll os r p).1.length ≤ B) : ∀ n, (allUpto labelsAll os r n).length ≤ n * B
 | 0 => by simp [allUpto]
 | n + 1 => by
   have h1 := allUpto_len os r B hB n
   have h2 := gatherS_len (attAt labelsAll os r n).1 (allUpto labelsAll os r n)
   have h3 := hB n
   simp only [allUpto]
   rw [Nat.succ_mul]
   omega

theorem ours_few {os : List AObj} {g : AObj} (h : ours os g = true) : g.listeners.length ≤ 8 := by
 have h1 : g.ref.kind = 5 ∧ objMay g = true := by
  simp only [ours, gwOk, Bool.and_eq_true, decide_eq_true_eq] at h
  exact h.1
 have h2 := h1.2
 rw [objMay_keep] at h2
 simp only [Bool.and_eq_true] at h2
 have h3 := h2.2.1
 simp only [kindMay, h1.1] at h3
 simp only [gatewayMay, every, Bool.and_eq_true, decide_eq_true_eq, Int.reduceEq, false_or, or_self, if_false, if_true] at h3
 omega

theorem attAt_few (os : List AObj) (r : AObj) (p : Int) : (attAt labelsAll os r p).1.length ≤ 8 := by
 by_cases ho : (attAt labelsAll os r p).2.2 = true
 ·obtain ⟨x, g, _, _, _, _, h4, h5⟩ := attAt_on labelsAll ho
  rw [h5]
  have h1 := atFold_len (os := os) (g := g) (r := r) (p := x) g.listeners ([], noParent)
  have h2 := ours_few h4
  unfold atFold
  rw [List.length_nil] at h1
  omega
 ·rw [attAt_off labelsAll (by simpa using ho)]
  simp

set_option maxHeartbeats 4000000 in
theorem attach_All (os : List AObj) (hos : os.length ≤ 1000000) (h : ∀ o ∈ os, o.ok) (r : AObj) (hr : r.ok) (hn : r.parents.length ≤ 1000) :
 Pure Tryz.prog 14 [.pd (.slice (rows AObj.pd os)), r.d] (fun d => d = .pd (.slice (rows ASpot.pd (attAll labelsAll os r)))) := by
 refine pure_of_run follows an_z7omx Tryz.func14 rfl ok_z7omx.1 ok_z7omx.2 (by simp [Tryz.ntmps14]) ?_
 rw [run_start]
 simp only [ac_z7omx, go_sem, simprocAttr]
 refine loopS (fun k st => ∃ (i tok : Nat), k = r.parents.length - i ∧ i ≤ r.parents.length ∧ (tok = 26 ∨ tok = 27) ∧
  st = ⟨[(0, .pd (.slice (rows AObj.pd os))), (3, .ptr 3 0), (5, .own 46 5 (rows ASpot.pd (allUpto labelsAll os r i)) tok), (12, int r.parents.length), (13, int i)], [(3, r.ds)], [], .no⟩) r.parents.length _ ?_ ⟨0, 26, rfl, by omega, .inl rfl, rfl⟩ ?_
 ·rw [allUpto]
  exact Weak.own1 5 26 46 5 (by kernel_rfl) (by decide) rfl (by simp [lessL, lk, St.purge, St.put, D.purge, rows]) (by simp [lessL, lk, St.purge, D.purges, D.purge]) (by simp [lessL]) rfl
 rintro k st ⟨i, tok, rfl, hi, htok, rfl⟩
 by_cases hlt : i < r.parents.length
 ·have h1 : ((i : Int) < (r.parents.length : Int)) = True := eq_true (by omega)
  have hw := i64_succ (show i < 1000000000 by omega)
  simp only [go_sem, simprocAttr, h1]
  refine (attach_At os hos h r hr i).callW (enters_of Tryz.func11 rfl rfl) _ rfl rfl ?_
  rintro _ rfl
  simp only [attD, go_sem, simprocAttr]
  have hb1 := allUpto_len os r 8 (attAt_few os r) i
  have hb2 := attAt_few os r i
  have hbi : i * 8 ≤ 8000 := by omega
  rcases htok with rfl | rfl
  ·refine (attach_gather (allUpto labelsAll os r i) (attAt labelsAll os r i).1 (by omega)).callW (enters_of Tryz.func41 rfl rfl) _ false [] [(26, 500001)] [] [(500001, 26), (20, 27)] rfl rfl rfl ?_
   rintro d bs ⟨hd, rfl⟩
   rcases hd with rfl | rfl
   ·simp only [go_sem, simprocAttr, hw]
    refine ⟨r.parents.length - (i + 1), _, by omega, ?_, i + 1, 26, rfl, by omega, .inl rfl, rfl⟩
    rw [allUpto]
    exact lessA
   ·simp only [go_sem, simprocAttr, hw]
    refine ⟨r.parents.length - (i + 1), _, by omega, ?_, i + 1, 27, rfl, by omega, .inr rfl, rfl⟩
    rw [allUpto]
    exact lessA
  ·refine (attach_gather (allUpto labelsAll os r i) (attAt labelsAll os r i).1 (by omega)).callW (enters_of Tryz.func41 rfl rfl) _ false [] [(27, 500001)] [] [(500001, 26), (20, 27)] rfl rfl rfl ?_
   rintro d bs ⟨hd, rfl⟩
   rcases hd with rfl | rfl
   ·simp only [go_sem, simprocAttr, hw]
    refine ⟨r.parents.length - (i + 1), _, by omega, ?_, i + 1, 26, rfl, by omega, .inl rfl, rfl⟩
    rw [allUpto]
    exact lessA
   ·simp only [go_sem, simprocAttr, hw]
    refine ⟨r.parents.length - (i + 1), _, by omega, ?_, i + 1, 27, rfl, by omega, .inr rfl, rfl⟩
    rw [allUpto]
    exact lessA
 ·have h1 : ((i : Int) < (r.parents.length : Int)) = False := eq_false (by omega)
  obtain rfl : i = r.parents.length := by omega
  simp only [go_sem, simprocAttr, h1]
  simp only [retK, resD, retL, oneD, simprocAttr, Tryz.results14]
  exact ⟨_, rfl, rfl, rfl⟩


theorem attAll_len (os : List AObj) (r : AObj) (hn : r.parents.length ≤ 1000) : (attAll labelsAll os r).length ≤ 8000 := by
 have h1 := allUpto_len os r 8 (attAt_few os r) r.parents.length
 unfold attAll
 omega

theorem countP_take {α : Type} {p : α → Bool} {l : List α} {i : Nat} {x : α} (hx : l[i]? = some x) : (l.take (i + 1)).countP p = (l.take i).countP p + if p x = true then 1 else 0 := by
 rw [take_at hx, List.countP_append]
 simp [List.countP_cons]


theorem asked_yes {y : AListener} {x : AParent} (h : asked y x = true) : (x.section_ = ⟨#[]⟩ ∨ (¬ x.section_ = ⟨#[]⟩ ∧ x.section_ = y.name)) ∧ (x.port = 0 ∨ (¬ x.port = 0 ∧ x.port = y.port)) := by
 simp only [asked, Bool.and_eq_true, Bool.or_eq_true, decide_eq_true_eq] at h
 refine ⟨?_, ?_⟩
 ·by_cases e : x.section_ = ⟨#[]⟩
  ·exact .inl e
  ·exact .inr ⟨e, h.1.resolve_left e⟩
 ·by_cases e : x.port = 0
  ·exact .inl e
  ·exact .inr ⟨e, h.2.resolve_left e⟩

theorem asked_no {y : AListener} {x : AParent} (h : asked y x = false) : (¬ x.section_ = ⟨#[]⟩ ∧ ¬ x.section_ = y.name) ∨ ((x.section_ = ⟨#[]⟩ ∨ x.section_ = y.name) ∧ ¬ x.port = 0 ∧ ¬ x.port = y.port) := by
 by_cases e1 : x.section_ = ⟨#[]⟩ <;> by_cases e2 : x.section_ = y.name <;> by_cases e3 : x.port = 0 <;> by_cases e4 : x.port = y.port <;> simp_all [asked]

set_option maxHeartbeats 16000000 in
theorem ref13_At (os : List AObj) (hos : os.length ≤ 1000000) (h : ∀ o ∈ os, o.ok) (hk : ∀ o ∈ os, o.sok) (r : AObj) (hr : r.ok) (hrs : r.sok) (p : Int) :
 Pure Tryz.prog 12 [.pd (.slice (rows AObj.pd os)), r.d, int p] (fun d => d = attD (attAt labelsAll os r p)) := by
 have hpa := hr.pa
 refine pure_of_run follows an_zqsrt Tryz.func12 rfl ok_zqsrt.1 ok_zqsrt.2 (by simp [Tryz.ntmps12]) ?_
 rw [run_start]
 unfold attAt isRoute
 by_cases h6 : r.ref.kind = 6
 case neg =>
  have h6' := eq_false h6
  simp only [ac_zqsrt, go_sem, simprocAttr, h6']
  simp only [retK, resD, retL, oneD, simprocAttr, Tryz.results12]
  exact ⟨_, rfl, rfl, by rw [if_neg (by simp [h6])]; rfl⟩
 have h6' := eq_true h6
 simp only [ac_zqsrt, go_sem, simprocAttr, h6']
 refine (ref9_May r hr hrs).callW (enters_of Tryz.func35 rfl rfl) _ rfl rfl ?_
 rintro _ rfl
 cases hm : objMay r
 ·simp only [go_sem, simprocAttr]
  simp only [retK, resD, retL, oneD, simprocAttr, Tryz.results12]
  exact ⟨_, rfl, rfl, by rw [if_neg (by simp)]; rfl⟩
 by_cases hi : p < 0
 ·have hi' := eq_true hi
  simp only [go_sem, simprocAttr, hi']
  simp only [retK, resD, retL, oneD, simprocAttr, Tryz.results12]
  exact ⟨_, rfl, rfl, by rw [if_neg (by omega)]; rfl⟩
 obtain ⟨n, rfl⟩ : ∃ n : Nat, p = n := ⟨p.toNat, by omega⟩
 have hi' := eq_false hi
 rw [if_pos ⟨by simp [h6], by omega⟩, Int.toNat_natCast]
 by_cases hl : n < r.parents.length
 case neg =>
  have h1 : ((r.parents.length : Int) ≤ (n : Int)) = True := eq_true (by omega)
  have hno : r.parents[n]? = none := List.getElem?_eq_none (by omega)
  simp only [go_sem, simprocAttr, hi', h1]
  simp only [retK, resD, retL, oneD, simprocAttr, Tryz.results12]
  exact ⟨_, rfl, rfl, by rw [hno]; rfl⟩
 obtain ⟨x, hx⟩ := at_lt hl
 have h1 : ((r.parents.length : Int) ≤ (n : Int)) = False := eq_false (by omega)
 simp only [hx]
 simp only [go_sem, simprocAttr, hi', h1, rows_get hx]
 refine (ref11_Near ⟨5, x.space, x.name⟩ r.ref.space).callW (enters_of Tryz.func36 rfl rfl) _ rfl rfl ?_
 rintro _ rfl
 simp only [go_sem, simprocAttr]
 refine (ref11_Find os hos (near ⟨5, x.space, x.name⟩ r.ref.space)).callW (enters_of Tryz.func17 rfl rfl) _ rfl rfl ?_
 rintro _ rfl
 rcases hf : found os (near ⟨5, x.space, x.name⟩ r.ref.space) with _ | g
 ·simp only [foundD, go_sem, simprocAttr]
  simp only [retK, resD, retL, oneD, simprocAttr, Tryz.results12]
  exact ⟨_, rfl, rfl, rfl⟩
 have hgm := List.mem_of_find?_eq_some hf
 have hg := h g hgm
 have hgl := hg.li
 simp only [foundD, go_sem, simprocAttr]
 refine (ref12_Ours os hos h hk g hg (hk g hgm)).callW (enters_of Tryz.func37 rfl rfl) _ rfl rfl ?_
 rintro _ rfl
 cases ho : ours os g
 ·simp only [go_sem, simprocAttr]
  simp only [retK, resD, retL, oneD, simprocAttr, Tryz.results12]
  exact ⟨_, rfl, rfl, rfl⟩
 have hgw : gwOk g = true := by unfold ours at ho; rw [Bool.and_eq_true] at ho; exact ho.1
 simp only [go_sem, simprocAttr]
 have hwhy := why_end labelsAll (os := os) (g := g) (r := r) (p := x) g.listeners
 rw [hwhy]
 clear hwhy
 obtain ⟨F, hF⟩ : ∃ F : Nat → List ASpot × ByteArray, F = fun i => (g.listeners.take i).foldl (fun a y => atStep labelsAll os g r x y a) ([], noParent) := ⟨_, rfl⟩
 have hF0 : (F 0).1 = [] := by rw [hF]; rfl
 have hFl : ∀ i, i ≤ g.listeners.length → (F i).1.length ≤ i := fun i hi => by
  have := atFold_len (os := os) (g := g) (r := r) (p := x) (g.listeners.take i) ([], noParent)
  rw [List.length_nil, List.length_take] at this
  rw [hF]
  simp only
  omega
 have hFs : ∀ i y, g.listeners[i]? = some y → F (i + 1) = atStep labelsAll os g r x y (F i) := fun i y hy => by
  rw [hF]
  exact foldl_take (f := fun a y => atStep labelsAll os g r x y a) hy
 have hFe : F g.listeners.length = atFold labelsAll os g r x g.listeners := by rw [hF]; simp only [List.take_length]; rfl
 rw [← hFe]
 clear hFe hF
 have hn0 : noParent = ⟨#[78, 111, 77, 97, 116, 99, 104, 105, 110, 103, 80, 97, 114, 101, 110, 116]⟩ := rfl
 refine loopS (fun k st => ∃ i : Nat, k = g.listeners.length - i ∧ i ≤ g.listeners.length ∧
  st = ⟨[(0, .pd (.slice (rows AObj.pd os))), (4, .ptr 4 0), (9, .ptr 9 0), (10, .ptr 10 0), (12, int ((g.listeners.take i).countP (isAsked x))), (13, int ((g.listeners.take i).countP (isLet labelsAll os g r x))), (14, .own 46 5 (rows ASpot.pd (F i).1) 127), (15, int i)],
   [(10, g.ds), (9, x.ds), (4, r.ds)], [], .no⟩) g.listeners.length _ ?_ ⟨0, rfl, by omega, rfl⟩ ?_
 ·rw [hF0]
  exact Weak.own1 14 127 46 5 (by kernel_rfl) (by decide) rfl (by simp [lessL, lk, St.purge, St.put, D.purge, rows]) (by simp [lessL, lk, St.purge, D.purges, D.purge]) (by simp [lessL]) rfl
 rintro k st ⟨i, rfl, hi, rfl⟩
 have hw := i64_succ (show i < 1000000000 by omega)
 by_cases hlt : i < g.listeners.length
 rotate_left
 ·have h2 : ((i : Int) < (g.listeners.length : Int)) = False := eq_false (by omega)
  obtain rfl : i = g.listeners.length := by omega
  rw [List.take_length]
  generalize F g.listeners.length = a
  generalize g.listeners.countP (isAsked x) = A
  generalize g.listeners.countP (isLet labelsAll os g r x) = L
  unfold whyOf
  by_cases h3 : a.1 = []
  ·have h4 : (0 < (a.1.length : Int)) = False := eq_false (by rw [h3]; simp)
   rw [if_neg (by simpa using h3)]
   by_cases hA : A = 0
   ·have h5 : ((A : Int) = 0) = True := eq_true (by omega)
    rw [if_pos hA]
    simp only [go_sem, simprocAttr, h2, h4, h5]
    simp only [retK, resD, retL, oneD, simprocAttr, Tryz.results12]
    exact ⟨_, rfl, rfl, by rw [h3]; rfl⟩
   ·have h5 : ((A : Int) = 0) = False := eq_false (by omega)
    rw [if_neg hA]
    by_cases hL : L = 0
    ·have h6 : ((L : Int) = 0) = True := eq_true (by omega)
     rw [if_pos hL]
     simp only [go_sem, simprocAttr, h2, h4, h5, h6]
     simp only [retK, resD, retL, oneD, simprocAttr, Tryz.results12]
     exact ⟨_, rfl, rfl, by rw [h3]; rfl⟩
    ·have h6 : ((L : Int) = 0) = False := eq_false (by omega)
     rw [if_neg hL]
     simp only [go_sem, simprocAttr, h2, h4, h5, h6]
     simp only [retK, resD, retL, oneD, simprocAttr, Tryz.results12]
     exact ⟨_, rfl, rfl, by rw [h3]; rfl⟩
  ·have h4 : (0 < (a.1.length : Int)) = True := eq_true (by have := List.length_pos_iff.2 h3; omega)
   rw [if_pos h3]
   simp only [go_sem, simprocAttr, h2, h4]
   simp only [retK, resD, retL, oneD, simprocAttr, Tryz.results12]
   exact ⟨_, rfl, rfl, rfl⟩
 obtain ⟨y, hy⟩ := at_lt hlt
 have h2 : ((i : Int) < (g.listeners.length : Int)) = True := eq_true (by omega)
 have hs := hFs i y hy
 have hfl := hFl i hi
 have sA := countP_take (p := isAsked x) hy
 have sL := countP_take (p := isLet labelsAll os g r x) hy
 have lA : (g.listeners.take i).countP (isAsked x) ≤ i := Nat.le_trans (List.countP_le_length) (by simp; omega)
 have lL : (g.listeners.take i).countP (isLet labelsAll os g r x) ≤ i := Nat.le_trans (List.countP_le_length) (by simp; omega)
 generalize F i = a at hs hfl ⊢
 generalize (g.listeners.take i).countP (isAsked x) = A at sA lA ⊢
 generalize (g.listeners.take i).countP (isLet labelsAll os g r x) = L at sL lL ⊢
 have wA := i64_succ (show A < 1000000000 by omega)
 have wL := i64_succ (show L < 1000000000 by omega)
 unfold atStep at hs
 unfold isAsked at sA
 unfold isLet at sL
 cases ha : asked y x
 ·rw [ha, if_pos rfl] at hs
  rw [ha] at sA sL
  replace sA : (g.listeners.take (i + 1)).countP (isAsked x) = A := sA
  replace sL : (g.listeners.take (i + 1)).countP (isLet labelsAll os g r x) = L := sL
  have hno := asked_no ha
  simp only [go_sem, simprocAttr, rows_get hy, h2]
  repeat' (first | refine GifP.mk (fun _ => ?_) (fun _ => ?_) | refine Gif.mk (fun _ => ?_) (fun _ => ?_))
  all_goals
   first
    | (exfalso; simp_all; done)
    | (simp only [go_sem, simprocAttr, hw]
       refine ⟨g.listeners.length - (i + 1), _, by omega, ?_, i + 1, rfl, by omega, rfl⟩
       rw [hs, sA, sL]
       exact lessA)
 rw [ha, if_neg (by simp)] at hs
 rw [ha] at sA sL
 replace sA : (g.listeners.take (i + 1)).countP (isAsked x) = A + 1 := sA
 have c1 := ref13_Lets os hos h hk g hg (hk g hgm) i r.ref.space
 rw [lets_of hgw hy] at c1
 have c2 := ref13_Meet y.host r.hosts hr.ho
 have hml := meetFold_len y.host (someHosts r.hosts) []
 obtain ⟨e1, e2⟩ := asked_yes ha
 rcases e1 with e1 | ⟨e1, e1'⟩ <;> rcases e2 with e2 | ⟨e2, e2'⟩
 case' inl.inl =>
  have f1 := eq_true e1
  have f2 := eq_true e2
  simp only [go_sem, simprocAttr, rows_get hy, h2, f1, f2, wA]
 case' inl.inr =>
  have f1 := eq_true e1
  have f2 := eq_false e2
  have f3 := eq_true e2'
  simp only [go_sem, simprocAttr, rows_get hy, h2, f1, f2, f3, wA]
 case' inr.inl =>
  have f1 := eq_false e1
  have f4 := eq_true e1'
  have f2 := eq_true e2
  simp only [go_sem, simprocAttr, rows_get hy, h2, f1, f2, f4, wA]
 case' inr.inr =>
  have f1 := eq_false e1
  have f4 := eq_true e1'
  have f2 := eq_false e2
  have f3 := eq_true e2'
  simp only [go_sem, simprocAttr, rows_get hy, h2, f1, f2, f3, f4, wA]
 all_goals
  refine c1.callW (enters_of Tryz.func38 rfl rfl) _ rfl rfl ?_
  rintro _ rfl
  cases hle : attLets labelsAll os g y r.ref.space
  ·rw [hle, if_pos rfl] at hs
   rw [hle] at sL
   replace sL : (g.listeners.take (i + 1)).countP (isLet labelsAll os g r x) = L := sL
   simp only [go_sem, simprocAttr, hw]
   refine ⟨g.listeners.length - (i + 1), _, by omega, ?_, i + 1, rfl, by omega, rfl⟩
   rw [hs, sA, sL]
   exact lessA
  rw [hle, if_neg (by simp)] at hs
  rw [hle] at sL
  replace sL : (g.listeners.take (i + 1)).countP (isLet labelsAll os g r x) = L + 1 := sL
  simp only [go_sem, simprocAttr, wL]
  refine c2.callW (enters_of Tryz.func39 rfl rfl) _ rfl rfl ?_
  rintro _ rfl
  by_cases hme : meets y.host r.hosts = []
  ·rw [if_pos hme] at hs
   have hme' : (0 < ((meets y.host r.hosts).length : Int)) = False := eq_false (by rw [hme]; simp)
   simp only [go_sem, simprocAttr, hme', hw]
   refine ⟨g.listeners.length - (i + 1), _, by omega, ?_, i + 1, rfl, by omega, rfl⟩
   rw [hs, sA, sL]
   exact lessA
  ·rw [if_neg hme] at hs
   have hme' : (0 < ((meets y.host r.hosts).length : Int)) = True := eq_true (by have := List.length_pos_iff.2 hme; omega)
   simp only [go_sem, simprocAttr, hme', hw]
   rw [show rows ASpot.pd a.1 ++ [[PD.raw (Value.int IntKind.i64 g.ref.kind), PD.raw (Value.string g.ref.space), PD.raw (Value.string g.ref.name), pStr y.name, PD.slice (strs (meets y.host r.hosts))]] = rows ASpot.pd (a.1 ++ [⟨g.ref, y.name, meets y.host r.hosts⟩]) from rows_one a.1 ⟨g.ref, y.name, meets y.host r.hosts⟩]
   refine ⟨fun q hq => by rw [List.mem_singleton.1 hq]; rfl, by unfold maxLen; omega, by omega, g.listeners.length - (i + 1), _, by omega, ?_, i + 1, rfl, by omega, rfl⟩
   rw [hs, sA, sL]
   exact lessA


theorem gather_if (out : List ASpot) (s : ASpot) : gatherStep out s = if (out.any fun x => x.at_ s.gateway s.listener) = true then out else out ++ [s] := rfl

set_option maxHeartbeats 8000000 in
theorem ref13_All (os : List AObj) (hos : os.length ≤ 1000000) (h : ∀ o ∈ os, o.ok) (hk : ∀ o ∈ os, o.sok) (r : AObj) (hr : r.ok) (hrs : r.sok) (hn : r.parents.length ≤ 1000) :
 Pure Tryz.prog 15 [.pd (.slice (rows AObj.pd os)), r.d] (fun d => d = .pd (.slice (rows ASpot.pd (attAll labelsAll os r)))) := by
 refine pure_of_run follows an_zmzi6 Tryz.func15 rfl ok_zmzi6.1 ok_zmzi6.2 (by simp [Tryz.ntmps15]) ?_
 rw [run_start]
 simp only [ac_zmzi6, go_sem, simprocAttr]
 refine loopS (fun k st => ∃ i : Nat, k = r.parents.length - i ∧ i ≤ r.parents.length ∧
  st = ⟨[(0, .pd (.slice (rows AObj.pd os))), (3, .ptr 3 0), (5, .own 46 5 (rows ASpot.pd (allUpto labelsAll os r i)) 75), (6, int i)], [(3, r.ds)], [], .no⟩) r.parents.length _ ?_ ⟨0, rfl, by omega, rfl⟩ ?_
 ·rw [allUpto]
  exact Weak.own1 5 75 46 5 (by kernel_rfl) (by decide) rfl (by simp [lessL, lk, St.purge, St.put, D.purge, rows]) (by simp [lessL, lk, St.purge, D.purges, D.purge]) (by simp [lessL]) rfl
 rintro k st ⟨i, rfl, hi, rfl⟩
 by_cases hlt : i < r.parents.length
 rotate_left
 ·have h1 : ((i : Int) < (r.parents.length : Int)) = False := eq_false (by omega)
  obtain rfl : i = r.parents.length := by omega
  simp only [go_sem, simprocAttr, h1]
  simp only [retK, resD, retL, oneD, simprocAttr, Tryz.results15]
  exact ⟨_, rfl, rfl, rfl⟩
 have h1 : ((i : Int) < (r.parents.length : Int)) = True := eq_true (by omega)
 have hw := i64_succ (show i < 1000000000 by omega)
 have hup : allUpto labelsAll os r (i + 1) = gatherS (allUpto labelsAll os r i) (attAt labelsAll os r i).1 := rfl
 have hb1 := allUpto_len os r 8 (attAt_few os r) i
 have hb2 := attAt_few os r i
 have hbi : i * 8 ≤ 8000 := by omega
 have c1 := ref13_At os hos h hk r hr hrs i
 unfold gatherS at hup
 generalize allUpto labelsAll os r i = O at hup hb1 ⊢
 generalize attAt labelsAll os r i = W at hup hb2 c1
 obtain ⟨M, y, b⟩ := W
 simp only [attD] at c1
 replace hb2 : M.length ≤ 8 := hb2
 simp only [go_sem, simprocAttr, h1]
 refine c1.callW (enters_of Tryz.func12 rfl rfl) _ rfl rfl ?_
 rintro _ rfl
 simp only [go_sem, simprocAttr]
 have hgl : ∀ j, j ≤ M.length → ((M.take j).foldl gatherStep O).length ≤ 9000 := fun j hj => by
  have := gatherS_len (M.take j) O
  unfold gatherS at this
  rw [List.length_take] at this
  omega
 refine loopS (fun k st => ∃ j : Nat, k = M.length - j ∧ j ≤ M.length ∧
  st = ⟨[(0, .pd (.slice (rows AObj.pd os))), (3, .ptr 3 0), (5, .own 46 5 (rows ASpot.pd ((M.take j).foldl gatherStep O)) 75), (6, int i), (7, .pd (.slice (rows ASpot.pd M))), (10, int j)], [(3, r.ds)], [], .no⟩) M.length _ ?_ ⟨0, rfl, by omega, rfl⟩ ?_
 ·exact lessA
 rintro k st ⟨j, rfl, hj, rfl⟩
 have hwj := i64_succ (show j < 1000000000 by omega)
 by_cases hjl : j < M.length
 rotate_left
 ·have h2 : ((j : Int) < (M.length : Int)) = False := eq_false (by omega)
  rw [List.take_of_length_le (by omega), ← hup]
  simp only [go_sem, simprocAttr, h2, hw]
  refine ⟨r.parents.length - (i + 1), _, by omega, ?_, i + 1, rfl, by omega, rfl⟩
  rw [hup]
  exact lessA
 obtain ⟨s, hs⟩ := at_lt hjl
 have h2 : ((j : Int) < (M.length : Int)) = True := eq_true (by omega)
 have hf := foldl_take (f := gatherStep) (b := O) hs
 have hol := hgl j hj
 rw [gather_if] at hf
 generalize (M.take j).foldl gatherStep O = out at hf hol ⊢
 simp only [go_sem, simprocAttr, h2]
 refine loopS (fun k st => ∃ (n : Nat) (t : Bool), k = out.length - n ∧ n ≤ out.length ∧ t = ((out.take n).any fun x => x.at_ s.gateway s.listener) ∧
  st = ⟨[(0, .pd (.slice (rows AObj.pd os))), (3, .ptr 3 0), (5, .own 46 5 (rows ASpot.pd out) 75), (6, int i), (7, .pd (.slice (rows ASpot.pd M))), (10, int j), (11, bln t), (12, int n)], [(3, r.ds)], [], .no⟩) out.length _ ?_ ⟨0, false, rfl, by omega, rfl, rfl⟩ ?_
 ·exact lessA
 rintro k st ⟨n, t, rfl, hn, ht, rfl⟩
 have hwn := i64_succ (show n < 1000000000 by omega)
 by_cases hnl : n < out.length
 ·obtain ⟨z, hz⟩ := at_lt hnl
  have h3 : ((n : Int) < (out.length : Int)) = True := eq_true (by omega)
  have hst : ((out.take (n + 1)).any fun x => x.at_ s.gateway s.listener) = (t || z.at_ s.gateway s.listener) := by
   rw [take_at hz, List.any_append, ht]
   simp
  cases t
  ·simp only [go_sem, simprocAttr, rows_get hz, rows_get hs, h3, hwn, eqVs, eqV, eq_Ref]
   refine GifP.mk (fun hg => ?_) (fun hg => ?_)
   ·refine ⟨out.length - (n + 1), _, by omega, ?_, n + 1, decide (z.listener = s.listener), rfl, by omega, by rw [hst]; simp [ASpot.at_, hg], rfl⟩
    exact lessA
   ·refine ⟨out.length - (n + 1), _, by omega, ?_, n + 1, false, rfl, by omega, by rw [hst]; simp [ASpot.at_, hg], rfl⟩
    exact lessA
  ·simp only [go_sem, simprocAttr, h3, hwn]
   refine ⟨out.length - (n + 1), _, by omega, ?_, n + 1, true, rfl, by omega, by rw [hst]; rfl, rfl⟩
   exact lessA
 have h3 : ((n : Int) < (out.length : Int)) = False := eq_false (by omega)
 rw [List.take_of_length_le (by omega)] at ht
 rw [← ht] at hf
 cases t
 ·rw [if_neg (by simp)] at hf
  simp only [go_sem, simprocAttr, rows_get hs, h3, hwj]
  rw [rows_one _ s, ← hf]
  refine ⟨by simp, by unfold maxLen; omega, by omega, M.length - (j + 1), _, by omega, ?_, j + 1, rfl, by omega, rfl⟩
  exact lessA
 ·rw [if_pos rfl] at hf
  simp only [go_sem, simprocAttr, h3, hwj]
  refine ⟨M.length - (j + 1), _, by omega, ?_, j + 1, rfl, by omega, rfl⟩
  rw [hf]
  exact lessA


section
variable (met : List ANeed → List APair → Bool)

theorem mem_upto {os : List AObj} {r : AObj} {s : ASpot} : ∀ {n : Nat}, s ∈ allUpto met os r n → ∃ p : Nat, p < n ∧ s ∈ (attAt met os r p).1
 | 0, h => by cases h
 | n + 1, h => by
   simp only [allUpto] at h
   rcases gather_mem h with h | h
   ·obtain ⟨p, h1, h2⟩ := mem_upto h
    exact ⟨p, by omega, h2⟩
   ·exact ⟨n, Nat.lt_succ_self _, h⟩

theorem found_ref {os : List AObj} {t : ARef} {g : AObj} (h : found os t = some g) : g.ref = t := by
 have := List.find?_some h
 simpa [isRef] using this

theorem spot_from {os : List AObj} {r : AObj} {s : ASpot} (h : s ∈ attAll met os r) : ∃ (g : AObj) (x : AListener), found os s.gateway = some g ∧ ours os g = true ∧ x ∈ g.listeners ∧ attLets met os g x r.ref.space = true ∧ s.listener = x.name ∧ s.hosts = meets x.host r.hosts ∧ s.hosts ≠ [] := by
 obtain ⟨p, _, hp⟩ := mem_upto met h
 by_cases ho : (attAt met os r p).2.2 = true
 ·obtain ⟨pa, g, _, _, _, h3, h4, h5⟩ := attAt_on met ho
  rw [h5, mem_fold] at hp
  obtain ⟨x, hx, _, e2, e3, rfl⟩ := hp
  exact ⟨g, x, by rw [found_ref h3]; exact h3, h4, hx, e2, rfl, rfl, e3⟩
 ·rw [attAt_off met (by simpa using ho)] at hp
  cases hp

end


deriving instance DecidableEq for ASpot

set_option maxHeartbeats 2000000 in
theorem ref13_Same (a b : List ASpot) (ha : a.length ≤ 1000000) (hb : ∀ x ∈ a, x.hosts.length ≤ 1000000) : Pure Tryz.prog 13 [.pd (.slice (rows ASpot.pd a)), .pd (.slice (rows ASpot.pd b))] (fun d => d = bln (decide (a = b))) := by
 refine pure_of_run follows an_z7khb Tryz.func13 rfl ok_z7khb.1 ok_z7khb.2 (by simp [Tryz.ntmps13]) ?_
 rw [run_start]
 simp only [ac_z7khb, go_sem, simprocAttr]
 refine GifP.mk (fun hl => ?_) (fun hl => ?_)
 rotate_left
 ·simp only [retK, resD, retL, oneD, simprocAttr, Tryz.results13]
  exact ⟨_, rfl, rfl, res_no (fun e => hl (by rw [e]))⟩
 have hL : a.length = b.length := by omega
 refine loopS (fun k st => ∃ i : Nat, k = a.length - i ∧ i ≤ a.length ∧ a.take i = b.take i ∧ st = ⟨[(0, .pd (.slice (rows ASpot.pd a))), (1, .pd (.slice (rows ASpot.pd b))), (5, int i)], [], [], .no⟩) a.length _ ?_ ⟨0, rfl, by omega, rfl, rfl⟩ ?_
 ·exact lessA
 rintro k st ⟨i, rfl, hi, hT, rfl⟩
 have hw := i64_succ (show i < 1000000000 by omega)
 by_cases hlt : i < a.length
 ·obtain ⟨x, hx⟩ := at_lt hlt
  obtain ⟨y, hy⟩ := at_lt (show i < b.length by omega)
  have h1 : ((i : Int) < (a.length : Int)) = True := eq_true (by omega)
  simp only [go_sem, simprocAttr, rows_get hx, rows_get hy, h1, hw, eqVs, eqV, eq_Ref]
  ·repeat' (first | refine GifP.mk (fun _ => ?_) (fun _ => ?_) | refine Gif.mk (fun _ => ?_) (fun _ => ?_) | (refine (ref1_Same x.hosts y.hosts (hb x (List.mem_of_getElem? hx))).callX (enters_of Tryz.func40 rfl rfl) _ rfl rfl ?_; rintro _ rfl; simp only [go_sem, simprocAttr, rows_get hx, rows_get hy, hw, eqVs, eqV, eq_Ref]) | refine And.intro ?_ ?_)
   all_goals first
    | (refine ⟨a.length - (i + 1), _, by omega, ?_, i + 1, rfl, by omega, take_step hT hx hy (by first | assumption | (cases x; cases y; simp_all)), rfl⟩; exact lessA)
    | (simp only [retK, resD, retL, oneD, simprocAttr, Tryz.results13]; exact ⟨_, rfl, rfl, res_no (fun e => by subst e; have hxy := Option.some.inj (hx.symm.trans hy); subst hxy; first | contradiction | simp_all)⟩)
 have h1 : ((i : Int) < (a.length : Int)) = False := eq_false (by omega)
 have hE := take_end hT (by omega) hlt
 clear hT hi hw
 simp only [go_sem, simprocAttr, h1]
 clear h1 hlt i
 simp only [retK, resD, retL, oneD, simprocAttr, Tryz.results13]
 exact ⟨_, rfl, rfl, res_yes hE⟩

theorem spots_short {os : List AObj} {r : AObj} (hr : r.ok) : ∀ s ∈ attAll labelsAll os r, s.hosts.length ≤ 1000000 := fun s hs => by
 obtain ⟨g, x, _, _, _, _, _, h, _⟩ := spot_from labelsAll hs
 rw [h]
 have h1 := meetFold_len x.host (someHosts r.hosts) []
 have h2 : (someHosts r.hosts).length ≤ 1000000 := by
  unfold someHosts
  split
  ·simp
  ·exact hr.ho
 unfold meets
 rw [List.length_nil] at h1
 omega


abbrev tA : ByteArray := ⟨#[97]⟩
abbrev tC : ByteArray := ⟨#[99]⟩
abbrev tR : ByteArray := ⟨#[114]⟩
abbrev tZ : ByteArray := ⟨#[122]⟩
abbrev tWeb : ByteArray := ⟨#[119, 101, 98]⟩
abbrev tApp : ByteArray := ⟨#[97, 112, 112]⟩
abbrev tGw : ByteArray := ⟨#[103, 119]⟩
abbrev tAT : ByteArray := ⟨#[97, 46, 116, 101, 115, 116]⟩
abbrev tBX : ByteArray := ⟨#[98, 46, 120]⟩
abbrev tST : ByteArray := ⟨#[42, 46, 116, 101, 115, 116]⟩
abbrev eL : List AObj := [⟨⟨1, ⟨#[]⟩, tC⟩, true, [], [], ⟨#[]⟩, [], [], [], [], [], []⟩, ⟨⟨5, tWeb, tGw⟩, false, [], [], tC, [⟨tA, 80, false, ⟨#[]⟩, ⟨0, ⟨#[]⟩, ⟨#[]⟩⟩, 0, []⟩], [], [], [], [], []⟩]
abbrev eR : AObj := ⟨⟨6, tApp, tR⟩, false, [], [], ⟨#[]⟩, [], [⟨tWeb, tGw, ⟨#[]⟩, 0⟩, ⟨tWeb, tGw, tZ, 0⟩], [], [], [], []⟩

theorem eR_ok : eR.ok := by constructor <;> simp
theorem eL_oks : ∀ o ∈ eL, o.ok := fun o h => by
 rcases List.mem_cons.1 h with rfl | h
 ·constructor <;> simp
 ·rw [List.mem_singleton.1 h]
  constructor <;> simp
  constructor <;> simp

theorem e_at0 : (attAt labelsAll eL eR 0).2 = (noSpace, true) := by decide +kernel
theorem e_at1 : (attAt labelsAll eL eR 1).2 = (noParent, true) := by decide +kernel
theorem e_m1 : meets tST [tAT, tBX] = [tAT] := by decide +kernel
theorem e_m2 : meets tAT [] = [tAT] := by decide +kernel

theorem awake13 : Pure Tryz.prog 16 [] (fun d => d = bln true) := by
 have c1 := attach_At eL (by simp) eL_oks eR eR_ok 0
 unfold attD at c1
 rw [e_at0] at c1
 have c2 := attach_At eL (by simp) eL_oks eR eR_ok 1
 unfold attD at c2
 rw [e_at1] at c2
 have c3 := attach_Meet tST [tAT, tBX] (by simp)
 rw [e_m1] at c3
 have c4 := attach_Meet tAT [] (by simp)
 rw [e_m2] at c4
 have c5 := ref1_Same [tAT] [tAT] (by simp)
 rw [decide_eq_true rfl] at c5
 generalize rows ASpot.pd (attAt labelsAll eL eR 0).1 = s1 at c1
 generalize rows ASpot.pd (attAt labelsAll eL eR 1).1 = s2 at c2
 unfold noSpace at c1
 unfold noParent at c2
 refine pure_of_run follows an_z11cc Tryz.func16 rfl ok_z11cc.1 ok_z11cc.2 (by simp [Tryz.ntmps16]) ?_
 rw [run_start]
 simp only [ac_z11cc, go_sem, simprocAttr]
 refine c1.callW (enters_of Tryz.func11 rfl rfl) _ rfl rfl ?_
 rintro _ rfl
 simp only [go_sem, simprocAttr]
 refine c2.callW (enters_of Tryz.func11 rfl rfl) _ rfl rfl ?_
 rintro _ rfl
 simp only [go_sem, simprocAttr]
 refine c3.callW (enters_of Tryz.func34 rfl rfl) _ rfl rfl ?_
 rintro _ rfl
 simp only [go_sem, simprocAttr]
 refine c5.callW (enters_of Tryz.func40 rfl rfl) _ rfl rfl ?_
 rintro _ rfl
 simp only [go_sem, simprocAttr]
 refine c4.callW (enters_of Tryz.func34 rfl rfl) _ rfl rfl ?_
 rintro _ rfl
 simp only [go_sem, simprocAttr]
 refine c5.callW (enters_of Tryz.func40 rfl rfl) _ rfl rfl ?_
 rintro _ rfl
 simp only [go_sem, simprocAttr]
 simp only [retK, resD, retL, oneD, simprocAttr, Tryz.results16]
 exact ⟨_, rfl, rfl, rfl⟩


theorem fewObj_pa (o : AObj) : (fewObj o).parents.length ≤ 1000 := by
 simp only [fewObj, List.length_map, List.length_take]
 omega


theorem att_short {os : List AObj} {r : AObj} (hr : r.ok) (p : Int) : ∀ s ∈ (attAt labelsAll os r p).1, s.hosts.length ≤ 1000000 := fun s hs => by
 cases h : (attAt labelsAll os r p).2.2 with
 | false => rw [attAt_off labelsAll h] at hs; cases hs
 | true =>
   obtain ⟨pa, g, _, _, _, _, _, h5⟩ := attAt_on labelsAll h
   rw [h5, mem_fold] at hs
   obtain ⟨x, _, _, _, _, rfl⟩ := hs
   have h1 := meetFold_len x.host (someHosts r.hosts) []
   have h2 : (someHosts r.hosts).length ≤ 1000000 := by
    unfold someHosts
    split
    ·simp
    ·exact hr.ho
   rw [List.length_nil] at h1
   show (meets x.host r.hosts).length ≤ 1000000
   unfold meets
   omega

theorem eqb_self (b : Bool) : (b == b) = true := by cases b <;> rfl

set_option maxHeartbeats 4000000 in
theorem law_AttachAt (l : List AObj) (r : AObj) (p : Int) : Pure Tryz.prog 3 [.pd (.slice (rows AObj.pd l)), r.d, int p] (fun d => d = bln true) := by
 refine pure_of_run follows an_zwzr5 Tryz.func3 rfl ok_zwzr5.1 ok_zwzr5.2 (by simp [Tryz.ntmps3]) ?_
 rw [run_start]
 simp only [ac_zwzr5, go_sem, simprocAttr]
 refine (law11_Some l).callX (enters_of Tryz.func9 rfl rfl) _ rfl rfl ?_
 rintro _ rfl
 simp only [go_sem, simprocAttr]
 refine (law9_Few r).callX (enters_of Tryz.func10 rfl rfl) _ rfl rfl ?_
 rintro _ rfl
 have hos : (fewObjs l).length ≤ 1000 := Nat.le_trans (fewObjs_len l) (by omega)
 have ho := fewObjs_ok (l := l)
 have hk := fewObjs_sok (l := l)
 have hr := fewObj_ok r
 have hrs := fewObj_sok r
 have hrp := fewObj_pa r
 generalize fewObjs l = os at hos ho hk ⊢
 generalize fewObj r = r at hr hrs hrp ⊢
 have c1 := attach_At os (by omega) ho r hr p
 have c2 := ref13_At os (by omega) ho hk r hr hrs p
 have c3 := attach_All os (by omega) ho r hr hrp
 have c4 := ref13_All os (by omega) ho hk r hr hrs hrp
 have c5 := ref13_Same (attAll labelsAll os r) (attAll labelsAll os r) (by have := attAll_len os r hrp; omega) (spots_short hr)
 have c6 := ref13_Same (attAt labelsAll os r p).1 (attAt labelsAll os r p).1 (by have := attAt_few os r p; omega) (att_short hr p)
 rw [decide_eq_true rfl] at c5 c6
 generalize attAll labelsAll os r = S at c3 c4 c5
 generalize attAt labelsAll os r p = W at c1 c2 c6
 obtain ⟨M, y, b⟩ := W
 simp only [attD] at c1 c2
 try simp only at c6
 simp only [go_sem, simprocAttr]
 refine c1.callW (enters_of Tryz.func11 rfl rfl) _ rfl rfl ?_
 rintro _ rfl
 simp only [go_sem, simprocAttr]
 refine c2.callW (enters_of Tryz.func12 rfl rfl) _ rfl rfl ?_
 rintro _ rfl
 simp only [go_sem, simprocAttr]
 refine c6.callX (enters_of Tryz.func13 rfl rfl) _ rfl rfl ?_
 rintro _ rfl
 simp only [go_sem, simprocAttr, eqb_self]
 refine c3.callX (enters_of Tryz.func14 rfl rfl) _ rfl rfl ?_
 rintro _ rfl
 simp only [go_sem, simprocAttr]
 refine c4.callX (enters_of Tryz.func15 rfl rfl) _ rfl rfl ?_
 rintro _ rfl
 simp only [go_sem, simprocAttr]
 refine c5.callX (enters_of Tryz.func13 rfl rfl) _ rfl rfl ?_
 rintro _ rfl
 simp only [go_sem, simprocAttr]
 refine awake13.callX (enters_of Tryz.func16 rfl rfl) _ rfl rfl ?_
 rintro _ rfl
 simp only [go_sem, simprocAttr]
 simp only [retK, resD, retL, oneD, simprocAttr, Tryz.results3]
 exact ⟨_, rfl, rfl, rfl⟩

end Go.Proofs.YtcnhcamimcpinaaGreatDoor


