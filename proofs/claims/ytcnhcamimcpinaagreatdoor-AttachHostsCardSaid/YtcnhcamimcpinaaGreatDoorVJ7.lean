/- Texts of the prover's, joined: N5 N6 N3 N7 O0 N8 N9 O1 M3 J2 J3 P1 D8 EJ O4. -/
import Derived.Test.YtcnhcamimcpinaaGreatDoorVJ6
import Derived.Test.YtcnhcamimcpinaaGreatDoorProg
import Derived.KernelRfl

namespace Go.Proofs.YtcnhcamimcpinaaGreatDoor
open Go Go.RowKit
set_option linter.unusedSimpArgs false
set_option linter.unusedVariables false
set_option maxRecDepth 100000

def letsAt (os : List AObj) (g : AObj) (i : Int) (space : ByteArray) : Bool := match atL g i with
 | some x => attLets labelsAll os g x space
 | none => false

theorem attach_Lets (os : List AObj) (hos : os.length ≤ 1000000) (h : ∀ o ∈ os, o.ok) (g : AObj) (hg : g.ok) (i : Int) (space : ByteArray) :
 Pure Tryz.prog 18 [.pd (.slice (rows AObj.pd os)), g.d, int i, str space] (fun d => d = bln (letsAt os g i space)) := by
 have hli := hg.li
 refine pure_of_run follows an_zuhx Tryz.func18 rfl ok_zuhx.1 ok_zuhx.2 (by simp [Tryz.ntmps18]) ?_
 rw [run_start]
 unfold letsAt atL gwOk
 by_cases h5 : g.ref.kind = 5
 case neg =>
  have h5' := eq_false h5
  simp only [ac_zuhx, go_sem, contS_seq, simprocAttr, rows_len, h5']
  simp only [retK, resD, retL, oneD, simprocAttr, Tryz.results18]
  exact ⟨_, rfl, rfl, by simp [h5, D.pub]⟩
 have h5' := eq_true h5
 simp only [ac_zuhx, go_sem, contS_seq, simprocAttr, rows_len, h5']
 refine (object_May g hg).callW (enters_of Tryz.func29 rfl rfl) _ rfl rfl ?_
 rintro _ rfl
 cases hm : objMay g
 ·simp only [go_sem, contS_seq, simprocAttr]
  simp only [retK, resD, retL, oneD, simprocAttr, Tryz.results18]
  exact ⟨_, rfl, rfl, by simp [D.pub]⟩
 by_cases hi : i < 0
 ·have hi' := eq_true hi
  simp only [go_sem, contS_seq, simprocAttr, rows_len, hi']
  simp only [retK, resD, retL, oneD, simprocAttr, Tryz.results18]
  exact ⟨_, rfl, rfl, by simp [hi, D.pub]⟩
 obtain ⟨n, rfl⟩ : ∃ n : Nat, i = n := ⟨i.toNat, by omega⟩
 have hi' := eq_false hi
 by_cases hl : n < g.listeners.length
 case neg =>
  have h1 : ((g.listeners.length : Int) ≤ (n : Int)) = True := eq_true (by omega)
  simp only [go_sem, contS_seq, simprocAttr, rows_len, hi', h1]
  simp only [retK, resD, retL, oneD, simprocAttr, Tryz.results18]
  have hno : g.listeners[n]? = none := List.getElem?_eq_none (by omega)
  exact ⟨_, rfl, rfl, by simp only [Int.toNat_natCast, hno]; simp [D.pub]⟩
 obtain ⟨x, hx⟩ := at_lt hl
 have hxok := hg.lis x (List.mem_of_getElem? hx)
 have h1 : ((g.listeners.length : Int) ≤ (n : Int)) = False := eq_false (by omega)
 simp only [Int.toNat_natCast, hx, hi, decide_true, Bool.and_self, if_true, if_false, attLets]
 by_cases f1 : x.from_ = 1
 ·have f1' := eq_true f1
  simp only [go_sem, contS_seq, simprocAttr, rows_len, hi', h1, rows_get hx, f1']
  simp only [retK, resD, retL, oneD, simprocAttr, Tryz.results18]
  exact ⟨_, rfl, rfl, by simp [D.pub]⟩
 have f1' := eq_false f1
 by_cases f2 : x.from_ = 2
 case neg =>
  have f2' := eq_false f2
  simp only [go_sem, contS_seq, simprocAttr, rows_len, hi', h1, rows_get hx, f1', f2']
  simp only [retK, resD, retL, oneD, simprocAttr, Tryz.results18]
  exact ⟨_, rfl, rfl, by simp [D.pub]⟩
 have f2' := eq_true f2
 simp only [go_sem, contS_seq, simprocAttr, rows_len, hi', h1, rows_get hx, f1', f2']
 refine (grant_Find os hos ⟨2, ⟨#[]⟩, space⟩).callW (enters_of Tryz.func30 rfl rfl) _ rfl rfl ?_
 rintro _ rfl
 rcases hf : found os ⟨2, ⟨#[]⟩, space⟩ with _ | s
 ·simp only [foundD, go_sem, contS_seq, simprocAttr]
  simp only [retK, resD, retL, oneD, simprocAttr, Tryz.results18]
  exact ⟨_, rfl, rfl, by simp [D.pub]⟩
 simp only [foundD, go_sem, contS_seq, simprocAttr]
 refine (object_May s (h s (List.mem_of_find?_eq_some hf))).callW (enters_of Tryz.func29 rfl rfl) _ rfl rfl ?_
 rintro _ rfl
 cases hs : objMay s
 ·simp only [go_sem, contS_seq, simprocAttr]
  simp only [retK, resD, retL, oneD, simprocAttr, Tryz.results18]
  exact ⟨_, rfl, rfl, by simp [D.pub]⟩
 simp only [go_sem, contS_seq, simprocAttr]
 refine (label_All x.needs hxok.nl hxok.n s.labels (h s (List.mem_of_find?_eq_some hf)).la).callW (enters_of Tryz.func42 rfl rfl) _ rfl rfl ?_
 rintro _ rfl
 simp only [go_sem, contS_seq, simprocAttr]
 simp only [retK, resD, retL, oneD, simprocAttr, Tryz.results18]
 exact ⟨_, rfl, rfl, by simp [D.pub]⟩

theorem meetFold_len (p : ByteArray) : ∀ (hosts : List ByteArray) (out : List ByteArray), (hosts.foldl (meetStep p) out).length ≤ out.length + hosts.length
 | [], _ => by simp
 | h :: hosts, out => by
   have h1 := meetFold_len p hosts (meetStep p out h)
   have h2 : (meetStep p out h).length ≤ out.length + 1 := by
    unfold meetStep
    repeat' split
    all_goals simp
   simp only [List.foldl_cons, List.length_cons]
   omega

theorem foldl_take {α β : Type} {f : β → α → β} {b : β} {l : List α} {i : Nat} {x : α} (hx : l[i]? = some x) : (l.take (i + 1)).foldl f b = f ((l.take i).foldl f b) x := by
 rw [take_at hx, List.foldl_append]; rfl

theorem Weak.purge {P : Program} {st st' : St} (t : Nat) (hf : lessL st'.fr (st.purge t).fr) (hb : lessL st'.bs (st.purge t).bs) (hm : lessL st'.ms st.ms) (hh : st'.hs = st.hs) : Weak P st st' :=
 fun _ _ _ _ _ hs => ⟨_, (hs.purge t).less (fun i d hd => .inl (lessL_lk hf i d hd)) (lessL_lk hb) (lessL_lk hm) hh⟩

set_option maxHeartbeats 1000000 in
theorem attach_Meet (p : ByteArray) (hosts : List ByteArray) (hl : hosts.length ≤ 1000000) :
 Pure Tryz.prog 34 [str p, .pd (.slice (strs hosts))] (fun d => d = .pd (.slice (strs (meets p hosts)))) := by
 have hl2 : (someHosts hosts).length ≤ 1000000 := by
  unfold someHosts
  split
  ·simp
  ·exact hl
 refine pure_of_run follows an_zbr1v Tryz.func34 rfl ok_zbr1v.1 ok_zbr1v.2 (by simp [Tryz.ntmps34]) ?_
 rw [run_start]
 by_cases h0 : hosts.length = 0
 all_goals
  first
  | (have h0' := eq_true h0
     have hsome : someHosts hosts = [⟨#[]⟩] := by simp [someHosts, List.length_eq_zero_iff.1 h0]
     simp only [ac_zbr1v, go_sem, contS_seq, simprocAttr, rows_len, h0', Int.natCast_eq_zero])
  | (have h0' := eq_false h0
     have hsome : someHosts hosts = hosts := by unfold someHosts; exact if_neg fun e => h0 (List.length_eq_zero_iff.2 e)
     simp only [ac_zbr1v, go_sem, contS_seq, simprocAttr, rows_len, h0', Int.natCast_eq_zero])
  refine loopS (fun k st => ∃ i : Nat, k = (someHosts hosts).length - i ∧ i ≤ (someHosts hosts).length ∧
   st = ⟨[(0, str p), (5, .own 9 1 (strs (((someHosts hosts).take i).foldl (meetStep p) [])) 36), (14, .pd (.slice (strs (someHosts hosts)))), (15, int (someHosts hosts).length), (16, int i)], [], [], .no⟩) (someHosts hosts).length _ ?_ ⟨0, rfl, by omega, rfl⟩ ?_
  ·first
   | (refine Weak.trans (s2 := ⟨[(0, str p), (5, .nils), (14, .pd (.slice (strs (someHosts hosts)))), (15, int (someHosts hosts).length), (16, int 0)], [], [], .no⟩) (Weak.purge 13 (by simp [lessL, lk, St.purge, D.purge, hsome]) (by simp [lessL, lk, St.purge, D.purges, D.purge]) (by simp [lessL]) rfl) ?_
      exact Weak.own1 5 36 9 1 (by kernel_rfl) (by decide) rfl (by simp [lessL, lk, St.purge, St.put, D.purge, rows]) (by simp [lessL, lk, St.purge, D.purges, D.purge]) (by simp [lessL]) rfl)
   | (rw [hsome]
      exact Weak.own1 5 36 9 1 (by kernel_rfl) (by decide) rfl (by simp [lessL, lk, St.purge, St.put, D.purge, rows]) (by simp [lessL, lk, St.purge, D.purges, D.purge]) (by simp [lessL]) rfl)
  clear hsome h0'
  generalize hL : someHosts hosts = L at hl2 ⊢
  rintro k st ⟨i, rfl, hi, rfl⟩
  by_cases hlt : i < L.length
  ·obtain ⟨x, hx⟩ := at_lt hlt
   have h1 : ((i : Int) < (L.length : Int)) = True := eq_true (by omega)
   have hw := i64_succ (show i < 1000000000 by omega)
   have hf := foldl_take (f := meetStep p) (b := []) hx
   have hol := meetFold_len p (L.take i) []
   rw [List.length_nil, List.length_take] at hol
   simp only [go_sem, contS_seq, simprocAttr, rows_len, rows_get hx, h1]
   refine (host_Meet p x).callW (enters_of Tryz.func61 rfl rfl) _ rfl rfl ?_
   rintro _ rfl
   generalize (L.take i).foldl (meetStep p) [] = out at hf hol ⊢
   rcases hm : hostMeet p x with _ | m
   ·simp only [meetD, go_sem, contS_seq, simprocAttr, hw]
    rw [show meetStep p out x = out by simp [meetStep, hm]] at hf
    refine ⟨L.length - (i + 1), _, by omega, ?_, i + 1, rfl, by omega, rfl⟩
    rw [hf]
    exact lessA
   ·simp only [meetD, go_sem, contS_seq, simprocAttr, hw]
    refine (slices_Contains_string out (by omega) m).callW (enters_of Tryz.func62 rfl rfl) _ rfl rfl ?_
    rintro _ rfl
    cases hc : hasStr out m
    ·rw [show meetStep p out x = out ++ [m] by simp [meetStep, hm, hc]] at hf
     simp only [go_sem, contS_seq, simprocAttr, rows_len, hw]
     rw [show strs out ++ [[PD.raw (.string m)]] = strs (out ++ [m]) from rows_one out m, ← hf]
     refine ⟨fun r hr => by rw [List.mem_singleton.1 hr]; rfl, by unfold maxLen; omega, by omega, L.length - (i + 1), _, by omega, ?_, i + 1, rfl, by omega, rfl⟩
     exact lessA
    ·rw [show meetStep p out x = out by simp [meetStep, hm, hc]] at hf
     simp only [go_sem, contS_seq, simprocAttr, hw]
     refine ⟨L.length - (i + 1), _, by omega, ?_, i + 1, rfl, by omega, rfl⟩
     rw [hf]
     exact lessA
  ·have h1 : ((i : Int) < (L.length : Int)) = False := eq_false (by omega)
   rw [List.take_of_length_le (by omega)]
   simp only [go_sem, contS_seq, simprocAttr, rows_len, h1]
   simp only [retK, resD, retL, oneD, simprocAttr, Tryz.results34]
   exact ⟨_, rfl, rfl, by unfold meets; rw [hL]; rfl⟩


def attD (a : List ASpot × ByteArray × Bool) : D := .tup [.pd (.slice (rows ASpot.pd a.1)), str a.2.1, bln a.2.2]

theorem atFold_len {os : List AObj} {g r : AObj} {p : AParent} : ∀ (l : List AListener) (a : List ASpot × ByteArray), (l.foldl (fun a x => atStep labelsAll os g r p x a) a).1.length ≤ a.1.length + l.length
 | [], _ => by simp
 | x :: l, a => by
   have h1 := atFold_len (os := os) (g := g) (r := r) (p := p) l (atStep labelsAll os g r p x a)
   have h2 : (atStep labelsAll os g r p x a).1.length ≤ a.1.length + 1 := by
    unfold atStep
    repeat' split
    all_goals simp
   simp only [List.foldl_cons, List.length_cons]
   omega

theorem lets_of {os : List AObj} {g : AObj} {i : Nat} {x : AListener} (h : gwOk g = true) (hx : g.listeners[i]? = some x) (s : ByteArray) : letsAt os g i s = attLets labelsAll os g x s := by
 unfold letsAt atL
 rw [if_pos h, if_neg (by omega), Int.toNat_natCast, hx]

set_option maxHeartbeats 4000000 in
theorem attach_At (os : List AObj) (hos : os.length ≤ 1000000) (h : ∀ o ∈ os, o.ok) (r : AObj) (hr : r.ok) (p : Int) :
 Pure Tryz.prog 11 [.pd (.slice (rows AObj.pd os)), r.d, int p] (fun d => d = attD (attAt labelsAll os r p)) := by
 have hpa := hr.pa
 refine pure_of_run follows an_zf3ax Tryz.func11 rfl ok_zf3ax.1 ok_zf3ax.2 (by simp [Tryz.ntmps11]) ?_
 rw [run_start]
 unfold attAt isRoute
 by_cases h6 : r.ref.kind = 6
 case neg =>
  have h6' := eq_false h6
  simp only [ac_zf3ax, go_sem, contS_seq, simprocAttr, rows_len, h6']
  simp only [retK, resD, retL, oneD, simprocAttr, Tryz.results11]
  exact ⟨_, rfl, rfl, by rw [if_neg (by simp [h6])]; rfl⟩
 have h6' := eq_true h6
 simp only [ac_zf3ax, go_sem, contS_seq, simprocAttr, rows_len, h6']
 refine (object_May r hr).callW (enters_of Tryz.func29 rfl rfl) _ rfl rfl ?_
 rintro _ rfl
 cases hm : objMay r
 ·simp only [go_sem, contS_seq, simprocAttr]
  simp only [retK, resD, retL, oneD, simprocAttr, Tryz.results11]
  exact ⟨_, rfl, rfl, by rw [if_neg (by simp)]; rfl⟩
 by_cases hi : p < 0
 ·have hi' := eq_true hi
  simp only [go_sem, contS_seq, simprocAttr, rows_len, hi']
  simp only [retK, resD, retL, oneD, simprocAttr, Tryz.results11]
  exact ⟨_, rfl, rfl, by rw [if_neg (by omega)]; rfl⟩
 obtain ⟨n, rfl⟩ : ∃ n : Nat, p = n := ⟨p.toNat, by omega⟩
 have hi' := eq_false hi
 rw [if_pos ⟨by simp [h6], by omega⟩, Int.toNat_natCast]
 by_cases hl : n < r.parents.length
 case neg =>
  have h1 : ((r.parents.length : Int) ≤ (n : Int)) = True := eq_true (by omega)
  have hno : r.parents[n]? = none := List.getElem?_eq_none (by omega)
  simp only [go_sem, contS_seq, simprocAttr, rows_len, hi', h1]
  simp only [retK, resD, retL, oneD, simprocAttr, Tryz.results11]
  exact ⟨_, rfl, rfl, by rw [hno]; rfl⟩
 obtain ⟨x, hx⟩ := at_lt hl
 have h1 : ((r.parents.length : Int) ≤ (n : Int)) = False := eq_false (by omega)
 simp only [hx]
 simp only [go_sem, contS_seq, simprocAttr, rows_len, hi', h1, rows_get hx]
 refine (grant_Near ⟨5, x.space, x.name⟩ r.ref.space).callW (enters_of Tryz.func31 rfl rfl) _ rfl rfl ?_
 rintro _ rfl
 simp only [go_sem, contS_seq, simprocAttr]
 refine (grant_Find os hos (near ⟨5, x.space, x.name⟩ r.ref.space)).callW (enters_of Tryz.func30 rfl rfl) _ rfl rfl ?_
 rintro _ rfl
 rcases hf : found os (near ⟨5, x.space, x.name⟩ r.ref.space) with _ | g
 ·simp only [foundD, go_sem, contS_seq, simprocAttr]
  simp only [retK, resD, retL, oneD, simprocAttr, Tryz.results11]
  exact ⟨_, rfl, rfl, rfl⟩
 have hg := h g (List.mem_of_find?_eq_some hf)
 have hgl := hg.li
 simp only [foundD, go_sem, contS_seq, simprocAttr]
 refine (listen_Ours os hos h g hg).callW (enters_of Tryz.func32 rfl rfl) _ rfl rfl ?_
 rintro _ rfl
 cases ho : ours os g
 ·simp only [go_sem, contS_seq, simprocAttr]
  simp only [retK, resD, retL, oneD, simprocAttr, Tryz.results11]
  exact ⟨_, rfl, rfl, rfl⟩
 have hgw : gwOk g = true := by unfold ours at ho; rw [Bool.and_eq_true] at ho; exact ho.1
 simp only [go_sem, contS_seq, simprocAttr, rows_len]
 obtain ⟨F, hF⟩ : ∃ F : Nat → List ASpot × ByteArray, F = fun i => (g.listeners.take i).foldl (fun a y => atStep labelsAll os g r x y a) ([], noParent) := ⟨_, rfl⟩
 have hF0 : F 0 = ([], noParent) := by rw [hF]; rfl
 have hFl : ∀ i, i ≤ g.listeners.length → (F i).1.length ≤ i := fun i hi => by
  have := atFold_len (os := os) (g := g) (r := r) (p := x) (g.listeners.take i) ([], noParent)
  rw [List.length_nil, List.length_take] at this
  rw [hF]
  simp only
  omega
 have hFs : ∀ i y, g.listeners[i]? = some y → F (i + 1) = atStep labelsAll os g r x y (F i) := fun i y hy => by
  rw [hF]
  exact foldl_take (f := fun a y => atStep labelsAll os g r x y a) hy
 have hFe : F g.listeners.length = atFold labelsAll os g r x g.listeners := by rw [hF]; simp only [List.take_length]; rfl
 rw [← hFe]
 clear hFe hF
 have hn0 : noParent = ⟨#[78, 111, 77, 97, 116, 99, 104, 105, 110, 103, 80, 97, 114, 101, 110, 116]⟩ := rfl
 refine loopS (fun k st => ∃ i : Nat, k = g.listeners.length - i ∧ i ≤ g.listeners.length ∧
  st = ⟨[(0, .pd (.slice (rows AObj.pd os))), (4, .ptr 4 0), (6, .own 46 5 (rows ASpot.pd (F i).1) 100), (7, str (F i).2), (9, .ptr 9 0), (10, .ptr 10 0), (63, .pd (.slice (rows AListener.pd g.listeners))), (64, int g.listeners.length), (65, int i)],
   [(10, g.ds), (9, x.ds), (4, r.ds)], [], .no⟩) g.listeners.length _ ?_ ⟨0, rfl, by omega, rfl⟩ ?_
 ·rw [hF0, hn0]
  exact Weak.own1 6 100 46 5 (by kernel_rfl) (by decide) rfl (by simp [lessL, lk, St.purge, St.put, D.purge, rows]) (by simp [lessL, lk, St.purge, D.purges, D.purge]) (by simp [lessL]) rfl
 rintro k st ⟨i, rfl, hi, rfl⟩
 by_cases hlt : i < g.listeners.length
 ·obtain ⟨y, hy⟩ := at_lt hlt
  have h2 : ((i : Int) < (g.listeners.length : Int)) = True := eq_true (by omega)
  have hw := i64_succ (show i < 1000000000 by omega)
  have hs := hFs i y hy
  have hfl := hFl i hi
  generalize F i = a at hs hfl ⊢
  simp only [go_sem, contS_seq, simprocAttr, rows_len, rows_get hy, h2]
  refine (attach_asked y x).callW (enters_of Tryz.func33 rfl rfl) _ rfl rfl ?_
  rintro _ rfl
  unfold atStep at hs
  cases ha : asked y x
  ·rw [ha, if_pos rfl] at hs
   simp only [go_sem, contS_seq, simprocAttr, hw]
   refine ⟨g.listeners.length - (i + 1), _, by omega, ?_, i + 1, rfl, by omega, rfl⟩
   rw [hs]
   exact lessA
  rw [ha, if_neg (by simp)] at hs
  simp only [go_sem, contS_seq, simprocAttr]
  refine (attach_Meet y.host r.hosts hr.ho).callW (enters_of Tryz.func34 rfl rfl) _ rfl rfl ?_
  rintro _ rfl
  simp only [go_sem, contS_seq, simprocAttr]
  refine (attach_Lets os hos h g hg i r.ref.space).callW (enters_of Tryz.func18 rfl rfl) _ rfl rfl ?_
  rintro _ rfl
  rw [lets_of hgw hy]
  cases hle : attLets labelsAll os g y r.ref.space
  ·rw [hle, if_pos rfl] at hs
   by_cases hnp : a.2 = noParent
   ·rw [if_pos hnp] at hs
    have hnp' := eq_true hnp
    rw [hn0] at hnp'
    simp only [go_sem, contS_seq, simprocAttr, hnp', hw]
    refine ⟨g.listeners.length - (i + 1), _, by omega, ?_, i + 1, rfl, by omega, rfl⟩
    rw [hs]
    unfold noSpace
    exact lessA
   ·rw [if_neg hnp] at hs
    have hnp' := eq_false hnp
    rw [hn0] at hnp'
    simp only [go_sem, contS_seq, simprocAttr, hnp', hw]
    refine ⟨g.listeners.length - (i + 1), _, by omega, ?_, i + 1, rfl, by omega, rfl⟩
    rw [hs]
    exact lessA
  rw [hle, if_neg (by simp)] at hs
  by_cases hme : meets y.host r.hosts = []
  ·rw [if_pos hme] at hs
   have hme' : (((meets y.host r.hosts).length : Int) = 0) = True := eq_true (by rw [hme]; rfl)
   simp only [go_sem, contS_seq, simprocAttr, rows_len, hme', hw]
   refine ⟨g.listeners.length - (i + 1), _, by omega, ?_, i + 1, rfl, by omega, rfl⟩
   rw [hs]
   unfold noHost
   exact lessA
  ·rw [if_neg hme] at hs
   have hme' : (((meets y.host r.hosts).length : Int) = 0) = False := eq_false (fun e => hme (List.length_eq_zero_iff.1 (by omega)))
   simp only [go_sem, contS_seq, simprocAttr, rows_len, hme', hw]
   rw [show rows ASpot.pd a.1 ++ [[PD.raw (Value.int IntKind.i64 g.ref.kind), PD.raw (Value.string g.ref.space), PD.raw (Value.string g.ref.name), pStr y.name, PD.slice (strs (meets y.host r.hosts))]] = rows ASpot.pd (a.1 ++ [⟨g.ref, y.name, meets y.host r.hosts⟩]) from rows_one a.1 ⟨g.ref, y.name, meets y.host r.hosts⟩]
   refine ⟨fun q hq => by rw [List.mem_singleton.1 hq]; rfl, by unfold maxLen; omega, by omega, g.listeners.length - (i + 1), _, by omega, ?_, i + 1, rfl, by omega, rfl⟩
   rw [hs]
   exact lessA
 ·have h2 : ((i : Int) < (g.listeners.length : Int)) = False := eq_false (by omega)
  obtain rfl : i = g.listeners.length := by omega
  generalize F g.listeners.length = a
  simp only [go_sem, contS_seq, simprocAttr, rows_len, h2]
  refine GifP.mk (fun h3 => ?_) (fun h3 => ?_)
  ·have : ¬ a.1 = [] := fun e => by rw [e] at h3; exact absurd h3 (by simp)
   rw [if_neg this]
   simp only [retK, resD, retL, oneD, simprocAttr, Tryz.results11]
   exact ⟨_, rfl, rfl, rfl⟩
  ·have : a.1 = [] := List.length_eq_zero_iff.1 (by omega)
   rw [if_pos this]
   simp only [retK, resD, retL, oneD, simprocAttr, Tryz.results11]
   exact ⟨_, rfl, rfl, rfl⟩


theorem IndexFunc_Spot (p : ASpot → Bool) (g : FuncId) (he : Enters Tryz.prog g) (caps : List (Nat × Nat)) (bs : List (Nat × List D)) (hc : Cl bs caps) (l : List ASpot) (hl : l.length ≤ 1000000)
 (hp : ∀ x ∈ l, PureB Tryz.prog g (ASpot.d x :: capD caps) bs (fun d => d = bln (p x))) :
 PureB Tryz.prog 80 [.pd (.slice (rows ASpot.pd l)), .fn g caps] bs (fun d => d = int (lidx p l 0)) := by
 refine pureB_of_run follows an_zid2e Tryz.func80 rfl ok_zid2e.1 ok_zid2e.2 (by simp [Tryz.ntmps80]) ?_
 rw [run_start]
 simp only [ac_zid2e, go_sem, contS_seq, simprocAttr, rows_len]
 refine loopS (fun k st => ∃ i : Nat, k = l.length - i ∧ i ≤ l.length ∧ lidx p (l.drop i) i = lidx p l 0 ∧
  st = ⟨[(0, .pd (.slice (rows ASpot.pd l))), (1, .fn g caps), (7, int l.length), (8, int i)], bs, [], .no⟩) l.length _ (Weak.refl _ _) ⟨0, rfl, Nat.zero_le _, rfl, rfl⟩ ?_
 rintro k st ⟨i, rfl, hi, hr, rfl⟩
 by_cases hlt : i < l.length
 ·obtain ⟨x, hx⟩ := at_lt hlt
  have hlt' : ((i : Int) < (l.length : Int)) = True := eq_true (by omega)
  have hw := i64_succ (show i < 1000000000 by omega)
  rw [drop_at hx, lidx] at hr
  simp only [go_sem, contS_seq, simprocAttr, hlt', rows_get hx]
  refine (hp x (List.mem_of_getElem? hx)).callW he _ (idr bs) hc.ok (hc.args (by rfl)) hc.see ?_
  rintro d rfl
  simp only [go_sem, contS_seq, simprocAttr]
  refine Gif.mk (fun h => ?_) (fun h => ?_)
  ·rw [if_pos h] at hr
   simp only [retK, resD, retL, oneD, simprocAttr, Tryz.results80]
   exact ⟨_, rfl, rfl, congrArg int hr⟩
  ·rw [if_neg (by simp [h])] at hr
   simp only [go_sem, contS_seq, simprocAttr, hw]
   refine ⟨l.length - (i + 1), _, ?_, ?_, i + 1, rfl, ?_, hr, rfl⟩
   ·omega
   ·exact Weak.less (by simp [lessL, lk]) (lessL_refl hc.nd) (by simp [lessL, lk]) rfl
   ·omega
 ·have hlt' : ((i : Int) < (l.length : Int)) = False := eq_false (by omega)
  rw [List.drop_eq_nil_of_le (by omega), lidx] at hr
  simp only [go_sem, contS_seq, simprocAttr, rows_len, hlt']
  simp only [retK, resD, retL, oneD, simprocAttr, Tryz.results80]
  exact ⟨_, rfl, rfl, congrArg int hr⟩

theorem ContainsFunc_Spot (p : ASpot → Bool) (g : FuncId) (he : Enters Tryz.prog g) (caps : List (Nat × Nat)) (bs : List (Nat × List D)) (hc : Cl bs caps) (l : List ASpot) (hl : l.length ≤ 1000000)
 (hp : ∀ x ∈ l, PureB Tryz.prog g (ASpot.d x :: capD caps) bs (fun d => d = bln (p x))) :
 PureB Tryz.prog 46 [.pd (.slice (rows ASpot.pd l)), .fn g caps] bs (fun d => d = bln (l.any p)) := by
 refine pureB_of_run follows an_z3l61 Tryz.func46 rfl ok_z3l61.1 ok_z3l61.2 (by simp [Tryz.ntmps46]) ?_
 rw [run_start]
 simp only [ac_z3l61, go_sem, contS_seq, simprocAttr, rows_len]
 refine (IndexFunc_Spot p g he caps bs hc l hl hp).callW (enters_of Tryz.func80 rfl rfl) _ (idr bs) hc.ok hc.two hc.see ?_
 rintro d rfl
 simp only [go_sem, contS_seq, simprocAttr]
 simp only [retK, resD, retL, oneD, simprocAttr, Tryz.results46]
 exact ⟨_, rfl, rfl, congrArg bln (lidx_any p l)⟩


theorem gather_1 (s x : ASpot) : PureB Tryz.prog 72 [x.d, .ptr 1000001 0] [(1000001, s.ds)] (fun d => d = bln (x.at_ s.gateway s.listener)) := by
 refine pureB_of_run follows an_zez17 Tryz.func72 rfl ok_zez17.1 ok_zez17.2 (by simp [Tryz.ntmps72]) ?_
 rw [run_start]
 simp only [ac_zez17, go_sem, contS_seq, simprocAttr, eqVs, eqV, eq_Ref]
 refine GifP.mk (fun h => ?_) (fun h => ?_)
 all_goals
  simp only [retK, resD, retL, oneD, simprocAttr, Tryz.results72]
  exact ⟨_, rfl, rfl, congrArg bln (by simp [ASpot.at_, h])⟩

theorem gatherS_len : ∀ (more out : List ASpot), (gatherS out more).length ≤ out.length + more.length
 | [], _ => by simp [gatherS]
 | s :: more, out => by
   have h1 := gatherS_len more (gatherStep out s)
   have h2 : (gatherStep out s).length ≤ out.length + 1 := by
    unfold gatherStep
    split <;> simp
   unfold gatherS at h1 ⊢
   simp only [List.foldl_cons, List.length_cons]
   omega

set_option maxHeartbeats 4000000 in
theorem attach_gather (out more : List ASpot) (hm : out.length + more.length ≤ 1000000) :
 Full Tryz.prog 41 [.own 46 5 (rows ASpot.pd out) 500001, .pd (.slice (rows ASpot.pd more))] [] false
  (fun d bs => (d = .own 46 5 (rows ASpot.pd (gatherS out more)) 500001 ∨ d = .own 46 5 (rows ASpot.pd (gatherS out more)) 20) ∧ bs = []) := by
 refine full_of_run follows an_z49r6 Tryz.func41 rfl ok_z49r6.1 ok_z49r6.2 (by simp [Tryz.ntmps41]) (by simp [Tryz.ntmps41]) (.inl rfl) ?_
 rw [run_start]
 simp only [ac_z49r6, go_sem, contS_seq, simprocAttr, rows_len]
 refine loopS (fun k st => ∃ (i tok : Nat), k = more.length - i ∧ i ≤ more.length ∧ (tok = 500001 ∨ tok = 20) ∧
  st = ⟨[(0, .own 46 5 (rows ASpot.pd (gatherS out (more.take i))) tok), (7, .pd (.slice (rows ASpot.pd more))), (8, int more.length), (9, int i)], [], [], .no⟩) more.length _ (Weak.refl _ _) ⟨0, 500001, rfl, by omega, .inl rfl, rfl⟩ ?_
 rintro k st ⟨i, tok, rfl, hi, htok, rfl⟩
 by_cases hlt : i < more.length
 ·obtain ⟨s, hs⟩ := at_lt hlt
  have h1 : ((i : Int) < (more.length : Int)) = True := eq_true (by omega)
  have hw := i64_succ (show i < 1000000000 by omega)
  have hst : gatherS out (more.take (i + 1)) = gatherStep (gatherS out (more.take i)) s := foldl_take hs
  have hl := gatherS_len (more.take i) out
  rw [List.length_take] at hl
  generalize gatherS out (more.take i) = a at hst hl ⊢
  simp only [go_sem, contS_seq, simprocAttr, rows_len, rows_get hs, h1]
  refine (ContainsFunc_Spot (fun x => x.at_ s.gateway s.listener) 72 (enters_of Tryz.func72 rfl rfl) [(1000001, 0)] [(1000001, s.ds)] (Cl.of rfl rfl rfl rfl rfl) a (by omega) (fun x _ => gather_1 s x)).callW (enters_of Tryz.func46 rfl rfl) _ [(6, 1000001)] rfl rfl rfl ?_
  rintro _ rfl
  unfold gatherStep at hst
  cases hc : a.any fun x => x.at_ s.gateway s.listener
  ·rw [hc, if_neg (by simp)] at hst
   rcases htok with rfl | rfl
   all_goals
    simp only [go_sem, contS_seq, simprocAttr, rows_len, hw]
    rw [show rows ASpot.pd a ++ [[PD.raw (Value.int IntKind.i64 s.gateway.kind), PD.raw (Value.string s.gateway.space), PD.raw (Value.string s.gateway.name), PD.raw (Value.string s.listener), PD.slice (strs s.hosts)]] = rows ASpot.pd (a ++ [s]) from rows_one a s]
    refine ⟨fun q hq => by rw [List.mem_singleton.1 hq]; rfl, by unfold maxLen; omega, by omega, more.length - (i + 1), _, by omega, ?_, i + 1, 20, rfl, by omega, .inr rfl, rfl⟩
    rw [hst]
    exact lessA
  ·rw [hc, if_pos rfl] at hst
   simp only [go_sem, contS_seq, simprocAttr, hw]
   refine ⟨more.length - (i + 1), _, by omega, ?_, i + 1, tok, rfl, by omega, htok, rfl⟩
   rw [hst]
   exact lessA
 ·have h1 : ((i : Int) < (more.length : Int)) = False := eq_false (by omega)
  rw [List.take_of_length_le (by omega)]
  simp only [go_sem, contS_seq, simprocAttr, rows_len, h1]
  simp only [retK, fullK, resD, retL, oneD, simprocAttr, Tryz.results41]
  rcases htok with rfl | rfl
  ·exact ⟨_, [], rfl, trivial, .inl rfl, rfl⟩
  ·exact ⟨_, [], rfl, trivial, .inr rfl, rfl⟩

theorem allUpto_len (os : List AObj) (r : AObj) (B : Nat) (hB : ∀ p, (attAt labelsAll os r p).1.length ≤ B) : ∀ n, (allUpto labelsAll os r n).length ≤ n * B
 | 0 => by simp [allUpto]
 | n + 1 => by
   have h1 := allUpto_len os r B hB n
   have h2 := gatherS_len (attAt labelsAll os r n).1 (allUpto labelsAll os r n)
   have h3 := hB n
   simp only [allUpto]
   rw [Nat.succ_mul]
   omega

theorem ours_few {os : List AObj} {g : AObj} (h : ours os g = true) : g.listeners.length ≤ 8 := by
 have h1 : g.ref.kind = 5 ∧ objMay g = true := by
  simp only [ours, gwOk, Bool.and_eq_true, decide_eq_true_eq] at h
  exact h.1
 have h2 := h1.2
 rw [objMay_keep] at h2
 simp only [Bool.and_eq_true] at h2
 have h3 := h2.2.1
 simp only [kindMay, h1.1] at h3
 simp only [gatewayMay, every, Bool.and_eq_true, decide_eq_true_eq, Int.reduceEq, false_or, or_self, if_false, if_true] at h3
 omega

theorem attAt_few (os : List AObj) (r : AObj) (p : Int) : (attAt labelsAll os r p).1.length ≤ 8 := by
 by_cases ho : (attAt labelsAll os r p).2.2 = true
 ·obtain ⟨x, g, _, _, _, _, h4, h5⟩ := attAt_on labelsAll ho
  rw [h5]
  have h1 := atFold_len (os := os) (g := g) (r := r) (p := x) g.listeners ([], noParent)
  have h2 := ours_few h4
  unfold atFold
  rw [List.length_nil] at h1
  omega
 ·rw [attAt_off labelsAll (by simpa using ho)]
  simp

set_option maxHeartbeats 4000000 in
theorem attach_All (os : List AObj) (hos : os.length ≤ 1000000) (h : ∀ o ∈ os, o.ok) (r : AObj) (hr : r.ok) (hn : r.parents.length ≤ 1000) :
 Pure Tryz.prog 14 [.pd (.slice (rows AObj.pd os)), r.d] (fun d => d = .pd (.slice (rows ASpot.pd (attAll labelsAll os r)))) := by
 refine pure_of_run follows an_z7omx Tryz.func14 rfl ok_z7omx.1 ok_z7omx.2 (by simp [Tryz.ntmps14]) ?_
 rw [run_start]
 simp only [ac_z7omx, go_sem, contS_seq, simprocAttr, rows_len]
 refine loopS (fun k st => ∃ (i tok : Nat), k = r.parents.length - i ∧ i ≤ r.parents.length ∧ (tok = 26 ∨ tok = 27) ∧
  st = ⟨[(0, .pd (.slice (rows AObj.pd os))), (3, .ptr 3 0), (5, .own 46 5 (rows ASpot.pd (allUpto labelsAll os r i)) tok), (12, int r.parents.length), (13, int i)], [(3, r.ds)], [], .no⟩) r.parents.length _ ?_ ⟨0, 26, rfl, by omega, .inl rfl, rfl⟩ ?_
 ·rw [allUpto]
  exact Weak.own1 5 26 46 5 (by kernel_rfl) (by decide) rfl (by simp [lessL, lk, St.purge, St.put, D.purge, rows]) (by simp [lessL, lk, St.purge, D.purges, D.purge]) (by simp [lessL]) rfl
 rintro k st ⟨i, tok, rfl, hi, htok, rfl⟩
 by_cases hlt : i < r.parents.length
 ·have h1 : ((i : Int) < (r.parents.length : Int)) = True := eq_true (by omega)
  have hw := i64_succ (show i < 1000000000 by omega)
  simp only [go_sem, contS_seq, simprocAttr, rows_len, h1]
  refine (attach_At os hos h r hr i).callW (enters_of Tryz.func11 rfl rfl) _ rfl rfl ?_
  rintro _ rfl
  simp only [attD, go_sem, contS_seq, simprocAttr]
  have hb1 := allUpto_len os r 8 (attAt_few os r) i
  have hb2 := attAt_few os r i
  have hbi : i * 8 ≤ 8000 := by omega
  rcases htok with rfl | rfl
  ·refine (attach_gather (allUpto labelsAll os r i) (attAt labelsAll os r i).1 (by omega)).callW (enters_of Tryz.func41 rfl rfl) _ false [] [(26, 500001)] [] [(500001, 26), (20, 27)] rfl rfl rfl ?_
   rintro d bs ⟨hd, rfl⟩
   rcases hd with rfl | rfl
   ·simp only [go_sem, contS_seq, simprocAttr, hw]
    refine ⟨r.parents.length - (i + 1), _, by omega, ?_, i + 1, 26, rfl, by omega, .inl rfl, rfl⟩
    rw [allUpto]
    exact lessA
   ·simp only [go_sem, contS_seq, simprocAttr, hw]
    refine ⟨r.parents.length - (i + 1), _, by omega, ?_, i + 1, 27, rfl, by omega, .inr rfl, rfl⟩
    rw [allUpto]
    exact lessA
  ·refine (attach_gather (allUpto labelsAll os r i) (attAt labelsAll os r i).1 (by omega)).callW (enters_of Tryz.func41 rfl rfl) _ false [] [(27, 500001)] [] [(500001, 26), (20, 27)] rfl rfl rfl ?_
   rintro d bs ⟨hd, rfl⟩
   rcases hd with rfl | rfl
   ·simp only [go_sem, contS_seq, simprocAttr, hw]
    refine ⟨r.parents.length - (i + 1), _, by omega, ?_, i + 1, 26, rfl, by omega, .inl rfl, rfl⟩
    rw [allUpto]
    exact lessA
   ·simp only [go_sem, contS_seq, simprocAttr, hw]
    refine ⟨r.parents.length - (i + 1), _, by omega, ?_, i + 1, 27, rfl, by omega, .inr rfl, rfl⟩
    rw [allUpto]
    exact lessA
 ·have h1 : ((i : Int) < (r.parents.length : Int)) = False := eq_false (by omega)
  obtain rfl : i = r.parents.length := by omega
  simp only [go_sem, contS_seq, simprocAttr, rows_len, h1]
  simp only [retK, resD, retL, oneD, simprocAttr, Tryz.results14]
  exact ⟨_, rfl, rfl, rfl⟩


deriving instance DecidableEq for ASpot

theorem spots_short {os : List AObj} {r : AObj} (hr : r.ok) : ∀ s ∈ attAll labelsAll os r, s.hosts.length ≤ 1000000 := fun s hs => by
 obtain ⟨g, x, _, _, _, _, _, h, _⟩ := spot_from labelsAll hs
 rw [h]
 have h1 := meetFold_len x.host (someHosts r.hosts) []
 have h2 : (someHosts r.hosts).length ≤ 1000000 := by
  unfold someHosts
  split
  ·simp
  ·exact hr.ho
 unfold meets
 rw [List.length_nil] at h1
 omega


theorem attAll_len (os : List AObj) (r : AObj) (hn : r.parents.length ≤ 1000) : (attAll labelsAll os r).length ≤ 8000 := by
 have h1 := allUpto_len os r 8 (attAt_few os r) r.parents.length
 unfold attAll
 omega


abbrev tA : ByteArray := ⟨#[97]⟩
abbrev tC : ByteArray := ⟨#[99]⟩
abbrev tR : ByteArray := ⟨#[114]⟩
abbrev tZ : ByteArray := ⟨#[122]⟩
abbrev tWeb : ByteArray := ⟨#[119, 101, 98]⟩
abbrev tApp : ByteArray := ⟨#[97, 112, 112]⟩
abbrev tGw : ByteArray := ⟨#[103, 119]⟩
abbrev tAT : ByteArray := ⟨#[97, 46, 116, 101, 115, 116]⟩
abbrev tBX : ByteArray := ⟨#[98, 46, 120]⟩
abbrev tST : ByteArray := ⟨#[42, 46, 116, 101, 115, 116]⟩
abbrev eL : List AObj := [⟨⟨1, ⟨#[]⟩, tC⟩, true, [], [], ⟨#[]⟩, [], [], [], [], [], []⟩, ⟨⟨5, tWeb, tGw⟩, false, [], [], tC, [⟨tA, 80, false, ⟨#[]⟩, ⟨0, ⟨#[]⟩, ⟨#[]⟩⟩, 0, []⟩], [], [], [], [], []⟩]
abbrev eR : AObj := ⟨⟨6, tApp, tR⟩, false, [], [], ⟨#[]⟩, [], [⟨tWeb, tGw, ⟨#[]⟩, 0⟩, ⟨tWeb, tGw, tZ, 0⟩], [], [], [], []⟩

theorem eR_ok : eR.ok := by constructor <;> simp
theorem eL_oks : ∀ o ∈ eL, o.ok := fun o h => by
 rcases List.mem_cons.1 h with rfl | h
 ·constructor <;> simp
 ·rw [List.mem_singleton.1 h]
  constructor <;> simp
  constructor <;> simp

theorem e_at0 : (attAt labelsAll eL eR 0).2 = (noSpace, true) := by decide +kernel
theorem e_at1 : (attAt labelsAll eL eR 1).2 = (noParent, true) := by decide +kernel
theorem e_m1 : meets tST [tAT, tBX] = [tAT] := by decide +kernel
theorem e_m2 : meets tAT [] = [tAT] := by decide +kernel

theorem awake13 : Pure Tryz.prog 16 [] (fun d => d = bln true) := by
 have c1 := attach_At eL (by simp) eL_oks eR eR_ok 0
 unfold attD at c1
 rw [e_at0] at c1
 have c2 := attach_At eL (by simp) eL_oks eR eR_ok 1
 unfold attD at c2
 rw [e_at1] at c2
 have c3 := attach_Meet tST [tAT, tBX] (by simp)
 rw [e_m1] at c3
 have c4 := attach_Meet tAT [] (by simp)
 rw [e_m2] at c4
 have c5 := ref1_Same [tAT] [tAT] (by simp)
 rw [decide_eq_true rfl] at c5
 generalize rows ASpot.pd (attAt labelsAll eL eR 0).1 = s1 at c1
 generalize rows ASpot.pd (attAt labelsAll eL eR 1).1 = s2 at c2
 unfold noSpace at c1
 unfold noParent at c2
 refine pure_of_run follows an_z11cc Tryz.func16 rfl ok_z11cc.1 ok_z11cc.2 (by simp [Tryz.ntmps16]) ?_
 rw [run_start]
 simp only [ac_z11cc, go_sem, contS_seq, simprocAttr]
 refine c1.callW (enters_of Tryz.func11 rfl rfl) _ rfl rfl ?_
 rintro _ rfl
 simp only [go_sem, contS_seq, simprocAttr]
 refine c2.callW (enters_of Tryz.func11 rfl rfl) _ rfl rfl ?_
 rintro _ rfl
 simp only [go_sem, contS_seq, simprocAttr]
 refine c3.callW (enters_of Tryz.func34 rfl rfl) _ rfl rfl ?_
 rintro _ rfl
 simp only [go_sem, contS_seq, simprocAttr]
 refine c5.callW (enters_of Tryz.func40 rfl rfl) _ rfl rfl ?_
 rintro _ rfl
 simp only [go_sem, contS_seq, simprocAttr]
 refine c4.callW (enters_of Tryz.func34 rfl rfl) _ rfl rfl ?_
 rintro _ rfl
 simp only [go_sem, contS_seq, simprocAttr]
 refine c5.callW (enters_of Tryz.func40 rfl rfl) _ rfl rfl ?_
 rintro _ rfl
 simp only [go_sem, contS_seq, simprocAttr]
 simp only [retK, resD, retL, oneD, simprocAttr, Tryz.results16]
 exact ⟨_, rfl, rfl, rfl⟩


theorem fewObj_pa (o : AObj) : (fewObj o).parents.length ≤ 1000 := by
 simp only [fewObj, List.length_map, List.length_take]
 omega


def sp (c : UInt8) : List UInt8 → List (List UInt8)
 | [] => [[]]
 | b :: l => if b = c then [] :: sp c l else match sp c l with
   | h :: t => (b :: h) :: t
   | [] => [[b]]

theorem sp_cons (c b : UInt8) (l : List UInt8) : sp c (b :: l) = if b = c then [] :: sp c l else (match sp c l with
 | h :: t => (b :: h) :: t
 | [] => [[b]]) := rfl

theorem sp_ne (c : UInt8) : ∀ l, sp c l ≠ []
 | [] => by simp [sp]
 | b :: l => by
   unfold sp
   split
   ·simp
   ·split <;> simp

theorem parts_sp (c : UInt8) : ∀ (l : List UInt8) (cur : ByteArray), (partsL c cur l).map (fun x => x.data.toList) = (match sp c l with
 | h :: t => (cur.data.toList ++ h) :: t
 | [] => [])
 | [], cur => by simp [partsL, sp]
 | b :: l, cur => by
   unfold partsL sp
   by_cases hb : b = c
   ·rw [if_pos hb, if_pos hb]
    have ih := parts_sp c l ⟨#[]⟩
    rw [List.map_cons, ih]
    cases h : sp c l with
    | nil => exact absurd h (sp_ne c l)
    | cons x t => simp
   ·rw [if_neg hb, if_neg hb]
    have ih := parts_sp c l (cur ++ ⟨#[b]⟩)
    rw [ih]
    cases h : sp c l with
    | nil => exact absurd h (sp_ne c l)
    | cons x t => simp

theorem splitB_sp (c : UInt8) (s : ByteArray) : (splitB c s.size s).map (fun x => x.data.toList) = sp c s.data.toList := by
 rw [← parts_splitB c s.size s (Nat.le_refl _), parts_sp]
 cases h : sp c s.data.toList with
 | nil => exact absurd h (sp_ne c _)
 | cons x t => simp

theorem sp_append (c : UInt8) (m : List UInt8) : ∀ l, sp c (l ++ c :: m) = sp c l ++ sp c m
 | [] => by simp [sp]
 | b :: l => by
   have ih := sp_append c m l
   rw [List.cons_append, sp_cons, sp_cons c b l]
   by_cases hb : b = c
   ·rw [if_pos hb, if_pos hb, ih]; rfl
   ·rw [if_neg hb, if_neg hb, ih]
    cases h : sp c l with
    | nil => exact absurd h (sp_ne c l)
    | cons x t => rfl

def joinL (c : UInt8) : List (List UInt8) → List UInt8
 | [] => []
 | [x] => x
 | x :: y :: r => x ++ c :: joinL c (y :: r)

theorem joinL_cons (c : UInt8) (x : List UInt8) {r : List (List UInt8)} (h : r ≠ []) : joinL c (x :: r) = x ++ c :: joinL c r := by
 cases r with
 | nil => exact absurd rfl h
 | cons y r => rfl

theorem joinL_sp (c : UInt8) : ∀ l, joinL c (sp c l) = l
 | [] => rfl
 | b :: l => by
   have ih := joinL_sp c l
   unfold sp
   by_cases hb : b = c
   ·rw [if_pos hb, joinL_cons c [] (sp_ne c l), ih, hb]; rfl
   ·rw [if_neg hb]
    cases h : sp c l with
    | nil => exact absurd h (sp_ne c l)
    | cons x t =>
      rw [h] at ih
      simp only
      cases t with
      | nil => simp only [joinL] at ih ⊢; rw [ih]
      | cons y t =>
        simp only [joinL, List.cons_append] at ih ⊢
        rw [ih]

theorem joinL_append (c : UInt8) {B : List (List UInt8)} (hB : B ≠ []) : ∀ {A : List (List UInt8)}, A ≠ [] → joinL c (A ++ B) = joinL c A ++ c :: joinL c B
 | [], h => absurd rfl h
 | [x], _ => by rw [List.singleton_append, joinL_cons c x hB]; rfl
 | x :: y :: A, _ => by
   rw [List.cons_append, joinL_cons c x (by simp), joinL_append c hB (A := y :: A) (by simp), joinL_cons c x (by simp)]
   simp

theorem suffix_sp {c : UInt8} {l m : List UInt8} : (∃ x, l = x ++ c :: m) ↔ ∃ A, A ≠ [] ∧ sp c l = A ++ sp c m := by
 constructor
 ·rintro ⟨x, rfl⟩
  exact ⟨sp c x, sp_ne c x, sp_append c m x⟩
 ·rintro ⟨A, hA, h⟩
  refine ⟨joinL c A, ?_⟩
  have := congrArg (joinL c) h
  rwa [joinL_sp, joinL_append c (sp_ne c m) hA, joinL_sp] at this

theorem last_iff {α : Type} {A B : List α} : (∃ X, X ≠ [] ∧ A = X ++ B) ↔ B.length < A.length ∧ ∀ i, i < B.length → A[A.length - 1 - i]? = B[B.length - 1 - i]? := by
 constructor
 ·rintro ⟨X, hX, rfl⟩
  have h0 : 0 < X.length := List.length_pos_iff.2 hX
  refine ⟨by rw [List.length_append]; omega, fun i hi => ?_⟩
  rw [List.getElem?_append_right (by rw [List.length_append]; omega)]
  congr 1
  rw [List.length_append]
  omega
 ·rintro ⟨h1, h2⟩
  refine ⟨A.take (A.length - B.length), List.ne_nil_of_length_pos (by rw [List.length_take]; omega), ?_⟩
  have : A.drop (A.length - B.length) = B := by
   apply List.ext_getElem?
   intro j
   rw [List.getElem?_drop]
   by_cases hj : j < B.length
   ·have := h2 (B.length - 1 - j) (by omega)
    rw [show A.length - 1 - (B.length - 1 - j) = A.length - B.length + j by omega, show B.length - 1 - (B.length - 1 - j) = j by omega] at this
    exact this
   ·rw [List.getElem?_eq_none (by omega), List.getElem?_eq_none (by omega)]
  conv => lhs; rw [← List.take_append_drop (A.length - B.length) A, this]

theorem hasSuffix_iff (s p : ByteArray) : hasSuffix s p = true ↔ ∃ x, s.data.toList = x ++ p.data.toList := by
 simp only [hasSuffix, Bool.and_eq_true, decide_eq_true_eq]
 have hl : s.data.toList.length = s.size := size_list s
 have hp : p.data.toList.length = p.size := size_list p
 constructor
 ·rintro ⟨h1, h2⟩
  refine ⟨s.data.toList.take (s.size - p.size), ?_⟩
  have h3 : s.data.toList.drop (s.size - p.size) = p.data.toList := by
   have h4 := congrArg (fun x => x.data.toList) h2
   rw [extract_list, List.take_of_length_le (by omega)] at h4
   exact h4
  conv => lhs; rw [← List.take_append_drop (s.size - p.size) s.data.toList, h3]
 ·rintro ⟨x, hx⟩
  have h1 : x.length + p.size = s.size := by rw [← hl, hx, List.length_append, hp]
  refine ⟨by omega, ?_⟩
  rw [extract_list, List.take_of_length_le (by omega), hx, show s.size - p.size = x.length by omega, List.drop_left]

theorem map_inj_get {α β : Type} {f : α → β} (hf : ∀ x y, f x = f y → x = y) {l m : List α} {i j : Nat} : (l.map f)[i]? = (m.map f)[j]? ↔ l[i]? = m[j]? := by
 rw [List.getElem?_map, List.getElem?_map]
 cases l[i]? <;> cases m[j]? <;> simp
 exact ⟨hf _ _, fun e => by rw [e]⟩

theorem under_iff (s z : ByteArray) : under s z = true ↔ (dname s = true ∧ dname z = true) ∧ (splitB 46 z.size z).length < (splitB 46 s.size s).length ∧
 ∀ i, i < (splitB 46 z.size z).length → (splitB 46 s.size s)[(splitB 46 s.size s).length - 1 - i]? = (splitB 46 z.size z)[(splitB 46 z.size z).length - 1 - i]? := by
 have hd : (dot ++ z).data.toList = 46 :: z.data.toList := by simp [dot]
 simp only [under, Bool.and_eq_true]
 refine and_congr_right fun _ => ?_
 rw [hasSuffix_iff, hd, suffix_sp, last_iff, ← splitB_sp, ← splitB_sp, List.length_map, List.length_map]
 refine and_congr_right fun _ => forall_congr' fun i => forall_congr' fun _ => ?_
 exact map_inj_get fun x y e => ByteArray.ext (Array.ext' e)


theorem labAt_true {n j : Nat} {b : UInt8} : labAt n j b = true ↔ ((97 ≤ b.toNat ∧ b.toNat ≤ 122) ∨ (48 ≤ b.toNat ∧ b.toNat ≤ 57)) ∨ (b.toNat = 45 ∧ ¬ (j = 0 ∨ j + 1 = n)) := by
 simp [labAt]
theorem labAt_false {n j : Nat} {b : UInt8} : labAt n j b = false ↔ ¬ (((97 ≤ b.toNat ∧ b.toNat ≤ 122) ∨ (48 ≤ b.toNat ∧ b.toNat ≤ 57)) ∨ (b.toNat = 45 ∧ ¬ (j = 0 ∨ j + 1 = n))) := by
 rw [← labAt_true]; simp
theorem bool_no {b : Bool} (h : ¬ b = true) : bln false = bln b := by cases b <;> simp_all
set_option maxHeartbeats 1000000 in
theorem ref1_Label (s : ByteArray) (hs : s.size ≤ 1000000) : Pure Tryz.prog 118 [str s] (fun d => d = bln (label s)) := by
 refine pure_of_run follows an_z4drv Tryz.func118 rfl ok_z4drv.1 ok_z4drv.2 (by simp [Tryz.ntmps118]) ?_
 rw [run_start]
 simp only [ac_z4drv, go_sem, contS_seq, simprocAttr]
 refine loopS (fun k st => ∃ i : Nat, k = s.size - i ∧ i ≤ s.size ∧ (∀ (j : Nat) (b : UInt8), j < i → s[j]? = some b → labAt s.size j b = true) ∧ st = ⟨[(0, str s), (3, int i)], [], [], .no⟩) s.size _ ?_ ⟨0, rfl, by omega, fun _ _ h => absurd h (Nat.not_lt_zero _), rfl⟩ ?_
 ·exact lessA
 rintro k st ⟨i, rfl, hi, hT, rfl⟩
 have hw := i64_succ (show i < 1000000000 by omega)
 have hw1 : IntKind.i64.wrap ((s.size : Int) - 1) = (s.size : Int) - 1 := IntWalk.i64_in _ (by omega)
 by_cases hlt : i < s.size
 ·obtain ⟨b, hb⟩ := at_byte hlt
  have h1 : ((i : Int) < (s.size : Int)) = True := eq_true (by omega)
  have bad : labAt s.size i b = false → bln false = bln (label s) := fun h => bool_no fun e => by
   have := ((label_iff s).1 e).2.2 i b hb
   rw [h] at this
   cases this
  have good : labAt s.size i b = true → ∀ st, Weak Tryz.prog st ⟨[(0, str s), (3, int (i + 1 : Nat))], [], [], .no⟩ → Round Tryz.prog (fun k st => ∃ i : Nat, k = s.size - i ∧ i ≤ s.size ∧ (∀ (j : Nat) (b : UInt8), j < i → s[j]? = some b → labAt s.size j b = true) ∧ st = ⟨[(0, str s), (3, int i)], [], [], .no⟩) (s.size - i) st := fun h st hw =>
   ⟨s.size - (i + 1), _, by omega, hw, i + 1, rfl, by omega, fun j b' hj hb' => by
    rcases Nat.lt_or_ge j i with h2 | h2
    ·exact hT j b' h2 hb'
    ·obtain rfl : j = i := by omega
     rw [hb] at hb'; cases hb'; exact h, rfl⟩
  simp only [go_sem, contS_seq, simprocAttr, h1, hb, hw, hw1]
  repeat' (first | refine GifP.mk (fun _ => ?_) (fun _ => ?_) | refine Gif.mk (fun _ => ?_) (fun _ => ?_))
  all_goals first
   | (refine good (labAt_true.2 (by omega)) _ ?_; exact lessA)
   | (simp only [retK, resD, retL, oneD, simprocAttr, Tryz.results118]; exact ⟨_, rfl, rfl, bad (labAt_false.2 (by omega))⟩)
 have h1 : ((i : Int) < (s.size : Int)) = False := eq_false (by omega)
 obtain rfl : i = s.size := by omega
 clear hw hw1
 simp only [go_sem, contS_seq, simprocAttr, h1]
 clear h1
 repeat' (first | refine GifP.mk (fun _ => ?_) (fun _ => ?_) | refine Gif.mk (fun _ => ?_) (fun _ => ?_))
 all_goals
  simp only [retK, resD, retL, oneD, simprocAttr, Tryz.results118]
  first
   | exact ⟨_, rfl, rfl, bool_no fun e => by obtain ⟨e1, e2, _⟩ := (label_iff s).1 e; omega⟩
   | exact ⟨_, rfl, rfl, congrArg bln (Bool.eq_iff_iff.2 ⟨fun h => (label_iff s).2 ⟨by omega, by have := of_decide_eq_true h; omega, fun j b hb => hT j b (by rw [bytes_get] at hb; exact (List.getElem?_eq_some_iff.1 hb).1) hb⟩, fun h => decide_eq_true (by have := ((label_iff s).1 h).2.1; omega)⟩)⟩

set_option maxHeartbeats 1000000 in
theorem ref1_Split (s : ByteArray) (hs : s.size ≤ 1000000) (c : UInt8) (k : Int) (hk : k = c.toNat) : Pure Tryz.prog 79 [str s, u8 k] (fun d => d = .pd (.slice (rows cStr (splitB c s.size s)))) := by
 subst hk
 refine pure_of_run_solo follows an_zwnk2 Tryz.func79 rfl ok_zwnk2.1 ok_zwnk2.2 (by simp [Tryz.ntmps79]) ?_
 rw [run_start]
 simp only [ac_zwnk2, go_sem, contS_seq, simprocAttr]
 refine loopS (fun k st => ∃ (i : Nat) (t : Nat), (t = 7 ∨ t = 21) ∧ k = s.size - i ∧ i ≤ s.size ∧ st = ⟨[(0, str s), (1, u8 c.toNat), (5, .own 9 1 (rows cStr (splitR c (s.data.toList.take i))) t), (6, int i)], [], [], .solo⟩) s.size _ ?_ ⟨0, 7, .inl rfl, rfl, by omega, rfl⟩ ?_
 ·have h0 : rows cStr (splitR c (s.data.toList.take 0)) = [[.raw (.string ⟨#[]⟩)]] := rfl
  rw [h0]; exact lessA
 rintro k st ⟨i, t, ht, rfl, hi, rfl⟩
 have hw := i64_succ (show i < 1000000000 by omega)
 obtain ⟨out, hout⟩ : ∃ out, splitR c (s.data.toList.take i) = out := ⟨_, rfl⟩
 have hlen := splitR_len c (s.data.toList.take i)
 have hsz := splitR_size c (s.data.toList.take i)
 rw [hout, List.length_take, size_list] at hlen
 rw [hout, List.length_take, size_list] at hsz
 rw [hout]
 by_cases hlt : i < s.size
 ·obtain ⟨b, hb⟩ := at_byte hlt
  have h1 : ((i : Int) < (s.size : Int)) = True := eq_true (by omega)
  have hst := splitR_step c hb
  rw [hout] at hst
  obtain ⟨m, hm⟩ : ∃ m, out.length = m + 1 := ⟨out.length - 1, by omega⟩
  obtain ⟨z, hz⟩ := at_lt (show m < out.length by omega)
  have hwl : IntKind.i64.wrap ((out.length : Int) - 1) = (m : Int) := by rw [IntWalk.i64_in _ (by omega)]; omega
  have hm0 : ((0 : Int) ≤ (m : Int)) = True := eq_true (by omega)
  have hzs := hsz z (List.mem_of_getElem? hz)
  have hcat : (z.size + #[b].size ≤ 9223372036854775807) = True := eq_true (by have : #[b].size = 1 := rfl; omega)
  have hs1 : (i ≤ i + 1) = True := eq_true (by omega)
  have hs2 : (i + 1 ≤ s.size) = True := eq_true (by omega)
  have hfl : flatR (rows cStr out) := fun r hr => by
   obtain ⟨x, _, rfl⟩ := List.mem_map.1 hr
   exact ⟨.string x, rfl⟩
  have e1 : b = c → rows cStr out ++ [[PD.raw (Value.string ⟨#[]⟩)]] = rows cStr (splitR c (s.data.toList.take (i + 1))) := fun e => by
   rw [hst, stepR, if_pos e]
   simp [rows]
  have e2 : ¬ b = c → (rows cStr out).set m [PD.raw (Value.string (z ++ ⟨#[b]⟩))] = rows cStr (splitR c (s.data.toList.take (i + 1))) := fun e => by
   have h3 : out.length - 1 = m := by omega
   rw [hst, stepR, if_neg e, h3, List.getD_eq_getElem?_getD, hz, rows, rows, List.map_set]
   rfl
  rcases ht with rfl | rfl
  all_goals
   simp only [go_sem, contS_seq, simprocAttr, h1, hb, hw, rows_len, hwl, rows_get hz, hm0, byte_one hb, hcat, hs1, hs2]
   refine GifP.mk (fun he => ?_) (fun he => ?_)
  ·refine ⟨by simp, by simp only [maxLen]; omega, by omega, s.size - (i + 1), _, by omega, ?_, i + 1, 21, .inr rfl, rfl, by omega, rfl⟩
   rw [e1 (by apply UInt8.toNat_inj.1; omega)]
   exact lessA
  ·refine ⟨rfl, by omega, hfl, s.size - (i + 1), _, by omega, ?_, i + 1, 7, .inl rfl, rfl, by omega, rfl⟩
   rw [e2 (fun e => he (by rw [e]))]
   exact lessA
  ·refine ⟨by simp, by simp only [maxLen]; omega, by omega, s.size - (i + 1), _, by omega, ?_, i + 1, 21, .inr rfl, rfl, by omega, rfl⟩
   rw [e1 (by apply UInt8.toNat_inj.1; omega)]
   exact lessA
  ·refine ⟨rfl, by omega, hfl, s.size - (i + 1), _, by omega, ?_, i + 1, 21, .inr rfl, rfl, by omega, rfl⟩
   rw [e2 (fun e => he (by rw [e]))]
   exact lessA
 have h1 : ((i : Int) < (s.size : Int)) = False := eq_false (by omega)
 obtain rfl : i = s.size := by omega
 have hE : splitB c s.size s = out := by rw [← splitR_eq, ← hout, List.take_of_length_le (Nat.le_of_eq (size_list s))]
 rcases ht with rfl | rfl
 all_goals
  simp only [go_sem, contS_seq, simprocAttr, h1]
  simp only [retK, resD, retL, oneD, simprocAttr, Tryz.results79]
  rw [hE]
  exact ⟨_, rfl, rfl, rfl⟩

set_option maxHeartbeats 1000000 in
theorem ref1_Name (s : ByteArray) : Pure Tryz.prog 78 [str s] (fun d => d = bln (dname s)) := by
 refine pure_of_run follows an_zvp8y Tryz.func78 rfl ok_zvp8y.1 ok_zvp8y.2 (by simp [Tryz.ntmps78]) ?_
 rw [run_start]
 simp only [ac_zvp8y, go_sem, contS_seq, simprocAttr]
 refine GifP.mk (fun h => ?_) (fun h => ?_)
 ·simp only [retK, resD, retL, oneD, simprocAttr, Tryz.results78]
  exact ⟨_, rfl, rfl, congrArg bln (by simp only [dname]; simp; omega)⟩
 have h60 : s.size ≤ 60 := by omega
 refine (ref1_Split s (by omega) 46 46 rfl).callW (enters_of Tryz.func79 rfl rfl) _ rfl rfl ?_
 rintro d rfl
 simp only [go_sem, contS_seq, simprocAttr]
 obtain ⟨l, hl⟩ : ∃ l, splitB 46 s.size s = l := ⟨_, rfl⟩
 have hln : l.length ≤ 61 := by
  have h1 := splitR_len 46 s.data.toList
  rw [splitR_eq, hl, size_list] at h1
  omega
 have hsz : ∀ x ∈ l, x.size ≤ 1000000 := fun x hx => by
  have h1 := splitR_size 46 s.data.toList
  rw [splitR_eq, hl, size_list] at h1
  have := h1 x hx
  omega
 rw [hl]
 refine loopS (fun k st => ∃ i : Nat, k = l.length - i ∧ i ≤ l.length ∧ (l.drop i).all label = l.all label ∧ st = ⟨[(3, .pd (.slice (rows cStr l))), (4, int i)], [], [], .no⟩) l.length _ ?_ ⟨0, rfl, by omega, rfl, rfl⟩ ?_
 ·exact lessA
 rintro k st ⟨i, rfl, hi, hT, rfl⟩
 have hw := i64_succ (show i < 1000000000 by omega)
 by_cases hlt : i < l.length
 ·obtain ⟨x, hx⟩ := at_lt hlt
  have h1 : ((i : Int) < (l.length : Int)) = True := eq_true (by omega)
  rw [drop_at hx, List.all_cons] at hT
  simp only [go_sem, contS_seq, simprocAttr, rows_len, rows_get hx, h1, hw]
  refine (ref1_Label x (hsz x (List.mem_of_getElem? hx))).callW (enters_of Tryz.func118 rfl rfl) _ rfl rfl ?_
  rintro d rfl
  simp only [go_sem, contS_seq, simprocAttr]
  refine Gif.mk (fun hl' => ?_) (fun hl' => ?_)
  ·refine ⟨l.length - (i + 1), _, by omega, ?_, i + 1, rfl, by omega, by rw [hl', Bool.true_and] at hT; exact hT, rfl⟩
   simp only [hw]
   exact lessA
  ·simp only [retK, resD, retL, oneD, simprocAttr, Tryz.results78]
   refine ⟨_, rfl, rfl, congrArg bln ?_⟩
   rw [hl', Bool.false_and] at hT
   simp [dname, hl, ← hT]
 have h1 : ((i : Int) < (l.length : Int)) = False := eq_false (by omega)
 rw [List.drop_eq_nil_of_le (by omega), List.all_nil] at hT
 simp only [go_sem, contS_seq, simprocAttr, rows_len, h1]
 simp only [retK, resD, retL, oneD, simprocAttr, Tryz.results78]
 exact ⟨_, rfl, rfl, congrArg bln (by simp [dname, hl, ← hT, h60])⟩


theorem bool_is {a b : Bool} (h : a = true ↔ b = true) : bln a = bln b := congrArg bln (Bool.eq_iff_iff.2 h)
theorem eight {b : UInt8} {n : Nat} (hn : n < 256) : (b.toNat : Int) = n ↔ b = UInt8.ofNat n := by
 constructor
 ·intro h
  apply UInt8.toNat_inj.1
  rw [UInt8.toNat_ofNat']
  omega
 ·rintro rfl
  rw [UInt8.toNat_ofNat']
  omega

def wide (p : ByteArray) : Bool := hasPrefix p ⟨#[42, 46]⟩

theorem ref2_wide (p : ByteArray) : Pure Tryz.prog 44 [str p] (fun d => d = .tup [str (cutPrefix p ⟨#[42, 46]⟩), bln (wide p)]) := by
 refine pure_of_run follows an_zsoo6 Tryz.func44 rfl ok_zsoo6.1 ok_zsoo6.2 (by simp [Tryz.ntmps44]) ?_
 rw [run_start]
 have no : wide p = false → D.tup [str p, bln false] = .tup [str (cutPrefix p ⟨#[42, 46]⟩), bln (wide p)] := fun h => by
  rw [h]
  unfold wide at h
  rw [cutPrefix, h]
  rfl
 by_cases h2 : 2 ≤ p.size
 ·obtain ⟨a, ha⟩ := at_byte (show 0 < p.size by omega)
  obtain ⟨b, hb⟩ := at_byte (show 1 < p.size by omega)
  have h3 : ((2 : Int) ≤ (p.size : Int)) = True := eq_true (by omega)
  have h2' : (2 ≤ p.size) = True := eq_true h2
  simp only [ac_zsoo6, go_sem, contS_seq, simprocAttr, h3, ha, hb, h2']
  have yes : (a.toNat : Int) = 42 → (b.toNat : Int) = 46 → wide p = true := fun e1 e2 => (hasPrefix_two p 42 46).2 ⟨h2, by rw [ha]; congr 1; exact (eight (n := 42) (by omega)).1 e1, by rw [hb]; congr 1; exact (eight (n := 46) (by omega)).1 e2⟩
  have not : ¬ ((a.toNat : Int) = 42 ∧ (b.toNat : Int) = 46) → wide p = false := fun h => by
   cases hw : wide p with
   | false => rfl
   | true =>
     obtain ⟨_, e1, e2⟩ := (hasPrefix_two p 42 46).1 hw
     rw [ha] at e1; rw [hb] at e2
     cases e1; cases e2
     exact absurd ⟨rfl, rfl⟩ h
  repeat' (first | refine GifP.mk (fun _ => ?_) (fun _ => ?_) | refine Gif.mk (fun _ => ?_) (fun _ => ?_))
  all_goals
   simp only [retK, resD, retL, oneD, simprocAttr, Tryz.results44]
   first
    | exact ⟨_, rfl, rfl, no (not (fun h => by omega))⟩
    | (refine ⟨_, rfl, rfl, ?_⟩
       have h4 := yes (by assumption) (by assumption)
       rw [h4]
       unfold wide at h4
       rw [cutPrefix, h4]
       rfl)
 ·have h3 : ((2 : Int) ≤ (p.size : Int)) = False := eq_false (by omega)
  simp only [ac_zsoo6, go_sem, contS_seq, simprocAttr, h3]
  simp only [retK, resD, retL, oneD, simprocAttr, Tryz.results44]
  exact ⟨_, rfl, rfl, no (by
   cases hw : wide p with
   | false => rfl
   | true => exact absurd ((hasPrefix_two p 42 46).1 hw).1 h2)⟩

theorem hostMay_eq (p : ByteArray) : hostMay p = (decide (p = ⟨#[]⟩) || (decide (p.size ≤ 60) && dname (cutPrefix p ⟨#[42, 46]⟩))) := by
 have h : (hasPrefix p ⟨#[42, 46]⟩ || decide (cutPrefix p ⟨#[42, 46]⟩ = p)) = true := by
  unfold cutPrefix
  cases hasPrefix p ⟨#[42, 46]⟩ <;> simp
 rw [hostMay, h, Bool.and_true]

theorem ref2_May (p : ByteArray) : Pure Tryz.prog 43 [str p] (fun d => d = bln (hostMay p)) := by
 rw [hostMay_eq]
 refine pure_of_run follows an_z8jqh Tryz.func43 rfl ok_z8jqh.1 ok_z8jqh.2 (by simp [Tryz.ntmps43]) ?_
 rw [run_start]
 simp only [ac_z8jqh, go_sem, contS_seq, simprocAttr]
 (repeat' (first | (refine GifP.mk (fun _ => ?_) (fun _ => ?_)) | (refine Gif.mk (fun _ => ?_) (fun _ => ?_)) | ((first | refine (ref2_wide p).callW (enters_of Tryz.func44 rfl rfl) _ rfl rfl ?_ | refine (ref1_Name _).callW (enters_of Tryz.func78 rfl rfl) _ rfl rfl ?_); rintro _ rfl; try simp only [go_sem, contS_seq, simprocAttr]))) <;> (simp only [retK, resD, retL, oneD, simprocAttr, Tryz.results43]; refine ⟨_, rfl, rfl, ?_⟩; by_cases h60 : p.size ≤ 60 <;> first | (exfalso; omega) | exact congrArg bln (by simp [*]))


theorem dname_size {s : ByteArray} (h : dname s = true) : s.size ≤ 1000000 := by
 simp only [dname, Bool.and_eq_true, decide_eq_true_eq] at h
 omega

theorem under_no {s z : ByteArray} (h : dname s = false ∨ dname z = false) : under s z = false := by
 cases hu : under s z with
 | false => rfl
 | true =>
   have := ((under_iff s z).1 hu).1
   rcases h with h | h
   ·rw [h] at this; cases this.1
   ·rw [h] at this; cases this.2

theorem splitB_len {s : ByteArray} (hs : s.size ≤ 1000000) (c : UInt8) : (splitB c s.size s).length ≤ 1000001 := by
 have h1 := splitR_len c s.data.toList
 rw [splitR_eq, size_list] at h1
 omega

set_option maxHeartbeats 4000000 in
theorem ref1_Under (s z : ByteArray) : Pure Tryz.prog 45 [str s, str z] (fun d => d = bln (under s z)) := by
 refine pure_of_run follows an_zor7z Tryz.func45 rfl ok_zor7z.1 ok_zor7z.2 (by simp [Tryz.ntmps45]) ?_
 rw [run_start]
 simp only [ac_zor7z, go_sem, contS_seq, simprocAttr]
 refine (ref1_Name s).callW (enters_of Tryz.func78 rfl rfl) _ rfl rfl ?_
 rintro _ rfl
 have c2 := ref1_Name z
 cases h1 : dname s
 ·simp only [go_sem, contS_seq, simprocAttr]
  simp only [retK, resD, retL, oneD, simprocAttr, Tryz.results45]
  exact ⟨_, rfl, rfl, congrArg bln (under_no (.inl h1)).symm⟩
 simp only [go_sem, contS_seq, simprocAttr]
 refine c2.callW (enters_of Tryz.func78 rfl rfl) _ rfl rfl ?_
 rintro _ rfl
 cases h2 : dname z
 ·simp only [go_sem, contS_seq, simprocAttr]
  simp only [retK, resD, retL, oneD, simprocAttr, Tryz.results45]
  exact ⟨_, rfl, rfl, congrArg bln (under_no (.inr h2)).symm⟩
 have hA := splitB_len (dname_size h1) 46
 have hB := splitB_len (dname_size h2) 46
 have hu := under_iff s z
 simp only [h1, h2, and_self, true_and] at hu
 have c3 := ref1_Split s (dname_size h1) 46 46 rfl
 have c4 := ref1_Split z (dname_size h2) 46 46 rfl
 generalize splitB 46 s.size s = A at hA hu c3
 generalize splitB 46 z.size z = B at hB hu c4
 simp only [go_sem, contS_seq, simprocAttr]
 refine c3.callW (enters_of Tryz.func79 rfl rfl) _ rfl rfl ?_
 rintro _ rfl
 simp only [go_sem, contS_seq, simprocAttr]
 refine c4.callW (enters_of Tryz.func79 rfl rfl) _ rfl rfl ?_
 rintro _ rfl
 simp only [go_sem, contS_seq, simprocAttr, rows_len]
 refine GifP.mk (fun hl => ?_) (fun hl => ?_)
 ·simp only [retK, resD, retL, oneD, simprocAttr, Tryz.results45]
  exact ⟨_, rfl, rfl, (bool_is (b := false) (by rw [hu]; simp; omega)).symm⟩
 refine loopS (fun k st => ∃ i : Nat, k = B.length - i ∧ i ≤ B.length ∧ (∀ j, j < i → A[A.length - 1 - j]? = B[B.length - 1 - j]?) ∧
  st = ⟨[(5, .pd (.slice (rows cStr A))), (6, .pd (.slice (rows cStr B))), (7, int i)], [], [], .no⟩) B.length _ ?_ ⟨0, rfl, by omega, fun j hj => absurd hj (by omega), rfl⟩ ?_
 ·exact lessA
 rintro k st ⟨i, rfl, hi, hT, rfl⟩
 have hw := i64_succ (show i < 1000000000 by omega)
 by_cases hlt : i < B.length
 ·have h3 : ((i : Int) < (B.length : Int)) = True := eq_true (by omega)
  obtain ⟨x, hx⟩ := at_lt (show A.length - 1 - i < A.length by omega)
  obtain ⟨y, hy⟩ := at_lt (show B.length - 1 - i < B.length by omega)
  have wa : IntKind.i64.wrap ((A.length : Int) - 1) = ((A.length - 1 : Nat) : Int) := by rw [IntWalk.i64_in _ (by omega)]; omega
  have wb : IntKind.i64.wrap ((B.length : Int) - 1) = ((B.length - 1 : Nat) : Int) := by rw [IntWalk.i64_in _ (by omega)]; omega
  have va : IntKind.i64.wrap (((A.length - 1 : Nat) : Int) - i) = ((A.length - 1 - i : Nat) : Int) := by rw [IntWalk.i64_in _ (by omega)]; omega
  have vb : IntKind.i64.wrap (((B.length - 1 : Nat) : Int) - i) = ((B.length - 1 - i : Nat) : Int) := by rw [IntWalk.i64_in _ (by omega)]; omega
  have za : ((0 : Int) ≤ ((A.length - 1 - i : Nat) : Int)) = True := eq_true (by omega)
  have zb : ((0 : Int) ≤ ((B.length - 1 - i : Nat) : Int)) = True := eq_true (by omega)
  simp only [go_sem, contS_seq, simprocAttr, rows_len, h3, wa, wb, va, vb, za, zb, rows_get hx, rows_get hy, hw]
  refine GifP.mk (fun he => ?_) (fun he => ?_)
  ·refine ⟨B.length - (i + 1), _, by omega, ?_, i + 1, rfl, by omega, fun j hj => ?_, rfl⟩
   ·exact lessA
   ·rcases Nat.lt_succ_iff_lt_or_eq.1 hj with h | rfl
    ·exact hT j h
    ·rw [hx, hy, he]
  ·simp only [retK, resD, retL, oneD, simprocAttr, Tryz.results45]
   exact ⟨_, rfl, rfl, (bool_is (b := false) (by rw [hu]; simp only [Bool.false_eq_true, iff_false]; rintro ⟨_, h⟩; have := h i hlt; rw [hx, hy] at this; exact he (Option.some.inj this))).symm⟩
 ·have h3 : ((i : Int) < (B.length : Int)) = False := eq_false (by omega)
  simp only [go_sem, contS_seq, simprocAttr, rows_len, h3]
  simp only [retK, resD, retL, oneD, simprocAttr, Tryz.results45]
  exact ⟨_, rfl, rfl, (bool_is (b := true) (by rw [hu]; simp only [iff_true]; exact ⟨by omega, fun j hj => hT j (by omega)⟩)).symm⟩

theorem ref2_Meet (a b : ByteArray) : Pure Tryz.prog 19 [str a, str b] (fun d => d = meetD (hostMeet a b)) := by
 rw [← refMeet_eq]
 refine pure_of_run follows an_zvnqs Tryz.func19 rfl ok_zvnqs.1 ok_zvnqs.2 (by simp [Tryz.ntmps19]) ?_
 rw [run_start]
 simp only [ac_zvnqs, go_sem, contS_seq, simprocAttr]
 (repeat' (first | (refine GifP.mk (fun _ => ?_) (fun _ => ?_)) | (refine Gif.mk (fun _ => ?_) (fun _ => ?_)) | ((first | refine (ref2_May a).callW (enters_of Tryz.func43 rfl rfl) _ rfl rfl ?_ | refine (ref2_May b).callW (enters_of Tryz.func43 rfl rfl) _ rfl rfl ?_ | refine (ref2_wide a).callW (enters_of Tryz.func44 rfl rfl) _ rfl rfl ?_ | refine (ref2_wide b).callW (enters_of Tryz.func44 rfl rfl) _ rfl rfl ?_ | refine (ref1_Under _ _).callW (enters_of Tryz.func45 rfl rfl) _ rfl rfl ?_); rintro _ rfl; try simp only [go_sem, contS_seq, simprocAttr]))) <;> (simp only [retK, resD, retL, oneD, simprocAttr, Tryz.results19]; exact ⟨_, rfl, rfl, by simp_all [refMeet, wide, meetD, D.pub, D.pubs]⟩)

end Go.Proofs.YtcnhcamimcpinaaGreatDoor



namespace Go.Proofs.YtcnhcamimcpinaaGreatDoor
open Go

def ac_z712c : AC := (sr [oo 3 (.box 24 (tp 1)),oo 4 (.alloc 33 [.pd (.raw (.int .i64 0)),.pd (.raw (.string ⟨#[]⟩)),.pd (.raw (.string ⟨#[]⟩)),.pd (.raw (.bool false)),.nils,.nils,.pd (.raw (.string ⟨#[]⟩)),.nils,.nils,.nils,.nils,.nils,.nils]),oo 5 (.mv (cq false))] [0,3,4] (.seq (sr [oo 6 (.mv (ci 0))] [0,3,4,6] (.block 0 (.loop (.seq (sr [mq 7 6,mq 8 0,oo 9 (.len (tp 8) false),oo 10 (.bin .lss (tp 7) (tp 9))] [0,3,4,6,10] (.cond (tp 10) .skip (.exit 0))) (.seq (.block 1 (.seq (.draw [mq 13 0,mq 14 6,oo 15 (.idxA 13 (tp 13) (tp 14)),fi 16 0 15,oo 17 (.load (some 3) (tp 16)),oo 18 (.load (some 3) (tp 3)),oo 19 (.eqs false [.int,.str,.str] (tp 17) (tp 18))] [0,0,3,7,15,0,63] (.take 0 (.take 1 (.take 2 (.take 3 (.take 4 (.take 5 (.take 6 .done))))))) (some [0,3,4,6,19])) (.cond (tp 19) (sr [mq 20 0,mq 21 6,oo 22 (.idxA 13 (tp 20) (tp 21)),oo 23 (.load (some 13) (tp 22)),.mk none none (.store 13 (tp 4) (tp 23)),oo 5 (.mv (cq true))] [4,5] .ret) .skip))) (.region [mq 11 6,oo 12 (.bin .add (tp 11) (ci 1)),mq 6 12] (some [0,3,4,6]))))))) (sr [oo 24 (.build [.pd (.raw (.int .i64 0)),.pd (.raw (.string ⟨#[]⟩)),.pd (.raw (.string ⟨#[]⟩)),.pd (.raw (.bool false)),.nils,.nils,.pd (.raw (.string ⟨#[]⟩)),.nils,.nils,.nils,.nils,.nils,.nils] []),.mk none none (.store 13 (tp 4) (tp 24)),oo 5 (.mv (cq false))] [4,5] .ret)))
def an_z712c : Ann := ann [0,1,2,4,5,3,6] ac_z712c
theorem ok_z712c : okd Tryz.prog an_z712c ac_z712c Tryz.f17 := ⟨by kernel_rfl, by kernel_rfl⟩
theorem ret_z712c (st : St) : resD Tryz.prog st Tryz.f17.results.toList = resA st [.cell 4 (some 13), .tmp 5] := resD_of (by kernel_rfl)

end Go.Proofs.YtcnhcamimcpinaaGreatDoor


namespace Go.Proofs.YtcnhcamimcpinaaGreatDoor
open Go Go.RowKit
set_option linter.unusedSimpArgs false
set_option linter.unusedVariables false
set_option maxRecDepth 100000

theorem ref11_Find (os : List AObj) (hos : os.length ≤ 1000000) (r : ARef) : Pure Tryz.prog 17 [.pd (.slice (rows AObj.pd os)), r.d] (fun d => d = foundD (found os r)) := by
 refine pure_of_run follows an_z712c Tryz.func17 rfl ok_z712c.1 ok_z712c.2 (by simp [Tryz.ntmps17]) ?_
 rw [run_start]
 simp only [ac_z712c, go_sem, contS_seq, simprocAttr]
 refine loopS (fun k st => ∃ i : Nat, k = os.length - i ∧ i ≤ os.length ∧ (os.drop i).find? (isRef r) = found os r ∧
  st = ⟨[(0, .pd (.slice (rows AObj.pd os))), (3, .ptr 3 0), (4, .ptr 4 0), (6, int i)], [(3, [int r.kind, str r.space, str r.name]), (4, [int 0, str ⟨#[]⟩, str ⟨#[]⟩, bln false, .nils, .nils, str ⟨#[]⟩, .nils, .nils, .nils, .nils, .nils, .nils])], [], .no⟩) os.length _ ?_ ⟨0, rfl, by omega, rfl, rfl⟩ ?_
 ·exact lessA
 rintro k st ⟨i, rfl, hi, hf, rfl⟩
 by_cases hlt : i < os.length
 ·obtain ⟨x, hx⟩ := at_lt hlt
  have h1 : ((i : Int) < (os.length : Int)) = True := eq_true (by omega)
  have hw := i64_succ (show i < 1000000000 by omega)
  rw [drop_at hx, List.find?_cons] at hf
  simp only [go_sem, contS_seq, simprocAttr, rows_len, rows_get hx, h1, hw, eqVs, eqV, eq_Ref]
  refine GifP.mk (fun h => ?_) (fun h => ?_)
  ·rw [show isRef r x = true by simp [isRef, h]] at hf
   simp only [retK, resD, resA, AOp.ex, St.ev, retL, oneD, simprocAttr, ret_z712c]
   refine ⟨_, rfl, rfl, ?_⟩
   rw [← hf]; rfl
  ·rw [show isRef r x = false by simp [isRef, h]] at hf
   refine ⟨os.length - (i + 1), _, by omega, ?_, i + 1, rfl, by omega, hf, rfl⟩
   exact lessA
 ·have h1 : ((i : Int) < (os.length : Int)) = False := eq_false (by omega)
  rw [List.drop_eq_nil_of_le (by omega), List.find?_nil] at hf
  simp only [go_sem, contS_seq, simprocAttr, rows_len, h1]
  simp only [retK, resD, resA, AOp.ex, St.ev, retL, oneD, simprocAttr, ret_z712c]
  refine ⟨_, rfl, rfl, ?_⟩
  rw [← hf]; rfl


def atK (i k : Nat) : Int := if i < k then (i : Int) else -1

theorem atK_end {i k : Nat} (h : i < k) : atK i k = i := if_pos h
theorem atK_hit (i : Nat) : atK i (i + 1) = i := if_pos (Nat.lt_succ_self i)
theorem atK_miss {i k : Nat} (h : ¬ k = i) : atK i (k + 1) = atK i k := by
 unfold atK
 by_cases h1 : i < k
 ·rw [if_pos h1, if_pos (by omega)]
 ·rw [if_neg h1, if_neg (by omega)]

set_option maxHeartbeats 8000000 in
theorem law_AttachHosts (l : List AObj) (r : AObj) : Pure Tryz.prog 4 [.pd (.slice (rows AObj.pd l)), r.d] (fun d => d = bln true) := by
 refine pure_of_run follows an_zbctz Tryz.func4 rfl ok_zbctz.1 ok_zbctz.2 (by simp [Tryz.ntmps4]) ?_
 rw [run_start]
 simp only [ac_zbctz, go_sem, contS_seq, simprocAttr]
 refine (law11_Some l).callX (enters_of Tryz.func9 rfl rfl) _ rfl rfl ?_
 rintro _ rfl
 simp only [go_sem, contS_seq, simprocAttr]
 refine (law9_Few r).callX (enters_of Tryz.func10 rfl rfl) _ rfl rfl ?_
 rintro _ rfl
 have hos : (fewObjs l).length ≤ 1000 := Nat.le_trans (fewObjs_len l) (by omega)
 have ho := fewObjs_ok (l := l)
 have hr := fewObj_ok r
 have hrp := fewObj_pa r
 generalize fewObjs l = os at hos ho ⊢
 generalize fewObj r = r at hr hrp ⊢
 have hrh := hr.ho
 have c1 := attach_All os (by omega) ho r hr hrp
 have hfrom := fun (s : ASpot) (hs : s ∈ attAll labelsAll os r) => spot_from labelsAll hs
 have hshort := spots_short (os := os) hr
 have hSl := attAll_len os r hrp
 generalize attAll labelsAll os r = S at c1 hfrom hshort hSl
 simp only [go_sem, contS_seq, simprocAttr]
 refine c1.callW (enters_of Tryz.func14 rfl rfl) _ rfl rfl ?_
 rintro _ rfl
 simp only [go_sem, contS_seq, simprocAttr]
 refine loopS (fun k st => ∃ i : Nat, k = S.length - i ∧ i ≤ S.length ∧
  st = ⟨[(0, .pd (.slice (rows AObj.pd os))), (3, .ptr 3 0), (5, .pd (.slice (rows ASpot.pd S))), (6, int i)], [(3, r.ds)], [], .no⟩) S.length _ ?_ ⟨0, rfl, by omega, rfl⟩ ?_
 ·exact lessA
 rintro k st ⟨i, rfl, hi, rfl⟩
 have hw := i64_succ (show i < 1000000000 by omega)
 by_cases hlt : i < S.length
 rotate_left
 ·have h1 : ((i : Int) < (S.length : Int)) = False := eq_false (by omega)
  simp only [go_sem, contS_seq, simprocAttr, rows_len, h1]
  refine awake13.callW (enters_of Tryz.func16 rfl rfl) _ rfl rfl ?_
  rintro _ rfl
  simp only [go_sem, contS_seq, simprocAttr]
  simp only [retK, resD, retL, oneD, simprocAttr, Tryz.results4]
  exact ⟨_, rfl, rfl, rfl⟩
 obtain ⟨s, hs⟩ := at_lt hlt
 have hmem := List.mem_of_getElem? hs
 have h1 : ((i : Int) < (S.length : Int)) = True := eq_true (by omega)
 obtain ⟨g, x, hf, hours, hxm, hlets, hname, hhosts, hne⟩ := hfrom s hmem
 have hsl := hshort s hmem
 obtain ⟨i0, hx⟩ := List.mem_iff_getElem?.1 hxm
 have hi0 : i0 < g.listeners.length := (List.getElem?_eq_some_iff.1 hx).1
 have hg := ho g (List.mem_of_find?_eq_some hf)
 have hgl := hg.li
 have hgw : gwOk g = true := by unfold ours at hours; rw [Bool.and_eq_true] at hours; exact hours.1
 have c2 := ref11_Find os (by omega) s.gateway
 rw [hf] at c2
 simp only [foundD] at c2
 simp only [go_sem, contS_seq, simprocAttr, rows_len, rows_get hs, h1]
 refine c2.callW (enters_of Tryz.func17 rfl rfl) _ rfl rfl ?_
 rintro _ rfl
 simp only [go_sem, contS_seq, simprocAttr]
 refine loopS (fun k st => ∃ n : Nat, k = g.listeners.length - n ∧ n ≤ g.listeners.length ∧
  st = ⟨[(0, .pd (.slice (rows AObj.pd os))), (3, .ptr 3 0), (5, .pd (.slice (rows ASpot.pd S))), (6, int i), (7, .ptr 7 0), (8, bln true), (9, int (atK i0 n)), (10, int n)], [(3, r.ds), (7, g.ds)], [], .no⟩) g.listeners.length _ ?_ ⟨0, rfl, by omega, rfl⟩ ?_
 ·rw [show atK i0 0 = -1 from rfl]
  exact lessA
 rintro k st ⟨n, rfl, hn, rfl⟩
 have hwn := i64_succ (show n < 1000000000 by omega)
 by_cases hnl : n < g.listeners.length
 ·obtain ⟨y, hy⟩ := at_lt hnl
  have h2 : ((n : Int) < (g.listeners.length : Int)) = True := eq_true (by omega)
  by_cases hk : n = i0
  ·subst hk
   rw [hx] at hy
   cases hy
   have hq : (x.name = s.listener) = True := eq_true hname.symm
   simp only [go_sem, contS_seq, simprocAttr, rows_len, rows_get hx, rows_get hs, h2, hq, hwn]
   refine ⟨g.listeners.length - (n + 1), _, by omega, ?_, n + 1, rfl, by omega, rfl⟩
   rw [atK_hit]
   exact lessA
  ·have hq : (y.name = s.listener) = False := eq_false (fun e => hk (names_own hours hy hx (e.trans hname)))
   simp only [go_sem, contS_seq, simprocAttr, rows_len, rows_get hy, rows_get hs, h2, hq, hwn]
   refine ⟨g.listeners.length - (n + 1), _, by omega, ?_, n + 1, rfl, by omega, rfl⟩
   rw [atK_miss hk]
   exact lessA
 have h2 : ((n : Int) < (g.listeners.length : Int)) = False := eq_false (by omega)
 rw [atK_end (show i0 < n by omega)]
 have h3 : ((i0 : Int) < 0) = False := eq_false (by omega)
 have h4 : ((s.hosts.length : Int) = 0) = False := eq_false (fun e => hne (List.length_eq_zero_iff.1 (by omega)))
 have c3 := attach_Lets os (by omega) ho g hg i0 r.ref.space
 rw [lets_of hgw hx, hlets] at c3
 simp only [go_sem, contS_seq, simprocAttr, rows_len, rows_get hs, h2, h3, h4]
 refine c3.callW (enters_of Tryz.func18 rfl rfl) _ rfl rfl ?_
 rintro _ rfl
 simp only [go_sem, contS_seq, simprocAttr]
 refine loopS (fun k st => ∃ n : Nat, k = s.hosts.length - n ∧ n ≤ s.hosts.length ∧
  st = ⟨[(0, .pd (.slice (rows AObj.pd os))), (3, .ptr 3 0), (5, .pd (.slice (rows ASpot.pd S))), (6, int i), (7, .ptr 7 0), (9, int i0), (11, int n)], [(3, r.ds), (7, g.ds)], [], .no⟩) s.hosts.length _ ?_ ⟨0, rfl, by omega, rfl⟩ ?_
 ·exact lessA
 rintro k st ⟨n, rfl, hn, rfl⟩
 have hwn := i64_succ (show n < 1000000000 by omega)
 by_cases hnl : n < s.hosts.length
 rotate_left
 ·have h5 : ((n : Int) < (s.hosts.length : Int)) = False := eq_false (by omega)
  simp only [go_sem, contS_seq, simprocAttr, rows_len, rows_get hs, h5, hw]
  refine ⟨S.length - (i + 1), _, by omega, ?_, i + 1, rfl, by omega, rfl⟩
  exact lessA
 obtain ⟨h, hh⟩ := at_lt hnl
 have h5 : ((n : Int) < (s.hosts.length : Int)) = True := eq_true (by omega)
 obtain ⟨m1, m2⟩ := spot_host (hhosts ▸ List.mem_of_getElem? hh)
 rw [refMeet_eq] at m1
 simp only [refMeet_eq] at m2
 have hnd : s.hosts.Nodup := by rw [hhosts]; exact nodup_meets _ _
 have c4 := ref2_Meet x.host h
 rw [m1] at c4
 simp only [meetD] at c4
 simp only [go_sem, contS_seq, simprocAttr, rows_len, rows_get hs, rows_get hh, rows_get hx, h5]
 refine c4.callW (enters_of Tryz.func19 rfl rfl) _ rfl rfl ?_
 rintro _ rfl
 simp only [go_sem, contS_seq, simprocAttr, rows_len]
 refine loopS (fun k st => ∃ (m : Nat) (t : Bool), k = r.hosts.length - m ∧ m ≤ r.hosts.length ∧ t = (decide ((r.hosts.length : Int) = 0) || (r.hosts.take m).any fun x => decide (hostMeet x h = some h)) ∧
  st = ⟨[(0, .pd (.slice (rows AObj.pd os))), (3, .ptr 3 0), (5, .pd (.slice (rows ASpot.pd S))), (6, int i), (7, .ptr 7 0), (9, int i0), (11, int n), (12, str h), (13, str h), (14, bln true), (15, bln t), (16, int m)], [(3, r.ds), (7, g.ds)], [], .no⟩) r.hosts.length _ ?_ ⟨0, _, rfl, by omega, rfl, rfl⟩ ?_
 ·rw [List.take_zero, List.any_nil, Bool.or_false]
  exact lessA
 rintro k st ⟨m, t, rfl, hm, ht, rfl⟩
 have hwm := i64_succ (show m < 1000000000 by omega)
 by_cases hml : m < r.hosts.length
 ·obtain ⟨z, hz⟩ := at_lt hml
  have h6 : ((m : Int) < (r.hosts.length : Int)) = True := eq_true (by omega)
  have hst : (decide ((r.hosts.length : Int) = 0) || (r.hosts.take (m + 1)).any fun x => decide (hostMeet x h = some h)) = (t || decide (hostMeet z h = some h)) := by
   rw [take_at hz, List.any_append, ht, Bool.or_assoc]
   simp
  clear ht
  have c5 := ref2_Meet z h
  simp only [go_sem, contS_seq, simprocAttr, rows_len, rows_get hz, h6]
  refine c5.callW (enters_of Tryz.func19 rfl rfl) _ rfl rfl ?_
  rintro _ rfl
  cases t
  ·cases hmz : hostMeet z h with
   | none =>
     rw [hmz] at hst
     simp only [meetD, go_sem, contS_seq, simprocAttr, hwm]
     refine ⟨r.hosts.length - (m + 1), _, by omega, ?_, m + 1, false, rfl, by omega, by rw [hst]; rfl, rfl⟩
     exact lessA
   | some q =>
     rw [hmz] at hst
     simp only [meetD, go_sem, contS_seq, simprocAttr, hwm]
     refine ⟨r.hosts.length - (m + 1), _, by omega, ?_, m + 1, decide (q = h), rfl, by omega, by rw [hst]; simp, rfl⟩
     exact lessA
  ·cases hmz : hostMeet z h with
   | none =>
     simp only [meetD, go_sem, contS_seq, simprocAttr, hwm]
     refine ⟨r.hosts.length - (m + 1), _, by omega, ?_, m + 1, true, rfl, by omega, by rw [hst]; rfl, rfl⟩
     exact lessA
   | some q =>
     simp only [meetD, go_sem, contS_seq, simprocAttr, hwm]
     refine ⟨r.hosts.length - (m + 1), _, by omega, ?_, m + 1, true, rfl, by omega, by rw [hst]; rfl, rfl⟩
     exact lessA
 have h6 : ((m : Int) < (r.hosts.length : Int)) = False := eq_false (by omega)
 rw [List.take_of_length_le (by omega)] at ht
 obtain rfl : t = true := by
  rw [ht, Bool.or_eq_true]
  rcases m2 with m2 | ⟨z, hz, m2⟩
  ·exact .inl (decide_eq_true (by rw [m2]; rfl))
  ·exact .inr (List.any_eq_true.2 ⟨z, hz, decide_eq_true m2⟩)
 simp only [go_sem, contS_seq, simprocAttr, rows_len, h6]
 refine loopS (fun k st => ∃ m : Nat, k = n - m ∧ m ≤ n ∧
  st = ⟨[(0, .pd (.slice (rows AObj.pd os))), (3, .ptr 3 0), (5, .pd (.slice (rows ASpot.pd S))), (6, int i), (7, .ptr 7 0), (9, int i0), (11, int n), (12, str h), (13, str h), (14, bln true), (15, bln true), (19, int m)], [(3, r.ds), (7, g.ds)], [], .no⟩) n _ ?_ ⟨0, rfl, by omega, rfl⟩ ?_
 ·exact lessA
 rintro k st ⟨m, rfl, hm, rfl⟩
 have hwm := i64_succ (show m < 1000000000 by omega)
 by_cases hml : m < n
 ·obtain ⟨z, hz⟩ := at_lt (show m < s.hosts.length by omega)
  have h6 : ((m : Int) < (n : Int)) = True := eq_true (by omega)
  have h7 : (z = h) = False := eq_false (fun e => by
   subst e
   have := (List.getElem?_inj (by omega) hnd).1 (hz.trans hh.symm)
   omega)
  simp only [go_sem, contS_seq, simprocAttr, rows_len, rows_get hs, rows_get hz, h6, h7, hwm]
  refine ⟨n - (m + 1), _, by omega, ?_, m + 1, rfl, by omega, rfl⟩
  exact lessA
 have h6 : ((m : Int) < (n : Int)) = False := eq_false (by omega)
 simp only [go_sem, contS_seq, simprocAttr, rows_len, h6, hwn]
 refine ⟨s.hosts.length - (n + 1), _, by omega, ?_, n + 1, rfl, by omega, rfl⟩
 exact lessA

end Go.Proofs.YtcnhcamimcpinaaGreatDoor


