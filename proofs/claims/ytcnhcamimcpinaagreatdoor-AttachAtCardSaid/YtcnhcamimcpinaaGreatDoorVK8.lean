/- Texts of the prover's, joined: FF FH FI J1 J5 J6 JL EJ KA N2 N4 N5 P3. -/
import Derived.Test.YtcnhcamimcpinaaGreatDoorVK7

namespace Go.Proofs.YtcnhcamimcpinaaGreatDoor
open Go Go.RowKit
set_option linter.unusedSimpArgs false
set_option linter.unusedVariables false
set_option maxRecDepth 100000

theorem Reps.tell {g : Gh} {w : World} {d : D} : ∀ {ds : List D} {vs : List Value} (_ : Reps g w ds vs) (i : Nat) (_ : ∀ v, vs[i]? = some v → Rep g w d v), Reps g w (ds.set i d) vs
 | [], _, h, _, _ => by simpa using h
 | e :: ds, _, h, i, hd => by
   simp only [Reps] at h
   obtain ⟨v, vs', rfl, hv, hs⟩ := h
   cases i with
   | zero => exact ⟨v, vs', rfl, hd v rfl, hs⟩
   | succ i => exact ⟨v, vs', rfl, hv, Reps.tell hs i (fun u hu => hd u (by simpa using hu))⟩

theorem SR.tellB {C : Ctx} {st : St} {g : Gh} {a : Act} {w : World} (h : SR C st g a w) {n : Nat} {ds ds' : List D} (hn : lk st.bs n = some ds) (hd : ∀ vs, Reps g w ds vs → Reps g w ds' vs) : SR C { st with bs := (n, ds') :: st.bs } g a w := by
 have m := h.mem
 refine ⟨h.defers, h.size, h.rep, { m with bxs := fun k es hk => ?_ }, h.x, h.fix⟩
 simp only [lk] at hk
 split at hk
 ·rename_i hkn
  subst hkn
  cases hk
  obtain ⟨b, cs, t, h1, h2, h3⟩ := m.bxs _ ds hn
  exact ⟨b, cs, t, h1, h2, hd _ h3⟩
 ·exact m.bxs k es hk

theorem purges_at : ∀ (t : Nat) (ds : List D) (i : Nat), ds[i]? = some .nils → (D.purges t ds)[i]? = some .nils
 | _, [], _, h => by simp at h
 | t, d :: ds, 0, h => by
   simp only [List.getElem?_cons_zero, Option.some.injEq] at h
   subst h
   simp [D.purges, D.purge]
 | t, d :: ds, i + 1, h => by
   simp only [List.getElem?_cons_succ] at h
   simpa [D.purges] using purges_at t ds i h

theorem lk_purge {st : St} {t n : Nat} {ds : List D} (h : lk st.bs n = some ds) : lk (st.purge t).bs n = some (D.purges t ds) := by
 simp only [St.purge]
 rw [lk_map (fun ds => D.purges t ds) st.bs n, h]; rfl

theorem Weak.ownB0 {P : Program} {st : St} (n i t : Nat) (e : TypeId) {ti : TypeInfo} (hi : P.info? e = some ti) (hpos : 0 < ti.size) {ds : List D} (h : lk st.bs n = some ds) (hn : ds[i]? = some .nils) :
 Weak P st { st.purge t with bs := (n, (D.purges t ds).set i (.own e ti.size [] t)) :: (st.purge t).bs } := by
 intro C g a w hP hs
 subst hP
 have h1 := hs.purge t
 obtain ⟨h2, _⟩ := SR.owned h1 t (by simp) (grownBy_same w none) _ h1.x (fun k e => by cases e) (fun _ h => h) (fun k e => by cases e) e ti hi hpos (.slice none 0 0) 0 [] (World.ownsRow_nil _ _ _ _) (fun b hb => by cases hb) (fun b o _ hb => by cases hb)
 refine ⟨_, h2.tellB (lk_purge h) fun vs hv => ?_⟩
 refine hv.tell i fun v hvi => ?_
 obtain ⟨u, hu, hr⟩ := hv.get i _ (purges_at t ds i hn)
 rw [hvi] at hu
 cases hu
 simp only [Rep] at hr
 rw [hr]
 simp only [Rep]
 exact ⟨.empty _ _, by simp, by simp⟩

theorem Weak.ownB {P : Program} {st st' : St} (n i t : Nat) (e : TypeId) (sz : Nat) (hi : (P.info? e).map (·.size) = some sz) (hpos : 0 < sz) {ds : List D} (h : lk st.bs n = some ds) (hn : ds[i]? = some .nils)
 (hf : lessL st'.fr (st.purge t).fr) (hb : lessL st'.bs ((n, (D.purges t ds).set i (.own e sz [] t)) :: (st.purge t).bs)) (hm : lessL st'.ms st.ms) (hh : st'.hs = st.hs) : Weak P st st' := by
 obtain ⟨ti, h1, rfl⟩ := Option.map_eq_some_iff.1 hi
 exact (Weak.ownB0 n i t e h1 hpos h hn).trans (Weak.less hf hb hm hh)

theorem run_cut {P : Program} {x y : AC} {st s1 : St} {S : List Fr} {K : Exit → St → Prop} (h1 : ∀ K' : Exit → St → Prop, K' .normal s1 → run P x st (contS P [] K')) (h2 : run P y s1 (contS P S K)) : run P (.seq x y) st (contS P S K) := by
 rw [run_seq]; exact h1 (contS P (.seq y :: S) K) h2

theorem few_size (s : ByteArray) : (few s).size ≤ 100 := by
 unfold few
 split
 ·assumption
 ·simp [ByteArray.size_extract]; omega

theorem law3_Few (k : Int) (v : ByteArray) : Pure Tryz.prog 48 [.agg [int k, str v]] (fun d => d = .agg [int k, str (few v)]) := by
 refine pure_of_run follows an_zyx20 Tryz.func48 rfl ok_zyx20.1 ok_zyx20.2 (by simp [Tryz.ntmps48]) ?_
 rw [run_start]
 simp only [ac_zyx20, go_sem, simprocAttr]
 refine (law1_Few v).callW (enters_of Tryz.func21 rfl rfl) _ rfl rfl ?_
 rintro d rfl
 simp only [go_sem, simprocAttr]
 simp only [retK, resD, resA, AOp.ex, St.ev, retL, oneD, simprocAttr, ret_zyx20]
 exact ⟨_, rfl, rfl, rfl⟩

def fewPair (p : APair) : APair := ⟨few p.name, few p.val⟩
def fewPairs (l : List APair) : List APair := (l.take 31).map fewPair

theorem fewPair_ok (p : APair) : (fewPair p).ok := ⟨by have := few_size p.name; simp [fewPair]; omega, by have := few_size p.val; simp [fewPair]; omega⟩

theorem few_step {α β : Type} {f : β → List PD} {g : α → β} {l : List α} {i : Nat} {x : α} (h : l[i]? = some x) : rows f ((l.take i).map g) ++ [f (g x)] = rows f ((l.take (i + 1)).map g) := by
 rw [take_at h, List.map_append]; exact rows_one _ (g x)

theorem few_len {α β : Type} {f : β → List PD} {g : α → β} {l : List α} {i n : Nat} (h : i ≤ n) : (rows f ((l.take i).map g)).length ≤ n := by simp [rows]; omega

theorem few_end {α β : Type} {g : α → β} {l : List α} {i n : Nat} (h : i ≤ n) (hl : i ≤ l.length) (he : ¬ (i < l.length ∧ i < n)) : (l.take i).map g = (l.take n).map g := by
 rcases Nat.lt_or_ge i n with h6 | h6
 ·rw [List.take_of_length_le (by omega), List.take_of_length_le (by omega)]
 ·rw [show i = n by omega]

theorem law5_Few (l : List APair) : Pure Tryz.prog 24 [.pd (.slice (rows APair.pd l))] (fun d => d = .pd (.slice (rows APair.pd (fewPairs l)))) := by
 refine pure_of_run follows an_ztgmw Tryz.func24 rfl ok_ztgmw.1 ok_ztgmw.2 (by simp [Tryz.ntmps24]) ?_
 rw [run_start]
 simp only [ac_ztgmw, go_sem, simprocAttr]
 refine loopS (fun k st => ∃ i : Nat, k = 31 - i ∧ i ≤ 31 ∧ i ≤ l.length ∧
  st = ⟨[(0, .pd (.slice (rows APair.pd l))), (3, .own 90 2 (rows APair.pd ((l.take i).map fewPair)) 30), (4, int i)], [], [], .no⟩) 31 _
  ?_ ⟨0, rfl, by omega, by omega, rfl⟩ ?_
 ·exact Weak.own1 3 30 90 2 (by kernel_rfl) (by decide) rfl (by simp [lessL, lk, St.purge, St.put, D.purge, rows]) (by simp [lessL, lk, St.purge, D.purges, D.purge]) (by simp [lessL]) rfl
 rintro k st ⟨i, rfl, hi6, hi, rfl⟩
 have hw := i64_succ (show i < 1000000000 by omega)
 by_cases hlt : i < l.length ∧ i < 31
 ·obtain ⟨x, hx⟩ := at_lt hlt.1
  have h1 : ((i : Int) < (l.length : Int)) = True := eq_true (by omega)
  have h2 : ((i : Int) < 31) = True := eq_true (by omega)
  simp only [go_sem, simprocAttr, go_sem, rows_len, rows_get hx, h1, h2]
  refine (law1_Few x.name).callX (enters_of Tryz.func21 rfl rfl) _ rfl rfl ?_
  rintro d rfl
  simp only [go_sem, simprocAttr, go_sem, rows_len, rows_get hx]
  refine (law1_Few x.val).callX (enters_of Tryz.func21 rfl rfl) _ rfl rfl ?_
  rintro d rfl
  simp only [go_sem, simprocAttr, go_sem, hw]
  have hl := few_len (f := APair.pd) (g := fewPair) (l := l) hi6
  have hl2 := hl
  rw [rows_len] at hl2
  have e1 : rows APair.pd ((l.take i).map fewPair) ++ [[PD.raw (Value.string (few x.name)), PD.raw (Value.string (few x.val))]] = rows APair.pd ((l.take (i + 1)).map fewPair) := few_step hx
  rw [e1]
  refine ⟨by simp, by unfold maxLen; omega, by omega, 31 - (i + 1), _, by omega, ?_, i + 1, rfl, by omega, by omega, rfl⟩
  exact lessA
 ·have h3 := few_end (g := fewPair) hi6 hi hlt
  rw [h3]
  by_cases h1 : i < l.length
  ·have h1' : ((i : Int) < (l.length : Int)) = True := eq_true (by omega)
   have h2 : ((i : Int) < 31) = False := eq_false (by omega)
   simp only [go_sem, simprocAttr, go_sem, rows_len, h1', h2]
   simp only [retK, resD, retL, oneD, simprocAttr, Tryz.results24]
   exact ⟨_, rfl, rfl, rfl⟩
  ·have h1' : ((i : Int) < (l.length : Int)) = False := eq_false (by omega)
   simp only [go_sem, simprocAttr, go_sem, rows_len, h1']
   simp only [retK, resD, retL, oneD, simprocAttr, Tryz.results24]
   exact ⟨_, rfl, rfl, rfl⟩

def fewFilter (f : AFilter) : AFilter := { f with name := few f.name, val := few f.val, host := few f.host, path := few f.path }
def fewFilters (l : List AFilter) : List AFilter := (l.take 9).map fewFilter
def fewSide (s : ASide) : ASide := ⟨s.kind, few s.space, few s.name⟩
def fewSides (l : List ASide) : List ASide := (l.take 5).map fewSide

theorem law7_Few (l : List AFilter) : Pure Tryz.prog 27 [.pd (.slice (rows AFilter.pd l))] (fun d => d = .pd (.slice (rows AFilter.pd (fewFilters l)))) := by
 refine pure_of_run follows an_z9moo Tryz.func27 rfl ok_z9moo.1 ok_z9moo.2 (by simp [Tryz.ntmps27]) ?_
 rw [run_start]
 simp only [ac_z9moo, go_sem, simprocAttr]
 refine loopS (fun k st => ∃ i : Nat, k = 9 - i ∧ i ≤ 9 ∧ i ≤ l.length ∧
  st = ⟨[(0, .pd (.slice (rows AFilter.pd l))), (3, .own 95 8 (rows AFilter.pd ((l.take i).map fewFilter)) 39), (4, int i)], [], [], .no⟩) 9 _
  ?_ ⟨0, rfl, by omega, by omega, rfl⟩ ?_
 ·exact Weak.own1 3 39 95 8 (by kernel_rfl) (by decide) rfl (by simp [lessL, lk, St.purge, St.put, D.purge, rows]) (by simp [lessL, lk, St.purge, D.purges, D.purge]) (by simp [lessL]) rfl
 rintro k st ⟨i, rfl, hi6, hi, rfl⟩
 have hw := i64_succ (show i < 1000000000 by omega)
 by_cases hlt : i < l.length ∧ i < 9
 ·obtain ⟨x, hx⟩ := at_lt hlt.1
  have h1 : ((i : Int) < (l.length : Int)) = True := eq_true (by omega)
  have h2 : ((i : Int) < 9) = True := eq_true (by omega)
  simp only [go_sem, simprocAttr, rows_get hx, h1, h2]
  refine (law1_Few x.name).callX (enters_of Tryz.func21 rfl rfl) _ rfl rfl ?_
  rintro d rfl
  simp only [go_sem, simprocAttr, rows_get hx]
  refine (law1_Few x.val).callX (enters_of Tryz.func21 rfl rfl) _ rfl rfl ?_
  rintro d rfl
  simp only [go_sem, simprocAttr, rows_get hx]
  refine (law1_Few x.host).callX (enters_of Tryz.func21 rfl rfl) _ rfl rfl ?_
  rintro d rfl
  simp only [go_sem, simprocAttr, rows_get hx]
  refine (law1_Few x.path).callX (enters_of Tryz.func21 rfl rfl) _ rfl rfl ?_
  rintro d rfl
  simp only [go_sem, simprocAttr, rows_get hx, hw]
  have hl := few_len (f := AFilter.pd) (g := fewFilter) (l := l) hi6
  have hl2 := hl
  rw [rows_len] at hl2
  have hl' : ((l.take i).map fewFilter).length ≤ i := by simp; omega
  have e1 : rows AFilter.pd ((l.take i).map fewFilter) ++ [[PD.raw (Value.int IntKind.i64 x.kind), PD.raw (Value.string (few x.name)), PD.raw (Value.string (few x.val)), PD.raw (Value.string (few x.host)), PD.raw (Value.int IntKind.i64 x.port), PD.raw (Value.string (few x.path)), PD.raw (Value.bool x.whole), PD.raw (Value.int IntKind.i64 x.code)]] = rows AFilter.pd ((l.take (i + 1)).map fewFilter) := few_step hx
  rw [e1]
  refine ⟨by simp, by unfold maxLen; omega, by omega, 9 - (i + 1), _, by omega, ?_, i + 1, rfl, by omega, by omega, rfl⟩
  exact lessA
 ·have h3 := few_end (g := fewFilter) hi6 hi hlt
  rw [h3]
  by_cases h1 : i < l.length
  ·have h1' : ((i : Int) < (l.length : Int)) = True := eq_true (by omega)
   have h2 : ((i : Int) < 9) = False := eq_false (by omega)
   simp only [go_sem, simprocAttr, h1', h2]
   simp only [retK, resD, retL, oneD, simprocAttr, Tryz.results27]
   exact ⟨_, rfl, rfl, rfl⟩
  ·have h1' : ((i : Int) < (l.length : Int)) = False := eq_false (by omega)
   simp only [go_sem, simprocAttr, h1']
   simp only [retK, resD, retL, oneD, simprocAttr, Tryz.results27]
   exact ⟨_, rfl, rfl, rfl⟩

theorem law9_sides (l : List ASide) : Pure Tryz.prog 25 [.pd (.slice (rows ASide.pd l))] (fun d => d = .pd (.slice (rows ASide.pd (fewSides l)))) := by
 refine pure_of_run follows an_zg0x2 Tryz.func25 rfl ok_zg0x2.1 ok_zg0x2.2 (by simp [Tryz.ntmps25]) ?_
 rw [run_start]
 simp only [ac_zg0x2, go_sem, simprocAttr]
 refine loopS (fun k st => ∃ i : Nat, k = 5 - i ∧ i ≤ 5 ∧ i ≤ l.length ∧
  st = ⟨[(0, .pd (.slice (rows ASide.pd l))), (3, .own 91 3 (rows ASide.pd ((l.take i).map fewSide)) 35), (4, int i)], [], [], .no⟩) 5 _
  ?_ ⟨0, rfl, by omega, by omega, rfl⟩ ?_
 ·exact Weak.own1 3 35 91 3 (by kernel_rfl) (by decide) rfl (by simp [lessL, lk, St.purge, St.put, D.purge, rows]) (by simp [lessL, lk, St.purge, D.purges, D.purge]) (by simp [lessL]) rfl
 rintro k st ⟨i, rfl, hi6, hi, rfl⟩
 have hw := i64_succ (show i < 1000000000 by omega)
 by_cases hlt : i < l.length ∧ i < 5
 ·obtain ⟨x, hx⟩ := at_lt hlt.1
  have h1 : ((i : Int) < (l.length : Int)) = True := eq_true (by omega)
  have h2 : ((i : Int) < 5) = True := eq_true (by omega)
  simp only [go_sem, simprocAttr, rows_get hx, h1, h2]
  refine (law1_Few x.space).callX (enters_of Tryz.func21 rfl rfl) _ rfl rfl ?_
  rintro d rfl
  simp only [go_sem, simprocAttr, rows_get hx]
  refine (law1_Few x.name).callX (enters_of Tryz.func21 rfl rfl) _ rfl rfl ?_
  rintro d rfl
  simp only [go_sem, simprocAttr, rows_get hx, hw]
  have hl := few_len (f := ASide.pd) (g := fewSide) (l := l) hi6
  have hl2 := hl
  rw [rows_len] at hl2
  have hl' : ((l.take i).map fewSide).length ≤ i := by simp; omega
  have e1 : rows ASide.pd ((l.take i).map fewSide) ++ [[PD.raw (Value.int IntKind.i64 x.kind), PD.raw (Value.string (few x.space)), PD.raw (Value.string (few x.name))]] = rows ASide.pd ((l.take (i + 1)).map fewSide) := few_step hx
  rw [e1]
  refine ⟨by simp, by unfold maxLen; omega, by omega, 5 - (i + 1), _, by omega, ?_, i + 1, rfl, by omega, by omega, rfl⟩
  exact lessA
 ·have h3 := few_end (g := fewSide) hi6 hi hlt
  rw [h3]
  by_cases h1 : i < l.length
  ·have h1' : ((i : Int) < (l.length : Int)) = True := eq_true (by omega)
   have h2 : ((i : Int) < 5) = False := eq_false (by omega)
   simp only [go_sem, simprocAttr, h1', h2]
   simp only [retK, resD, retL, oneD, simprocAttr, Tryz.results25]
   exact ⟨_, rfl, rfl, rfl⟩
  ·have h1' : ((i : Int) < (l.length : Int)) = False := eq_false (by omega)
   simp only [go_sem, simprocAttr, h1']
   simp only [retK, resD, retL, oneD, simprocAttr, Tryz.results25]
   exact ⟨_, rfl, rfl, rfl⟩

def fewMatch (m : AMatch) : AMatch := ⟨m.pkind, few m.pval, few m.method, fewPairs m.head, fewPairs m.query⟩

theorem law6_Few (m : AMatch) : Pure Tryz.prog 28 [m.d] (fun d => d = (fewMatch m).d) := by
 refine pure_of_run follows an_zt3fs Tryz.func28 rfl ok_zt3fs.1 ok_zt3fs.2 (by simp [Tryz.ntmps28]) ?_
 rw [run_start]
 simp only [ac_zt3fs, go_sem, simprocAttr]
 refine (law3_Few m.pkind m.pval).callX (enters_of Tryz.func48 rfl rfl) _ rfl rfl ?_
 rintro d rfl
 simp only [go_sem, simprocAttr]
 refine (law1_Few m.method).callX (enters_of Tryz.func21 rfl rfl) _ rfl rfl ?_
 rintro d rfl
 simp only [go_sem, simprocAttr]
 refine (law5_Few m.head).callX (enters_of Tryz.func24 rfl rfl) _ rfl rfl ?_
 rintro d rfl
 simp only [go_sem, simprocAttr]
 refine (law5_Few m.query).callX (enters_of Tryz.func24 rfl rfl) _ rfl rfl ?_
 rintro d rfl
 simp only [go_sem, simprocAttr]
 simp only [retK, resD, resA, AOp.ex, St.ev, retL, oneD, simprocAttr, ret_zt3fs]
 exact ⟨_, rfl, rfl, rfl⟩

def fewNeed (n : ANeed) : ANeed := ⟨n.kind, few n.name, (n.vals.take 9).map few⟩
def fewNeeds (l : List ANeed) : List ANeed := (l.take 9).map fewNeed

theorem law8_Few (l : List ANeed) : Pure Tryz.prog 26 [.pd (.slice (rows ANeed.pd l))] (fun d => d = .pd (.slice (rows ANeed.pd (fewNeeds l)))) := by
 refine pure_of_run follows an_zpih5 Tryz.func26 rfl ok_zpih5.1 ok_zpih5.2 (by simp [Tryz.ntmps26]) ?_
 rw [run_start]
 simp only [ac_zpih5, go_sem, simprocAttr]
 refine loopS (fun k st => ∃ i : Nat, k = 9 - i ∧ i ≤ 9 ∧ i ≤ l.length ∧
  st = ⟨[(0, .pd (.slice (rows ANeed.pd l))), (3, .own 93 3 (rows ANeed.pd ((l.take i).map fewNeed)) 60), (4, int i)], [], [], .no⟩) 9 _
  ?_ ⟨0, rfl, by omega, by omega, rfl⟩ ?_
 ·exact Weak.own1 3 60 93 3 (by kernel_rfl) (by decide) rfl (by simp [lessL, lk, St.purge, St.put, D.purge, rows]) (by simp [lessL, lk, St.purge, D.purges, D.purge]) (by simp [lessL]) rfl
 rintro k st ⟨i, rfl, hi6, hi, rfl⟩
 have hw := i64_succ (show i < 1000000000 by omega)
 by_cases hlt : i < l.length ∧ i < 9
 ·obtain ⟨x, hx⟩ := at_lt hlt.1
  have h1 : ((i : Int) < (l.length : Int)) = True := eq_true (by omega)
  have h2 : ((i : Int) < 9) = True := eq_true (by omega)
  apply run_cut
  ·intro K' hK
   simp only [go_sem, simprocAttr, h1, h2]
   exact hK
  apply run_cut
  ·intro K' hK
   rw [run_block]
   apply run_cut
   ·intro K'' hK'
    simp only [go_sem, simprocAttr, rows_get hx]
    repeat' (first | exact hK' | (refine (law1_Few x.name).callX (enters_of Tryz.func21 rfl rfl) _ rfl rfl ?_; rintro _ rfl; simp only [go_sem, simprocAttr, rows_get hx]) | refine And.intro ?_ ?_)
   simp only [go_sem, simprocAttr]
   refine loopS (fun k st => ∃ j : Nat, k = 9 - j ∧ j ≤ 9 ∧ j ≤ x.vals.length ∧
    st = ⟨[(0, .pd (.slice (rows ANeed.pd l))), (3, .own 93 3 (rows ANeed.pd ((l.take i).map fewNeed)) 60), (4, int i), (5, .ptr 5 0), (6, int j)],
     [(5, [int x.kind, str (few x.name), .own 9 1 (strs ((x.vals.take j).map few)) 55])], [], .no⟩) 9 _
    ?_ ⟨0, rfl, by omega, by omega, rfl⟩ ?_
   ·exact Weak.ownB 5 2 55 9 1 (by kernel_rfl) (by decide) rfl rfl (by simp [lessL, lk, St.purge, D.purge, rows]) (by simp [lessL, lk, St.purge, D.purges, D.purge, rows]) (by simp [lessL]) rfl
   rintro k st ⟨j, rfl, hj6, hj, rfl⟩
   have hwj := i64_succ (show j < 1000000000 by omega)
   by_cases hltj : j < x.vals.length ∧ j < 9
   ·obtain ⟨v, hv⟩ := at_lt hltj.1
    have h1' : ((j : Int) < (x.vals.length : Int)) = True := eq_true (by omega)
    have h2' : ((j : Int) < 9) = True := eq_true (by omega)
    simp only [go_sem, simprocAttr, rows_get hx, rows_get hv, h1', h2']
    refine (law1_Few v).callX (enters_of Tryz.func21 rfl rfl) _ rfl rfl ?_
    rintro d rfl
    simp only [go_sem, simprocAttr, rows_get hx, rows_get hv, hwj]
    have e1 : strs ((x.vals.take j).map few) ++ [[PD.raw (Value.string (few v))]] = strs ((x.vals.take (j + 1)).map few) := few_step hv
    have hl : (strs ((x.vals.take j).map few)).length ≤ 9 := few_len hj6
    have hl2 := hl
    rw [rows_len] at hl2
    rw [e1]
    refine ⟨by simp, by unfold maxLen; omega, by omega, 9 - (j + 1), _, by omega, ?_, j + 1, rfl, by omega, by omega, rfl⟩
    exact lessA
   ·have h3 := few_end (g := few) hj6 hj hltj
    rw [h3]
    have hl' : ((l.take i).map fewNeed).length ≤ i := by simp; omega
    have e1 : rows ANeed.pd ((l.take i).map fewNeed) ++ [[pInt x.kind, pStr (few x.name), .slice (strs ((x.vals.take 9).map few))]] = rows ANeed.pd ((l.take (i + 1)).map fewNeed) := few_step hx
    by_cases h1 : j < x.vals.length
    ·have h1' : ((j : Int) < (x.vals.length : Int)) = True := eq_true (by omega)
     have h2' : ((j : Int) < 9) = False := eq_false (by omega)
     simp only [go_sem, simprocAttr, rows_get hx, rows_len, h1', h2']
     refine ⟨by simp, by unfold maxLen; omega, by omega, ?_⟩
     rw [e1]
     exact hK
    ·have h1' : ((j : Int) < (x.vals.length : Int)) = False := eq_false (by omega)
     simp only [go_sem, simprocAttr, rows_get hx, rows_len, h1']
     refine ⟨by simp, by unfold maxLen; omega, by omega, ?_⟩
     rw [e1]
     exact hK
  simp only [go_sem, simprocAttr, hw]
  refine ⟨9 - (i + 1), _, by omega, ?_, i + 1, rfl, by omega, by omega, rfl⟩
  exact lessA
 ·have h3 := few_end (g := fewNeed) hi6 hi hlt
  rw [h3]
  by_cases h1 : i < l.length
  ·have h1' : ((i : Int) < (l.length : Int)) = True := eq_true (by omega)
   have h2 : ((i : Int) < 9) = False := eq_false (by omega)
   simp only [go_sem, simprocAttr, h1', h2]
   simp only [retK, resD, retL, oneD, simprocAttr, Tryz.results26]
   exact ⟨_, rfl, rfl, rfl⟩
  ·have h1' : ((i : Int) < (l.length : Int)) = False := eq_false (by omega)
   simp only [go_sem, simprocAttr, h1']
   simp only [retK, resD, retL, oneD, simprocAttr, Tryz.results26]
   exact ⟨_, rfl, rfl, rfl⟩


theorem run_cutJ {P : Program} {x y : AC} {st : St} {S : List Fr} {K : Exit → St → Prop} (J : St → Prop) (h1 : ∀ K' : Exit → St → Prop, (∀ s, J s → K' .normal s) → run P x st (contS P [] K')) (h2 : ∀ s, J s → run P y s (contS P S K)) : run P (.seq x y) st (contS P S K) := by
 rw [run_seq]; exact h1 (contS P (.seq y :: S) K) h2

def fewListener (l : AListener) : AListener := ⟨few l.name, l.port, l.tls, few l.host, fewRef l.cert, l.from_, fewNeeds l.needs⟩
def fewParent (p : AParent) : AParent := ⟨few p.space, few p.name, few p.section_, p.port⟩
def fewBackend (b : ABackend) : ABackend := ⟨fewRef b.ref, b.port, b.weight⟩
def fewRule (r : ARule) : ARule := ⟨(r.matches_.take 5).map fewMatch, fewFilters r.filters, (r.backends.take 5).map fewBackend⟩
def fewObj (o : AObj) : AObj := ⟨fewRef o.ref, o.good, fewPairs o.labels, o.ports.take 9, few o.cls, (o.listeners.take 9).map fewListener, (o.parents.take 5).map fewParent, (o.hosts.take 5).map few, (o.rules.take 7).map fewRule, fewSides o.from_, fewSides o.to_⟩

set_option maxHeartbeats 4000000 in
theorem law9_Few (o : AObj) : Pure Tryz.prog 10 [o.d] (fun d => d = (fewObj o).d) := by
 refine pure_of_run follows an_z8s55 Tryz.func10 rfl ok_z8s55.1 ok_z8s55.2 (by simp [Tryz.ntmps10]) ?_
 rw [run_start]
 simp only [ac_z8s55]
 apply run_cut
 ·intro K' hK
  simp only [go_sem, simprocAttr]
  exact hK
 apply run_cut
 ·intro K' hK
  simp only [go_sem, simprocAttr]
  repeat' (first | exact hK | (refine (law9_FewRef o.ref).callX (enters_of Tryz.func20 rfl rfl) _ rfl rfl ?_; rintro _ rfl; simp only [go_sem, simprocAttr]) | (refine (law5_Few o.labels).callX (enters_of Tryz.func24 rfl rfl) _ rfl rfl ?_; rintro _ rfl; simp only [go_sem, simprocAttr]) | (refine (law1_Few o.cls).callX (enters_of Tryz.func21 rfl rfl) _ rfl rfl ?_; rintro _ rfl; simp only [go_sem, simprocAttr]) | (refine (law9_sides o.from_).callX (enters_of Tryz.func25 rfl rfl) _ rfl rfl ?_; rintro _ rfl; simp only [go_sem, simprocAttr]) | (refine (law9_sides o.to_).callX (enters_of Tryz.func25 rfl rfl) _ rfl rfl ?_; rintro _ rfl; simp only [go_sem, simprocAttr]) | refine And.intro ?_ ?_)
 refine run_cutJ (fun s => ∃ i : Nat, s = ⟨[(41, bln false), (1, .ptr 1 0), (2, .ptr 2 0), (3, .ptr 3 0), (4, int i), (41, bln false)], [(1, [int o.ref.kind, str o.ref.space, str o.ref.name, bln o.good, .pd (.slice (rows APair.pd o.labels)), .pd (.slice (ints o.ports)), str o.cls, .pd (.slice (rows AListener.pd o.listeners)), .pd (.slice (rows AParent.pd o.parents)), .pd (.slice (strs o.hosts)), .pd (.slice (rows ARule.pd o.rules)), .pd (.slice (rows ASide.pd o.from_)), .pd (.slice (rows ASide.pd o.to_))]), (2, [int 0, str ⟨#[]⟩, str ⟨#[]⟩, bln false, .nils, .nils, str ⟨#[]⟩, .nils, .nils, .nils, .nils, .nils, .nils]), (3, [int (fewRef o.ref).kind, str (fewRef o.ref).space, str (fewRef o.ref).name, bln o.good, .pd (.slice (rows APair.pd (fewPairs o.labels))), .own 3 1 (rows cInt ((o.ports.take 9).map id)) 52, str (few o.cls), .nils, .nils, .nils, .nils, .pd (.slice (rows ASide.pd (fewSides o.from_))), .pd (.slice (rows ASide.pd (fewSides o.to_)))])], [], .no⟩) ?_ ?_
 ·intro K' hK
  simp only [go_sem, simprocAttr]
  refine loopS (fun k st => ∃ i : Nat, k = 9 - i ∧ i ≤ 9 ∧ i ≤ o.ports.length ∧
   st = ⟨[(1, .ptr 1 0), (2, .ptr 2 0), (3, .ptr 3 0), (4, int i)], [(1, [int o.ref.kind, str o.ref.space, str o.ref.name, bln o.good, .pd (.slice (rows APair.pd o.labels)), .pd (.slice (ints o.ports)), str o.cls, .pd (.slice (rows AListener.pd o.listeners)), .pd (.slice (rows AParent.pd o.parents)), .pd (.slice (strs o.hosts)), .pd (.slice (rows ARule.pd o.rules)), .pd (.slice (rows ASide.pd o.from_)), .pd (.slice (rows ASide.pd o.to_))]), (2, [int 0, str ⟨#[]⟩, str ⟨#[]⟩, bln false, .nils, .nils, str ⟨#[]⟩, .nils, .nils, .nils, .nils, .nils, .nils]), (3, [int (fewRef o.ref).kind, str (fewRef o.ref).space, str (fewRef o.ref).name, bln o.good, .pd (.slice (rows APair.pd (fewPairs o.labels))), .own 3 1 (rows cInt ((o.ports.take i).map id)) 52, str (few o.cls), .nils, .nils, .nils, .nils, .pd (.slice (rows ASide.pd (fewSides o.from_))), .pd (.slice (rows ASide.pd (fewSides o.to_)))])], [], .no⟩) 9 _
   ?_ ⟨0, rfl, by omega, by omega, rfl⟩ ?_
  ·exact Weak.ownB 3 5 52 3 1 (by kernel_rfl) (by decide) rfl rfl (by simp [lessL, lk, St.purge, D.purge, rows]) (by simp [lessL, lk, St.purge, D.purges, D.purge, rows]) (by simp [lessL]) rfl
  rintro k st ⟨i, rfl, hi6, hi, rfl⟩
  have hw := i64_succ (show i < 1000000000 by omega)
  by_cases hlt : i < o.ports.length ∧ i < 9
  ·obtain ⟨x, hx⟩ := at_lt hlt.1
   have h1 : ((i : Int) < (o.ports.length : Int)) = True := eq_true (by omega)
   have h2 : ((i : Int) < 9) = True := eq_true (by omega)
   have hl' : ((o.ports.take i).map id).length ≤ i := by simp; omega
   have e1 : rows cInt ((o.ports.take i).map id) ++ [[PD.raw (Value.int IntKind.i64 x)]] = rows cInt ((o.ports.take (i + 1)).map id) := few_step hx
   simp only [go_sem, simprocAttr, rows_get hx, h1, h2]
   simp only [go_sem, simprocAttr, hw, e1]
   refine ⟨by simp, by unfold maxLen; omega, by omega, 9 - (i + 1), _, by omega, ?_, i + 1, rfl, by omega, by omega, rfl⟩
   exact lessA
  ·have h3 := few_end (g := id) hi6 hi hlt
   rw [h3]
   by_cases h1 : i < o.ports.length
   ·have h1' : ((i : Int) < (o.ports.length : Int)) = True := eq_true (by omega)
    have h2 : ((i : Int) < 9) = False := eq_false (by omega)
    simp only [go_sem, simprocAttr, h1', h2]
    exact hK _ ⟨i, rfl⟩
   ·have h1' : ((i : Int) < (o.ports.length : Int)) = False := eq_false (by omega)
    simp only [go_sem, simprocAttr, h1']
    exact hK _ ⟨i, rfl⟩
 rintro s ⟨_, rfl⟩
 refine run_cutJ (fun s => ∃ i : Nat, s = ⟨[(62, bln false), (1, .ptr 1 0), (2, .ptr 2 0), (3, .ptr 3 0), (5, int i), (62, bln false)], [(1, [int o.ref.kind, str o.ref.space, str o.ref.name, bln o.good, .pd (.slice (rows APair.pd o.labels)), .pd (.slice (ints o.ports)), str o.cls, .pd (.slice (rows AListener.pd o.listeners)), .pd (.slice (rows AParent.pd o.parents)), .pd (.slice (strs o.hosts)), .pd (.slice (rows ARule.pd o.rules)), .pd (.slice (rows ASide.pd o.from_)), .pd (.slice (rows ASide.pd o.to_))]), (2, [int 0, str ⟨#[]⟩, str ⟨#[]⟩, bln false, .nils, .nils, str ⟨#[]⟩, .nils, .nils, .nils, .nils, .nils, .nils]), (3, [int (fewRef o.ref).kind, str (fewRef o.ref).space, str (fewRef o.ref).name, bln o.good, .pd (.slice (rows APair.pd (fewPairs o.labels))), .own 3 1 (rows cInt ((o.ports.take 9).map id)) 52, str (few o.cls), .own 49 9 (rows AListener.pd ((o.listeners.take 9).map fewListener)) 92, .nils, .nils, .nils, .pd (.slice (rows ASide.pd (fewSides o.from_))), .pd (.slice (rows ASide.pd (fewSides o.to_)))])], [], .no⟩) ?_ ?_
 ·intro K' hK
  simp only [go_sem, simprocAttr]
  refine loopS (fun k st => ∃ i : Nat, k = 9 - i ∧ i ≤ 9 ∧ i ≤ o.listeners.length ∧
   st = ⟨[(1, .ptr 1 0), (2, .ptr 2 0), (3, .ptr 3 0), (5, int i)], [(1, [int o.ref.kind, str o.ref.space, str o.ref.name, bln o.good, .pd (.slice (rows APair.pd o.labels)), .pd (.slice (ints o.ports)), str o.cls, .pd (.slice (rows AListener.pd o.listeners)), .pd (.slice (rows AParent.pd o.parents)), .pd (.slice (strs o.hosts)), .pd (.slice (rows ARule.pd o.rules)), .pd (.slice (rows ASide.pd o.from_)), .pd (.slice (rows ASide.pd o.to_))]), (2, [int 0, str ⟨#[]⟩, str ⟨#[]⟩, bln false, .nils, .nils, str ⟨#[]⟩, .nils, .nils, .nils, .nils, .nils, .nils]), (3, [int (fewRef o.ref).kind, str (fewRef o.ref).space, str (fewRef o.ref).name, bln o.good, .pd (.slice (rows APair.pd (fewPairs o.labels))), .own 3 1 (rows cInt ((o.ports.take 9).map id)) 52, str (few o.cls), .own 49 9 (rows AListener.pd ((o.listeners.take i).map fewListener)) 92, .nils, .nils, .nils, .pd (.slice (rows ASide.pd (fewSides o.from_))), .pd (.slice (rows ASide.pd (fewSides o.to_)))])], [], .no⟩) 9 _
   ?_ ⟨0, rfl, by omega, by omega, rfl⟩ ?_
  ·exact Weak.ownB 3 7 92 49 9 (by kernel_rfl) (by decide) rfl rfl (by simp [lessL, lk, St.purge, D.purge, rows]) (by simp [lessL, lk, St.purge, D.purges, D.purge, rows]) (by simp [lessL]) rfl
  rintro k st ⟨i, rfl, hi6, hi, rfl⟩
  have hw := i64_succ (show i < 1000000000 by omega)
  by_cases hlt : i < o.listeners.length ∧ i < 9
  ·obtain ⟨x, hx⟩ := at_lt hlt.1
   have h1 : ((i : Int) < (o.listeners.length : Int)) = True := eq_true (by omega)
   have h2 : ((i : Int) < 9) = True := eq_true (by omega)
   have hl' : ((o.listeners.take i).map fewListener).length ≤ i := by simp; omega
   have e1 : rows AListener.pd ((o.listeners.take i).map fewListener) ++ [[PD.raw (Value.string (few x.name)), PD.raw (Value.int IntKind.i64 x.port), PD.raw (Value.bool x.tls), PD.raw (Value.string (few x.host)), PD.raw (Value.int IntKind.i64 (fewRef x.cert).kind), PD.raw (Value.string ((fewRef x.cert).space)), PD.raw (Value.string ((fewRef x.cert).name)), PD.raw (Value.int IntKind.i64 x.from_), PD.slice (rows ANeed.pd (fewNeeds x.needs))]] = rows AListener.pd ((o.listeners.take (i + 1)).map fewListener) := few_step hx
   simp only [go_sem, simprocAttr, rows_get hx, h1, h2]
   repeat' (first | (refine (law1_Few x.name).callX (enters_of Tryz.func21 rfl rfl) _ rfl rfl ?_; rintro _ rfl; simp only [go_sem, simprocAttr, rows_get hx]) | (refine (law1_Few x.host).callX (enters_of Tryz.func21 rfl rfl) _ rfl rfl ?_; rintro _ rfl; simp only [go_sem, simprocAttr, rows_get hx]) | (refine (law9_FewRef x.cert).callX (enters_of Tryz.func20 rfl rfl) _ rfl rfl ?_; rintro _ rfl; simp only [go_sem, simprocAttr, rows_get hx]) | (refine (law8_Few x.needs).callX (enters_of Tryz.func26 rfl rfl) _ rfl rfl ?_; rintro _ rfl; simp only [go_sem, simprocAttr, rows_get hx]))
   simp only [go_sem, simprocAttr, hw, e1]
   refine ⟨by simp, by unfold maxLen; omega, by omega, 9 - (i + 1), _, by omega, ?_, i + 1, rfl, by omega, by omega, rfl⟩
   exact lessA
  ·have h3 := few_end (g := fewListener) hi6 hi hlt
   rw [h3]
   by_cases h1 : i < o.listeners.length
   ·have h1' : ((i : Int) < (o.listeners.length : Int)) = True := eq_true (by omega)
    have h2 : ((i : Int) < 9) = False := eq_false (by omega)
    simp only [go_sem, simprocAttr, h1', h2]
    exact hK _ ⟨i, rfl⟩
   ·have h1' : ((i : Int) < (o.listeners.length : Int)) = False := eq_false (by omega)
    simp only [go_sem, simprocAttr, h1']
    exact hK _ ⟨i, rfl⟩
 rintro s ⟨_, rfl⟩
 refine run_cutJ (fun s => ∃ i : Nat, s = ⟨[(102, bln false), (1, .ptr 1 0), (2, .ptr 2 0), (3, .ptr 3 0), (7, int i), (102, bln false)], [(1, [int o.ref.kind, str o.ref.space, str o.ref.name, bln o.good, .pd (.slice (rows APair.pd o.labels)), .pd (.slice (ints o.ports)), str o.cls, .pd (.slice (rows AListener.pd o.listeners)), .pd (.slice (rows AParent.pd o.parents)), .pd (.slice (strs o.hosts)), .pd (.slice (rows ARule.pd o.rules)), .pd (.slice (rows ASide.pd o.from_)), .pd (.slice (rows ASide.pd o.to_))]), (2, [int 0, str ⟨#[]⟩, str ⟨#[]⟩, bln false, .nils, .nils, str ⟨#[]⟩, .nils, .nils, .nils, .nils, .nils, .nils]), (3, [int (fewRef o.ref).kind, str (fewRef o.ref).space, str (fewRef o.ref).name, bln o.good, .pd (.slice (rows APair.pd (fewPairs o.labels))), .own 3 1 (rows cInt ((o.ports.take 9).map id)) 52, str (few o.cls), .own 49 9 (rows AListener.pd ((o.listeners.take 9).map fewListener)) 92, .own 55 4 (rows AParent.pd ((o.parents.take 5).map fewParent)) 125, .nils, .nils, .pd (.slice (rows ASide.pd (fewSides o.from_))), .pd (.slice (rows ASide.pd (fewSides o.to_)))])], [], .no⟩) ?_ ?_
 ·intro K' hK
  simp only [go_sem, simprocAttr]
  refine loopS (fun k st => ∃ i : Nat, k = 5 - i ∧ i ≤ 5 ∧ i ≤ o.parents.length ∧
   st = ⟨[(1, .ptr 1 0), (2, .ptr 2 0), (3, .ptr 3 0), (7, int i)], [(1, [int o.ref.kind, str o.ref.space, str o.ref.name, bln o.good, .pd (.slice (rows APair.pd o.labels)), .pd (.slice (ints o.ports)), str o.cls, .pd (.slice (rows AListener.pd o.listeners)), .pd (.slice (rows AParent.pd o.parents)), .pd (.slice (strs o.hosts)), .pd (.slice (rows ARule.pd o.rules)), .pd (.slice (rows ASide.pd o.from_)), .pd (.slice (rows ASide.pd o.to_))]), (2, [int 0, str ⟨#[]⟩, str ⟨#[]⟩, bln false, .nils, .nils, str ⟨#[]⟩, .nils, .nils, .nils, .nils, .nils, .nils]), (3, [int (fewRef o.ref).kind, str (fewRef o.ref).space, str (fewRef o.ref).name, bln o.good, .pd (.slice (rows APair.pd (fewPairs o.labels))), .own 3 1 (rows cInt ((o.ports.take 9).map id)) 52, str (few o.cls), .own 49 9 (rows AListener.pd ((o.listeners.take 9).map fewListener)) 92, .own 55 4 (rows AParent.pd ((o.parents.take i).map fewParent)) 125, .nils, .nils, .pd (.slice (rows ASide.pd (fewSides o.from_))), .pd (.slice (rows ASide.pd (fewSides o.to_)))])], [], .no⟩) 5 _
   ?_ ⟨0, rfl, by omega, by omega, rfl⟩ ?_
  ·exact Weak.ownB 3 8 125 55 4 (by kernel_rfl) (by decide) rfl rfl (by simp [lessL, lk, St.purge, D.purge, rows]) (by simp [lessL, lk, St.purge, D.purges, D.purge, rows]) (by simp [lessL]) rfl
  rintro k st ⟨i, rfl, hi6, hi, rfl⟩
  have hw := i64_succ (show i < 1000000000 by omega)
  by_cases hlt : i < o.parents.length ∧ i < 5
  ·obtain ⟨x, hx⟩ := at_lt hlt.1
   have h1 : ((i : Int) < (o.parents.length : Int)) = True := eq_true (by omega)
   have h2 : ((i : Int) < 5) = True := eq_true (by omega)
   have hl' : ((o.parents.take i).map fewParent).length ≤ i := by simp; omega
   have e1 : rows AParent.pd ((o.parents.take i).map fewParent) ++ [[PD.raw (Value.string (few x.space)), PD.raw (Value.string (few x.name)), PD.raw (Value.string (few x.section_)), PD.raw (Value.int IntKind.i64 x.port)]] = rows AParent.pd ((o.parents.take (i + 1)).map fewParent) := few_step hx
   simp only [go_sem, simprocAttr, rows_get hx, h1, h2]
   repeat' (first | (refine (law1_Few x.space).callX (enters_of Tryz.func21 rfl rfl) _ rfl rfl ?_; rintro _ rfl; simp only [go_sem, simprocAttr, rows_get hx]) | (refine (law1_Few x.name).callX (enters_of Tryz.func21 rfl rfl) _ rfl rfl ?_; rintro _ rfl; simp only [go_sem, simprocAttr, rows_get hx]) | (refine (law1_Few x.section_).callX (enters_of Tryz.func21 rfl rfl) _ rfl rfl ?_; rintro _ rfl; simp only [go_sem, simprocAttr, rows_get hx]))
   simp only [go_sem, simprocAttr, hw, e1]
   refine ⟨by simp, by unfold maxLen; omega, by omega, 5 - (i + 1), _, by omega, ?_, i + 1, rfl, by omega, by omega, rfl⟩
   exact lessA
  ·have h3 := few_end (g := fewParent) hi6 hi hlt
   rw [h3]
   by_cases h1 : i < o.parents.length
   ·have h1' : ((i : Int) < (o.parents.length : Int)) = True := eq_true (by omega)
    have h2 : ((i : Int) < 5) = False := eq_false (by omega)
    simp only [go_sem, simprocAttr, h1', h2]
    exact hK _ ⟨i, rfl⟩
   ·have h1' : ((i : Int) < (o.parents.length : Int)) = False := eq_false (by omega)
    simp only [go_sem, simprocAttr, h1']
    exact hK _ ⟨i, rfl⟩
 rintro s ⟨_, rfl⟩
 refine run_cutJ (fun s => ∃ i : Nat, s = ⟨[(135, bln false), (1, .ptr 1 0), (2, .ptr 2 0), (3, .ptr 3 0), (9, int i), (135, bln false)], [(1, [int o.ref.kind, str o.ref.space, str o.ref.name, bln o.good, .pd (.slice (rows APair.pd o.labels)), .pd (.slice (ints o.ports)), str o.cls, .pd (.slice (rows AListener.pd o.listeners)), .pd (.slice (rows AParent.pd o.parents)), .pd (.slice (strs o.hosts)), .pd (.slice (rows ARule.pd o.rules)), .pd (.slice (rows ASide.pd o.from_)), .pd (.slice (rows ASide.pd o.to_))]), (2, [int 0, str ⟨#[]⟩, str ⟨#[]⟩, bln false, .nils, .nils, str ⟨#[]⟩, .nils, .nils, .nils, .nils, .nils, .nils]), (3, [int (fewRef o.ref).kind, str (fewRef o.ref).space, str (fewRef o.ref).name, bln o.good, .pd (.slice (rows APair.pd (fewPairs o.labels))), .own 3 1 (rows cInt ((o.ports.take 9).map id)) 52, str (few o.cls), .own 49 9 (rows AListener.pd ((o.listeners.take 9).map fewListener)) 92, .own 55 4 (rows AParent.pd ((o.parents.take 5).map fewParent)) 125, .own 9 1 (rows cStr ((o.hosts.take 5).map few)) 147, .nils, .pd (.slice (rows ASide.pd (fewSides o.from_))), .pd (.slice (rows ASide.pd (fewSides o.to_)))])], [], .no⟩) ?_ ?_
 ·intro K' hK
  simp only [go_sem, simprocAttr]
  refine loopS (fun k st => ∃ i : Nat, k = 5 - i ∧ i ≤ 5 ∧ i ≤ o.hosts.length ∧
   st = ⟨[(1, .ptr 1 0), (2, .ptr 2 0), (3, .ptr 3 0), (9, int i)], [(1, [int o.ref.kind, str o.ref.space, str o.ref.name, bln o.good, .pd (.slice (rows APair.pd o.labels)), .pd (.slice (ints o.ports)), str o.cls, .pd (.slice (rows AListener.pd o.listeners)), .pd (.slice (rows AParent.pd o.parents)), .pd (.slice (strs o.hosts)), .pd (.slice (rows ARule.pd o.rules)), .pd (.slice (rows ASide.pd o.from_)), .pd (.slice (rows ASide.pd o.to_))]), (2, [int 0, str ⟨#[]⟩, str ⟨#[]⟩, bln false, .nils, .nils, str ⟨#[]⟩, .nils, .nils, .nils, .nils, .nils, .nils]), (3, [int (fewRef o.ref).kind, str (fewRef o.ref).space, str (fewRef o.ref).name, bln o.good, .pd (.slice (rows APair.pd (fewPairs o.labels))), .own 3 1 (rows cInt ((o.ports.take 9).map id)) 52, str (few o.cls), .own 49 9 (rows AListener.pd ((o.listeners.take 9).map fewListener)) 92, .own 55 4 (rows AParent.pd ((o.parents.take 5).map fewParent)) 125, .own 9 1 (rows cStr ((o.hosts.take i).map few)) 147, .nils, .pd (.slice (rows ASide.pd (fewSides o.from_))), .pd (.slice (rows ASide.pd (fewSides o.to_)))])], [], .no⟩) 5 _
   ?_ ⟨0, rfl, by omega, by omega, rfl⟩ ?_
  ·exact Weak.ownB 3 9 147 9 1 (by kernel_rfl) (by decide) rfl rfl (by simp [lessL, lk, St.purge, D.purge, rows]) (by simp [lessL, lk, St.purge, D.purges, D.purge, rows]) (by simp [lessL]) rfl
  rintro k st ⟨i, rfl, hi6, hi, rfl⟩
  have hw := i64_succ (show i < 1000000000 by omega)
  by_cases hlt : i < o.hosts.length ∧ i < 5
  ·obtain ⟨x, hx⟩ := at_lt hlt.1
   have h1 : ((i : Int) < (o.hosts.length : Int)) = True := eq_true (by omega)
   have h2 : ((i : Int) < 5) = True := eq_true (by omega)
   have hl' : ((o.hosts.take i).map few).length ≤ i := by simp; omega
   have e1 : rows cStr ((o.hosts.take i).map few) ++ [[PD.raw (Value.string (few x))]] = rows cStr ((o.hosts.take (i + 1)).map few) := few_step hx
   simp only [go_sem, simprocAttr, rows_get hx, h1, h2]
   repeat' (first | (refine (law1_Few x).callX (enters_of Tryz.func21 rfl rfl) _ rfl rfl ?_; rintro _ rfl; simp only [go_sem, simprocAttr, rows_get hx]))
   simp only [go_sem, simprocAttr, hw, e1]
   refine ⟨by simp, by unfold maxLen; omega, by omega, 5 - (i + 1), _, by omega, ?_, i + 1, rfl, by omega, by omega, rfl⟩
   exact lessA
  ·have h3 := few_end (g := few) hi6 hi hlt
   rw [h3]
   by_cases h1 : i < o.hosts.length
   ·have h1' : ((i : Int) < (o.hosts.length : Int)) = True := eq_true (by omega)
    have h2 : ((i : Int) < 5) = False := eq_false (by omega)
    simp only [go_sem, simprocAttr, h1', h2]
    exact hK _ ⟨i, rfl⟩
   ·have h1' : ((i : Int) < (o.hosts.length : Int)) = False := eq_false (by omega)
    simp only [go_sem, simprocAttr, h1']
    exact hK _ ⟨i, rfl⟩
 rintro s ⟨_, rfl⟩
 refine run_cutJ (fun s => ∃ i : Nat, s = ⟨[(157, bln false), (1, .ptr 1 0), (2, .ptr 2 0), (3, .ptr 3 0), (10, int i), (157, bln false)], [(1, [int o.ref.kind, str o.ref.space, str o.ref.name, bln o.good, .pd (.slice (rows APair.pd o.labels)), .pd (.slice (ints o.ports)), str o.cls, .pd (.slice (rows AListener.pd o.listeners)), .pd (.slice (rows AParent.pd o.parents)), .pd (.slice (strs o.hosts)), .pd (.slice (rows ARule.pd o.rules)), .pd (.slice (rows ASide.pd o.from_)), .pd (.slice (rows ASide.pd o.to_))]), (2, [int 0, str ⟨#[]⟩, str ⟨#[]⟩, bln false, .nils, .nils, str ⟨#[]⟩, .nils, .nils, .nils, .nils, .nils, .nils]), (3, [int (fewRef o.ref).kind, str (fewRef o.ref).space, str (fewRef o.ref).name, bln o.good, .pd (.slice (rows APair.pd (fewPairs o.labels))), .own 3 1 (rows cInt ((o.ports.take 9).map id)) 52, str (few o.cls), .own 49 9 (rows AListener.pd ((o.listeners.take 9).map fewListener)) 92, .own 55 4 (rows AParent.pd ((o.parents.take 5).map fewParent)) 125, .own 9 1 (rows cStr ((o.hosts.take 5).map few)) 147, .own 69 3 (rows ARule.pd ((o.rules.take 7).map fewRule)) 239, .pd (.slice (rows ASide.pd (fewSides o.from_))), .pd (.slice (rows ASide.pd (fewSides o.to_)))])], [], .no⟩) ?_ ?_
 ·intro K' hK
  simp only [go_sem, simprocAttr]
  refine loopS (fun k st => ∃ i : Nat, k = 7 - i ∧ i ≤ 7 ∧ i ≤ o.rules.length ∧
   st = ⟨[(1, .ptr 1 0), (2, .ptr 2 0), (3, .ptr 3 0), (10, int i)], [(1, [int o.ref.kind, str o.ref.space, str o.ref.name, bln o.good, .pd (.slice (rows APair.pd o.labels)), .pd (.slice (ints o.ports)), str o.cls, .pd (.slice (rows AListener.pd o.listeners)), .pd (.slice (rows AParent.pd o.parents)), .pd (.slice (strs o.hosts)), .pd (.slice (rows ARule.pd o.rules)), .pd (.slice (rows ASide.pd o.from_)), .pd (.slice (rows ASide.pd o.to_))]), (2, [int 0, str ⟨#[]⟩, str ⟨#[]⟩, bln false, .nils, .nils, str ⟨#[]⟩, .nils, .nils, .nils, .nils, .nils, .nils]), (3, [int (fewRef o.ref).kind, str (fewRef o.ref).space, str (fewRef o.ref).name, bln o.good, .pd (.slice (rows APair.pd (fewPairs o.labels))), .own 3 1 (rows cInt ((o.ports.take 9).map id)) 52, str (few o.cls), .own 49 9 (rows AListener.pd ((o.listeners.take 9).map fewListener)) 92, .own 55 4 (rows AParent.pd ((o.parents.take 5).map fewParent)) 125, .own 9 1 (rows cStr ((o.hosts.take 5).map few)) 147, .own 69 3 (rows ARule.pd ((o.rules.take i).map fewRule)) 239, .pd (.slice (rows ASide.pd (fewSides o.from_))), .pd (.slice (rows ASide.pd (fewSides o.to_)))])], [], .no⟩) 7 _
   ?_ ⟨0, rfl, by omega, by omega, rfl⟩ ?_
  ·exact Weak.ownB 3 10 239 69 3 (by kernel_rfl) (by decide) rfl rfl (by simp [lessL, lk, St.purge, D.purge, rows]) (by simp [lessL, lk, St.purge, D.purges, D.purge, rows]) (by simp [lessL]) rfl
  rintro k st ⟨i, rfl, hi6, hi, rfl⟩
  have hw := i64_succ (show i < 1000000000 by omega)
  by_cases hlt : i < o.rules.length ∧ i < 7
  ·obtain ⟨x, hx⟩ := at_lt hlt.1
   have h1 : ((i : Int) < (o.rules.length : Int)) = True := eq_true (by omega)
   have h2 : ((i : Int) < 7) = True := eq_true (by omega)
   have hl' : ((o.rules.take i).map fewRule).length ≤ i := by simp; omega
   have e1 : rows ARule.pd ((o.rules.take i).map fewRule) ++ [[PD.slice (rows AMatch.pd ((x.matches_.take 5).map fewMatch)), PD.slice (rows AFilter.pd (fewFilters x.filters)), PD.slice (rows ABackend.pd ((x.backends.take 5).map fewBackend))]] = rows ARule.pd ((o.rules.take (i + 1)).map fewRule) := few_step hx
   apply run_cut
   ·intro K' hK
    simp only [go_sem, simprocAttr, h1, h2]
    exact hK
   apply run_cut
   ·intro K' hK
    rw [run_block]
    apply run_cut
    ·intro K' hK
     simp only [go_sem, simprocAttr, rows_get hx]
     refine (law7_Few x.filters).callW (enters_of Tryz.func27 rfl rfl) _ rfl rfl ?_
     rintro _ rfl
     simp only [go_sem, simprocAttr]
     exact hK
    refine run_cutJ (fun s => ∃ j : Nat, s = ⟨[(180, bln false), (1, .ptr 1 0), (2, .ptr 2 0), (3, .ptr 3 0), (10, int i), (11, .ptr 11 0), (12, int j), (180, bln false)], [(1, [int o.ref.kind, str o.ref.space, str o.ref.name, bln o.good, .pd (.slice (rows APair.pd o.labels)), .pd (.slice (ints o.ports)), str o.cls, .pd (.slice (rows AListener.pd o.listeners)), .pd (.slice (rows AParent.pd o.parents)), .pd (.slice (strs o.hosts)), .pd (.slice (rows ARule.pd o.rules)), .pd (.slice (rows ASide.pd o.from_)), .pd (.slice (rows ASide.pd o.to_))]), (2, [int 0, str ⟨#[]⟩, str ⟨#[]⟩, bln false, .nils, .nils, str ⟨#[]⟩, .nils, .nils, .nils, .nils, .nils, .nils]), (3, [int (fewRef o.ref).kind, str (fewRef o.ref).space, str (fewRef o.ref).name, bln o.good, .pd (.slice (rows APair.pd (fewPairs o.labels))), .own 3 1 (rows cInt ((o.ports.take 9).map id)) 52, str (few o.cls), .own 49 9 (rows AListener.pd ((o.listeners.take 9).map fewListener)) 92, .own 55 4 (rows AParent.pd ((o.parents.take 5).map fewParent)) 125, .own 9 1 (rows cStr ((o.hosts.take 5).map few)) 147, .own 69 3 (rows ARule.pd ((o.rules.take i).map fewRule)) 239, .pd (.slice (rows ASide.pd (fewSides o.from_))), .pd (.slice (rows ASide.pd (fewSides o.to_)))]), (11, [.own 73 5 (rows AMatch.pd ((x.matches_.take 5).map fewMatch)) 196, .pd (.slice (rows AFilter.pd (fewFilters x.filters))), .nils])], [], .no⟩) ?_ ?_
    ·intro K' hK
     simp only [go_sem, simprocAttr, rows_get hx]
     refine loopS (fun k st => ∃ j : Nat, k = 5 - j ∧ j ≤ 5 ∧ j ≤ x.matches_.length ∧
      st = ⟨[(1, .ptr 1 0), (2, .ptr 2 0), (3, .ptr 3 0), (10, int i), (11, .ptr 11 0), (12, int j)], [(1, [int o.ref.kind, str o.ref.space, str o.ref.name, bln o.good, .pd (.slice (rows APair.pd o.labels)), .pd (.slice (ints o.ports)), str o.cls, .pd (.slice (rows AListener.pd o.listeners)), .pd (.slice (rows AParent.pd o.parents)), .pd (.slice (strs o.hosts)), .pd (.slice (rows ARule.pd o.rules)), .pd (.slice (rows ASide.pd o.from_)), .pd (.slice (rows ASide.pd o.to_))]), (2, [int 0, str ⟨#[]⟩, str ⟨#[]⟩, bln false, .nils, .nils, str ⟨#[]⟩, .nils, .nils, .nils, .nils, .nils, .nils]), (3, [int (fewRef o.ref).kind, str (fewRef o.ref).space, str (fewRef o.ref).name, bln o.good, .pd (.slice (rows APair.pd (fewPairs o.labels))), .own 3 1 (rows cInt ((o.ports.take 9).map id)) 52, str (few o.cls), .own 49 9 (rows AListener.pd ((o.listeners.take 9).map fewListener)) 92, .own 55 4 (rows AParent.pd ((o.parents.take 5).map fewParent)) 125, .own 9 1 (rows cStr ((o.hosts.take 5).map few)) 147, .own 69 3 (rows ARule.pd ((o.rules.take i).map fewRule)) 239, .pd (.slice (rows ASide.pd (fewSides o.from_))), .pd (.slice (rows ASide.pd (fewSides o.to_)))]), (11, [.own 73 5 (rows AMatch.pd ((x.matches_.take j).map fewMatch)) 196, .pd (.slice (rows AFilter.pd (fewFilters x.filters))), .nils])], [], .no⟩) 5 _
      ?_ ⟨0, rfl, by omega, by omega, rfl⟩ ?_
     ·exact Weak.ownB 11 0 196 73 5 (by kernel_rfl) (by decide) rfl rfl (by simp [lessL, lk, St.purge, D.purge, rows]) (by simp [lessL, lk, St.purge, D.purges, D.purge, rows]) (by simp [lessL]) rfl
     rintro k st ⟨j, rfl, hj6, hj, rfl⟩
     have hwj := i64_succ (show j < 1000000000 by omega)
     by_cases hltj : j < x.matches_.length ∧ j < 5
     ·obtain ⟨y, hy⟩ := at_lt hltj.1
      have h1' : ((j : Int) < (x.matches_.length : Int)) = True := eq_true (by omega)
      have h2' : ((j : Int) < 5) = True := eq_true (by omega)
      have hlj : ((x.matches_.take j).map fewMatch).length ≤ j := by simp; omega
      have e2 : rows AMatch.pd ((x.matches_.take j).map fewMatch) ++ [[PD.raw (Value.int IntKind.i64 (fewMatch y).pkind), PD.raw (Value.string (fewMatch y).pval), PD.raw (Value.string (fewMatch y).method), PD.slice (rows APair.pd (fewMatch y).head), PD.slice (rows APair.pd (fewMatch y).query)]] = rows AMatch.pd ((x.matches_.take (j + 1)).map fewMatch) := few_step hy
      simp only [go_sem, simprocAttr, rows_get hx, rows_get hy, h1', h2']
      repeat' (first | (refine (law6_Few y).callX (enters_of Tryz.func28 rfl rfl) _ rfl rfl ?_; rintro _ rfl; simp only [go_sem, simprocAttr, rows_get hx, rows_get hy]))
      simp only [go_sem, simprocAttr, hwj, e2]
      refine ⟨by simp, by unfold maxLen; omega, by omega, 5 - (j + 1), _, by omega, ?_, j + 1, rfl, by omega, by omega, rfl⟩
      exact lessA
     ·have h3 := few_end (g := fewMatch) hj6 hj hltj
      rw [h3]
      by_cases h1 : j < x.matches_.length
      ·have h1' : ((j : Int) < (x.matches_.length : Int)) = True := eq_true (by omega)
       have h2 : ((j : Int) < 5) = False := eq_false (by omega)
       simp only [go_sem, simprocAttr, rows_get hx, h1', h2]
       exact hK _ ⟨j, rfl⟩
      ·have h1' : ((j : Int) < (x.matches_.length : Int)) = False := eq_false (by omega)
       simp only [go_sem, simprocAttr, rows_get hx, h1']
       exact hK _ ⟨j, rfl⟩
    rintro s ⟨_, rfl⟩
    refine run_cutJ (fun s => ∃ j : Nat, s = ⟨[(210, bln false), (1, .ptr 1 0), (2, .ptr 2 0), (3, .ptr 3 0), (10, int i), (11, .ptr 11 0), (13, int j), (210, bln false)], [(1, [int o.ref.kind, str o.ref.space, str o.ref.name, bln o.good, .pd (.slice (rows APair.pd o.labels)), .pd (.slice (ints o.ports)), str o.cls, .pd (.slice (rows AListener.pd o.listeners)), .pd (.slice (rows AParent.pd o.parents)), .pd (.slice (strs o.hosts)), .pd (.slice (rows ARule.pd o.rules)), .pd (.slice (rows ASide.pd o.from_)), .pd (.slice (rows ASide.pd o.to_))]), (2, [int 0, str ⟨#[]⟩, str ⟨#[]⟩, bln false, .nils, .nils, str ⟨#[]⟩, .nils, .nils, .nils, .nils, .nils, .nils]), (3, [int (fewRef o.ref).kind, str (fewRef o.ref).space, str (fewRef o.ref).name, bln o.good, .pd (.slice (rows APair.pd (fewPairs o.labels))), .own 3 1 (rows cInt ((o.ports.take 9).map id)) 52, str (few o.cls), .own 49 9 (rows AListener.pd ((o.listeners.take 9).map fewListener)) 92, .own 55 4 (rows AParent.pd ((o.parents.take 5).map fewParent)) 125, .own 9 1 (rows cStr ((o.hosts.take 5).map few)) 147, .own 69 3 (rows ARule.pd ((o.rules.take i).map fewRule)) 239, .pd (.slice (rows ASide.pd (fewSides o.from_))), .pd (.slice (rows ASide.pd (fewSides o.to_)))]), (11, [.own 73 5 (rows AMatch.pd ((x.matches_.take 5).map fewMatch)) 196, .pd (.slice (rows AFilter.pd (fewFilters x.filters))), .own 76 5 (rows ABackend.pd ((x.backends.take 5).map fewBackend)) 233])], [], .no⟩) ?_ ?_
    ·intro K' hK
     simp only [go_sem, simprocAttr, rows_get hx]
     refine loopS (fun k st => ∃ j : Nat, k = 5 - j ∧ j ≤ 5 ∧ j ≤ x.backends.length ∧
      st = ⟨[(1, .ptr 1 0), (2, .ptr 2 0), (3, .ptr 3 0), (10, int i), (11, .ptr 11 0), (13, int j)], [(1, [int o.ref.kind, str o.ref.space, str o.ref.name, bln o.good, .pd (.slice (rows APair.pd o.labels)), .pd (.slice (ints o.ports)), str o.cls, .pd (.slice (rows AListener.pd o.listeners)), .pd (.slice (rows AParent.pd o.parents)), .pd (.slice (strs o.hosts)), .pd (.slice (rows ARule.pd o.rules)), .pd (.slice (rows ASide.pd o.from_)), .pd (.slice (rows ASide.pd o.to_))]), (2, [int 0, str ⟨#[]⟩, str ⟨#[]⟩, bln false, .nils, .nils, str ⟨#[]⟩, .nils, .nils, .nils, .nils, .nils, .nils]), (3, [int (fewRef o.ref).kind, str (fewRef o.ref).space, str (fewRef o.ref).name, bln o.good, .pd (.slice (rows APair.pd (fewPairs o.labels))), .own 3 1 (rows cInt ((o.ports.take 9).map id)) 52, str (few o.cls), .own 49 9 (rows AListener.pd ((o.listeners.take 9).map fewListener)) 92, .own 55 4 (rows AParent.pd ((o.parents.take 5).map fewParent)) 125, .own 9 1 (rows cStr ((o.hosts.take 5).map few)) 147, .own 69 3 (rows ARule.pd ((o.rules.take i).map fewRule)) 239, .pd (.slice (rows ASide.pd (fewSides o.from_))), .pd (.slice (rows ASide.pd (fewSides o.to_)))]), (11, [.own 73 5 (rows AMatch.pd ((x.matches_.take 5).map fewMatch)) 196, .pd (.slice (rows AFilter.pd (fewFilters x.filters))), .own 76 5 (rows ABackend.pd ((x.backends.take j).map fewBackend)) 233])], [], .no⟩) 5 _
      ?_ ⟨0, rfl, by omega, by omega, rfl⟩ ?_
     ·exact Weak.ownB 11 2 233 76 5 (by kernel_rfl) (by decide) rfl rfl (by simp [lessL, lk, St.purge, D.purge, rows]) (by simp [lessL, lk, St.purge, D.purges, D.purge, rows]) (by simp [lessL]) rfl
     rintro k st ⟨j, rfl, hj6, hj, rfl⟩
     have hwj := i64_succ (show j < 1000000000 by omega)
     by_cases hltj : j < x.backends.length ∧ j < 5
     ·obtain ⟨y, hy⟩ := at_lt hltj.1
      have h1' : ((j : Int) < (x.backends.length : Int)) = True := eq_true (by omega)
      have h2' : ((j : Int) < 5) = True := eq_true (by omega)
      have hlj : ((x.backends.take j).map fewBackend).length ≤ j := by simp; omega
      have e2 : rows ABackend.pd ((x.backends.take j).map fewBackend) ++ [[PD.raw (Value.int IntKind.i64 (fewRef y.ref).kind), PD.raw (Value.string (fewRef y.ref).space), PD.raw (Value.string (fewRef y.ref).name), PD.raw (Value.int IntKind.i64 y.port), PD.raw (Value.int IntKind.i64 y.weight)]] = rows ABackend.pd ((x.backends.take (j + 1)).map fewBackend) := few_step hy
      simp only [go_sem, simprocAttr, rows_get hx, rows_get hy, h1', h2']
      repeat' (first | (refine (law9_FewRef y.ref).callX (enters_of Tryz.func20 rfl rfl) _ rfl rfl ?_; rintro _ rfl; simp only [go_sem, simprocAttr, rows_get hx, rows_get hy]))
      simp only [go_sem, simprocAttr, hwj, e2]
      refine ⟨by simp, by unfold maxLen; omega, by omega, 5 - (j + 1), _, by omega, ?_, j + 1, rfl, by omega, by omega, rfl⟩
      exact lessA
     ·have h3 := few_end (g := fewBackend) hj6 hj hltj
      rw [h3]
      by_cases h1 : j < x.backends.length
      ·have h1' : ((j : Int) < (x.backends.length : Int)) = True := eq_true (by omega)
       have h2 : ((j : Int) < 5) = False := eq_false (by omega)
       simp only [go_sem, simprocAttr, rows_get hx, h1', h2]
       exact hK _ ⟨j, rfl⟩
      ·have h1' : ((j : Int) < (x.backends.length : Int)) = False := eq_false (by omega)
       simp only [go_sem, simprocAttr, rows_get hx, h1']
       exact hK _ ⟨j, rfl⟩
    rintro s ⟨_, rfl⟩
    simp only [go_sem, simprocAttr, e1]
    refine ⟨by simp, by unfold maxLen; omega, by omega, ?_⟩
    exact hK
   simp only [go_sem, simprocAttr, hw]
   refine ⟨7 - (i + 1), _, by omega, ?_, i + 1, rfl, by omega, by omega, rfl⟩
   exact lessA
  ·have h3 := few_end (g := fewRule) hi6 hi hlt
   rw [h3]
   by_cases h1 : i < o.rules.length
   ·have h1' : ((i : Int) < (o.rules.length : Int)) = True := eq_true (by omega)
    have h2 : ((i : Int) < 7) = False := eq_false (by omega)
    simp only [go_sem, simprocAttr, h1', h2]
    exact hK _ ⟨i, rfl⟩
   ·have h1' : ((i : Int) < (o.rules.length : Int)) = False := eq_false (by omega)
    simp only [go_sem, simprocAttr, h1']
    exact hK _ ⟨i, rfl⟩
 rintro s ⟨_, rfl⟩
 simp only [go_sem, simprocAttr]
 simp only [retK, resD, resA, AOp.ex, St.ev, retL, oneD, simprocAttr, ret_z8s55, List.map_id]
 exact ⟨_, rfl, rfl, rfl⟩


def fewObjs (l : List AObj) : List AObj := (l.take 24).map fewObj

theorem take_map_mem {α β : Type} {g : α → β} {l : List α} {n : Nat} {y : β} (h : y ∈ (l.take n).map g) : ∃ x, x ∈ l ∧ g x = y := by
 obtain ⟨x, hx, rfl⟩ := List.mem_map.1 h
 exact ⟨x, List.mem_of_mem_take hx, rfl⟩

theorem fewPairs_ok {l : List APair} : ∀ p ∈ fewPairs l, p.ok := fun p hp => by
 obtain ⟨x, _, rfl⟩ := take_map_mem hp
 exact fewPair_ok x

theorem fewPairs_len (l : List APair) : (fewPairs l).length ≤ 1000000 := by simp [fewPairs]; omega

theorem fewMatch_ok (m : AMatch) : (fewMatch m).ok := ⟨fewPairs_len _, fewPairs_len _, fewPairs_ok, fewPairs_ok⟩

theorem fewFilter_ok (f : AFilter) : (fewFilter f).ok := ⟨by have := few_size f.name; simp [fewFilter]; omega, by have := few_size f.val; simp [fewFilter]; omega⟩

theorem fewNeed_ok (n : ANeed) : (fewNeed n).ok := by simp [ANeed.ok, fewNeed]; omega

theorem fewListener_ok (l : AListener) : (fewListener l).ok := ⟨by simp [fewListener, fewNeeds]; omega, fun x hx => by
 obtain ⟨y, _, rfl⟩ := take_map_mem hx
 exact fewNeed_ok y⟩

theorem fewRule_ok (r : ARule) : (fewRule r).ok := ⟨by simp [fewRule]; omega, by simp [fewRule, fewFilters]; omega, by simp [fewRule]; omega, fun x hx => by
 obtain ⟨y, _, rfl⟩ := take_map_mem hx
 exact fewMatch_ok y, fun x hx => by
 obtain ⟨y, _, rfl⟩ := take_map_mem hx
 exact fewFilter_ok y⟩

theorem fewObj_ok (o : AObj) : (fewObj o).ok where
 la := fewPairs_len _
 po := by simp [fewObj]; omega
 li := by simp [fewObj]; omega
 pa := by simp [fewObj]; omega
 ho := by simp [fewObj]; omega
 ru := by simp [fewObj]; omega
 fr := by simp [fewObj, fewSides]; omega
 to := by simp [fewObj, fewSides]; omega
 lis := fun x hx => by
  obtain ⟨y, _, rfl⟩ := take_map_mem hx
  exact fewListener_ok y
 rus := fun x hx => by
  obtain ⟨y, _, rfl⟩ := take_map_mem hx
  exact fewRule_ok y

theorem fewObjs_ok {l : List AObj} : ∀ o ∈ fewObjs l, o.ok := fun o ho => by
 obtain ⟨x, _, rfl⟩ := take_map_mem ho
 exact fewObj_ok x

theorem fewObjs_len (l : List AObj) : (fewObjs l).length ≤ 24 := by simp [fewObjs]; omega

theorem law11_Some (l : List AObj) : Pure Tryz.prog 9 [.pd (.slice (rows AObj.pd l))] (fun d => d = .pd (.slice (rows AObj.pd (fewObjs l)))) := by
 refine pure_of_run follows an_zh218 Tryz.func9 rfl ok_zh218.1 ok_zh218.2 (by simp [Tryz.ntmps9]) ?_
 rw [run_start]
 simp only [ac_zh218, go_sem, simprocAttr]
 refine loopS (fun k st => ∃ i : Nat, k = 24 - i ∧ i ≤ 24 ∧ i ≤ l.length ∧
  st = ⟨[(0, .pd (.slice (rows AObj.pd l))), (3, .own 33 13 (rows AObj.pd ((l.take i).map fewObj)) 22), (4, int i)], [], [], .no⟩) 24 _
  ?_ ⟨0, rfl, by omega, by omega, rfl⟩ ?_
 ·exact Weak.own1 3 22 33 13 (by kernel_rfl) (by decide) rfl (by simp [lessL, lk, St.purge, St.put, D.purge, rows]) (by simp [lessL, lk, St.purge, D.purges, D.purge]) (by simp [lessL]) rfl
 rintro k st ⟨i, rfl, hi6, hi, rfl⟩
 have hw := i64_succ (show i < 1000000000 by omega)
 by_cases hlt : i < l.length ∧ i < 24
 ·obtain ⟨x, hx⟩ := at_lt hlt.1
  have h1 : ((i : Int) < (l.length : Int)) = True := eq_true (by omega)
  have h2 : ((i : Int) < 24) = True := eq_true (by omega)
  simp only [go_sem, simprocAttr, rows_get hx, h1, h2]
  refine (law9_Few x).callW (enters_of Tryz.func10 rfl rfl) _ rfl rfl ?_
  rintro d rfl
  have hl' : ((l.take i).map fewObj).length ≤ i := by simp; omega
  have e1 : rows AObj.pd ((l.take i).map fewObj) ++ [AObj.pd (fewObj x)] = rows AObj.pd ((l.take (i + 1)).map fewObj) := few_step hx
  simp only [go_sem, simprocAttr, hw]
  rw [e1]
  refine ⟨by simp, by unfold maxLen; omega, by omega, 24 - (i + 1), _, by omega, ?_, i + 1, rfl, by omega, by omega, rfl⟩
  exact lessA
 ·have h3 := few_end (g := fewObj) hi6 hi hlt
  rw [h3]
  by_cases h1 : i < l.length
  ·have h1' : ((i : Int) < (l.length : Int)) = True := eq_true (by omega)
   have h2 : ((i : Int) < 24) = False := eq_false (by omega)
   simp only [go_sem, simprocAttr, h1', h2]
   simp only [retK, resD, retL, oneD, simprocAttr, Tryz.results9]
   exact ⟨_, rfl, rfl, rfl⟩
  ·have h1' : ((i : Int) < (l.length : Int)) = False := eq_false (by omega)
   simp only [go_sem, simprocAttr, h1']
   simp only [retK, resD, retL, oneD, simprocAttr, Tryz.results9]
   exact ⟨_, rfl, rfl, rfl⟩


theorem res_no {p : Prop} [Decidable p] (h : ¬p) : bln false = bln (decide p) := by rw [decide_eq_false h]
theorem res_yes {p : Prop} [Decidable p] (h : p) : bln true = bln (decide p) := by rw [decide_eq_true h]
theorem take_step {α : Type} {l m : List α} {i : Nat} {x y : α} (h : l.take i = m.take i) (hx : l[i]? = some x) (hy : m[i]? = some y) (e : x = y) : l.take (i + 1) = m.take (i + 1) := by
 rw [take_at hx, take_at hy, h, e]
theorem take_end {α : Type} {l m : List α} {i : Nat} (h : l.take i = m.take i) (hl : l.length = m.length) (hi : ¬ i < l.length) : l = m := by
 rwa [List.take_of_length_le (by omega), List.take_of_length_le (by omega)] at h

set_option maxHeartbeats 2000000 in
theorem ref1_Same (a b : List ByteArray) (ha : a.length ≤ 1000000) : Pure Tryz.prog 40 [.pd (.slice (rows cStr a)), .pd (.slice (rows cStr b))] (fun d => d = bln (decide (a = b))) := by
 refine pure_of_run follows an_zjxe8 Tryz.func40 rfl ok_zjxe8.1 ok_zjxe8.2 (by simp [Tryz.ntmps40]) ?_
 rw [run_start]
 simp only [ac_zjxe8, go_sem, simprocAttr]
 refine GifP.mk (fun hl => ?_) (fun hl => ?_)
 rotate_left
 ·simp only [retK, resD, retL, oneD, simprocAttr, Tryz.results40]
  exact ⟨_, rfl, rfl, res_no (fun e => hl (by rw [e]))⟩
 have hL : a.length = b.length := by omega
 refine loopS (fun k st => ∃ i : Nat, k = a.length - i ∧ i ≤ a.length ∧ a.take i = b.take i ∧ st = ⟨[(0, .pd (.slice (rows cStr a))), (1, .pd (.slice (rows cStr b))), (5, int i)], [], [], .no⟩) a.length _ ?_ ⟨0, rfl, by omega, rfl, rfl⟩ ?_
 ·exact lessA
 rintro k st ⟨i, rfl, hi, hT, rfl⟩
 have hw := i64_succ (show i < 1000000000 by omega)
 by_cases hlt : i < a.length
 ·obtain ⟨x, hx⟩ := at_lt hlt
  obtain ⟨y, hy⟩ := at_lt (show i < b.length by omega)
  have h1 : ((i : Int) < (a.length : Int)) = True := eq_true (by omega)
  simp only [go_sem, simprocAttr, rows_get hx, rows_get hy, h1, hw]
  ·repeat' (first | refine GifP.mk (fun _ => ?_) (fun _ => ?_) | refine Gif.mk (fun _ => ?_) (fun _ => ?_) | refine And.intro ?_ ?_)
   all_goals first
    | (refine ⟨a.length - (i + 1), _, by omega, ?_, i + 1, rfl, by omega, take_step hT hx hy (by first | assumption | (cases x; cases y; simp_all)), rfl⟩; exact lessA)
    | (simp only [retK, resD, retL, oneD, simprocAttr, Tryz.results40]; exact ⟨_, rfl, rfl, res_no (fun e => by subst e; have hxy := Option.some.inj (hx.symm.trans hy); subst hxy; first | contradiction | simp_all)⟩)
 have h1 : ((i : Int) < (a.length : Int)) = False := eq_false (by omega)
 have hE := take_end hT (by omega) hlt
 clear hT hi hw
 simp only [go_sem, simprocAttr, h1]
 clear h1 hlt i
 simp only [retK, resD, retL, oneD, simprocAttr, Tryz.results40]
 exact ⟨_, rfl, rfl, res_yes hE⟩

set_option maxHeartbeats 2000000 in
theorem ref4_Same (a b : List APair) (ha : a.length ≤ 1000000) : Pure Tryz.prog 124 [.pd (.slice (rows APair.pd a)), .pd (.slice (rows APair.pd b))] (fun d => d = bln (decide (a = b))) := by
 refine pure_of_run follows an_zk76r Tryz.func124 rfl ok_zk76r.1 ok_zk76r.2 (by simp [Tryz.ntmps124]) ?_
 rw [run_start]
 simp only [ac_zk76r, go_sem, simprocAttr]
 refine GifP.mk (fun hl => ?_) (fun hl => ?_)
 rotate_left
 ·simp only [retK, resD, retL, oneD, simprocAttr, Tryz.results124]
  exact ⟨_, rfl, rfl, res_no (fun e => hl (by rw [e]))⟩
 have hL : a.length = b.length := by omega
 refine loopS (fun k st => ∃ i : Nat, k = a.length - i ∧ i ≤ a.length ∧ a.take i = b.take i ∧ st = ⟨[(0, .pd (.slice (rows APair.pd a))), (1, .pd (.slice (rows APair.pd b))), (5, int i)], [], [], .no⟩) a.length _ ?_ ⟨0, rfl, by omega, rfl, rfl⟩ ?_
 ·exact lessA
 rintro k st ⟨i, rfl, hi, hT, rfl⟩
 have hw := i64_succ (show i < 1000000000 by omega)
 by_cases hlt : i < a.length
 ·obtain ⟨x, hx⟩ := at_lt hlt
  obtain ⟨y, hy⟩ := at_lt (show i < b.length by omega)
  have h1 : ((i : Int) < (a.length : Int)) = True := eq_true (by omega)
  simp only [go_sem, simprocAttr, rows_get hx, rows_get hy, h1, hw, eqVs, eqV, eq_Pair]
  ·repeat' (first | refine GifP.mk (fun _ => ?_) (fun _ => ?_) | refine Gif.mk (fun _ => ?_) (fun _ => ?_) | refine And.intro ?_ ?_)
   all_goals first
    | (refine ⟨a.length - (i + 1), _, by omega, ?_, i + 1, rfl, by omega, take_step hT hx hy (by first | assumption | (cases x; cases y; simp_all)), rfl⟩; exact lessA)
    | (simp only [retK, resD, retL, oneD, simprocAttr, Tryz.results124]; exact ⟨_, rfl, rfl, res_no (fun e => by subst e; have hxy := Option.some.inj (hx.symm.trans hy); subst hxy; first | contradiction | simp_all)⟩)
 have h1 : ((i : Int) < (a.length : Int)) = False := eq_false (by omega)
 have hE := take_end hT (by omega) hlt
 clear hT hi hw
 simp only [go_sem, simprocAttr, h1]
 clear h1 hlt i
 simp only [retK, resD, retL, oneD, simprocAttr, Tryz.results124]
 exact ⟨_, rfl, rfl, res_yes hE⟩

set_option maxHeartbeats 2000000 in
theorem ref8_Same (a b : List ANeed) (ha : a.length ≤ 1000000) (hb : ∀ x ∈ a, x.vals.length ≤ 1000000) : Pure Tryz.prog 125 [.pd (.slice (rows ANeed.pd a)), .pd (.slice (rows ANeed.pd b))] (fun d => d = bln (decide (a = b))) := by
 refine pure_of_run follows an_zgrh4 Tryz.func125 rfl ok_zgrh4.1 ok_zgrh4.2 (by simp [Tryz.ntmps125]) ?_
 rw [run_start]
 simp only [ac_zgrh4, go_sem, simprocAttr]
 refine GifP.mk (fun hl => ?_) (fun hl => ?_)
 rotate_left
 ·simp only [retK, resD, retL, oneD, simprocAttr, Tryz.results125]
  exact ⟨_, rfl, rfl, res_no (fun e => hl (by rw [e]))⟩
 have hL : a.length = b.length := by omega
 refine loopS (fun k st => ∃ i : Nat, k = a.length - i ∧ i ≤ a.length ∧ a.take i = b.take i ∧ st = ⟨[(0, .pd (.slice (rows ANeed.pd a))), (1, .pd (.slice (rows ANeed.pd b))), (5, int i)], [], [], .no⟩) a.length _ ?_ ⟨0, rfl, by omega, rfl, rfl⟩ ?_
 ·exact lessA
 rintro k st ⟨i, rfl, hi, hT, rfl⟩
 have hw := i64_succ (show i < 1000000000 by omega)
 by_cases hlt : i < a.length
 ·obtain ⟨x, hx⟩ := at_lt hlt
  obtain ⟨y, hy⟩ := at_lt (show i < b.length by omega)
  have h1 : ((i : Int) < (a.length : Int)) = True := eq_true (by omega)
  simp only [go_sem, simprocAttr, rows_get hx, rows_get hy, h1, hw]
  ·repeat' (first | refine GifP.mk (fun _ => ?_) (fun _ => ?_) | refine Gif.mk (fun _ => ?_) (fun _ => ?_) | (refine (ref1_Same x.vals y.vals (hb x (List.mem_of_getElem? hx))).callX (enters_of Tryz.func40 rfl rfl) _ rfl rfl ?_; rintro _ rfl; simp only [go_sem, simprocAttr, rows_get hx, rows_get hy, hw]) | refine And.intro ?_ ?_)
   all_goals first
    | (refine ⟨a.length - (i + 1), _, by omega, ?_, i + 1, rfl, by omega, take_step hT hx hy (by first | assumption | (cases x; cases y; simp_all)), rfl⟩; exact lessA)
    | (simp only [retK, resD, retL, oneD, simprocAttr, Tryz.results125]; exact ⟨_, rfl, rfl, res_no (fun e => by subst e; have hxy := Option.some.inj (hx.symm.trans hy); subst hxy; first | contradiction | simp_all)⟩)
 have h1 : ((i : Int) < (a.length : Int)) = False := eq_false (by omega)
 have hE := take_end hT (by omega) hlt
 clear hT hi hw
 simp only [go_sem, simprocAttr, h1]
 clear h1 hlt i
 simp only [retK, resD, retL, oneD, simprocAttr, Tryz.results125]
 exact ⟨_, rfl, rfl, res_yes hE⟩

theorem ref6_Same (a b : AMatch) (h1 : a.head.length ≤ 1000000) (h2 : a.query.length ≤ 1000000) : Pure Tryz.prog 170 [.agg [int a.pkind, str a.pval, str a.method, .pd (.slice (rows APair.pd a.head)), .pd (.slice (rows APair.pd a.query))], .agg [int b.pkind, str b.pval, str b.method, .pd (.slice (rows APair.pd b.head)), .pd (.slice (rows APair.pd b.query))]] (fun d => d = bln (decide (a = b))) := by
 refine pure_of_run follows an_zlug8 Tryz.func170 rfl ok_zlug8.1 ok_zlug8.2 (by simp [Tryz.ntmps170]) ?_
 rw [run_start]
 simp only [ac_zlug8, go_sem, simprocAttr, eqVs, eqV]
 (repeat' (first | (refine GifP.mk (fun _ => ?_) (fun _ => ?_)) | (refine Gif.mk (fun _ => ?_) (fun _ => ?_)) | ((first | refine (ref4_Same a.head b.head h1).callW (enters_of Tryz.func124 rfl rfl) _ rfl rfl ?_ | refine (ref4_Same a.query b.query h2).callW (enters_of Tryz.func124 rfl rfl) _ rfl rfl ?_); rintro _ rfl; try simp only [go_sem, simprocAttr, eqVs, eqV]))) <;> (simp only [retK, resD, retL, oneD, simprocAttr, Tryz.results170]; exact ⟨_, rfl, rfl, congrArg bln (by cases a; cases b; rw [Bool.eq_iff_iff]; simp_all)⟩)

set_option maxHeartbeats 2000000 in
theorem ref9_SameRule (a b : ARule) (h1 : a.matches_.length ≤ 1000000) (h2 : a.filters.length ≤ 1000000) (h3 : a.backends.length ≤ 1000000) (h4 : ∀ m ∈ a.matches_, m.head.length ≤ 1000000 ∧ m.query.length ≤ 1000000) :
 Pure Tryz.prog 126 [.agg [.pd (.slice (rows AMatch.pd a.matches_)), .pd (.slice (rows AFilter.pd a.filters)), .pd (.slice (rows ABackend.pd a.backends))], .agg [.pd (.slice (rows AMatch.pd b.matches_)), .pd (.slice (rows AFilter.pd b.filters)), .pd (.slice (rows ABackend.pd b.backends))]] (fun d => d = bln (decide (a = b))) := by
 refine pure_of_run follows an_zt6t3 Tryz.func126 rfl ok_zt6t3.1 ok_zt6t3.2 (by simp [Tryz.ntmps126]) ?_
 rw [run_start]
 simp only [ac_zt6t3, go_sem, simprocAttr]
 repeat' (refine GifP.mk (fun _ => ?_) (fun _ => ?_))
 all_goals first
  | (simp only [retK, resD, retL, oneD, simprocAttr, Tryz.results126]; exact ⟨_, rfl, rfl, res_no (fun e => by subst e; contradiction)⟩)
  | skip
 refine loopS (fun k st => ∃ i : Nat, k = a.matches_.length - i ∧ i ≤ a.matches_.length ∧ a.matches_.take i = b.matches_.take i ∧ st = ⟨[(2, .ptr 2 0), (3, .ptr 3 0), (5, int i)], [(2, [.pd (.slice (rows AMatch.pd a.matches_)), .pd (.slice (rows AFilter.pd a.filters)), .pd (.slice (rows ABackend.pd a.backends))]), (3, [.pd (.slice (rows AMatch.pd b.matches_)), .pd (.slice (rows AFilter.pd b.filters)), .pd (.slice (rows ABackend.pd b.backends))])], [], .no⟩) a.matches_.length _ ?_ ⟨0, rfl, by omega, rfl, rfl⟩ ?_
 ·exact lessA
 rintro k st ⟨i, rfl, hi, hT, rfl⟩
 have hw := i64_succ (show i < 1000000000 by omega)
 by_cases hlt : i < a.matches_.length
 ·obtain ⟨x, hx⟩ := at_lt hlt
  obtain ⟨y, hy⟩ := at_lt (show i < b.matches_.length by omega)
  have h1 : ((i : Int) < (a.matches_.length : Int)) = True := eq_true (by omega)
  simp only [go_sem, simprocAttr, rows_get hx, rows_get hy, h1, hw]
  ·repeat' (first | refine GifP.mk (fun _ => ?_) (fun _ => ?_) | refine Gif.mk (fun _ => ?_) (fun _ => ?_) | (refine (ref6_Same x y (h4 x (List.mem_of_getElem? hx)).1 (h4 x (List.mem_of_getElem? hx)).2).callX (enters_of Tryz.func170 rfl rfl) _ rfl rfl ?_; rintro _ rfl; simp only [go_sem, simprocAttr, rows_get hx, rows_get hy, hw]) | refine And.intro ?_ ?_)
   all_goals first
    | (refine ⟨a.matches_.length - (i + 1), _, by omega, ?_, i + 1, rfl, by omega, take_step hT hx hy (by first | assumption | (cases x; cases y; simp_all)), rfl⟩; exact lessA)
    | (simp only [retK, resD, retL, oneD, simprocAttr, Tryz.results126]; exact ⟨_, rfl, rfl, res_no (fun e => by subst e; have hxy := Option.some.inj (hx.symm.trans hy); subst hxy; first | contradiction | simp_all)⟩)
 have h1 : ((i : Int) < (a.matches_.length : Int)) = False := eq_false (by omega)
 have hM := take_end hT (by omega) hlt
 clear hT hi hw
 simp only [go_sem, simprocAttr, h1]
 clear h1 hlt i
 refine loopS (fun k st => ∃ i : Nat, k = a.filters.length - i ∧ i ≤ a.filters.length ∧ a.filters.take i = b.filters.take i ∧ st = ⟨[(2, .ptr 2 0), (3, .ptr 3 0), (6, int i)], [(2, [.pd (.slice (rows AMatch.pd a.matches_)), .pd (.slice (rows AFilter.pd a.filters)), .pd (.slice (rows ABackend.pd a.backends))]), (3, [.pd (.slice (rows AMatch.pd b.matches_)), .pd (.slice (rows AFilter.pd b.filters)), .pd (.slice (rows ABackend.pd b.backends))])], [], .no⟩) a.filters.length _ ?_ ⟨0, rfl, by omega, rfl, rfl⟩ ?_
 ·exact lessA
 rintro k st ⟨i, rfl, hi, hT, rfl⟩
 have hw := i64_succ (show i < 1000000000 by omega)
 by_cases hlt : i < a.filters.length
 ·obtain ⟨x, hx⟩ := at_lt hlt
  obtain ⟨y, hy⟩ := at_lt (show i < b.filters.length by omega)
  have h1 : ((i : Int) < (a.filters.length : Int)) = True := eq_true (by omega)
  simp only [go_sem, simprocAttr, rows_get hx, rows_get hy, h1, hw, eqVs, eqV, eq_Filter]
  ·repeat' (first | refine GifP.mk (fun _ => ?_) (fun _ => ?_) | refine Gif.mk (fun _ => ?_) (fun _ => ?_) | refine And.intro ?_ ?_)
   all_goals first
    | (refine ⟨a.filters.length - (i + 1), _, by omega, ?_, i + 1, rfl, by omega, take_step hT hx hy (by first | assumption | (cases x; cases y; simp_all)), rfl⟩; exact lessA)
    | (simp only [retK, resD, retL, oneD, simprocAttr, Tryz.results126]; exact ⟨_, rfl, rfl, res_no (fun e => by subst e; have hxy := Option.some.inj (hx.symm.trans hy); subst hxy; first | contradiction | simp_all)⟩)
 have h1 : ((i : Int) < (a.filters.length : Int)) = False := eq_false (by omega)
 have hF := take_end hT (by omega) hlt
 clear hT hi hw
 simp only [go_sem, simprocAttr, h1]
 clear h1 hlt i
 refine loopS (fun k st => ∃ i : Nat, k = a.backends.length - i ∧ i ≤ a.backends.length ∧ a.backends.take i = b.backends.take i ∧ st = ⟨[(2, .ptr 2 0), (3, .ptr 3 0), (7, int i)], [(2, [.pd (.slice (rows AMatch.pd a.matches_)), .pd (.slice (rows AFilter.pd a.filters)), .pd (.slice (rows ABackend.pd a.backends))]), (3, [.pd (.slice (rows AMatch.pd b.matches_)), .pd (.slice (rows AFilter.pd b.filters)), .pd (.slice (rows ABackend.pd b.backends))])], [], .no⟩) a.backends.length _ ?_ ⟨0, rfl, by omega, rfl, rfl⟩ ?_
 ·exact lessA
 rintro k st ⟨i, rfl, hi, hT, rfl⟩
 have hw := i64_succ (show i < 1000000000 by omega)
 by_cases hlt : i < a.backends.length
 ·obtain ⟨x, hx⟩ := at_lt hlt
  obtain ⟨y, hy⟩ := at_lt (show i < b.backends.length by omega)
  have h1 : ((i : Int) < (a.backends.length : Int)) = True := eq_true (by omega)
  simp only [go_sem, simprocAttr, rows_get hx, rows_get hy, h1, hw, eqVs, eqV, eq_Backend]
  ·repeat' (first | refine GifP.mk (fun _ => ?_) (fun _ => ?_) | refine Gif.mk (fun _ => ?_) (fun _ => ?_) | refine And.intro ?_ ?_)
   all_goals first
    | (refine ⟨a.backends.length - (i + 1), _, by omega, ?_, i + 1, rfl, by omega, take_step hT hx hy (by first | assumption | (cases x; cases y; simp_all)), rfl⟩; exact lessA)
    | (simp only [retK, resD, retL, oneD, simprocAttr, Tryz.results126]; exact ⟨_, rfl, rfl, res_no (fun e => by subst e; have hxy := Option.some.inj (hx.symm.trans hy); subst hxy; first | contradiction | simp_all)⟩)
 have h1 : ((i : Int) < (a.backends.length : Int)) = False := eq_false (by omega)
 have hB := take_end hT (by omega) hlt
 clear hT hi hw
 simp only [go_sem, simprocAttr, h1]
 clear h1 hlt i
 simp only [retK, resD, retL, oneD, simprocAttr, Tryz.results126]
 exact ⟨_, rfl, rfl, res_yes (by cases a; cases b; simp_all)⟩

set_option maxHeartbeats 8000000 in
theorem ref9_Same (a b : AObj) (ha : a.ok) : Pure Tryz.prog 69 [a.d, b.d] (fun d => d = bln (decide (a = b))) := by
 have hla := ha.la
 have hpo := ha.po
 have hli := ha.li
 have hpa := ha.pa
 have hho := ha.ho
 have hru := ha.ru
 have hfr := ha.fr
 have hto := ha.to
 refine pure_of_run follows an_zwcd Tryz.func69 rfl ok_zwcd.1 ok_zwcd.2 (by simp [Tryz.ntmps69]) ?_
 rw [run_start]
 simp only [ac_zwcd, go_sem, simprocAttr, eqVs, eqV, eq_Ref]
 repeat' (first | refine GifP.mk (fun _ => ?_) (fun _ => ?_) | refine Gif.mk (fun _ => ?_) (fun _ => ?_) | (refine (ref4_Same a.labels b.labels hla).callW (enters_of Tryz.func124 rfl rfl) _ rfl rfl ?_; rintro _ rfl; simp only [go_sem, simprocAttr]) | (refine (ref1_Same a.hosts b.hosts hho).callW (enters_of Tryz.func40 rfl rfl) _ rfl rfl ?_; rintro _ rfl; simp only [go_sem, simprocAttr]))
 all_goals first
  | (simp only [retK, resD, retL, oneD, simprocAttr, Tryz.results69]; exact ⟨_, rfl, rfl, res_no (fun e => by subst e; first | contradiction | simp_all)⟩)
  | skip
 refine loopS (fun k st => ∃ i : Nat, k = a.ports.length - i ∧ i ≤ a.ports.length ∧ a.ports.take i = b.ports.take i ∧ st = ⟨[(2, .ptr 2 0), (3, .ptr 3 0), (5, int i)], [(2, a.ds), (3, b.ds)], [], .no⟩) a.ports.length _ ?_ ⟨0, rfl, by omega, rfl, rfl⟩ ?_
 ·exact lessA
 rintro k st ⟨i, rfl, hi, hT, rfl⟩
 have hw := i64_succ (show i < 1000000000 by omega)
 by_cases hlt : i < a.ports.length
 ·obtain ⟨x, hx⟩ := at_lt hlt
  obtain ⟨y, hy⟩ := at_lt (show i < b.ports.length by omega)
  have h1 : ((i : Int) < (a.ports.length : Int)) = True := eq_true (by omega)
  simp only [go_sem, simprocAttr, rows_get hx, rows_get hy, h1, hw]
  ·repeat' (first | refine GifP.mk (fun _ => ?_) (fun _ => ?_) | refine Gif.mk (fun _ => ?_) (fun _ => ?_) | refine And.intro ?_ ?_)
   all_goals first
    | (refine ⟨a.ports.length - (i + 1), _, by omega, ?_, i + 1, rfl, by omega, take_step hT hx hy (by first | assumption | (cases x; cases y; simp_all)), rfl⟩; exact lessA)
    | (simp only [retK, resD, retL, oneD, simprocAttr, Tryz.results69]; exact ⟨_, rfl, rfl, res_no (fun e => by subst e; have hxy := Option.some.inj (hx.symm.trans hy); subst hxy; first | contradiction | simp_all)⟩)
 have h1 : ((i : Int) < (a.ports.length : Int)) = False := eq_false (by omega)
 have hE1 := take_end hT (by omega) hlt
 clear hT hi hw
 simp only [go_sem, simprocAttr, h1]
 clear h1 hlt i
 refine loopS (fun k st => ∃ i : Nat, k = a.listeners.length - i ∧ i ≤ a.listeners.length ∧ a.listeners.take i = b.listeners.take i ∧ st = ⟨[(2, .ptr 2 0), (3, .ptr 3 0), (6, int i)], [(2, a.ds), (3, b.ds)], [], .no⟩) a.listeners.length _ ?_ ⟨0, rfl, by omega, rfl, rfl⟩ ?_
 ·exact lessA
 rintro k st ⟨i, rfl, hi, hT, rfl⟩
 have hw := i64_succ (show i < 1000000000 by omega)
 by_cases hlt : i < a.listeners.length
 ·obtain ⟨x, hx⟩ := at_lt hlt
  obtain ⟨y, hy⟩ := at_lt (show i < b.listeners.length by omega)
  have h1 : ((i : Int) < (a.listeners.length : Int)) = True := eq_true (by omega)
  simp only [go_sem, simprocAttr, rows_get hx, rows_get hy, h1, hw, eqVs, eqV, eq_Ref]
  ·repeat' (first | refine GifP.mk (fun _ => ?_) (fun _ => ?_) | refine Gif.mk (fun _ => ?_) (fun _ => ?_) | (refine (ref8_Same x.needs y.needs (ha.lis x (List.mem_of_getElem? hx)).nl (fun n hn => ((ha.lis x (List.mem_of_getElem? hx)).n n hn))).callW (enters_of Tryz.func125 rfl rfl) _ rfl rfl ?_; rintro _ rfl; simp only [go_sem, simprocAttr, rows_get hx, rows_get hy, hw, eqVs, eqV, eq_Ref]) | refine And.intro ?_ ?_)
   all_goals first
    | (refine ⟨a.listeners.length - (i + 1), _, by omega, ?_, i + 1, rfl, by omega, take_step hT hx hy (by first | assumption | (cases x; cases y; simp_all)), rfl⟩; exact lessA)
    | (simp only [retK, resD, retL, oneD, simprocAttr, Tryz.results69]; exact ⟨_, rfl, rfl, res_no (fun e => by subst e; have hxy := Option.some.inj (hx.symm.trans hy); subst hxy; first | contradiction | simp_all)⟩)
 have h1 : ((i : Int) < (a.listeners.length : Int)) = False := eq_false (by omega)
 have hE2 := take_end hT (by omega) hlt
 clear hT hi hw
 simp only [go_sem, simprocAttr, h1]
 clear h1 hlt i
 refine loopS (fun k st => ∃ i : Nat, k = a.parents.length - i ∧ i ≤ a.parents.length ∧ a.parents.take i = b.parents.take i ∧ st = ⟨[(2, .ptr 2 0), (3, .ptr 3 0), (9, int i)], [(2, a.ds), (3, b.ds)], [], .no⟩) a.parents.length _ ?_ ⟨0, rfl, by omega, rfl, rfl⟩ ?_
 ·exact lessA
 rintro k st ⟨i, rfl, hi, hT, rfl⟩
 have hw := i64_succ (show i < 1000000000 by omega)
 by_cases hlt : i < a.parents.length
 ·obtain ⟨x, hx⟩ := at_lt hlt
  obtain ⟨y, hy⟩ := at_lt (show i < b.parents.length by omega)
  have h1 : ((i : Int) < (a.parents.length : Int)) = True := eq_true (by omega)
  simp only [go_sem, simprocAttr, rows_get hx, rows_get hy, h1, hw, eqVs, eqV, eq_Parent]
  ·repeat' (first | refine GifP.mk (fun _ => ?_) (fun _ => ?_) | refine Gif.mk (fun _ => ?_) (fun _ => ?_) | refine And.intro ?_ ?_)
   all_goals first
    | (refine ⟨a.parents.length - (i + 1), _, by omega, ?_, i + 1, rfl, by omega, take_step hT hx hy (by first | assumption | (cases x; cases y; simp_all)), rfl⟩; exact lessA)
    | (simp only [retK, resD, retL, oneD, simprocAttr, Tryz.results69]; exact ⟨_, rfl, rfl, res_no (fun e => by subst e; have hxy := Option.some.inj (hx.symm.trans hy); subst hxy; first | contradiction | simp_all)⟩)
 have h1 : ((i : Int) < (a.parents.length : Int)) = False := eq_false (by omega)
 have hE3 := take_end hT (by omega) hlt
 clear hT hi hw
 simp only [go_sem, simprocAttr, h1]
 clear h1 hlt i
 refine loopS (fun k st => ∃ i : Nat, k = a.from_.length - i ∧ i ≤ a.from_.length ∧ a.from_.take i = b.from_.take i ∧ st = ⟨[(2, .ptr 2 0), (3, .ptr 3 0), (10, int i)], [(2, a.ds), (3, b.ds)], [], .no⟩) a.from_.length _ ?_ ⟨0, rfl, by omega, rfl, rfl⟩ ?_
 ·exact lessA
 rintro k st ⟨i, rfl, hi, hT, rfl⟩
 have hw := i64_succ (show i < 1000000000 by omega)
 by_cases hlt : i < a.from_.length
 ·obtain ⟨x, hx⟩ := at_lt hlt
  obtain ⟨y, hy⟩ := at_lt (show i < b.from_.length by omega)
  have h1 : ((i : Int) < (a.from_.length : Int)) = True := eq_true (by omega)
  simp only [go_sem, simprocAttr, rows_get hx, rows_get hy, h1, hw, eqVs, eqV, eq_Side]
  ·repeat' (first | refine GifP.mk (fun _ => ?_) (fun _ => ?_) | refine Gif.mk (fun _ => ?_) (fun _ => ?_) | refine And.intro ?_ ?_)
   all_goals first
    | (refine ⟨a.from_.length - (i + 1), _, by omega, ?_, i + 1, rfl, by omega, take_step hT hx hy (by first | assumption | (cases x; cases y; simp_all)), rfl⟩; exact lessA)
    | (simp only [retK, resD, retL, oneD, simprocAttr, Tryz.results69]; exact ⟨_, rfl, rfl, res_no (fun e => by subst e; have hxy := Option.some.inj (hx.symm.trans hy); subst hxy; first | contradiction | simp_all)⟩)
 have h1 : ((i : Int) < (a.from_.length : Int)) = False := eq_false (by omega)
 have hE4 := take_end hT (by omega) hlt
 clear hT hi hw
 simp only [go_sem, simprocAttr, h1]
 clear h1 hlt i
 refine loopS (fun k st => ∃ i : Nat, k = a.to_.length - i ∧ i ≤ a.to_.length ∧ a.to_.take i = b.to_.take i ∧ st = ⟨[(2, .ptr 2 0), (3, .ptr 3 0), (11, int i)], [(2, a.ds), (3, b.ds)], [], .no⟩) a.to_.length _ ?_ ⟨0, rfl, by omega, rfl, rfl⟩ ?_
 ·exact lessA
 rintro k st ⟨i, rfl, hi, hT, rfl⟩
 have hw := i64_succ (show i < 1000000000 by omega)
 by_cases hlt : i < a.to_.length
 ·obtain ⟨x, hx⟩ := at_lt hlt
  obtain ⟨y, hy⟩ := at_lt (show i < b.to_.length by omega)
  have h1 : ((i : Int) < (a.to_.length : Int)) = True := eq_true (by omega)
  simp only [go_sem, simprocAttr, rows_get hx, rows_get hy, h1, hw, eqVs, eqV, eq_Side]
  ·repeat' (first | refine GifP.mk (fun _ => ?_) (fun _ => ?_) | refine Gif.mk (fun _ => ?_) (fun _ => ?_) | refine And.intro ?_ ?_)
   all_goals first
    | (refine ⟨a.to_.length - (i + 1), _, by omega, ?_, i + 1, rfl, by omega, take_step hT hx hy (by first | assumption | (cases x; cases y; simp_all)), rfl⟩; exact lessA)
    | (simp only [retK, resD, retL, oneD, simprocAttr, Tryz.results69]; exact ⟨_, rfl, rfl, res_no (fun e => by subst e; have hxy := Option.some.inj (hx.symm.trans hy); subst hxy; first | contradiction | simp_all)⟩)
 have h1 : ((i : Int) < (a.to_.length : Int)) = False := eq_false (by omega)
 have hE5 := take_end hT (by omega) hlt
 clear hT hi hw
 simp only [go_sem, simprocAttr, h1]
 clear h1 hlt i
 refine loopS (fun k st => ∃ i : Nat, k = a.rules.length - i ∧ i ≤ a.rules.length ∧ a.rules.take i = b.rules.take i ∧ st = ⟨[(2, .ptr 2 0), (3, .ptr 3 0), (12, int i)], [(2, a.ds), (3, b.ds)], [], .no⟩) a.rules.length _ ?_ ⟨0, rfl, by omega, rfl, rfl⟩ ?_
 ·exact lessA
 rintro k st ⟨i, rfl, hi, hT, rfl⟩
 have hw := i64_succ (show i < 1000000000 by omega)
 by_cases hlt : i < a.rules.length
 ·obtain ⟨x, hx⟩ := at_lt hlt
  obtain ⟨y, hy⟩ := at_lt (show i < b.rules.length by omega)
  have h1 : ((i : Int) < (a.rules.length : Int)) = True := eq_true (by omega)
  simp only [go_sem, simprocAttr, rows_get hx, rows_get hy, h1, hw]
  ·repeat' (first | refine GifP.mk (fun _ => ?_) (fun _ => ?_) | refine Gif.mk (fun _ => ?_) (fun _ => ?_) | (refine (ref9_SameRule x y (ha.rus x (List.mem_of_getElem? hx)).ml (ha.rus x (List.mem_of_getElem? hx)).fl (ha.rus x (List.mem_of_getElem? hx)).bl (fun m hm => ⟨((ha.rus x (List.mem_of_getElem? hx)).m m hm).hl, ((ha.rus x (List.mem_of_getElem? hx)).m m hm).ql⟩)).callX (enters_of Tryz.func126 rfl rfl) _ rfl rfl ?_; rintro _ rfl; simp only [go_sem, simprocAttr, rows_get hx, rows_get hy, hw]) | refine And.intro ?_ ?_)
   all_goals first
    | (refine ⟨a.rules.length - (i + 1), _, by omega, ?_, i + 1, rfl, by omega, take_step hT hx hy (by first | assumption | (cases x; cases y; simp_all)), rfl⟩; exact lessA)
    | (simp only [retK, resD, retL, oneD, simprocAttr, Tryz.results69]; exact ⟨_, rfl, rfl, res_no (fun e => by subst e; have hxy := Option.some.inj (hx.symm.trans hy); subst hxy; first | contradiction | simp_all)⟩)
 have h1 : ((i : Int) < (a.rules.length : Int)) = False := eq_false (by omega)
 have hE6 := take_end hT (by omega) hlt
 clear hT hi hw
 simp only [go_sem, simprocAttr, h1]
 clear h1 hlt i
 simp only [retK, resD, retL, oneD, simprocAttr, Tryz.results69]
 exact ⟨_, rfl, rfl, res_yes (by cases a; cases b; simp_all)⟩


structure AObj.sok (o : AObj) : Prop where
 rs : o.ref.space.size ≤ 1000000
 rn : o.ref.name.size ≤ 1000000
 lv : ∀ p ∈ o.labels, p.val.size ≤ 1000000
 ln : ∀ l ∈ o.listeners, l.name.size ≤ 1000000 ∧ l.cert.space.size ≤ 1000000 ∧ ∀ n ∈ l.needs, ∀ s ∈ n.vals, s.size ≤ 1000000
 pa : ∀ p ∈ o.parents, p.space.size ≤ 1000000 ∧ p.section_.size ≤ 1000000
 ru : ∀ r ∈ o.rules, (∀ m ∈ r.matches_, m.method.size ≤ 1000000) ∧ (∀ f ∈ r.filters, f.host.size ≤ 1000000 ∧ f.path.size ≤ 1000000) ∧ ∀ b ∈ r.backends, b.ref.space.size ≤ 1000000
 si : ∀ s ∈ o.from_, s.space.size ≤ 1000000

theorem ref9_kind (n : Int) : Pure Tryz.prog 123 [int n] (fun d => d = bln (okind n)) := by
 refine pure_of_run follows an_zotge Tryz.func123 rfl ok_zotge.1 ok_zotge.2 (by simp [Tryz.ntmps123]) ?_
 rw [run_start]
 simp only [ac_zotge, go_sem, simprocAttr]
 (repeat' (first | (refine GifP.mk (fun _ => ?_) (fun _ => ?_)) | (refine Gif.mk (fun _ => ?_) (fun _ => ?_)))) <;> (simp only [retK, resD, retL, oneD, simprocAttr, Tryz.results123]; exact ⟨_, rfl, rfl, congrArg bln (by first | rfl | (rw [Bool.eq_iff_iff]; simp only [okind]; (first | (simp; done) | (simp; omega) | (simp [*]; done) | (simp [*]; omega))) | (simp_all [okind]; done) | (exfalso; omega))⟩)
theorem ref9_port (n : Int) : Pure Tryz.prog 65 [int n] (fun d => d = bln (oport n)) := by
 refine pure_of_run follows an_ztb7v Tryz.func65 rfl ok_ztb7v.1 ok_ztb7v.2 (by simp [Tryz.ntmps65]) ?_
 rw [run_start]
 simp only [ac_ztb7v, go_sem, simprocAttr]
 (repeat' (first | (refine GifP.mk (fun _ => ?_) (fun _ => ?_)) | (refine Gif.mk (fun _ => ?_) (fun _ => ?_)))) <;> (simp only [retK, resD, retL, oneD, simprocAttr, Tryz.results65]; exact ⟨_, rfl, rfl, congrArg bln (by first | rfl | (rw [Bool.eq_iff_iff]; simp only [oport]; (first | (simp; done) | (simp; omega) | (simp [*]; done) | (simp [*]; omega))) | (simp_all [oport]; done) | (exfalso; omega))⟩)
theorem ref9_near (s : ByteArray) (hs : s.size ≤ 1000000) : Pure Tryz.prog 121 [str s] (fun d => d = bln (labValue s)) := by
 refine pure_of_run follows an_z84ie Tryz.func121 rfl ok_z84ie.1 ok_z84ie.2 (by simp [Tryz.ntmps121]) ?_
 rw [run_start]
 simp only [ac_z84ie, go_sem, simprocAttr]
 (repeat' (first | (refine GifP.mk (fun _ => ?_) (fun _ => ?_)) | (refine Gif.mk (fun _ => ?_) (fun _ => ?_)) | (refine (ref1_Label _ hs).callW (enters_of Tryz.func118 rfl rfl) _ rfl rfl ?_; rintro _ rfl; try simp only [go_sem, simprocAttr]))) <;> (simp only [retK, resD, retL, oneD, simprocAttr, Tryz.results121]; exact ⟨_, rfl, rfl, congrArg bln (by first | rfl | (rw [Bool.eq_iff_iff]; simp only [labValue]; (first | (simp; done) | (simp; omega) | (simp [*]; done) | (simp [*]; omega))) | (simp_all [labValue]; done) | (exfalso; omega))⟩)

theorem mayRef_iff (r : ARef) : mayRef r = true ↔ (r.kind = 1 ∧ r.space = ⟨#[]⟩ ∧ dname r.name = true) ∨ (r.kind = 2 ∧ r.space = ⟨#[]⟩ ∧ label r.name = true) ∨ (3 ≤ r.kind ∧ r.kind ≤ 7 ∧ label r.space = true ∧ dname r.name = true) := by
 unfold mayRef
 split
 ·rename_i h
  simp [h]
 ·split
  ·rename_i h1 h
   simp [h]
  ·rename_i h1 h2
   simp only [okind, Bool.and_eq_true, decide_eq_true_eq]
   constructor
   ·rintro ⟨⟨⟨h3, h4⟩, h5⟩, h6⟩
    exact .inr (.inr ⟨by omega, h4, h5, h6⟩)
   ·rintro (⟨h3, _⟩ | ⟨h3, _⟩ | ⟨h3, h4, h5, h6⟩)
    ·exact absurd h3 h1
    ·exact absurd h3 h2
    ·exact ⟨⟨⟨by omega, h4⟩, h5⟩, h6⟩

set_option maxHeartbeats 2000000 in
theorem ref9_MayRef (r : ARef) (h1 : r.space.size ≤ 1000000) (h2 : r.name.size ≤ 1000000) : Pure Tryz.prog 63 [r.d] (fun d => d = bln (mayRef r)) := by
 refine pure_of_run follows an_zvuu8 Tryz.func63 rfl ok_zvuu8.1 ok_zvuu8.2 (by simp [Tryz.ntmps63]) ?_
 rw [run_start]
 simp only [ac_zvuu8, go_sem, simprocAttr]
 (repeat' (first | (refine GifP.mk (fun _ => ?_) (fun _ => ?_)) | (refine Gif.mk (fun _ => ?_) (fun _ => ?_)) | ((first | refine (ref1_Label r.name h2).callW (enters_of Tryz.func118 rfl rfl) _ rfl rfl ?_ | refine (ref1_Label r.space h1).callW (enters_of Tryz.func118 rfl rfl) _ rfl rfl ?_ | refine (ref1_Name r.name).callW (enters_of Tryz.func78 rfl rfl) _ rfl rfl ?_); rintro _ rfl; try simp only [go_sem, simprocAttr]))) <;> (simp only [retK, resD, retL, oneD, simprocAttr, Tryz.results63]; exact ⟨_, rfl, rfl, congrArg bln (by rw [Bool.eq_iff_iff, mayRef_iff]; first | (simp_all; done) | (simp_all; omega) | (have q1 : ¬ r.kind = 1 ∧ ¬ r.kind = 2 ∧ 3 ≤ r.kind ∧ r.kind ≤ 7 := (by omega); simp_all; done) | (have q1 : ¬ r.kind = 1 ∧ ¬ r.kind = 2 ∧ ¬ 3 ≤ r.kind := (by omega); simp_all; done))⟩)

theorem listenerMay_iff (l : AListener) : listenerMay l = true ↔ ((l.tls = true → l.cert.kind = 4 ∧ labValue l.cert.space = true ∧ dname l.cert.name = true) ∧ (l.tls = false → l.cert.kind = 0 ∧ l.cert.space = ⟨#[]⟩ ∧ l.cert.name = ⟨#[]⟩)) ∧
 label l.name = true ∧ oport l.port = true ∧ hostMay l.host = true ∧ 0 ≤ l.from_ ∧ l.from_ ≤ 2 ∧ needsMay l.needs = true ∧ (l.from_ = 2 ∨ l.needs.length = 0) := by
 simp only [listenerMay, Bool.and_eq_true, Bool.or_eq_true, decide_eq_true_eq]
 cases htls : l.tls <;> simp [and_assoc]

theorem every_iff {α : Type} (p : α → Bool) (l : List α) (n : Int) : every p l n = true ↔ (l.length : Int) ≤ n ∧ ∀ (j : Nat) (x : α), l[j]? = some x → p x = true := by
 simp only [every, Bool.and_eq_true, decide_eq_true_eq, all_at]

theorem gatewayMay_iff (s : ByteArray) (l : List AListener) : gatewayMay s l = true ↔ (dname s = true ∧ 0 < l.length ∧ l.length ≤ 8) ∧
 ∀ (j : Nat) (x : AListener), l[j]? = some x → listenerMay x = true ∧ ∀ (k : Nat) (y : AListener), k < j → l[k]? = some y → ¬ y.name = x.name := by
 simp only [gatewayMay, Bool.and_eq_true, decide_eq_true_eq, every_iff, Bool.not_eq_true', tw_iff, lisName, decide_eq_false_iff_not]
 constructor
 ·rintro ⟨⟨⟨h1, h2⟩, h3, h4⟩, h5⟩
  exact ⟨⟨h1, h2, by omega⟩, fun j x hx => ⟨h4 j x hx, fun k y hk hy e => h5 j x hx k y hk hy e.symm⟩⟩
 ·rintro ⟨⟨h1, h2, h3⟩, h4⟩
  exact ⟨⟨⟨h1, h2⟩, by omega, fun j x hx => (h4 j x hx).1⟩, fun j x hx k y hk hy e => (h4 j x hx).2 k y hk hy e.symm⟩

theorem routeMay_iff (ps : List AParent) (hs : List ByteArray) (rs : List ARule) : routeMay ps hs rs = true ↔ (ps.length ≤ 4 ∧ hs.length ≤ 4 ∧ rs.length ≤ 6) ∧
 (∀ (j : Nat) (x : AParent), ps[j]? = some x → parentMay x = true ∧ ∀ (k : Nat) (y : AParent), k < j → ps[k]? = some y → ¬ y = x) ∧
 (∀ (j : Nat) (x : ByteArray), hs[j]? = some x → patMay x = true ∧ ∀ (k : Nat) (y : ByteArray), k < j → hs[k]? = some y → ¬ y = x) ∧
 ∀ (j : Nat) (x : ARule), rs[j]? = some x → ruleMay x = true := by
 simp only [routeMay, Bool.and_eq_true, every_iff, Bool.not_eq_true', Bool.or_eq_false_iff, tw_iff, parSame, strSame, decide_eq_false_iff_not]
 constructor
 ·rintro ⟨⟨⟨⟨h1, h2⟩, h3, h4⟩, h5, h6⟩, h7, h8⟩
  exact ⟨⟨by omega, by omega, by omega⟩, fun j x hx => ⟨h4 j x hx, fun k y hk hy e => h1 j x hx k y hk hy e.symm⟩, fun j x hx => ⟨h6 j x hx, fun k y hk hy e => h2 j x hx k y hk hy e.symm⟩, h8⟩
 ·rintro ⟨⟨h1, h2, h3⟩, h4, h5, h6⟩
  exact ⟨⟨⟨⟨fun j x hx k y hk hy e => (h4 j x hx).2 k y hk hy e.symm, fun j x hx k y hk hy e => (h5 j x hx).2 k y hk hy e.symm⟩, by omega, fun j x hx => (h4 j x hx).1⟩, by omega, fun j x hx => (h5 j x hx).1⟩, by omega, h6⟩

theorem ruleMay_iff (r : ARule) : ruleMay r = true ↔ (r.matches_.length ≤ 4 ∧ r.backends.length ≤ 4 ∧ filtersAll r.filters = true) ∧ (∀ (j : Nat) (x : AMatch), r.matches_[j]? = some x → matchMay x = true) ∧ ∀ (j : Nat) (x : ABackend), r.backends[j]? = some x → backendMay x = true := by
 simp only [ruleMay, Bool.and_eq_true, every_iff]
 constructor
 ·rintro ⟨⟨⟨h1, h2⟩, h3⟩, h4, h5⟩; exact ⟨⟨by omega, by omega, h3⟩, h2, h5⟩
 ·rintro ⟨⟨h1, h2, h3⟩, h4, h5⟩; exact ⟨⟨⟨by omega, h4⟩, h3⟩, by omega, h5⟩

theorem grantMay_iff (f t : List ASide) : grantMay f t = true ↔ (0 < f.length ∧ f.length ≤ 4 ∧ 0 < t.length ∧ t.length ≤ 4) ∧ (∀ (j : Nat) (x : ASide), f[j]? = some x → sideFrom x = true) ∧ ∀ (j : Nat) (x : ASide), t[j]? = some x → sideTo x = true := by
 simp only [grantMay, Bool.and_eq_true, every_iff, decide_eq_true_eq]
 constructor
 ·rintro ⟨⟨⟨h1, h2⟩, h3, h4⟩, h5, h6⟩; exact ⟨⟨h1, by omega, h2, by omega⟩, h4, h6⟩
 ·rintro ⟨⟨h1, h2, h3, h4⟩, h5, h6⟩; exact ⟨⟨⟨h1, h3⟩, by omega, h5⟩, by omega, h6⟩

theorem backendMay_iff (b : ABackend) : backendMay b = true ↔ okind b.ref.kind = true ∧ labValue b.ref.space = true ∧ dname b.ref.name = true ∧ (b.port = 0 ∨ oport b.port = true) ∧ 0 ≤ b.weight ∧ b.weight ≤ 1000 := by
 simp only [backendMay, Bool.and_eq_true, Bool.or_eq_true, decide_eq_true_eq, and_assoc]

theorem parentMay_iff (p : AParent) : parentMay p = true ↔ labValue p.space = true ∧ dname p.name = true ∧ labValue p.section_ = true ∧ (p.port = 0 ∨ oport p.port = true) := by
 simp only [parentMay, Bool.and_eq_true, Bool.or_eq_true, decide_eq_true_eq, and_assoc]

theorem sideFrom_iff (s : ASide) : sideFrom s = true ↔ okind s.kind = true ∧ label s.space = true ∧ s.name = ⟨#[]⟩ := by
 simp only [sideFrom, Bool.and_eq_true, decide_eq_true_eq, and_assoc]

theorem sideTo_iff (s : ASide) : sideTo s = true ↔ okind s.kind = true ∧ s.space = ⟨#[]⟩ ∧ (s.name = ⟨#[]⟩ ∨ dname s.name = true) := by
 simp only [sideTo, Bool.and_eq_true, Bool.or_eq_true, decide_eq_true_eq, and_assoc]

theorem patMay_iff (s : ByteArray) : patMay s = true ↔ ¬ s = ⟨#[]⟩ ∧ hostMay s = true := by
 simp only [patMay, Bool.and_eq_true, Bool.not_eq_true', decide_eq_false_iff_not]

set_option maxHeartbeats 4000000 in
theorem ref9_rule (r : ARule) (h : r.ok) (hm : ∀ m ∈ r.matches_, m.method.size ≤ 1000000) (hf : ∀ f ∈ r.filters, f.host.size ≤ 1000000 ∧ f.path.size ≤ 1000000) (hb : ∀ b ∈ r.backends, b.ref.space.size ≤ 1000000) : Pure Tryz.prog 122 [r.d] (fun d => d = bln (ruleMay r)) := by
 have hml := h.ml
 have hfl := h.fl
 have hbl := h.bl
 refine pure_of_run follows an_zn5zf Tryz.func122 rfl ok_zn5zf.1 ok_zn5zf.2 (by simp [Tryz.ntmps122]) ?_
 rw [run_start]
 have key : ¬ (r.matches_.length ≤ 4 ∧ r.backends.length ≤ 4 ∧ filtersAll r.filters = true) → bln false = bln (ruleMay r) := fun hn => bool_no fun e => hn ((ruleMay_iff r).1 e).1
 simp only [ac_zn5zf, go_sem, simprocAttr]
 repeat' (first | refine GifP.mk (fun _ => ?_) (fun _ => ?_) | refine Gif.mk (fun _ => ?_) (fun _ => ?_) | (refine (ref7_All r.filters hfl h.f hf).callW (enters_of Tryz.func168 rfl rfl) _ rfl rfl ?_; rintro _ rfl; simp only [go_sem, simprocAttr]) | refine And.intro ?_ ?_)
 all_goals first
  | (simp only [retK, resD, retL, oneD, simprocAttr, Tryz.results122]; exact ⟨_, rfl, rfl, key (by first | omega | (simp_all; done) | (simp_all; omega))⟩)
  | skip
 have hA : r.matches_.length ≤ 4 ∧ r.backends.length ≤ 4 ∧ filtersAll r.filters = true := ⟨by omega, by omega, by assumption⟩
 clear key
 refine loopS (fun k st => ∃ i : Nat, k = r.matches_.length - i ∧ i ≤ r.matches_.length ∧ (∀ (j : Nat) (x : AMatch), j < i → r.matches_[j]? = some x → matchMay x = true) ∧ st = ⟨[(1, .ptr 1 0), (3, int i)], [(1, [.pd (.slice (rows AMatch.pd r.matches_)), .pd (.slice (rows AFilter.pd r.filters)), .pd (.slice (rows ABackend.pd r.backends))])], [], .no⟩) r.matches_.length _ ?_ ⟨0, rfl, by omega, fun _ _ h => absurd h (Nat.not_lt_zero _), rfl⟩ ?_
 ·exact lessA
 rintro k st ⟨i, rfl, hi, hT, rfl⟩
 have hw := i64_succ (show i < 1000000000 by omega)
 by_cases hlt : i < r.matches_.length
 ·obtain ⟨x, hx⟩ := at_lt hlt
  have hmem := List.mem_of_getElem? hx
  have h1 : ((i : Int) < (r.matches_.length : Int)) = True := eq_true (by omega)
  have good : (matchMay x = true) → ∀ st, Weak Tryz.prog st ⟨[(1, .ptr 1 0), (3, int (i + 1 : Nat))], [(1, [.pd (.slice (rows AMatch.pd r.matches_)), .pd (.slice (rows AFilter.pd r.filters)), .pd (.slice (rows ABackend.pd r.backends))])], [], .no⟩ → Round Tryz.prog (fun k st => ∃ i : Nat, k = r.matches_.length - i ∧ i ≤ r.matches_.length ∧ (∀ (j : Nat) (x : AMatch), j < i → r.matches_[j]? = some x → matchMay x = true) ∧ st = ⟨[(1, .ptr 1 0), (3, int i)], [(1, [.pd (.slice (rows AMatch.pd r.matches_)), .pd (.slice (rows AFilter.pd r.filters)), .pd (.slice (rows ABackend.pd r.backends))])], [], .no⟩) (r.matches_.length - i) st := fun h st hw => ⟨r.matches_.length - (i + 1), _, by omega, hw, i + 1, rfl, by omega, snoc_all hT hx h, rfl⟩
  have bad : ¬ (matchMay x = true) → bln false = bln (ruleMay r) := fun h => bool_no fun e => h (((ruleMay_iff r).1 e).2.1 i x hx)
  simp only [go_sem, simprocAttr, rows_get hx, h1, hw]
  repeat' (first | refine GifP.mk (fun _ => ?_) (fun _ => ?_) | refine Gif.mk (fun _ => ?_) (fun _ => ?_) | (refine (ref6_May x (h.m x hmem) (hm x hmem)).callW (enters_of Tryz.func169 rfl rfl) _ rfl rfl ?_; rintro _ rfl; simp only [go_sem, simprocAttr, rows_get hx, hw]) | refine And.intro ?_ ?_)
  all_goals first
   | (refine good (by assumption) _ ?_; exact lessA)
   | (simp only [retK, resD, retL, oneD, simprocAttr, Tryz.results122]; exact ⟨_, rfl, rfl, bad (by simp_all)⟩)
 have h1 : ((i : Int) < (r.matches_.length : Int)) = False := eq_false (by omega)
 have hMatch : ∀ (j : Nat) (x : AMatch), r.matches_[j]? = some x → matchMay x = true := fun j x hx => hT j x (by have := (List.getElem?_eq_some_iff.1 hx).1; omega) hx
 clear hT hw hi
 simp only [go_sem, simprocAttr, h1]
 first | clear h1 hlt i | clear h1 hlt
 refine loopS (fun k st => ∃ i : Nat, k = r.backends.length - i ∧ i ≤ r.backends.length ∧ (∀ (j : Nat) (x : ABackend), j < i → r.backends[j]? = some x → backendMay x = true) ∧ st = ⟨[(1, .ptr 1 0), (4, int i)], [(1, [.pd (.slice (rows AMatch.pd r.matches_)), .pd (.slice (rows AFilter.pd r.filters)), .pd (.slice (rows ABackend.pd r.backends))])], [], .no⟩) r.backends.length _ ?_ ⟨0, rfl, by omega, fun _ _ h => absurd h (Nat.not_lt_zero _), rfl⟩ ?_
 ·exact lessA
 rintro k st ⟨i, rfl, hi, hT, rfl⟩
 have hw := i64_succ (show i < 1000000000 by omega)
 by_cases hlt : i < r.backends.length
 ·obtain ⟨x, hx⟩ := at_lt hlt
  have hmem := List.mem_of_getElem? hx
  have h1 : ((i : Int) < (r.backends.length : Int)) = True := eq_true (by omega)
  have good : (backendMay x = true) → ∀ st, Weak Tryz.prog st ⟨[(1, .ptr 1 0), (4, int (i + 1 : Nat))], [(1, [.pd (.slice (rows AMatch.pd r.matches_)), .pd (.slice (rows AFilter.pd r.filters)), .pd (.slice (rows ABackend.pd r.backends))])], [], .no⟩ → Round Tryz.prog (fun k st => ∃ i : Nat, k = r.backends.length - i ∧ i ≤ r.backends.length ∧ (∀ (j : Nat) (x : ABackend), j < i → r.backends[j]? = some x → backendMay x = true) ∧ st = ⟨[(1, .ptr 1 0), (4, int i)], [(1, [.pd (.slice (rows AMatch.pd r.matches_)), .pd (.slice (rows AFilter.pd r.filters)), .pd (.slice (rows ABackend.pd r.backends))])], [], .no⟩) (r.backends.length - i) st := fun h st hw => ⟨r.backends.length - (i + 1), _, by omega, hw, i + 1, rfl, by omega, snoc_all hT hx h, rfl⟩
  have bad : ¬ (backendMay x = true) → bln false = bln (ruleMay r) := fun h => bool_no fun e => h (((ruleMay_iff r).1 e).2.2 i x hx)
  simp only [go_sem, simprocAttr, rows_get hx, h1, hw]
  repeat' (first | refine GifP.mk (fun _ => ?_) (fun _ => ?_) | refine Gif.mk (fun _ => ?_) (fun _ => ?_) | (refine (ref9_kind x.ref.kind).callW (enters_of Tryz.func123 rfl rfl) _ rfl rfl ?_; rintro _ rfl; simp only [go_sem, simprocAttr, rows_get hx, hw]) | (refine (ref9_near x.ref.space (hb x hmem)).callW (enters_of Tryz.func121 rfl rfl) _ rfl rfl ?_; rintro _ rfl; simp only [go_sem, simprocAttr, rows_get hx, hw]) | (refine (ref1_Name x.ref.name).callW (enters_of Tryz.func78 rfl rfl) _ rfl rfl ?_; rintro _ rfl; simp only [go_sem, simprocAttr, rows_get hx, hw]) | (refine (ref9_port x.port).callW (enters_of Tryz.func65 rfl rfl) _ rfl rfl ?_; rintro _ rfl; simp only [go_sem, simprocAttr, rows_get hx, hw]) | refine And.intro ?_ ?_)
  all_goals first
   | (refine good ((backendMay_iff x).2 (by first | (simp_all; done) | (simp_all; omega))) _ ?_; exact lessA)
   | (simp only [retK, resD, retL, oneD, simprocAttr, Tryz.results122]; exact ⟨_, rfl, rfl, bad (by rw [backendMay_iff]; first | (simp_all; done) | (simp_all; omega) | (intro hh; simp_all; omega))⟩)
 have h1 : ((i : Int) < (r.backends.length : Int)) = False := eq_false (by omega)
 have hBack : ∀ (j : Nat) (x : ABackend), r.backends[j]? = some x → backendMay x = true := fun j x hx => hT j x (by have := (List.getElem?_eq_some_iff.1 hx).1; omega) hx
 clear hT hw hi
 simp only [go_sem, simprocAttr, h1]
 first | clear h1 hlt i | clear h1 hlt
 simp only [retK, resD, retL, oneD, simprocAttr, Tryz.results122]
 exact ⟨_, rfl, rfl, bool_yes ((ruleMay_iff r).2 ⟨hA, hMatch, hBack⟩)⟩

set_option maxHeartbeats 4000000 in
theorem ref9_grant (o : AObj) (h : o.ok) (hs : ∀ s ∈ o.from_, s.space.size ≤ 1000000) : Pure Tryz.prog 68 [o.d] (fun d => d = bln (grantMay o.from_ o.to_)) := by
 have hfr := h.fr
 have hto := h.to
 refine pure_of_run follows an_zrloc Tryz.func68 rfl ok_zrloc.1 ok_zrloc.2 (by simp [Tryz.ntmps68]) ?_
 rw [run_start]
 simp only [ac_zrloc, go_sem, simprocAttr]
 refine loopS (fun k st => ∃ i : Nat, k = o.from_.length - i ∧ i ≤ o.from_.length ∧ (∀ (j : Nat) (x : ASide), j < i → o.from_[j]? = some x → sideFrom x = true) ∧ st = ⟨[(1, .ptr 1 0), (3, int i)], [(1, o.ds)], [], .no⟩) o.from_.length _ ?_ ⟨0, rfl, by omega, fun _ _ h => absurd h (Nat.not_lt_zero _), rfl⟩ ?_
 ·exact lessA
 rintro k st ⟨i, rfl, hi, hT, rfl⟩
 have hw := i64_succ (show i < 1000000000 by omega)
 by_cases hlt : i < o.from_.length
 ·obtain ⟨x, hx⟩ := at_lt hlt
  have hmem := List.mem_of_getElem? hx
  have h1 : ((i : Int) < (o.from_.length : Int)) = True := eq_true (by omega)
  have good : (sideFrom x = true) → ∀ st, Weak Tryz.prog st ⟨[(1, .ptr 1 0), (3, int (i + 1 : Nat))], [(1, o.ds)], [], .no⟩ → Round Tryz.prog (fun k st => ∃ i : Nat, k = o.from_.length - i ∧ i ≤ o.from_.length ∧ (∀ (j : Nat) (x : ASide), j < i → o.from_[j]? = some x → sideFrom x = true) ∧ st = ⟨[(1, .ptr 1 0), (3, int i)], [(1, o.ds)], [], .no⟩) (o.from_.length - i) st := fun h st hw => ⟨o.from_.length - (i + 1), _, by omega, hw, i + 1, rfl, by omega, snoc_all hT hx h, rfl⟩
  have bad : ¬ (sideFrom x = true) → bln false = bln (grantMay o.from_ o.to_) := fun h => bool_no fun e => h (((grantMay_iff _ _).1 e).2.1 i x hx)
  simp only [go_sem, simprocAttr, rows_get hx, h1, hw]
  repeat' (first | refine GifP.mk (fun _ => ?_) (fun _ => ?_) | refine Gif.mk (fun _ => ?_) (fun _ => ?_) | (refine (ref9_kind x.kind).callW (enters_of Tryz.func123 rfl rfl) _ rfl rfl ?_; rintro _ rfl; simp only [go_sem, simprocAttr, rows_get hx, hw]) | (refine (ref1_Label x.space (hs x hmem)).callW (enters_of Tryz.func118 rfl rfl) _ rfl rfl ?_; rintro _ rfl; simp only [go_sem, simprocAttr, rows_get hx, hw]) | refine And.intro ?_ ?_)
  all_goals first
   | (refine good ((sideFrom_iff x).2 (by simp_all)) _ ?_; exact lessA)
   | (simp only [retK, resD, retL, oneD, simprocAttr, Tryz.results68]; exact ⟨_, rfl, rfl, bad (by rw [sideFrom_iff]; simp_all)⟩)
 have h1 : ((i : Int) < (o.from_.length : Int)) = False := eq_false (by omega)
 have hFrom : ∀ (j : Nat) (x : ASide), o.from_[j]? = some x → sideFrom x = true := fun j x hx => hT j x (by have := (List.getElem?_eq_some_iff.1 hx).1; omega) hx
 clear hT hw hi
 simp only [go_sem, simprocAttr, h1]
 first | clear h1 hlt i | clear h1 hlt
 refine loopS (fun k st => ∃ i : Nat, k = o.to_.length - i ∧ i ≤ o.to_.length ∧ (∀ (j : Nat) (x : ASide), j < i → o.to_[j]? = some x → sideTo x = true) ∧ st = ⟨[(1, .ptr 1 0), (4, int i)], [(1, o.ds)], [], .no⟩) o.to_.length _ ?_ ⟨0, rfl, by omega, fun _ _ h => absurd h (Nat.not_lt_zero _), rfl⟩ ?_
 ·exact lessA
 rintro k st ⟨i, rfl, hi, hT, rfl⟩
 have hw := i64_succ (show i < 1000000000 by omega)
 by_cases hlt : i < o.to_.length
 ·obtain ⟨x, hx⟩ := at_lt hlt
  have hmem := List.mem_of_getElem? hx
  have h1 : ((i : Int) < (o.to_.length : Int)) = True := eq_true (by omega)
  have good : (sideTo x = true) → ∀ st, Weak Tryz.prog st ⟨[(1, .ptr 1 0), (4, int (i + 1 : Nat))], [(1, o.ds)], [], .no⟩ → Round Tryz.prog (fun k st => ∃ i : Nat, k = o.to_.length - i ∧ i ≤ o.to_.length ∧ (∀ (j : Nat) (x : ASide), j < i → o.to_[j]? = some x → sideTo x = true) ∧ st = ⟨[(1, .ptr 1 0), (4, int i)], [(1, o.ds)], [], .no⟩) (o.to_.length - i) st := fun h st hw => ⟨o.to_.length - (i + 1), _, by omega, hw, i + 1, rfl, by omega, snoc_all hT hx h, rfl⟩
  have bad : ¬ (sideTo x = true) → bln false = bln (grantMay o.from_ o.to_) := fun h => bool_no fun e => h (((grantMay_iff _ _).1 e).2.2 i x hx)
  simp only [go_sem, simprocAttr, rows_get hx, h1, hw]
  repeat' (first | refine GifP.mk (fun _ => ?_) (fun _ => ?_) | refine Gif.mk (fun _ => ?_) (fun _ => ?_) | (refine (ref9_kind x.kind).callW (enters_of Tryz.func123 rfl rfl) _ rfl rfl ?_; rintro _ rfl; simp only [go_sem, simprocAttr, rows_get hx, hw]) | (refine (ref1_Name x.name).callW (enters_of Tryz.func78 rfl rfl) _ rfl rfl ?_; rintro _ rfl; simp only [go_sem, simprocAttr, rows_get hx, hw]) | refine And.intro ?_ ?_)
  all_goals first
   | (refine good ((sideTo_iff x).2 (by simp_all)) _ ?_; exact lessA)
   | (simp only [retK, resD, retL, oneD, simprocAttr, Tryz.results68]; exact ⟨_, rfl, rfl, bad (by rw [sideTo_iff]; simp_all)⟩)
 have h1 : ((i : Int) < (o.to_.length : Int)) = False := eq_false (by omega)
 have hTo : ∀ (j : Nat) (x : ASide), o.to_[j]? = some x → sideTo x = true := fun j x hx => hT j x (by have := (List.getElem?_eq_some_iff.1 hx).1; omega) hx
 clear hT hw hi
 simp only [go_sem, simprocAttr, h1]
 first | clear h1 hlt i | clear h1 hlt
 repeat' (first | refine GifP.mk (fun _ => ?_) (fun _ => ?_) | refine Gif.mk (fun _ => ?_) (fun _ => ?_))
 all_goals
  simp only [retK, resD, retL, oneD, simprocAttr, Tryz.results68]
  first
   | exact ⟨_, rfl, rfl, bool_no fun e => by have := ((grantMay_iff _ _).1 e).1; omega⟩
   | exact ⟨_, rfl, rfl, bool_dec ⟨fun h => (grantMay_iff _ _).2 ⟨by omega, hFrom, hTo⟩, fun h => by have := ((grantMay_iff _ _).1 h).1; omega⟩⟩

set_option maxHeartbeats 8000000 in
theorem ref9_gateway (o : AObj) (h : o.ok) (hs : ∀ l ∈ o.listeners, l.name.size ≤ 1000000 ∧ l.cert.space.size ≤ 1000000 ∧ ∀ n ∈ l.needs, ∀ s ∈ n.vals, s.size ≤ 1000000) : Pure Tryz.prog 66 [o.d] (fun d => d = bln (gatewayMay o.cls o.listeners)) := by
 have hli := h.li
 refine pure_of_run follows an_zlyo9 Tryz.func66 rfl ok_zlyo9.1 ok_zlyo9.2 (by simp [Tryz.ntmps66]) ?_
 rw [run_start]
 simp only [ac_zlyo9, go_sem, simprocAttr]
 refine loopS (fun k st => ∃ i : Nat, k = o.listeners.length - i ∧ i ≤ o.listeners.length ∧ (∀ (j : Nat) (x : AListener), j < i → o.listeners[j]? = some x → listenerMay x = true ∧ ∀ (k : Nat) (y : AListener), k < (j) → o.listeners[k]? = some y → ¬ y.name = x.name) ∧ st = ⟨[(1, .ptr 1 0), (3, .pd (.slice (rows AListener.pd o.listeners))), (4, int i)], [(1, o.ds)], [], .no⟩) o.listeners.length _ ?_ ⟨0, rfl, by omega, fun _ _ h => absurd h (Nat.not_lt_zero _), rfl⟩ ?_
 ·exact lessA
 rintro k st ⟨i, rfl, hi, hT, rfl⟩
 have hw := i64_succ (show i < 1000000000 by omega)
 by_cases hlt : i < o.listeners.length
 ·obtain ⟨x, hx⟩ := at_lt hlt
  have hmem := List.mem_of_getElem? hx
  have h1 : ((i : Int) < (o.listeners.length : Int)) = True := eq_true (by omega)
  have good : (listenerMay x = true ∧ ∀ (k : Nat) (y : AListener), k < i → o.listeners[k]? = some y → ¬ y.name = x.name) → ∀ st, Weak Tryz.prog st ⟨[(1, .ptr 1 0), (3, .pd (.slice (rows AListener.pd o.listeners))), (4, int (i + 1 : Nat))], [(1, o.ds)], [], .no⟩ → Round Tryz.prog (fun k st => ∃ i : Nat, k = o.listeners.length - i ∧ i ≤ o.listeners.length ∧ (∀ (j : Nat) (x : AListener), j < i → o.listeners[j]? = some x → listenerMay x = true ∧ ∀ (k : Nat) (y : AListener), k < (j) → o.listeners[k]? = some y → ¬ y.name = x.name) ∧ st = ⟨[(1, .ptr 1 0), (3, .pd (.slice (rows AListener.pd o.listeners))), (4, int i)], [(1, o.ds)], [], .no⟩) (o.listeners.length - i) st := fun h st hw => ⟨o.listeners.length - (i + 1), _, by omega, hw, i + 1, rfl, by omega, snoc_all hT hx h, rfl⟩
  have bad : ¬ (listenerMay x = true ∧ ∀ (k : Nat) (y : AListener), k < i → o.listeners[k]? = some y → ¬ y.name = x.name) → bln false = bln (gatewayMay o.cls o.listeners) := fun h => bool_no fun e => h (((gatewayMay_iff _ _).1 e).2 i x hx)
  simp only [go_sem, simprocAttr, rows_get hx, h1, hw]
  refine loopS (fun n st => ∃ k : Nat, n = i - k ∧ k ≤ i ∧ (∀ (k' : Nat) (y : AListener), k' < k → o.listeners[k']? = some y → ¬ y.name = x.name) ∧ st = ⟨[(1, .ptr 1 0), (3, .pd (.slice (rows AListener.pd o.listeners))), (4, int i), (5, .ptr 5 0), (6, int k)], [(1, o.ds), (5, x.ds)], [], .no⟩) i _ ?_ ⟨0, rfl, by omega, fun _ _ h => absurd h (Nat.not_lt_zero _), rfl⟩ ?_
  ·exact lessA
  rintro n st ⟨k, rfl, hk, hS, rfl⟩
  have hwk := i64_succ (show k < 1000000000 by omega)
  by_cases hki : k < i
  ·obtain ⟨y, hy⟩ := at_lt (show k < o.listeners.length by omega)
   have hmy := List.mem_of_getElem? hy
   have h2 : ((k : Int) < (i : Int)) = True := eq_true (by omega)
   have goodk : (¬ y.name = x.name) → ∀ st, Weak Tryz.prog st ⟨[(1, .ptr 1 0), (3, .pd (.slice (rows AListener.pd o.listeners))), (4, int i), (5, .ptr 5 0), (6, int (k + 1 : Nat))], [(1, o.ds), (5, x.ds)], [], .no⟩ → Round Tryz.prog (fun n st => ∃ k : Nat, n = i - k ∧ k ≤ i ∧ (∀ (k' : Nat) (y : AListener), k' < k → o.listeners[k']? = some y → ¬ y.name = x.name) ∧ st = ⟨[(1, .ptr 1 0), (3, .pd (.slice (rows AListener.pd o.listeners))), (4, int i), (5, .ptr 5 0), (6, int k)], [(1, o.ds), (5, x.ds)], [], .no⟩) (i - k) st := fun h st hw => ⟨i - (k + 1), _, by omega, hw, k + 1, rfl, by omega, snoc_all hS hy h, rfl⟩
   have badk : ¬ (¬ y.name = x.name) → bln false = bln (gatewayMay o.cls o.listeners) := fun h => bad (fun e => h (e.2 k y hki hy))
   simp only [go_sem, simprocAttr, rows_get hx, rows_get hy, h2, hwk]
   repeat' (first | refine GifP.mk (fun _ => ?_) (fun _ => ?_) | refine Gif.mk (fun _ => ?_) (fun _ => ?_) | refine And.intro ?_ ?_)
   all_goals first
    | (refine goodk (by first | omega | (simp_all; done) | (simp_all; omega)) _ ?_; exact lessA)
    | (simp only [retK, resD, retL, oneD, simprocAttr, Tryz.results66]; exact ⟨_, rfl, rfl, badk (by first | omega | (simp_all; done) | (simp_all; omega))⟩)
  have h2 : ((k : Int) < (i : Int)) = False := eq_false (by omega)
  have hIn : ∀ (k : Nat) (y : AListener), k < i → o.listeners[k]? = some y → ¬ y.name = x.name := fun k' y hk' hy => hS k' y (by omega) hy
  clear hS hwk hk
  simp only [go_sem, simprocAttr, rows_get hx, h2, hw]
  first | clear h2 hki k | clear h2 hki
  repeat' (first | refine GifP.mk (fun _ => ?_) (fun _ => ?_) | refine Gif.mk (fun _ => ?_) (fun _ => ?_) | (refine (ref1_Label x.name (hs x hmem).1).callW (enters_of Tryz.func118 rfl rfl) _ rfl rfl ?_; rintro _ rfl; simp only [go_sem, simprocAttr, rows_get hx, hw, eqVs, eqV]) | (refine (ref9_port x.port).callW (enters_of Tryz.func65 rfl rfl) _ rfl rfl ?_; rintro _ rfl; simp only [go_sem, simprocAttr, rows_get hx, hw, eqVs, eqV]) | (refine (ref2_May x.host).callW (enters_of Tryz.func43 rfl rfl) _ rfl rfl ?_; rintro _ rfl; simp only [go_sem, simprocAttr, rows_get hx, hw, eqVs, eqV]) | (refine (ref8_Needs x.needs (h.lis x hmem).nl (h.lis x hmem).n (hs x hmem).2.2).callW (enters_of Tryz.func120 rfl rfl) _ rfl rfl ?_; rintro _ rfl; simp only [go_sem, simprocAttr, rows_get hx, hw, eqVs, eqV]) | (refine (ref9_near x.cert.space (hs x hmem).2.1).callW (enters_of Tryz.func121 rfl rfl) _ rfl rfl ?_; rintro _ rfl; simp only [go_sem, simprocAttr, rows_get hx, hw, eqVs, eqV]) | (refine (ref1_Name x.cert.name).callW (enters_of Tryz.func78 rfl rfl) _ rfl rfl ?_; rintro _ rfl; simp only [go_sem, simprocAttr, rows_get hx, hw, eqVs, eqV]) | refine And.intro ?_ ?_)
  all_goals first
   | (refine good (⟨(listenerMay_iff x).2 (by first | (simp_all; done) | (simp_all; omega)), hIn⟩) _ ?_; exact lessA)
   | (simp only [retK, resD, retL, oneD, simprocAttr, Tryz.results66]; exact ⟨_, rfl, rfl, bad (fun e => by have e1 := (listenerMay_iff x).1 e.1; clear e; first | omega | (simp_all; done) | (simp_all; omega))⟩)
 have h1 : ((i : Int) < (o.listeners.length : Int)) = False := eq_false (by omega)
 have hall : ∀ (j : Nat) (x : AListener), o.listeners[j]? = some x → listenerMay x = true ∧ ∀ (k : Nat) (y : AListener), k < (j) → o.listeners[k]? = some y → ¬ y.name = x.name := fun j x hx => hT j x (by have := (List.getElem?_eq_some_iff.1 hx).1; omega) hx
 clear hT hw hi
 simp only [go_sem, simprocAttr, h1]
 first | clear h1 hlt i | clear h1 hlt
 repeat' (first | refine GifP.mk (fun _ => ?_) (fun _ => ?_) | refine Gif.mk (fun _ => ?_) (fun _ => ?_) | (refine (ref1_Name o.cls).callW (enters_of Tryz.func78 rfl rfl) _ rfl rfl ?_; rintro _ rfl; simp only [go_sem, simprocAttr]) | refine And.intro ?_ ?_)
 all_goals
  simp only [retK, resD, retL, oneD, simprocAttr, Tryz.results66]
  first
   | exact ⟨_, rfl, rfl, bool_no fun e => by have := ((gatewayMay_iff _ _).1 e).1; first | omega | (simp_all; done)⟩
   | exact ⟨_, rfl, rfl, bool_dec ⟨fun h => (gatewayMay_iff _ _).2 ⟨⟨by assumption, by omega, by omega⟩, hall⟩, fun h => by have := ((gatewayMay_iff _ _).1 h).1; omega⟩⟩

set_option maxHeartbeats 8000000 in
theorem ref9_route (o : AObj) (h : o.ok) (hp : ∀ p ∈ o.parents, p.space.size ≤ 1000000 ∧ p.section_.size ≤ 1000000)
 (hr : ∀ r ∈ o.rules, (∀ m ∈ r.matches_, m.method.size ≤ 1000000) ∧ (∀ f ∈ r.filters, f.host.size ≤ 1000000 ∧ f.path.size ≤ 1000000) ∧ ∀ b ∈ r.backends, b.ref.space.size ≤ 1000000) : Pure Tryz.prog 67 [o.d] (fun d => d = bln (routeMay o.parents o.hosts o.rules)) := by
 have hpa := h.pa
 have hho := h.ho
 have hru := h.ru
 refine pure_of_run follows an_zgo5l Tryz.func67 rfl ok_zgo5l.1 ok_zgo5l.2 (by simp [Tryz.ntmps67]) ?_
 rw [run_start]
 simp only [ac_zgo5l, go_sem, simprocAttr]
 refine loopS (fun k st => ∃ i : Nat, k = o.parents.length - i ∧ i ≤ o.parents.length ∧ (∀ (j : Nat) (x : AParent), j < i → o.parents[j]? = some x → parentMay x = true ∧ ∀ (k : Nat) (y : AParent), k < (j) → o.parents[k]? = some y → ¬ y = x) ∧ st = ⟨[(1, .ptr 1 0), (3, int i)], [(1, o.ds)], [], .no⟩) o.parents.length _ ?_ ⟨0, rfl, by omega, fun _ _ h => absurd h (Nat.not_lt_zero _), rfl⟩ ?_
 ·exact lessA
 rintro k st ⟨i, rfl, hi, hT, rfl⟩
 have hw := i64_succ (show i < 1000000000 by omega)
 by_cases hlt : i < o.parents.length
 ·obtain ⟨x, hx⟩ := at_lt hlt
  have hmem := List.mem_of_getElem? hx
  have h1 : ((i : Int) < (o.parents.length : Int)) = True := eq_true (by omega)
  have good : (parentMay x = true ∧ ∀ (k : Nat) (y : AParent), k < i → o.parents[k]? = some y → ¬ y = x) → ∀ st, Weak Tryz.prog st ⟨[(1, .ptr 1 0), (3, int (i + 1 : Nat))], [(1, o.ds)], [], .no⟩ → Round Tryz.prog (fun k st => ∃ i : Nat, k = o.parents.length - i ∧ i ≤ o.parents.length ∧ (∀ (j : Nat) (x : AParent), j < i → o.parents[j]? = some x → parentMay x = true ∧ ∀ (k : Nat) (y : AParent), k < (j) → o.parents[k]? = some y → ¬ y = x) ∧ st = ⟨[(1, .ptr 1 0), (3, int i)], [(1, o.ds)], [], .no⟩) (o.parents.length - i) st := fun h st hw => ⟨o.parents.length - (i + 1), _, by omega, hw, i + 1, rfl, by omega, snoc_all hT hx h, rfl⟩
  have bad : ¬ (parentMay x = true ∧ ∀ (k : Nat) (y : AParent), k < i → o.parents[k]? = some y → ¬ y = x) → bln false = bln (routeMay o.parents o.hosts o.rules) := fun h => bool_no fun e => h (((routeMay_iff _ _ _).1 e).2.1 i x hx)
  simp only [go_sem, simprocAttr, rows_get hx, h1, hw]
  repeat' (first | refine GifP.mk (fun _ => ?_) (fun _ => ?_) | refine Gif.mk (fun _ => ?_) (fun _ => ?_) | (refine (ref9_near x.space (hp x hmem).1).callW (enters_of Tryz.func121 rfl rfl) _ rfl rfl ?_; rintro _ rfl; simp only [go_sem, simprocAttr, rows_get hx, hw]) | (refine (ref1_Name x.name).callW (enters_of Tryz.func78 rfl rfl) _ rfl rfl ?_; rintro _ rfl; simp only [go_sem, simprocAttr, rows_get hx, hw]) | (refine (ref9_near x.section_ (hp x hmem).2).callW (enters_of Tryz.func121 rfl rfl) _ rfl rfl ?_; rintro _ rfl; simp only [go_sem, simprocAttr, rows_get hx, hw]) | (refine (ref9_port x.port).callW (enters_of Tryz.func65 rfl rfl) _ rfl rfl ?_; rintro _ rfl; simp only [go_sem, simprocAttr, rows_get hx, hw]) | refine And.intro ?_ ?_)
  all_goals first
   | (simp only [retK, resD, retL, oneD, simprocAttr, Tryz.results67]; exact ⟨_, rfl, rfl, bad (fun e => by have e1 := (parentMay_iff x).1 e.1; clear e; first | omega | (simp_all; done) | (simp_all; omega))⟩)
   | skip
  all_goals
   have hmay : parentMay x = true := (parentMay_iff x).2 (by simp_all)
   refine loopS (fun n st => ∃ k : Nat, n = i - k ∧ k ≤ i ∧ (∀ (k' : Nat) (y : AParent), k' < k → o.parents[k']? = some y → ¬ y = x) ∧ st = ⟨[(1, .ptr 1 0), (3, int i), (4, .ptr 4 0), (5, int k)], [(1, o.ds), (4, x.ds)], [], .no⟩) i _ ?_ ⟨0, rfl, by omega, fun _ _ h => absurd h (Nat.not_lt_zero _), rfl⟩ ?_
   ·exact lessA
   rintro n st ⟨k, rfl, hk, hS, rfl⟩
   have hwk := i64_succ (show k < 1000000000 by omega)
   by_cases hki : k < i
   ·obtain ⟨y, hy⟩ := at_lt (show k < o.parents.length by omega)
    have hmy := List.mem_of_getElem? hy
    have h2 : ((k : Int) < (i : Int)) = True := eq_true (by omega)
    have goodk : (¬ y = x) → ∀ st, Weak Tryz.prog st ⟨[(1, .ptr 1 0), (3, int i), (4, .ptr 4 0), (5, int (k + 1 : Nat))], [(1, o.ds), (4, x.ds)], [], .no⟩ → Round Tryz.prog (fun n st => ∃ k : Nat, n = i - k ∧ k ≤ i ∧ (∀ (k' : Nat) (y : AParent), k' < k → o.parents[k']? = some y → ¬ y = x) ∧ st = ⟨[(1, .ptr 1 0), (3, int i), (4, .ptr 4 0), (5, int k)], [(1, o.ds), (4, x.ds)], [], .no⟩) (i - k) st := fun h st hw => ⟨i - (k + 1), _, by omega, hw, k + 1, rfl, by omega, snoc_all hS hy h, rfl⟩
    have badk : ¬ (¬ y = x) → bln false = bln (routeMay o.parents o.hosts o.rules) := fun h => bad (fun e => h (e.2 k y hki hy))
    simp only [go_sem, simprocAttr, rows_get hx, rows_get hy, h2, hwk, eqVs, eqV, eq_Parent]
    repeat' (first | refine GifP.mk (fun _ => ?_) (fun _ => ?_) | refine Gif.mk (fun _ => ?_) (fun _ => ?_) | refine And.intro ?_ ?_)
    all_goals first
     | (refine goodk (by first | omega | (simp_all; done) | (simp_all; omega)) _ ?_; exact lessA)
     | (simp only [retK, resD, retL, oneD, simprocAttr, Tryz.results67]; exact ⟨_, rfl, rfl, badk (by first | omega | (simp_all; done) | (simp_all; omega))⟩)
   have h2 : ((k : Int) < (i : Int)) = False := eq_false (by omega)
   have hIn : ∀ (k : Nat) (y : AParent), k < i → o.parents[k]? = some y → ¬ y = x := fun k' y hk' hy => hS k' y (by omega) hy
   clear hS hwk hk
   simp only [go_sem, simprocAttr, rows_get hx, h2, hw, eqVs, eqV, eq_Parent]
   first | clear h2 hki k | clear h2 hki
   refine good ⟨hmay, hIn⟩ _ ?_
   exact lessA
 have h1 : ((i : Int) < (o.parents.length : Int)) = False := eq_false (by omega)
 have hPar : ∀ (j : Nat) (x : AParent), o.parents[j]? = some x → parentMay x = true ∧ ∀ (k : Nat) (y : AParent), k < (j) → o.parents[k]? = some y → ¬ y = x := fun j x hx => hT j x (by have := (List.getElem?_eq_some_iff.1 hx).1; omega) hx
 clear hT hw hi
 simp only [go_sem, simprocAttr, h1]
 first | clear h1 hlt i | clear h1 hlt
 refine loopS (fun k st => ∃ i : Nat, k = o.hosts.length - i ∧ i ≤ o.hosts.length ∧ (∀ (j : Nat) (x : ByteArray), j < i → o.hosts[j]? = some x → patMay x = true ∧ ∀ (k : Nat) (y : ByteArray), k < (j) → o.hosts[k]? = some y → ¬ y = x) ∧ st = ⟨[(1, .ptr 1 0), (6, int i)], [(1, o.ds)], [], .no⟩) o.hosts.length _ ?_ ⟨0, rfl, by omega, fun _ _ h => absurd h (Nat.not_lt_zero _), rfl⟩ ?_
 ·exact lessA
 rintro k st ⟨i, rfl, hi, hT, rfl⟩
 have hw := i64_succ (show i < 1000000000 by omega)
 by_cases hlt : i < o.hosts.length
 ·obtain ⟨x, hx⟩ := at_lt hlt
  have hmem := List.mem_of_getElem? hx
  have h1 : ((i : Int) < (o.hosts.length : Int)) = True := eq_true (by omega)
  have good : (patMay x = true ∧ ∀ (k : Nat) (y : ByteArray), k < i → o.hosts[k]? = some y → ¬ y = x) → ∀ st, Weak Tryz.prog st ⟨[(1, .ptr 1 0), (6, int (i + 1 : Nat))], [(1, o.ds)], [], .no⟩ → Round Tryz.prog (fun k st => ∃ i : Nat, k = o.hosts.length - i ∧ i ≤ o.hosts.length ∧ (∀ (j : Nat) (x : ByteArray), j < i → o.hosts[j]? = some x → patMay x = true ∧ ∀ (k : Nat) (y : ByteArray), k < (j) → o.hosts[k]? = some y → ¬ y = x) ∧ st = ⟨[(1, .ptr 1 0), (6, int i)], [(1, o.ds)], [], .no⟩) (o.hosts.length - i) st := fun h st hw => ⟨o.hosts.length - (i + 1), _, by omega, hw, i + 1, rfl, by omega, snoc_all hT hx h, rfl⟩
  have bad : ¬ (patMay x = true ∧ ∀ (k : Nat) (y : ByteArray), k < i → o.hosts[k]? = some y → ¬ y = x) → bln false = bln (routeMay o.parents o.hosts o.rules) := fun h => bool_no fun e => h (((routeMay_iff _ _ _).1 e).2.2.1 i x hx)
  simp only [go_sem, simprocAttr, rows_get hx, h1, hw]
  repeat' (first | refine GifP.mk (fun _ => ?_) (fun _ => ?_) | refine Gif.mk (fun _ => ?_) (fun _ => ?_) | (refine (ref2_May x).callW (enters_of Tryz.func43 rfl rfl) _ rfl rfl ?_; rintro _ rfl; simp only [go_sem, simprocAttr, rows_get hx, hw]) | refine And.intro ?_ ?_)
  all_goals first
   | (simp only [retK, resD, retL, oneD, simprocAttr, Tryz.results67]; exact ⟨_, rfl, rfl, bad (fun e => by have e1 := (patMay_iff x).1 e.1; clear e; simp_all)⟩)
   | skip
  all_goals
   have hmay : patMay x = true := (patMay_iff x).2 (by simp_all)
   refine loopS (fun n st => ∃ k : Nat, n = i - k ∧ k ≤ i ∧ (∀ (k' : Nat) (y : ByteArray), k' < k → o.hosts[k']? = some y → ¬ y = x) ∧ st = ⟨[(1, .ptr 1 0), (6, int i), (7, int k)], [(1, o.ds)], [], .no⟩) i _ ?_ ⟨0, rfl, by omega, fun _ _ h => absurd h (Nat.not_lt_zero _), rfl⟩ ?_
   ·exact lessA
   rintro n st ⟨k, rfl, hk, hS, rfl⟩
   have hwk := i64_succ (show k < 1000000000 by omega)
   by_cases hki : k < i
   ·obtain ⟨y, hy⟩ := at_lt (show k < o.hosts.length by omega)
    have hmy := List.mem_of_getElem? hy
    have h2 : ((k : Int) < (i : Int)) = True := eq_true (by omega)
    have goodk : (¬ y = x) → ∀ st, Weak Tryz.prog st ⟨[(1, .ptr 1 0), (6, int i), (7, int (k + 1 : Nat))], [(1, o.ds)], [], .no⟩ → Round Tryz.prog (fun n st => ∃ k : Nat, n = i - k ∧ k ≤ i ∧ (∀ (k' : Nat) (y : ByteArray), k' < k → o.hosts[k']? = some y → ¬ y = x) ∧ st = ⟨[(1, .ptr 1 0), (6, int i), (7, int k)], [(1, o.ds)], [], .no⟩) (i - k) st := fun h st hw => ⟨i - (k + 1), _, by omega, hw, k + 1, rfl, by omega, snoc_all hS hy h, rfl⟩
    have badk : ¬ (¬ y = x) → bln false = bln (routeMay o.parents o.hosts o.rules) := fun h => bad (fun e => h (e.2 k y hki hy))
    simp only [go_sem, simprocAttr, rows_get hx, rows_get hy, h2, hwk]
    repeat' (first | refine GifP.mk (fun _ => ?_) (fun _ => ?_) | refine Gif.mk (fun _ => ?_) (fun _ => ?_) | refine And.intro ?_ ?_)
    all_goals first
     | (refine goodk (by first | omega | (simp_all; done) | (simp_all; omega)) _ ?_; exact lessA)
     | (simp only [retK, resD, retL, oneD, simprocAttr, Tryz.results67]; exact ⟨_, rfl, rfl, badk (by first | omega | (simp_all; done) | (simp_all; omega))⟩)
   have h2 : ((k : Int) < (i : Int)) = False := eq_false (by omega)
   have hIn : ∀ (k : Nat) (y : ByteArray), k < i → o.hosts[k]? = some y → ¬ y = x := fun k' y hk' hy => hS k' y (by omega) hy
   clear hS hwk hk
   simp only [go_sem, simprocAttr, rows_get hx, h2, hw]
   first | clear h2 hki k | clear h2 hki
   refine good ⟨hmay, hIn⟩ _ ?_
   exact lessA
 have h1 : ((i : Int) < (o.hosts.length : Int)) = False := eq_false (by omega)
 have hHosts : ∀ (j : Nat) (x : ByteArray), o.hosts[j]? = some x → patMay x = true ∧ ∀ (k : Nat) (y : ByteArray), k < (j) → o.hosts[k]? = some y → ¬ y = x := fun j x hx => hT j x (by have := (List.getElem?_eq_some_iff.1 hx).1; omega) hx
 clear hT hw hi
 simp only [go_sem, simprocAttr, h1]
 first | clear h1 hlt i | clear h1 hlt
 refine loopS (fun k st => ∃ i : Nat, k = o.rules.length - i ∧ i ≤ o.rules.length ∧ (∀ (j : Nat) (x : ARule), j < i → o.rules[j]? = some x → ruleMay x = true) ∧ st = ⟨[(1, .ptr 1 0), (8, int i)], [(1, o.ds)], [], .no⟩) o.rules.length _ ?_ ⟨0, rfl, by omega, fun _ _ h => absurd h (Nat.not_lt_zero _), rfl⟩ ?_
 ·exact lessA
 rintro k st ⟨i, rfl, hi, hT, rfl⟩
 have hw := i64_succ (show i < 1000000000 by omega)
 by_cases hlt : i < o.rules.length
 ·obtain ⟨x, hx⟩ := at_lt hlt
  have hmem := List.mem_of_getElem? hx
  have h1 : ((i : Int) < (o.rules.length : Int)) = True := eq_true (by omega)
  have good : (ruleMay x = true) → ∀ st, Weak Tryz.prog st ⟨[(1, .ptr 1 0), (8, int (i + 1 : Nat))], [(1, o.ds)], [], .no⟩ → Round Tryz.prog (fun k st => ∃ i : Nat, k = o.rules.length - i ∧ i ≤ o.rules.length ∧ (∀ (j : Nat) (x : ARule), j < i → o.rules[j]? = some x → ruleMay x = true) ∧ st = ⟨[(1, .ptr 1 0), (8, int i)], [(1, o.ds)], [], .no⟩) (o.rules.length - i) st := fun h st hw => ⟨o.rules.length - (i + 1), _, by omega, hw, i + 1, rfl, by omega, snoc_all hT hx h, rfl⟩
  have bad : ¬ (ruleMay x = true) → bln false = bln (routeMay o.parents o.hosts o.rules) := fun h => bool_no fun e => h (((routeMay_iff _ _ _).1 e).2.2.2 i x hx)
  simp only [go_sem, simprocAttr, rows_get hx, h1, hw]
  repeat' (first | refine GifP.mk (fun _ => ?_) (fun _ => ?_) | refine Gif.mk (fun _ => ?_) (fun _ => ?_) | (refine (ref9_rule x (h.rus x hmem) (hr x hmem).1 (hr x hmem).2.1 (hr x hmem).2.2).callW (enters_of Tryz.func122 rfl rfl) _ rfl rfl ?_; rintro _ rfl; simp only [go_sem, simprocAttr, rows_get hx, hw]) | refine And.intro ?_ ?_)
  all_goals first
   | (refine good (by assumption) _ ?_; exact lessA)
   | (simp only [retK, resD, retL, oneD, simprocAttr, Tryz.results67]; exact ⟨_, rfl, rfl, bad (by simp_all)⟩)
 have h1 : ((i : Int) < (o.rules.length : Int)) = False := eq_false (by omega)
 have hRules : ∀ (j : Nat) (x : ARule), o.rules[j]? = some x → ruleMay x = true := fun j x hx => hT j x (by have := (List.getElem?_eq_some_iff.1 hx).1; omega) hx
 clear hT hw hi
 simp only [go_sem, simprocAttr, h1]
 first | clear h1 hlt i | clear h1 hlt
 repeat' (first | refine GifP.mk (fun _ => ?_) (fun _ => ?_) | refine Gif.mk (fun _ => ?_) (fun _ => ?_))
 all_goals
  simp only [retK, resD, retL, oneD, simprocAttr, Tryz.results67]
  first
   | exact ⟨_, rfl, rfl, bool_no fun e => by have := ((routeMay_iff _ _ _).1 e).1; omega⟩
   | exact ⟨_, rfl, rfl, bool_dec ⟨fun h => (routeMay_iff _ _ _).2 ⟨⟨by omega, by omega, by omega⟩, hPar, hHosts, hRules⟩, fun h => by have := ((routeMay_iff _ _ _).1 h).1; omega⟩⟩


theorem sort_from {l : List Int} : ∀ {n : Nat}, sortFrom l n = true ↔ ∀ (i : Nat) (a b : Int), i < n → l[i + 1]? = some a → l[i]? = some b → b ≤ a
 | 0 => by simp [sortFrom]
 | n + 1 => by
   simp only [sortFrom, Bool.and_eq_true, sort_from]
   constructor
   ·rintro ⟨h1, h2⟩ i a b hi ha hb
    rcases Nat.eq_or_lt_of_le (Nat.le_of_lt_succ hi) with e | e
    ·subst e
     rw [ha, hb] at h1
     simp [intLess] at h1
     exact h1
    ·exact h2 i a b e ha hb
   ·intro h
    refine ⟨?_, fun i a b hi => h i a b (by omega)⟩
    cases ha : l[n + 1]? with
    | none => rfl
    | some a =>
      cases hb : l[n]? with
      | none => rfl
      | some b =>
        have := h n a b (Nat.lt_succ_self _) ha hb
        simp [intLess]
        exact this

theorem serviceMay_iff (l : List Int) : serviceMay l = true ↔ (0 < l.length ∧ l.length ≤ 8) ∧ ∀ (j : Nat) (x : Int), l[j]? = some x → oport x = true ∧ ∀ y : Int, 0 < j → l[j - 1]? = some y → y < x := by
 simp only [serviceMay, Bool.and_eq_true, decide_eq_true_eq, every_iff, sortedInts, sort_from, Bool.not_eq_true', tw_iff, intSame, decide_eq_false_iff_not]
 constructor
 ·rintro ⟨⟨⟨h1, h2, h3⟩, h4⟩, h5⟩
  refine ⟨⟨h1, by omega⟩, fun j x hx => ⟨h3 j x hx, fun y h0 hy => ?_⟩⟩
  have hlt := (List.getElem?_eq_some_iff.1 hx).1
  obtain ⟨i, rfl⟩ : ∃ i, j = i + 1 := ⟨j - 1, by omega⟩
  have h6 := h4 i x y (by omega) hx hy
  have h7 := h5 (i + 1) x hx i y (Nat.lt_succ_self _) hy
  omega
 ·rintro ⟨⟨h1, h2⟩, h3⟩
  have up : ∀ (j : Nat) (x : Int), l[j]? = some x → ∀ (k : Nat) (y : Int), k < j → l[k]? = some y → y < x := by
   intro j
   induction j with
   | zero => intro x _ k y hk; omega
   | succ i ih =>
     intro x hx k y hk hy
     have hlt := (List.getElem?_eq_some_iff.1 hx).1
     obtain ⟨z, hz⟩ := at_lt (show i < l.length by omega)
     have h4 := (h3 (i + 1) x hx).2 z (Nat.succ_pos _) hz
     rcases Nat.eq_or_lt_of_le (Nat.le_of_lt_succ hk) with e | e
     ·subst e
      rw [hz] at hy; cases hy; exact h4
     ·have := ih z hz k y e hy
      omega
  refine ⟨⟨⟨h1, by omega, fun j x hx => (h3 j x hx).1⟩, fun i a b _ ha hb => ?_⟩, fun j x hx k y hk hy e => ?_⟩
  ·have := up (i + 1) a ha i b (Nat.lt_succ_self _) hb
   omega
  ·have := up j x hx k y hk hy
   omega

set_option maxHeartbeats 8000000 in
theorem ref9_May (o : AObj) (h : o.ok) (hs : o.sok) : Pure Tryz.prog 35 [o.d] (fun d => d = bln (objMay o)) := by
 refine pure_of_run follows an_zboc8 Tryz.func35 rfl ok_zboc8.1 ok_zboc8.2 (by simp [Tryz.ntmps35]) ?_
 rw [run_start]
 simp (maxSteps := 5000000) only [ac_zboc8, go_sem, simprocAttr, go_sem]
 refine (ref9_MayRef o.ref hs.rs hs.rn).callW (enters_of Tryz.func63 rfl rfl) _ rfl rfl ?_
 rintro _ rfl
 simp (maxSteps := 5000000) only [go_sem, simprocAttr, go_sem]
 refine Gif.mk (fun hm => ?_) (fun hm => ?_)
 rotate_left
 ·simp only [retK, resD, retL, oneD, simprocAttr, Tryz.results35]
  exact ⟨_, rfl, rfl, by rw [objMay_keep, hm, Bool.false_and]; try rfl⟩
 ·rcases mayRef_kind hm with hk | hk | hk | hk | hk | hk | hk
  ·obtain ⟨⟨kd, sp, nm⟩, gd, la, po, cl, li, pa, ho, ru, fr, to⟩ := o
   simp only at hk
   subst hk
   have hob : (⟨⟨1, sp, nm⟩, gd, la, po, cl, li, pa, ho, ru, fr, to⟩ : AObj).ok := h
   have hkp := keep_ok h
   have hke : (⟨⟨1, sp, nm⟩, gd, la, po, cl, li, pa, ho, ru, fr, to⟩ : AObj).keep = { AObj.zero ⟨1, sp, nm⟩ with good := gd } := by simp [AObj.keep]
   have hkm : kindMay (⟨⟨1, sp, nm⟩, gd, la, po, cl, li, pa, ho, ru, fr, to⟩ : AObj) = true := by simp [kindMay]
   rw [hke] at hkp
   have fin : ∀ b : Bool, b = true → bln (b && decide (({ AObj.zero ⟨1, sp, nm⟩ with good := gd } : AObj) = (⟨⟨1, sp, nm⟩, gd, la, po, cl, li, pa, ho, ru, fr, to⟩ : AObj))) = bln (objMay (⟨⟨1, sp, nm⟩, gd, la, po, cl, li, pa, ho, ru, fr, to⟩ : AObj)) := fun b e => by
    rw [objMay_keep, hm, Bool.true_and, hkm, hke, e]
   simp (maxSteps := 5000000) only [go_sem, simprocAttr, go_sem, rows_len]
   refine (ref9_Same ({ AObj.zero ⟨1, sp, nm⟩ with good := gd } : AObj) (⟨⟨1, sp, nm⟩, gd, la, po, cl, li, pa, ho, ru, fr, to⟩ : AObj) hkp).callW (enters_of Tryz.func69 rfl rfl) _ rfl rfl ?_
   rintro _ rfl
   simp (maxSteps := 5000000) only [go_sem, simprocAttr, go_sem]
   simp only [retK, resD, retL, oneD, simprocAttr, Tryz.results35]
   exact ⟨_, rfl, rfl, by rw [← fin _ rfl, Bool.true_and]; try rfl⟩
  ·obtain ⟨⟨kd, sp, nm⟩, gd, la, po, cl, li, pa, ho, ru, fr, to⟩ := o
   simp only at hk
   subst hk
   have hob : (⟨⟨2, sp, nm⟩, gd, la, po, cl, li, pa, ho, ru, fr, to⟩ : AObj).ok := h
   have hkp := keep_ok h
   have hke : (⟨⟨2, sp, nm⟩, gd, la, po, cl, li, pa, ho, ru, fr, to⟩ : AObj).keep = { AObj.zero ⟨2, sp, nm⟩ with labels := la } := by simp [AObj.keep]
   have hkm : kindMay (⟨⟨2, sp, nm⟩, gd, la, po, cl, li, pa, ho, ru, fr, to⟩ : AObj) = labelsMay la := by simp [kindMay]
   rw [hke] at hkp
   have fin : ∀ b : Bool, b = labelsMay la → bln (b && decide (({ AObj.zero ⟨2, sp, nm⟩ with labels := la } : AObj) = (⟨⟨2, sp, nm⟩, gd, la, po, cl, li, pa, ho, ru, fr, to⟩ : AObj))) = bln (objMay (⟨⟨2, sp, nm⟩, gd, la, po, cl, li, pa, ho, ru, fr, to⟩ : AObj)) := fun b e => by
    rw [objMay_keep, hm, Bool.true_and, hkm, hke, e]
   simp (maxSteps := 5000000) only [go_sem, simprocAttr, go_sem, rows_len]
   refine (ref8_May la h.la hs.lv).callW (enters_of Tryz.func64 rfl rfl) _ rfl rfl ?_
   rintro _ rfl
   simp (maxSteps := 5000000) only [go_sem, simprocAttr, go_sem]
   refine Gif.mk (fun hg => ?_) (fun hg => ?_)
   ·refine (ref9_Same ({ AObj.zero ⟨2, sp, nm⟩ with labels := la } : AObj) (⟨⟨2, sp, nm⟩, gd, la, po, cl, li, pa, ho, ru, fr, to⟩ : AObj) hkp).callW (enters_of Tryz.func69 rfl rfl) _ rfl rfl ?_
    rintro _ rfl
    simp (maxSteps := 5000000) only [go_sem, simprocAttr, go_sem]
    simp only [retK, resD, retL, oneD, simprocAttr, Tryz.results35]
    exact ⟨_, rfl, rfl, by rw [← fin _ rfl, hg, Bool.true_and]; try rfl⟩
   ·simp only [retK, resD, retL, oneD, simprocAttr, Tryz.results35]
    exact ⟨_, rfl, rfl, by rw [← fin _ rfl, hg, Bool.false_and]; try rfl⟩
  ·obtain ⟨⟨kd, sp, nm⟩, gd, la, po, cl, li, pa, ho, ru, fr, to⟩ := o
   simp only at hk
   subst hk
   have hob : (⟨⟨3, sp, nm⟩, gd, la, po, cl, li, pa, ho, ru, fr, to⟩ : AObj).ok := h
   have hkp := keep_ok h
   have hke : (⟨⟨3, sp, nm⟩, gd, la, po, cl, li, pa, ho, ru, fr, to⟩ : AObj).keep = { AObj.zero ⟨3, sp, nm⟩ with ports := po } := by simp [AObj.keep]
   have hkm : kindMay (⟨⟨3, sp, nm⟩, gd, la, po, cl, li, pa, ho, ru, fr, to⟩ : AObj) = serviceMay po := by simp [kindMay]
   rw [hke] at hkp
   have fin : ∀ b : Bool, b = serviceMay po → bln (b && decide (({ AObj.zero ⟨3, sp, nm⟩ with ports := po } : AObj) = (⟨⟨3, sp, nm⟩, gd, la, po, cl, li, pa, ho, ru, fr, to⟩ : AObj))) = bln (objMay (⟨⟨3, sp, nm⟩, gd, la, po, cl, li, pa, ho, ru, fr, to⟩ : AObj)) := fun b e => by
    rw [objMay_keep, hm, Bool.true_and, hkm, hke, e]
   simp (maxSteps := 5000000) only [go_sem, simprocAttr, go_sem, rows_len]
   have hpl : po.length ≤ 1000000 := hob.po
   repeat' (first | refine GifP.mk (fun _ => ?_) (fun _ => ?_) | refine Gif.mk (fun _ => ?_) (fun _ => ?_))
   all_goals
    refine loopS (fun k st => ∃ (i : Nat) (g : Bool), k = po.length - i ∧ i ≤ po.length ∧ (g = true ↔ (0 < po.length ∧ po.length ≤ 8) ∧ ∀ (j : Nat) (x : Int), j < i → po[j]? = some x → (oport x = true ∧ ∀ y : Int, 0 < (j) → po[(j) - 1]? = some y → y < x)) ∧ st = ⟨[(1, .ptr 1 0), (3, .ptr 3 0), (4, bln g), (5, int i)], [(1, ((⟨⟨3, sp, nm⟩, gd, la, po, cl, li, pa, ho, ru, fr, to⟩ : AObj)).ds), (3, [int 3, str sp, str nm, bln false, .nils, .pd (.slice (ints po)), str ⟨#[]⟩, .nils, .nils, .nils, .nils, .nils, .nils])], [], .no⟩) po.length (⟨[(1, .ptr 1 0), (3, .ptr 3 0), (4, bln (decide (0 < po.length ∧ po.length ≤ 8))), (5, int (0 : Nat))], [(1, ((⟨⟨3, sp, nm⟩, gd, la, po, cl, li, pa, ho, ru, fr, to⟩ : AObj)).ds), (3, [int 3, str sp, str nm, bln false, .nils, .pd (.slice (ints po)), str ⟨#[]⟩, .nils, .nils, .nils, .nils, .nils, .nils])], [], .no⟩) ?_ ⟨0, _, rfl, Nat.zero_le _, ?_, rfl⟩ ?_
    ·exact Weak.less ⟨rfl, rfl, congrArg (fun b => some (bln b)) (by first | (rw [decide_eq_decide]; omega) | (rw [eq_comm, decide_eq_false_iff_not]; omega) | (rw [eq_comm, decide_eq_true_eq]; omega)), rfl, trivial⟩ (by simp [lessL, lk]) (by simp [lessL, lk]) rfl
    ·simp only [Nat.not_lt_zero, false_implies, implies_true, and_true, decide_eq_true_eq]
    rintro k st ⟨i, g, rfl, hi, hT, rfl⟩
    have hw := i64_succ (show i < 1000000000 by omega)
    by_cases hlt : i < po.length
    ·obtain ⟨x, hx⟩ := at_lt hlt
     have h1 : ((i : Int) < (po.length : Int)) = True := eq_true (by omega)
     have step : ∀ (g' : Bool) (st : St), (g' = true ↔ g = true ∧ (oport x = true ∧ ∀ y : Int, 0 < i → po[i - 1]? = some y → y < x)) → Weak Tryz.prog st ⟨[(1, .ptr 1 0), (3, .ptr 3 0), (4, bln g'), (5, int (i + 1 : Nat))], [(1, ((⟨⟨3, sp, nm⟩, gd, la, po, cl, li, pa, ho, ru, fr, to⟩ : AObj)).ds), (3, [int 3, str sp, str nm, bln false, .nils, .pd (.slice (ints po)), str ⟨#[]⟩, .nils, .nils, .nils, .nils, .nils, .nils])], [], .no⟩ → Round Tryz.prog (fun k st => ∃ (i : Nat) (g : Bool), k = po.length - i ∧ i ≤ po.length ∧ (g = true ↔ (0 < po.length ∧ po.length ≤ 8) ∧ ∀ (j : Nat) (x : Int), j < i → po[j]? = some x → (oport x = true ∧ ∀ y : Int, 0 < (j) → po[(j) - 1]? = some y → y < x)) ∧ st = ⟨[(1, .ptr 1 0), (3, .ptr 3 0), (4, bln g), (5, int i)], [(1, ((⟨⟨3, sp, nm⟩, gd, la, po, cl, li, pa, ho, ru, fr, to⟩ : AObj)).ds), (3, [int 3, str sp, str nm, bln false, .nils, .pd (.slice (ints po)), str ⟨#[]⟩, .nils, .nils, .nils, .nils, .nils, .nils])], [], .no⟩) (po.length - i) st := fun g' st hg hw =>
      ⟨po.length - (i + 1), _, by omega, hw, i + 1, g', rfl, by omega, by
       rw [hg, hT]
       constructor
       ·rintro ⟨⟨e1, e2⟩, e3⟩
        exact ⟨e1, snoc_all e2 hx e3⟩
       ·rintro ⟨e1, e2⟩
        exact ⟨⟨e1, fun j x hj => e2 j x (by omega)⟩, e2 i x (Nat.lt_succ_self _) hx⟩, rfl⟩
     by_cases h0 : i = 0
     ·subst h0
      have hw0 : IntKind.i64.wrap 1 = 1 := IntWalk.i64_in _ (by omega)
      simp (maxSteps := 5000000) only [go_sem, simprocAttr, go_sem, rows_len, rows_get hx, h1, hw, hw0]
      repeat' (first | refine GifP.mk (fun _ => ?_) (fun _ => ?_) | refine Gif.mk (fun _ => ?_) (fun _ => ?_) | (refine (ref9_port x).callX (enters_of Tryz.func65 rfl rfl) _ rfl rfl ?_; rintro _ rfl; simp (maxSteps := 5000000) only [go_sem, simprocAttr, go_sem, rows_len, rows_get hx, hw, hw0]) | refine And.intro ?_ ?_)
      all_goals first
       | (refine step true _ ?_ ?_ <;> first | exact lessA | (simp_all; done))
       | (refine step false _ ?_ ?_ <;> first | exact lessA | (simp_all; done))
       | (exfalso; omega)
       | trace_state
     ·obtain ⟨y, hy⟩ := at_lt (show i - 1 < po.length by omega)
      have hw1 : IntKind.i64.wrap ((i : Int) - 1) = (i : Int) - 1 := IntWalk.i64_in _ (by omega)
      have hi1 : ((i : Int) - 1).toNat = i - 1 := by omega
      have hi2 : (0 ≤ (i : Int) - 1) = True := eq_true (by omega)
      have hi3 : ((i : Int) = 0) = False := eq_false (by omega)
      have hq : (∀ y : Int, 0 < i → po[i - 1]? = some y → y < x) ↔ y < x := ⟨fun h => h y (by omega) hy, fun h y' _ hy' => by rw [hy] at hy'; cases hy'; exact h⟩
      rw [hq] at step
      simp (maxSteps := 5000000) only [go_sem, simprocAttr, go_sem, rows_len, rows_get hx, rows_get hy, h1, hw, hw1, hi1, hi2, hi3]
      repeat' (first | refine GifP.mk (fun _ => ?_) (fun _ => ?_) | refine Gif.mk (fun _ => ?_) (fun _ => ?_) | (refine (ref9_port x).callX (enters_of Tryz.func65 rfl rfl) _ rfl rfl ?_; rintro _ rfl; simp (maxSteps := 5000000) only [go_sem, simprocAttr, go_sem, rows_len, rows_get hx, rows_get hy, hw, hw1, hi1, hi2, hi3]) | refine And.intro ?_ ?_)
      all_goals first
       | (refine step (decide (y < x)) _ ?_ ?_ <;> first | exact lessA | (simp_all; done))
       | (refine step true _ ?_ ?_ <;> first | exact lessA | (simp_all; done))
       | (refine step false _ ?_ ?_ <;> first | exact lessA | (simp_all; done))
       | trace_state
    have h1 : ((i : Int) < (po.length : Int)) = False := eq_false (by omega)
    have hgs : g = serviceMay po := by
     rw [Bool.eq_iff_iff, serviceMay_iff, hT]
     exact and_congr_right fun _ => ⟨fun h j x hx => h j x (by have := (List.getElem?_eq_some_iff.1 hx).1; omega) hx, fun h j x _ hx => h j x hx⟩
    clear hT hw hi
    simp (maxSteps := 5000000) only [go_sem, simprocAttr, go_sem, rows_len, h1]
    first | clear h1 hlt i | clear h1 hlt
    refine Gif.mk (fun hg => ?_) (fun hg => ?_)
    ·refine (ref9_Same ({ AObj.zero ⟨3, sp, nm⟩ with ports := po } : AObj) (⟨⟨3, sp, nm⟩, gd, la, po, cl, li, pa, ho, ru, fr, to⟩ : AObj) hkp).callW (enters_of Tryz.func69 rfl rfl) _ rfl rfl ?_
     rintro _ rfl
     simp (maxSteps := 5000000) only [go_sem, simprocAttr, go_sem]
     simp only [retK, resD, retL, oneD, simprocAttr, Tryz.results35]
     exact ⟨_, rfl, rfl, by rw [← fin g hgs, hg, Bool.true_and]; try rfl⟩
    ·simp only [retK, resD, retL, oneD, simprocAttr, Tryz.results35]
     exact ⟨_, rfl, rfl, by rw [← fin g hgs, hg, Bool.false_and]; try rfl⟩
  ·obtain ⟨⟨kd, sp, nm⟩, gd, la, po, cl, li, pa, ho, ru, fr, to⟩ := o
   simp only at hk
   subst hk
   have hob : (⟨⟨4, sp, nm⟩, gd, la, po, cl, li, pa, ho, ru, fr, to⟩ : AObj).ok := h
   have hkp := keep_ok h
   have hke : (⟨⟨4, sp, nm⟩, gd, la, po, cl, li, pa, ho, ru, fr, to⟩ : AObj).keep = { AObj.zero ⟨4, sp, nm⟩ with good := gd } := by simp [AObj.keep]
   have hkm : kindMay (⟨⟨4, sp, nm⟩, gd, la, po, cl, li, pa, ho, ru, fr, to⟩ : AObj) = true := by simp [kindMay]
   rw [hke] at hkp
   have fin : ∀ b : Bool, b = true → bln (b && decide (({ AObj.zero ⟨4, sp, nm⟩ with good := gd } : AObj) = (⟨⟨4, sp, nm⟩, gd, la, po, cl, li, pa, ho, ru, fr, to⟩ : AObj))) = bln (objMay (⟨⟨4, sp, nm⟩, gd, la, po, cl, li, pa, ho, ru, fr, to⟩ : AObj)) := fun b e => by
    rw [objMay_keep, hm, Bool.true_and, hkm, hke, e]
   simp (maxSteps := 5000000) only [go_sem, simprocAttr, go_sem, rows_len]
   refine (ref9_Same ({ AObj.zero ⟨4, sp, nm⟩ with good := gd } : AObj) (⟨⟨4, sp, nm⟩, gd, la, po, cl, li, pa, ho, ru, fr, to⟩ : AObj) hkp).callW (enters_of Tryz.func69 rfl rfl) _ rfl rfl ?_
   rintro _ rfl
   simp (maxSteps := 5000000) only [go_sem, simprocAttr, go_sem]
   simp only [retK, resD, retL, oneD, simprocAttr, Tryz.results35]
   exact ⟨_, rfl, rfl, by rw [← fin _ rfl, Bool.true_and]; try rfl⟩
  ·obtain ⟨⟨kd, sp, nm⟩, gd, la, po, cl, li, pa, ho, ru, fr, to⟩ := o
   simp only at hk
   subst hk
   have hob : (⟨⟨5, sp, nm⟩, gd, la, po, cl, li, pa, ho, ru, fr, to⟩ : AObj).ok := h
   have hkp := keep_ok h
   have hke : (⟨⟨5, sp, nm⟩, gd, la, po, cl, li, pa, ho, ru, fr, to⟩ : AObj).keep = { AObj.zero ⟨5, sp, nm⟩ with listeners := li, cls := cl } := by simp [AObj.keep]
   have hkm : kindMay (⟨⟨5, sp, nm⟩, gd, la, po, cl, li, pa, ho, ru, fr, to⟩ : AObj) = gatewayMay cl li := by simp [kindMay]
   rw [hke] at hkp
   have fin : ∀ b : Bool, b = gatewayMay cl li → bln (b && decide (({ AObj.zero ⟨5, sp, nm⟩ with listeners := li, cls := cl } : AObj) = (⟨⟨5, sp, nm⟩, gd, la, po, cl, li, pa, ho, ru, fr, to⟩ : AObj))) = bln (objMay (⟨⟨5, sp, nm⟩, gd, la, po, cl, li, pa, ho, ru, fr, to⟩ : AObj)) := fun b e => by
    rw [objMay_keep, hm, Bool.true_and, hkm, hke, e]
   simp (maxSteps := 5000000) only [go_sem, simprocAttr, go_sem, rows_len]
   refine (ref9_gateway (⟨⟨5, sp, nm⟩, gd, la, po, cl, li, pa, ho, ru, fr, to⟩ : AObj) h hs.ln).callW (enters_of Tryz.func66 rfl rfl) _ rfl rfl ?_
   rintro _ rfl
   simp (maxSteps := 5000000) only [go_sem, simprocAttr, go_sem]
   refine Gif.mk (fun hg => ?_) (fun hg => ?_)
   ·refine (ref9_Same ({ AObj.zero ⟨5, sp, nm⟩ with listeners := li, cls := cl } : AObj) (⟨⟨5, sp, nm⟩, gd, la, po, cl, li, pa, ho, ru, fr, to⟩ : AObj) hkp).callW (enters_of Tryz.func69 rfl rfl) _ rfl rfl ?_
    rintro _ rfl
    simp (maxSteps := 5000000) only [go_sem, simprocAttr, go_sem]
    simp only [retK, resD, retL, oneD, simprocAttr, Tryz.results35]
    exact ⟨_, rfl, rfl, by rw [← fin _ rfl, hg, Bool.true_and]; try rfl⟩
   ·simp only [retK, resD, retL, oneD, simprocAttr, Tryz.results35]
    exact ⟨_, rfl, rfl, by rw [← fin _ rfl, hg, Bool.false_and]; try rfl⟩
  ·obtain ⟨⟨kd, sp, nm⟩, gd, la, po, cl, li, pa, ho, ru, fr, to⟩ := o
   simp only at hk
   subst hk
   have hob : (⟨⟨6, sp, nm⟩, gd, la, po, cl, li, pa, ho, ru, fr, to⟩ : AObj).ok := h
   have hkp := keep_ok h
   have hke : (⟨⟨6, sp, nm⟩, gd, la, po, cl, li, pa, ho, ru, fr, to⟩ : AObj).keep = { AObj.zero ⟨6, sp, nm⟩ with parents := pa, hosts := ho, rules := ru } := by simp [AObj.keep]
   have hkm : kindMay (⟨⟨6, sp, nm⟩, gd, la, po, cl, li, pa, ho, ru, fr, to⟩ : AObj) = routeMay pa ho ru := by simp [kindMay]
   rw [hke] at hkp
   have fin : ∀ b : Bool, b = routeMay pa ho ru → bln (b && decide (({ AObj.zero ⟨6, sp, nm⟩ with parents := pa, hosts := ho, rules := ru } : AObj) = (⟨⟨6, sp, nm⟩, gd, la, po, cl, li, pa, ho, ru, fr, to⟩ : AObj))) = bln (objMay (⟨⟨6, sp, nm⟩, gd, la, po, cl, li, pa, ho, ru, fr, to⟩ : AObj)) := fun b e => by
    rw [objMay_keep, hm, Bool.true_and, hkm, hke, e]
   simp (maxSteps := 5000000) only [go_sem, simprocAttr, go_sem, rows_len]
   refine (ref9_route (⟨⟨6, sp, nm⟩, gd, la, po, cl, li, pa, ho, ru, fr, to⟩ : AObj) h hs.pa hs.ru).callW (enters_of Tryz.func67 rfl rfl) _ rfl rfl ?_
   rintro _ rfl
   simp (maxSteps := 5000000) only [go_sem, simprocAttr, go_sem]
   refine Gif.mk (fun hg => ?_) (fun hg => ?_)
   ·refine (ref9_Same ({ AObj.zero ⟨6, sp, nm⟩ with parents := pa, hosts := ho, rules := ru } : AObj) (⟨⟨6, sp, nm⟩, gd, la, po, cl, li, pa, ho, ru, fr, to⟩ : AObj) hkp).callW (enters_of Tryz.func69 rfl rfl) _ rfl rfl ?_
    rintro _ rfl
    simp (maxSteps := 5000000) only [go_sem, simprocAttr, go_sem]
    simp only [retK, resD, retL, oneD, simprocAttr, Tryz.results35]
    exact ⟨_, rfl, rfl, by rw [← fin _ rfl, hg, Bool.true_and]; try rfl⟩
   ·simp only [retK, resD, retL, oneD, simprocAttr, Tryz.results35]
    exact ⟨_, rfl, rfl, by rw [← fin _ rfl, hg, Bool.false_and]; try rfl⟩
  ·obtain ⟨⟨kd, sp, nm⟩, gd, la, po, cl, li, pa, ho, ru, fr, to⟩ := o
   simp only at hk
   subst hk
   have hob : (⟨⟨7, sp, nm⟩, gd, la, po, cl, li, pa, ho, ru, fr, to⟩ : AObj).ok := h
   have hkp := keep_ok h
   have hke : (⟨⟨7, sp, nm⟩, gd, la, po, cl, li, pa, ho, ru, fr, to⟩ : AObj).keep = { AObj.zero ⟨7, sp, nm⟩ with from_ := fr, to_ := to } := by simp [AObj.keep]
   have hkm : kindMay (⟨⟨7, sp, nm⟩, gd, la, po, cl, li, pa, ho, ru, fr, to⟩ : AObj) = grantMay fr to := by simp [kindMay]
   rw [hke] at hkp
   have fin : ∀ b : Bool, b = grantMay fr to → bln (b && decide (({ AObj.zero ⟨7, sp, nm⟩ with from_ := fr, to_ := to } : AObj) = (⟨⟨7, sp, nm⟩, gd, la, po, cl, li, pa, ho, ru, fr, to⟩ : AObj))) = bln (objMay (⟨⟨7, sp, nm⟩, gd, la, po, cl, li, pa, ho, ru, fr, to⟩ : AObj)) := fun b e => by
    rw [objMay_keep, hm, Bool.true_and, hkm, hke, e]
   simp (maxSteps := 5000000) only [go_sem, simprocAttr, go_sem, rows_len]
   refine (ref9_grant (⟨⟨7, sp, nm⟩, gd, la, po, cl, li, pa, ho, ru, fr, to⟩ : AObj) h hs.si).callW (enters_of Tryz.func68 rfl rfl) _ rfl rfl ?_
   rintro _ rfl
   simp (maxSteps := 5000000) only [go_sem, simprocAttr, go_sem]
   refine Gif.mk (fun hg => ?_) (fun hg => ?_)
   ·refine (ref9_Same ({ AObj.zero ⟨7, sp, nm⟩ with from_ := fr, to_ := to } : AObj) (⟨⟨7, sp, nm⟩, gd, la, po, cl, li, pa, ho, ru, fr, to⟩ : AObj) hkp).callW (enters_of Tryz.func69 rfl rfl) _ rfl rfl ?_
    rintro _ rfl
    simp (maxSteps := 5000000) only [go_sem, simprocAttr, go_sem]
    simp only [retK, resD, retL, oneD, simprocAttr, Tryz.results35]
    exact ⟨_, rfl, rfl, by rw [← fin _ rfl, hg, Bool.true_and]; try rfl⟩
   ·simp only [retK, resD, retL, oneD, simprocAttr, Tryz.results35]
    exact ⟨_, rfl, rfl, by rw [← fin _ rfl, hg, Bool.false_and]; try rfl⟩


theorem fewObj_sok (o : AObj) : (fewObj o).sok where
 rs := Nat.le_trans (few_size _) (by decide)
 rn := Nat.le_trans (few_size _) (by decide)
 lv := fun p hp => by
  obtain ⟨x, _, rfl⟩ := List.mem_map.1 hp
  exact Nat.le_trans (few_size _) (by decide)
 ln := fun l hl => by
  obtain ⟨x, _, rfl⟩ := List.mem_map.1 hl
  refine ⟨Nat.le_trans (few_size _) (by decide), Nat.le_trans (few_size _) (by decide), fun n hn s hs => ?_⟩
  obtain ⟨y, _, rfl⟩ := List.mem_map.1 hn
  obtain ⟨z, _, rfl⟩ := List.mem_map.1 hs
  exact Nat.le_trans (few_size _) (by decide)
 pa := fun p hp => by
  obtain ⟨x, _, rfl⟩ := List.mem_map.1 hp
  exact ⟨Nat.le_trans (few_size _) (by decide), Nat.le_trans (few_size _) (by decide)⟩
 ru := fun r hr => by
  obtain ⟨x, _, rfl⟩ := List.mem_map.1 hr
  refine ⟨fun m hm => ?_, fun f hf => ?_, fun b hb => ?_⟩
  ·obtain ⟨y, _, rfl⟩ := List.mem_map.1 hm
   exact Nat.le_trans (few_size _) (by decide)
  ·obtain ⟨y, _, rfl⟩ := List.mem_map.1 hf
   exact ⟨Nat.le_trans (few_size _) (by decide), Nat.le_trans (few_size _) (by decide)⟩
  ·obtain ⟨y, _, rfl⟩ := List.mem_map.1 hb
   exact Nat.le_trans (few_size _) (by decide)
 si := fun s hs => by
  obtain ⟨y, _, rfl⟩ := List.mem_map.1 hs
  exact Nat.le_trans (few_size _) (by decide)

theorem fewObjs_sok {l : List AObj} : ∀ o ∈ fewObjs l, o.sok := fun o ho => by
 obtain ⟨x, _, rfl⟩ := List.mem_map.1 ho
 exact fewObj_sok x

theorem ref11_Near (r : ARef) (s : ByteArray) : Pure Tryz.prog 36 [r.d, str s] (fun d => d = (near r s).d) := by
 refine pure_of_run follows an_z40mp Tryz.func36 rfl ok_z40mp.1 ok_z40mp.2 (by simp [Tryz.ntmps36]) ?_
 rw [run_start]
 simp only [ac_z40mp, go_sem, simprocAttr]
 repeat' (first | refine GifP.mk (fun _ => ?_) (fun _ => ?_) | refine Gif.mk (fun _ => ?_) (fun _ => ?_))
 all_goals
  simp only [retK, resD, resA, AOp.ex, St.ev, retL, oneD, simprocAttr, ret_z40mp]
  exact ⟨_, rfl, rfl, by simp_all [near, oneD, D.pub, D.pubs]⟩


theorem ref11_Find (os : List AObj) (hos : os.length ≤ 1000000) (r : ARef) : Pure Tryz.prog 17 [.pd (.slice (rows AObj.pd os)), r.d] (fun d => d = foundD (found os r)) := by
 refine pure_of_run follows an_z712c Tryz.func17 rfl ok_z712c.1 ok_z712c.2 (by simp [Tryz.ntmps17]) ?_
 rw [run_start]
 simp only [ac_z712c, go_sem, simprocAttr]
 refine loopS (fun k st => ∃ i : Nat, k = os.length - i ∧ i ≤ os.length ∧ (os.drop i).find? (isRef r) = found os r ∧
  st = ⟨[(0, .pd (.slice (rows AObj.pd os))), (3, .ptr 3 0), (4, .ptr 4 0), (6, int i)], [(3, [int r.kind, str r.space, str r.name]), (4, [int 0, str ⟨#[]⟩, str ⟨#[]⟩, bln false, .nils, .nils, str ⟨#[]⟩, .nils, .nils, .nils, .nils, .nils, .nils])], [], .no⟩) os.length _ ?_ ⟨0, rfl, by omega, rfl, rfl⟩ ?_
 ·exact lessA
 rintro k st ⟨i, rfl, hi, hf, rfl⟩
 by_cases hlt : i < os.length
 ·obtain ⟨x, hx⟩ := at_lt hlt
  have h1 : ((i : Int) < (os.length : Int)) = True := eq_true (by omega)
  have hw := i64_succ (show i < 1000000000 by omega)
  rw [drop_at hx, List.find?_cons] at hf
  simp only [go_sem, simprocAttr, rows_get hx, h1, hw, eqVs, eqV, eq_Ref]
  refine GifP.mk (fun h => ?_) (fun h => ?_)
  ·rw [show isRef r x = true by simp [isRef, h]] at hf
   simp only [retK, resD, resA, AOp.ex, St.ev, retL, oneD, simprocAttr, ret_z712c]
   refine ⟨_, rfl, rfl, ?_⟩
   rw [← hf]; rfl
  ·rw [show isRef r x = false by simp [isRef, h]] at hf
   refine ⟨os.length - (i + 1), _, by omega, ?_, i + 1, rfl, by omega, hf, rfl⟩
   exact lessA
 ·have h1 : ((i : Int) < (os.length : Int)) = False := eq_false (by omega)
  rw [List.drop_eq_nil_of_le (by omega), List.find?_nil] at hf
  simp only [go_sem, simprocAttr, h1]
  simp only [retK, resD, resA, AOp.ex, St.ev, retL, oneD, simprocAttr, ret_z712c]
  refine ⟨_, rfl, rfl, ?_⟩
  rw [← hf]; rfl


theorem gwOk_iff {g : AObj} : gwOk g = true ↔ g.ref.kind = 5 ∧ objMay g = true := by simp [gwOk]

theorem there_iff {g : AObj} {i : Int} : (atL g i).isSome = true ↔ g.ref.kind = 5 ∧ objMay g = true ∧ 0 ≤ i ∧ i < (g.listeners.length : Int) := by
 unfold atL
 by_cases hg : gwOk g = true
 ·rw [if_pos hg]
  obtain ⟨h5, hm⟩ := gwOk_iff.1 hg
  by_cases hi : i < 0
  ·rw [if_pos hi]
   constructor
   ·intro h; cases h
   ·intro h; omega
  ·rw [if_neg hi]
   constructor
   ·intro h
    obtain ⟨y, hy⟩ := Option.isSome_iff_exists.1 h
    have := (List.getElem?_eq_some_iff.1 hy).1
    exact ⟨by assumption, by assumption, by omega, by omega⟩
   ·intro h
    rw [List.getElem?_eq_getElem (by omega)]
    rfl
 ·rw [if_neg hg]
  constructor
  ·intro h; cases h
  ·intro h; exact absurd (gwOk_iff.2 ⟨h.1, h.2.1⟩) hg

theorem ref12_There (g : AObj) (hg : g.ok) (hs : g.sok) (i : Int) : Pure Tryz.prog 70 [g.d, int i] (fun d => d = bln (atL g i).isSome) := by
 refine pure_of_run follows an_zqldy Tryz.func70 rfl ok_zqldy.1 ok_zqldy.2 (by simp [Tryz.ntmps70]) ?_
 rw [run_start]
 simp only [ac_zqldy, go_sem, simprocAttr]
 (repeat' (first | (refine GifP.mk (fun _ => ?_) (fun _ => ?_)) | (refine Gif.mk (fun _ => ?_) (fun _ => ?_)) | (refine (ref9_May g hg hs).callW (enters_of Tryz.func35 rfl rfl) _ rfl rfl ?_; rintro _ rfl; try simp only [go_sem, simprocAttr]))) <;> (simp only [retK, resD, retL, oneD, simprocAttr, Tryz.results70]; exact ⟨_, rfl, rfl, congrArg bln (by rw [Bool.eq_iff_iff, there_iff]; first | (simp_all; done) | (simp_all; omega))⟩)

set_option maxHeartbeats 2000000 in
theorem ref12_Ours (os : List AObj) (hos : os.length ≤ 1000000) (h : ∀ o ∈ os, o.ok) (hk : ∀ o ∈ os, o.sok) (g : AObj) (hg : g.ok) (hs : g.sok) : Pure Tryz.prog 37 [.pd (.slice (rows AObj.pd os)), g.d] (fun d => d = bln (ours os g)) := by
 have cM := ref9_May g hg hs
 refine pure_of_run follows an_zw5fy Tryz.func37 rfl ok_zw5fy.1 ok_zw5fy.2 (by simp [Tryz.ntmps37]) ?_
 rw [run_start]
 simp only [ac_zw5fy, go_sem, simprocAttr]
 by_cases hgw : gwOk g = true
 rotate_left
 ·have ho : ours os g = false := by simp [ours, hgw]
  repeat' (first | refine GifP.mk (fun _ => ?_) (fun _ => ?_) | refine Gif.mk (fun _ => ?_) (fun _ => ?_) | (refine cM.callW (enters_of Tryz.func35 rfl rfl) _ rfl rfl ?_; rintro _ rfl; simp only [go_sem, simprocAttr]) | (refine (ref11_Find os hos ⟨1, ⟨#[]⟩, g.cls⟩).callW (enters_of Tryz.func17 rfl rfl) _ rfl rfl ?_; exact absurd (gwOk_iff.2 ⟨by assumption, by assumption⟩) hgw))
  all_goals first
   | (exact absurd (gwOk_iff.2 ⟨by assumption, by assumption⟩) hgw)
   | (simp only [retK, resD, retL, oneD, simprocAttr, Tryz.results37]; exact ⟨_, rfl, rfl, by rw [ho]; try rfl⟩)
 obtain ⟨h5, hmay⟩ := gwOk_iff.1 hgw
 have h5 := eq_true h5
 rw [hmay] at cM
 simp only [go_sem, simprocAttr, h5]
 refine cM.callW (enters_of Tryz.func35 rfl rfl) _ rfl rfl ?_
 rintro _ rfl
 simp only [go_sem, simprocAttr]
 refine (ref11_Find os hos ⟨1, ⟨#[]⟩, g.cls⟩).callW (enters_of Tryz.func17 rfl rfl) _ rfl rfl ?_
 rintro _ rfl
 have ho : ours os g = goodAt os ⟨1, ⟨#[]⟩, g.cls⟩ := by simp [ours, hgw]
 rw [ho]
 unfold goodAt
 rcases hf : found os ⟨1, ⟨#[]⟩, g.cls⟩ with _ | o
 ·simp only [foundD, go_sem, simprocAttr]
  simp only [retK, resD, retL, oneD, simprocAttr, Tryz.results37]
  exact ⟨_, rfl, rfl, rfl⟩
 ·simp only [foundD, go_sem, simprocAttr]
  have hmem := List.mem_of_find?_eq_some hf
  refine (ref9_May o (h o hmem) (hk o hmem)).callW (enters_of Tryz.func35 rfl rfl) _ rfl rfl ?_
  rintro _ rfl
  simp only [go_sem, simprocAttr]
  cases objMay o
  all_goals
   simp only [go_sem, simprocAttr]
   simp only [retK, resD, retL, oneD, simprocAttr, Tryz.results37]
   exact ⟨_, rfl, rfl, rfl⟩


theorem slices_Index_string (l : List ByteArray) (hl : l.length ≤ 1000000) (v : ByteArray) : Pure Tryz.prog 117 [.pd (.slice (strs l)), str v] (fun d => d = int (lidx (fun x => decide (v = x)) l 0)) := by
 refine pure_of_run follows an_zv0lr Tryz.func117 rfl ok_zv0lr.1 ok_zv0lr.2 (by simp [Tryz.ntmps117]) ?_
 rw [run_start]
 simp only [ac_zv0lr, go_sem, simprocAttr]
 refine loopS (fun k st => ∃ i : Nat, k = l.length - i ∧ i ≤ l.length ∧ lidx (fun x => decide (v = x)) (l.drop i) i = lidx (fun x => decide (v = x)) l 0 ∧
  st = ⟨[(0, .pd (.slice (strs l))), (1, str v), (7, int l.length), (8, int i)], [], [], .no⟩) l.length _ (Weak.refl _ _) ⟨0, rfl, Nat.zero_le _, rfl, rfl⟩ ?_
 rintro k st ⟨i, rfl, hi, hr, rfl⟩
 by_cases hlt : i < l.length
 ·obtain ⟨x, hx⟩ := at_lt hlt
  have hlt' : ((i : Int) < (l.length : Int)) = True := eq_true (by omega)
  have hw := i64_succ (show i < 1000000000 by omega)
  rw [drop_at hx, lidx] at hr
  simp only [go_sem, simprocAttr, hlt', rows_get hx, hw]
  refine GifP.mk (fun h => ?_) (fun h => ?_)
  ·rw [if_pos (by simp [h])] at hr
   simp only [retK, resD, retL, oneD, simprocAttr, Tryz.results117]
   exact ⟨_, rfl, rfl, congrArg int hr⟩
  ·rw [if_neg (by simp [h])] at hr
   refine ⟨l.length - (i + 1), _, ?_, ?_, i + 1, rfl, ?_, hr, rfl⟩
   ·omega
   ·exact lessA
   ·omega
 ·have hlt' : ((i : Int) < (l.length : Int)) = False := eq_false (by omega)
  rw [List.drop_eq_nil_of_le (by omega), lidx] at hr
  simp only [go_sem, simprocAttr, hlt']
  simp only [retK, resD, retL, oneD, simprocAttr, Tryz.results117]
  exact ⟨_, rfl, rfl, congrArg int hr⟩

theorem slices_Contains_string (l : List ByteArray) (hl : l.length ≤ 1000000) (v : ByteArray) : Pure Tryz.prog 62 [.pd (.slice (strs l)), str v] (fun d => d = bln (hasStr l v)) := by
 refine pure_of_run follows an_z5vdk Tryz.func62 rfl ok_z5vdk.1 ok_z5vdk.2 (by simp [Tryz.ntmps62]) ?_
 rw [run_start]
 simp only [ac_z5vdk, go_sem, simprocAttr]
 refine (slices_Index_string l hl v).callW (enters_of Tryz.func117 rfl rfl) _ rfl rfl ?_
 rintro d rfl
 simp only [go_sem, simprocAttr]
 simp only [retK, resD, retL, oneD, simprocAttr, Tryz.results62]
 exact ⟨_, rfl, rfl, congrArg bln (lidx_any _ l)⟩

theorem label_find_1 (n : ByteArray) (p : APair) : PureB Tryz.prog 214 [p.d, .ptr 1000001 0] [(1000001, [str n])] (fun d => d = bln (isName n p)) := by
 refine pureB_of_run follows an_zu0as Tryz.func214 rfl ok_zu0as.1 ok_zu0as.2 (by simp [Tryz.ntmps214]) ?_
 rw [run_start]
 simp only [ac_zu0as, go_sem, simprocAttr]
 simp only [retK, resD, retL, oneD, simprocAttr, Tryz.results214]
 exact ⟨_, rfl, rfl, rfl⟩

def labD : Option ByteArray → D
 | some v => .tup [str v, bln true]
 | none => .tup [str ⟨#[]⟩, bln false]

theorem label_find (l : List APair) (hl : l.length ≤ 1000000) (n : ByteArray) : Pure Tryz.prog 172 [.pd (.slice (rows APair.pd l)), str n] (fun d => d = labD (labFind l n)) := by
 refine pure_of_run follows an_ztzuw Tryz.func172 rfl ok_ztzuw.1 ok_ztzuw.2 (by simp [Tryz.ntmps172]) ?_
 rw [run_start]
 simp only [ac_ztzuw, go_sem, simprocAttr]
 refine (IndexFunc_Pair (isName n) 214 (enters_of Tryz.func214 rfl rfl) [(1000001, 0)] [(1000001, [str n])] (Cl.of rfl rfl rfl rfl rfl) l hl (fun p _ => label_find_1 n p)).callW (enters_of Tryz.func213 rfl rfl) _ [(3, 1000001)] rfl rfl rfl ?_
 rintro d rfl
 rcases lidx_find (isName n) l 0 with ⟨h1, h2⟩ | ⟨x, j, h1, h2, h3⟩
 ·rw [h2]
  simp only [go_sem, simprocAttr]
  simp only [retK, resD, retL, oneD, simprocAttr, Tryz.results172]
  refine ⟨_, rfl, rfl, ?_⟩
  rw [labFind, h1]; rfl
 ·rw [h2, Nat.zero_add]
  have hn : ((j : Int) < 0) = False := eq_false (by omega)
  simp only [go_sem, simprocAttr, hn, rows_get h3]
  simp only [retK, resD, retL, oneD, simprocAttr, Tryz.results172]
  refine ⟨_, rfl, rfl, ?_⟩
  rw [labFind, h1]; rfl


theorem among_name (n : ByteArray) (vals : List ByteArray) : Pure Tryz.prog 173 [.agg [str n, .pd (.slice (strs vals))]] (fun d => d = str n) := by
 refine pure_of_run follows an_zo94z Tryz.func173 rfl ok_zo94z.1 ok_zo94z.2 (by simp [Tryz.ntmps173]) ?_
 rw [run_start]
 simp only [ac_zo94z, go_sem, simprocAttr]
 (repeat' (first | (refine GifP.mk (fun _ => ?_) (fun _ => ?_)) | (refine Gif.mk (fun _ => ?_) (fun _ => ?_)))) <;> (simp only [retK, resD, retL, oneD, simprocAttr, Tryz.results173]; exact ⟨_, rfl, rfl, rfl⟩)

theorem there_name (n : ByteArray) : Pure Tryz.prog 174 [str n] (fun d => d = str n) := by
 refine pure_of_run follows an_ztj2x Tryz.func174 rfl ok_ztj2x.1 ok_ztj2x.2 (by simp [Tryz.ntmps174]) ?_
 rw [run_start]
 simp only [ac_ztj2x, go_sem, simprocAttr]
 (repeat' (first | (refine GifP.mk (fun _ => ?_) (fun _ => ?_)) | (refine Gif.mk (fun _ => ?_) (fun _ => ?_)))) <;> (simp only [retK, resD, retL, oneD, simprocAttr, Tryz.results174]; exact ⟨_, rfl, rfl, rfl⟩)

theorem met_among_n (n : ByteArray) (vals : List ByteArray) (l : List APair) (c1 : Pure Tryz.prog 172 [.pd (.slice (rows APair.pd l)), str n] (fun d => d = labD none)) :
 Pure Tryz.prog 132 [.pd (.iface 169 true [pStr n, .slice (strs vals)]), .pd (.slice (rows APair.pd l))] (fun d => d = bln false) := by
 unfold labD at c1
 refine pure_of_run follows an_zvb4i Tryz.func132 rfl ok_zvb4i.1 ok_zvb4i.2 (by simp [Tryz.ntmps132]) ?_
 rw [run_start]
 simp only [ac_zvb4i, go_sem, simprocAttr]
 (repeat' (first | (refine GifP.mk (fun _ => ?_) (fun _ => ?_)) | (refine Gif.mk (fun _ => ?_) (fun _ => ?_)) | ((first | refine (among_name n vals).callW (enters_of Tryz.func173 rfl rfl) _ rfl rfl ?_ | refine c1.callW (enters_of Tryz.func172 rfl rfl) _ rfl rfl ?_); rintro _ rfl; try simp only [go_sem, simprocAttr]))) <;> (simp only [retK, resD, retL, oneD, simprocAttr, Tryz.results132]; exact ⟨_, rfl, rfl, rfl⟩)

theorem met_among_s (n v : ByteArray) (vals : List ByteArray) (hv : vals.length ≤ 1000000) (l : List APair) (c1 : Pure Tryz.prog 172 [.pd (.slice (rows APair.pd l)), str n] (fun d => d = labD (some v))) :
 Pure Tryz.prog 132 [.pd (.iface 169 true [pStr n, .slice (strs vals)]), .pd (.slice (rows APair.pd l))] (fun d => d = bln (hasStr vals v)) := by
 unfold labD at c1
 refine pure_of_run follows an_zvb4i Tryz.func132 rfl ok_zvb4i.1 ok_zvb4i.2 (by simp [Tryz.ntmps132]) ?_
 rw [run_start]
 simp only [ac_zvb4i, go_sem, simprocAttr]
 (repeat' (first | (refine GifP.mk (fun _ => ?_) (fun _ => ?_)) | (refine Gif.mk (fun _ => ?_) (fun _ => ?_)) | ((first | refine (among_name n vals).callW (enters_of Tryz.func173 rfl rfl) _ rfl rfl ?_ | refine c1.callW (enters_of Tryz.func172 rfl rfl) _ rfl rfl ?_ | refine (slices_Contains_string vals hv v).callW (enters_of Tryz.func62 rfl rfl) _ rfl rfl ?_); rintro _ rfl; try simp only [go_sem, simprocAttr]))) <;> (simp only [retK, resD, retL, oneD, simprocAttr, Tryz.results132]; exact ⟨_, rfl, rfl, rfl⟩)

theorem met_among (n : ByteArray) (vals : List ByteArray) (hv : vals.length ≤ 1000000) (l : List APair) (hl : l.length ≤ 1000000) :
 Pure Tryz.prog 132 [.pd (.iface 169 true [pStr n, .slice (strs vals)]), .pd (.slice (rows APair.pd l))] (fun d => d = bln (labAmong l n vals)) := by
 have c1 := label_find l hl n
 unfold labAmong
 rcases hf : labFind l n with _ | v
 ·rw [hf] at c1; exact met_among_n n vals l c1
 ·rw [hf] at c1; exact met_among_s n v vals hv l c1

theorem met_there_o (n : ByteArray) (l : List APair) (v : ByteArray) (b : Bool) (c1 : Pure Tryz.prog 172 [.pd (.slice (rows APair.pd l)), str n] (fun d => d = .tup [str v, bln b])) :
 Pure Tryz.prog 132 [.pd (.iface 172 false [pStr n]), .pd (.slice (rows APair.pd l))] (fun d => d = bln b) := by
 refine pure_of_run follows an_zvb4i Tryz.func132 rfl ok_zvb4i.1 ok_zvb4i.2 (by simp [Tryz.ntmps132]) ?_
 rw [run_start]
 simp only [ac_zvb4i, go_sem, simprocAttr]
 (repeat' (first | (refine GifP.mk (fun _ => ?_) (fun _ => ?_)) | (refine Gif.mk (fun _ => ?_) (fun _ => ?_)) | ((first | refine (there_name n).callW (enters_of Tryz.func174 rfl rfl) _ rfl rfl ?_ | refine c1.callW (enters_of Tryz.func172 rfl rfl) _ rfl rfl ?_); rintro _ rfl; try simp only [go_sem, simprocAttr]))) <;> (simp only [retK, resD, retL, oneD, simprocAttr, Tryz.results132]; exact ⟨_, rfl, rfl, rfl⟩)

theorem met_there (n : ByteArray) (l : List APair) (hl : l.length ≤ 1000000) :
 Pure Tryz.prog 132 [.pd (.iface 172 false [pStr n]), .pd (.slice (rows APair.pd l))] (fun d => d = bln (labFind l n).isSome) := by
 have c1 := label_find l hl n
 rcases hf : labFind l n with _ | v
 ·rw [hf] at c1; exact met_there_o n l _ _ c1
 ·rw [hf] at c1; exact met_there_o n l _ _ c1

theorem met_outside (n : ByteArray) (vals : List ByteArray) (hv : vals.length ≤ 1000000) (l : List APair) (hl : l.length ≤ 1000000) :
 Pure Tryz.prog 132 [.pd (.iface 171 true [pStr n, .slice (strs vals)]), .pd (.slice (rows APair.pd l))] (fun d => d = bln (!labAmong l n vals)) := by
 refine pure_of_run follows an_zvb4i Tryz.func132 rfl ok_zvb4i.1 ok_zvb4i.2 (by simp [Tryz.ntmps132]) ?_
 rw [run_start]
 simp only [ac_zvb4i, go_sem, simprocAttr]
 (repeat' (first | (refine GifP.mk (fun _ => ?_) (fun _ => ?_)) | (refine Gif.mk (fun _ => ?_) (fun _ => ?_)) | (refine (met_among n vals hv l hl).callW (enters_of Tryz.func132 rfl rfl) _ rfl rfl ?_; rintro _ rfl; try simp only [go_sem, simprocAttr]))) <;> (simp only [retK, resD, retL, oneD, simprocAttr, Tryz.results132]; exact ⟨_, rfl, rfl, rfl⟩)

theorem met_missing (n : ByteArray) (l : List APair) (hl : l.length ≤ 1000000) :
 Pure Tryz.prog 132 [.pd (.iface 174 true [pStr n]), .pd (.slice (rows APair.pd l))] (fun d => d = bln (!(labFind l n).isSome)) := by
 refine pure_of_run follows an_zvb4i Tryz.func132 rfl ok_zvb4i.1 ok_zvb4i.2 (by simp [Tryz.ntmps132]) ?_
 rw [run_start]
 simp only [ac_zvb4i, go_sem, simprocAttr]
 (repeat' (first | (refine GifP.mk (fun _ => ?_) (fun _ => ?_)) | (refine Gif.mk (fun _ => ?_) (fun _ => ?_)) | (refine (met_there n l hl).callW (enters_of Tryz.func132 rfl rfl) _ rfl rfl ?_; rintro _ rfl; try simp only [go_sem, simprocAttr]))) <;> (simp only [retK, resD, retL, oneD, simprocAttr, Tryz.results132]; exact ⟨_, rfl, rfl, rfl⟩)

theorem met_nil (l : List APair) : Pure Tryz.prog 132 [.pd (.raw .nilIface), .pd (.slice (rows APair.pd l))] (fun d => d = bln false) := by
 refine pure_of_run follows an_zvb4i Tryz.func132 rfl ok_zvb4i.1 ok_zvb4i.2 (by simp [Tryz.ntmps132]) ?_
 rw [run_start]
 simp only [ac_zvb4i, go_sem, simprocAttr]
 (repeat' (first | (refine GifP.mk (fun _ => ?_) (fun _ => ?_)) | (refine Gif.mk (fun _ => ?_) (fun _ => ?_)))) <;> (simp only [retK, resD, retL, oneD, simprocAttr, Tryz.results132]; exact ⟨_, rfl, rfl, rfl⟩)

theorem label_met (n : ANeed) (hv : n.ok) (l : List APair) (hl : l.length ≤ 1000000) :
 Pure Tryz.prog 132 [asksD n, .pd (.slice (rows APair.pd l))] (fun d => d = bln (askMay n && metBy n l)) := by
 unfold asksD askMay metBy
 by_cases h0 : dname n.name = false
 ·rw [if_pos h0, h0, Bool.false_and, Bool.false_and]
  exact met_nil l
 rw [if_neg h0]
 rw [Bool.not_eq_false] at h0
 rw [h0, Bool.true_and]
 by_cases h1 : n.kind = 1
 ·have e2 : ¬ n.kind = 2 := by omega
  have e3 : ¬ n.kind = 3 := by omega
  have e4 : ¬ n.kind = 4 := by omega
  by_cases hf : fewVals n = true
  ·simp only [h1, hf, and_self, if_true, decide_true, Bool.true_and, Bool.true_or]
   exact met_among n.name n.vals hv l hl
  ·simp only [h1, hf, e2, e3, e4, and_false, false_and, if_false]
   simp [h1, hf]
   exact met_nil l
 by_cases h2 : n.kind = 2
 ·by_cases hf : fewVals n = true
  ·simp only [h2, hf]
   simp
   exact met_outside n.name n.vals hv l hl
  ·simp only [h2, hf]
   simp [hf]
   exact met_nil l
 by_cases h3 : n.kind = 3
 ·by_cases hf : n.vals.length = 0
  ·simp only [h3, hf]
   simp
   exact met_there n.name l hl
  ·simp only [h3, hf]
   simp [hf]
   exact met_nil l
 by_cases h4 : n.kind = 4
 ·by_cases hf : n.vals.length = 0
  ·simp only [h4, hf]
   have := met_missing n.name l hl
   simp only [Option.not_isSome] at this
   simp
   exact this
  ·simp only [h4, hf]
   simp [hf]
   exact met_nil l
 ·simp only [h1, h2, h3, h4, false_and, if_false, decide_false, Bool.false_and, Bool.or_false]
  exact met_nil l

theorem asksD_pd (n : ANeed) : ∃ x, asksD n = .pd x := by
 rcases askMay_isnil n with ⟨t, a, cs, h1, _⟩ | ⟨h1, _⟩
 ·exact ⟨_, h1⟩
 ·exact ⟨_, h1⟩

theorem label_Met (n : ANeed) (hv : n.ok) (l : List APair) (hl : l.length ≤ 1000000) : Pure Tryz.prog 77 [n.d, .pd (.slice (rows APair.pd l))] (fun d => d = bln (metNeed n l)) := by
 have c1 := label_asks n hv
 have c2 := label_met n hv l hl
 obtain ⟨x, hx⟩ := asksD_pd n
 rw [hx] at c1 c2
 refine pure_of_run follows an_zavw2 Tryz.func77 rfl ok_zavw2.1 ok_zavw2.2 (by simp [Tryz.ntmps77]) ?_
 rw [run_start]
 simp only [ac_zavw2, go_sem, simprocAttr]
 (repeat' (first | (refine GifP.mk (fun _ => ?_) (fun _ => ?_)) | (refine Gif.mk (fun _ => ?_) (fun _ => ?_)) | ((first | refine (label_May l hl).callW (enters_of Tryz.func74 rfl rfl) _ rfl rfl ?_ | refine c1.callW (enters_of Tryz.func129 rfl rfl) _ rfl rfl ?_ | refine c2.callW (enters_of Tryz.func132 rfl rfl) _ rfl rfl ?_); rintro _ rfl; try simp only [go_sem, simprocAttr]))) <;> (simp only [retK, resD, retL, oneD, simprocAttr, Tryz.results77]; exact ⟨_, rfl, rfl, congrArg bln (by first | rfl | (rw [Bool.eq_iff_iff]; simp only [metNeed]; (first | (simp; done) | (simp; omega) | (simp [*]; done) | (simp [*]; omega))) | (simp_all [metNeed]; done) | (exfalso; omega))⟩)

theorem label_All_1 (l : List APair) (hl : l.length ≤ 1000000) (n : ANeed) (hv : n.ok) : PureB Tryz.prog 76 [n.d, .ptr 1000001 0] [(1000001, [.pd (.slice (rows APair.pd l))])] (fun d => d = bln (!metNeed n l)) := by
 refine pureB_of_run follows an_z3q2c Tryz.func76 rfl ok_z3q2c.1 ok_z3q2c.2 (by simp [Tryz.ntmps76]) ?_
 rw [run_start]
 simp only [ac_z3q2c, go_sem, simprocAttr]
 refine (label_Met n hv l hl).callW (enters_of Tryz.func77 rfl rfl) _ rfl rfl ?_
 rintro _ rfl
 simp only [go_sem, simprocAttr]
 simp only [retK, resD, retL, oneD, simprocAttr, Tryz.results76]
 exact ⟨_, rfl, rfl, rfl⟩

theorem label_All (needs : List ANeed) (hn : needs.length ≤ 1000000) (hv : ∀ n ∈ needs, n.ok) (l : List APair) (hl : l.length ≤ 1000000) :
 Pure Tryz.prog 42 [.pd (.slice (rows ANeed.pd needs)), .pd (.slice (rows APair.pd l))] (fun d => d = bln (labelsAll needs l)) := by
 refine pure_of_run follows an_zjbt5 Tryz.func42 rfl ok_zjbt5.1 ok_zjbt5.2 (by simp [Tryz.ntmps42]) ?_
 rw [run_start]
 simp only [ac_zjbt5, go_sem, simprocAttr]
 (repeat' (first | (refine GifP.mk (fun _ => ?_) (fun _ => ?_)) | (refine Gif.mk (fun _ => ?_) (fun _ => ?_)) | ((first | refine (label_Needs needs hn hv).callW (enters_of Tryz.func73 rfl rfl) _ rfl rfl ?_ | refine (label_May l hl).callW (enters_of Tryz.func74 rfl rfl) _ rfl rfl ?_ | refine (ContainsFunc_Need (fun n => !metNeed n l) 76 (enters_of Tryz.func76 rfl rfl) [(1000001, 0)] [(1000001, [.pd (.slice (rows APair.pd l))])] (Cl.of rfl rfl rfl rfl rfl) needs hn (fun n h => label_All_1 l hl n (hv n h))).callW (enters_of Tryz.func75 rfl rfl) _ [(3, 1000001)] rfl rfl rfl ?_); rintro _ rfl; try simp only [go_sem, simprocAttr]))) <;> (simp only [retK, resD, retL, oneD, simprocAttr, Tryz.results42]; exact ⟨_, rfl, rfl, congrArg bln (by first | rfl | (rw [Bool.eq_iff_iff]; simp only [labelsAll]; (first | (simp; done) | (simp; omega) | (simp [*]; done) | (simp [*]; omega))) | (simp_all [labelsAll]; done) | (exfalso; omega))⟩)


def letsAt (os : List AObj) (g : AObj) (i : Int) (space : ByteArray) : Bool := match atL g i with
 | some x => attLets labelsAll os g x space
 | none => false

theorem attach_Lets (os : List AObj) (hos : os.length ≤ 1000000) (h : ∀ o ∈ os, o.ok) (g : AObj) (hg : g.ok) (i : Int) (space : ByteArray) :
 Pure Tryz.prog 18 [.pd (.slice (rows AObj.pd os)), g.d, int i, str space] (fun d => d = bln (letsAt os g i space)) := by
 have hli := hg.li
 refine pure_of_run follows an_zuhx Tryz.func18 rfl ok_zuhx.1 ok_zuhx.2 (by simp [Tryz.ntmps18]) ?_
 rw [run_start]
 unfold letsAt atL gwOk
 by_cases h5 : g.ref.kind = 5
 case neg =>
  have h5' := eq_false h5
  simp only [ac_zuhx, go_sem, simprocAttr, h5']
  simp only [retK, resD, retL, oneD, simprocAttr, Tryz.results18]
  exact ⟨_, rfl, rfl, by simp [h5, D.pub]⟩
 have h5' := eq_true h5
 simp only [ac_zuhx, go_sem, simprocAttr, h5']
 refine (object_May g hg).callW (enters_of Tryz.func29 rfl rfl) _ rfl rfl ?_
 rintro _ rfl
 cases hm : objMay g
 ·simp only [go_sem, simprocAttr]
  simp only [retK, resD, retL, oneD, simprocAttr, Tryz.results18]
  exact ⟨_, rfl, rfl, by simp [D.pub]⟩
 by_cases hi : i < 0
 ·have hi' := eq_true hi
  simp only [go_sem, simprocAttr, hi']
  simp only [retK, resD, retL, oneD, simprocAttr, Tryz.results18]
  exact ⟨_, rfl, rfl, by simp [hi, D.pub]⟩
 obtain ⟨n, rfl⟩ : ∃ n : Nat, i = n := ⟨i.toNat, by omega⟩
 have hi' := eq_false hi
 by_cases hl : n < g.listeners.length
 case neg =>
  have h1 : ((g.listeners.length : Int) ≤ (n : Int)) = True := eq_true (by omega)
  simp only [go_sem, simprocAttr, hi', h1]
  simp only [retK, resD, retL, oneD, simprocAttr, Tryz.results18]
  have hno : g.listeners[n]? = none := List.getElem?_eq_none (by omega)
  exact ⟨_, rfl, rfl, by simp only [Int.toNat_natCast, hno]; simp [D.pub]⟩
 obtain ⟨x, hx⟩ := at_lt hl
 have hxok := hg.lis x (List.mem_of_getElem? hx)
 have h1 : ((g.listeners.length : Int) ≤ (n : Int)) = False := eq_false (by omega)
 simp only [Int.toNat_natCast, hx, hi, decide_true, Bool.and_self, if_true, if_false, attLets]
 by_cases f1 : x.from_ = 1
 ·have f1' := eq_true f1
  simp only [go_sem, simprocAttr, hi', h1, rows_get hx, f1']
  simp only [retK, resD, retL, oneD, simprocAttr, Tryz.results18]
  exact ⟨_, rfl, rfl, by simp [D.pub]⟩
 have f1' := eq_false f1
 by_cases f2 : x.from_ = 2
 case neg =>
  have f2' := eq_false f2
  simp only [go_sem, simprocAttr, hi', h1, rows_get hx, f1', f2']
  simp only [retK, resD, retL, oneD, simprocAttr, Tryz.results18]
  exact ⟨_, rfl, rfl, by simp [D.pub]⟩
 have f2' := eq_true f2
 simp only [go_sem, simprocAttr, hi', h1, rows_get hx, f1', f2']
 refine (grant_Find os hos ⟨2, ⟨#[]⟩, space⟩).callW (enters_of Tryz.func30 rfl rfl) _ rfl rfl ?_
 rintro _ rfl
 rcases hf : found os ⟨2, ⟨#[]⟩, space⟩ with _ | s
 ·simp only [foundD, go_sem, simprocAttr]
  simp only [retK, resD, retL, oneD, simprocAttr, Tryz.results18]
  exact ⟨_, rfl, rfl, by simp [D.pub]⟩
 simp only [foundD, go_sem, simprocAttr]
 refine (object_May s (h s (List.mem_of_find?_eq_some hf))).callW (enters_of Tryz.func29 rfl rfl) _ rfl rfl ?_
 rintro _ rfl
 cases hs : objMay s
 ·simp only [go_sem, simprocAttr]
  simp only [retK, resD, retL, oneD, simprocAttr, Tryz.results18]
  exact ⟨_, rfl, rfl, by simp [D.pub]⟩
 simp only [go_sem, simprocAttr]
 refine (label_All x.needs hxok.nl hxok.n s.labels (h s (List.mem_of_find?_eq_some hf)).la).callW (enters_of Tryz.func42 rfl rfl) _ rfl rfl ?_
 rintro _ rfl
 simp only [go_sem, simprocAttr]
 simp only [retK, resD, retL, oneD, simprocAttr, Tryz.results18]
 exact ⟨_, rfl, rfl, by simp [D.pub]⟩

theorem meetFold_len (p : ByteArray) : ∀ (hosts : List ByteArray) (out : List ByteArray), (hosts.foldl (meetStep p) out).length ≤ out.length + hosts.length
 | [], _ => by simp
 | h :: hosts, out => by
   have h1 := meetFold_len p hosts (meetStep p out h)
   have h2 : (meetStep p out h).length ≤ out.length + 1 := by
    unfold meetStep
    repeat' split
    all_goals simp
   simp only [List.foldl_cons, List.length_cons]
   omega

theorem foldl_take {α β : Type} {f : β → α → β} {b : β} {l : List α} {i : Nat} {x : α} (hx : l[i]? = some x) : (l.take (i + 1)).foldl f b = f ((l.take i).foldl f b) x := by
 rw [take_at hx, List.foldl_append]; rfl

theorem Weak.purge {P : Program} {st st' : St} (t : Nat) (hf : lessL st'.fr (st.purge t).fr) (hb : lessL st'.bs (st.purge t).bs) (hm : lessL st'.ms st.ms) (hh : st'.hs = st.hs) : Weak P st st' :=
 fun _ _ _ _ _ hs => ⟨_, (hs.purge t).less (fun i d hd => .inl (lessL_lk hf i d hd)) (lessL_lk hb) (lessL_lk hm) hh⟩

set_option maxHeartbeats 1000000 in
theorem attach_Meet (p : ByteArray) (hosts : List ByteArray) (hl : hosts.length ≤ 1000000) :
 Pure Tryz.prog 34 [str p, .pd (.slice (strs hosts))] (fun d => d = .pd (.slice (strs (meets p hosts)))) := by
 have hl2 : (someHosts hosts).length ≤ 1000000 := by
  unfold someHosts
  split
  ·simp
  ·exact hl
 refine pure_of_run follows an_zbr1v Tryz.func34 rfl ok_zbr1v.1 ok_zbr1v.2 (by simp [Tryz.ntmps34]) ?_
 rw [run_start]
 by_cases h0 : hosts.length = 0
 all_goals
  first
  | (have h0' := eq_true h0
     have hsome : someHosts hosts = [⟨#[]⟩] := by simp [someHosts, List.length_eq_zero_iff.1 h0]
     simp only [ac_zbr1v, go_sem, simprocAttr, h0', Int.natCast_eq_zero])
  | (have h0' := eq_false h0
     have hsome : someHosts hosts = hosts := by unfold someHosts; exact if_neg fun e => h0 (List.length_eq_zero_iff.2 e)
     simp only [ac_zbr1v, go_sem, simprocAttr, h0', Int.natCast_eq_zero])
  refine loopS (fun k st => ∃ i : Nat, k = (someHosts hosts).length - i ∧ i ≤ (someHosts hosts).length ∧
   st = ⟨[(0, str p), (5, .own 9 1 (strs (((someHosts hosts).take i).foldl (meetStep p) [])) 36), (14, .pd (.slice (strs (someHosts hosts)))), (15, int (someHosts hosts).length), (16, int i)], [], [], .no⟩) (someHosts hosts).length _ ?_ ⟨0, rfl, by omega, rfl⟩ ?_
  ·first
   | (refine Weak.trans (s2 := ⟨[(0, str p), (5, .nils), (14, .pd (.slice (strs (someHosts hosts)))), (15, int (someHosts hosts).length), (16, int 0)], [], [], .no⟩) (Weak.purge 13 (by simp [lessL, lk, St.purge, D.purge, hsome]) (by simp [lessL, lk, St.purge, D.purges, D.purge]) (by simp [lessL]) rfl) ?_
      exact Weak.own1 5 36 9 1 (by kernel_rfl) (by decide) rfl (by simp [lessL, lk, St.purge, St.put, D.purge, rows]) (by simp [lessL, lk, St.purge, D.purges, D.purge]) (by simp [lessL]) rfl)
   | (rw [hsome]
      exact Weak.own1 5 36 9 1 (by kernel_rfl) (by decide) rfl (by simp [lessL, lk, St.purge, St.put, D.purge, rows]) (by simp [lessL, lk, St.purge, D.purges, D.purge]) (by simp [lessL]) rfl)
  clear hsome h0'
  generalize hL : someHosts hosts = L at hl2 ⊢
  rintro k st ⟨i, rfl, hi, rfl⟩
  by_cases hlt : i < L.length
  ·obtain ⟨x, hx⟩ := at_lt hlt
   have h1 : ((i : Int) < (L.length : Int)) = True := eq_true (by omega)
   have hw := i64_succ (show i < 1000000000 by omega)
   have hf := foldl_take (f := meetStep p) (b := []) hx
   have hol := meetFold_len p (L.take i) []
   rw [List.length_nil, List.length_take] at hol
   simp only [go_sem, simprocAttr, rows_get hx, h1]
   refine (host_Meet p x).callW (enters_of Tryz.func61 rfl rfl) _ rfl rfl ?_
   rintro _ rfl
   generalize (L.take i).foldl (meetStep p) [] = out at hf hol ⊢
   rcases hm : hostMeet p x with _ | m
   ·simp only [meetD, go_sem, simprocAttr, hw]
    rw [show meetStep p out x = out by simp [meetStep, hm]] at hf
    refine ⟨L.length - (i + 1), _, by omega, ?_, i + 1, rfl, by omega, rfl⟩
    rw [hf]
    exact lessA
   ·simp only [meetD, go_sem, simprocAttr, hw]
    refine (slices_Contains_string out (by omega) m).callW (enters_of Tryz.func62 rfl rfl) _ rfl rfl ?_
    rintro _ rfl
    cases hc : hasStr out m
    ·rw [show meetStep p out x = out ++ [m] by simp [meetStep, hm, hc]] at hf
     simp only [go_sem, simprocAttr, hw]
     rw [show strs out ++ [[PD.raw (.string m)]] = strs (out ++ [m]) from rows_one out m, ← hf]
     refine ⟨fun r hr => by rw [List.mem_singleton.1 hr]; rfl, by unfold maxLen; omega, by omega, L.length - (i + 1), _, by omega, ?_, i + 1, rfl, by omega, rfl⟩
     exact lessA
    ·rw [show meetStep p out x = out by simp [meetStep, hm, hc]] at hf
     simp only [go_sem, simprocAttr, hw]
     refine ⟨L.length - (i + 1), _, by omega, ?_, i + 1, rfl, by omega, rfl⟩
     rw [hf]
     exact lessA
  ·have h1 : ((i : Int) < (L.length : Int)) = False := eq_false (by omega)
   rw [List.take_of_length_le (by omega)]
   simp only [go_sem, simprocAttr, h1]
   simp only [retK, resD, retL, oneD, simprocAttr, Tryz.results34]
   exact ⟨_, rfl, rfl, by unfold meets; rw [hL]; rfl⟩


theorem atL_got {g : AObj} {i : Int} {x : AListener} (h : atL g i = some x) : gwOk g = true ∧ 0 ≤ i ∧ g.listeners[i.toNat]? = some x := by
 unfold atL at h
 split at h
 ·rename_i hg
  split at h
  ·cases h
  ·exact ⟨hg, by omega, h⟩
 ·cases h

theorem lis_from {g : AObj} (h : gwOk g = true) {x : AListener} (hx : x ∈ g.listeners) : x.from_ = 0 ∨ x.from_ = 1 ∨ x.from_ = 2 := by
 have h1 : g.ref.kind = 5 ∧ objMay g = true := gwOk_iff.1 h
 have h2 := h1.2
 rw [objMay_keep] at h2
 simp only [Bool.and_eq_true] at h2
 have h3 := h2.2.1
 simp only [kindMay, h1.1] at h3
 simp only [gatewayMay, every, Bool.and_eq_true, decide_eq_true_eq, Int.reduceEq, false_or, or_self, if_false, if_true, List.all_eq_true] at h3
 have h4 := h3.1.2.2 x hx
 simp only [listenerMay, Bool.and_eq_true, decide_eq_true_eq] at h4
 omega

set_option maxHeartbeats 4000000 in
theorem ref13_Lets (os : List AObj) (hos : os.length ≤ 1000000) (h : ∀ o ∈ os, o.ok) (hk : ∀ o ∈ os, o.sok) (g : AObj) (hg : g.ok) (hgs : g.sok) (i : Int) (space : ByteArray) :
 Pure Tryz.prog 38 [.pd (.slice (rows AObj.pd os)), g.d, int i, str space] (fun d => d = bln (letsAt os g i space)) := by
 have hli := hg.li
 refine pure_of_run follows an_z4tv7 Tryz.func38 rfl ok_z4tv7.1 ok_z4tv7.2 (by simp [Tryz.ntmps38]) ?_
 rw [run_start]
 unfold letsAt
 simp only [ac_z4tv7, go_sem, simprocAttr]
 refine (ref12_There g hg hgs i).callW (enters_of Tryz.func70 rfl rfl) _ rfl rfl ?_
 rintro _ rfl
 cases hx : atL g i with
 | none =>
   simp only [go_sem, simprocAttr]
   simp only [retK, resD, retL, oneD, simprocAttr, Tryz.results38]
   exact ⟨_, rfl, rfl, rfl⟩
 | some x =>
 obtain ⟨hgw, h0, hxi⟩ := atL_got hx
 obtain ⟨n, rfl⟩ : ∃ n : Nat, i = n := ⟨i.toNat, by omega⟩
 rw [Int.toNat_natCast] at hxi
 have hmem := List.mem_of_getElem? hxi
 have hxok := hg.lis x hmem
 have hxs := (hgs.ln x hmem).2.2
 clear hx
 simp only [attLets]
 rcases lis_from hgw hmem with f | f | f
 ·have f1 : (x.from_ = 1) = False := eq_false (by omega)
  have f0 := eq_true f
  simp only [Option.isSome_some, go_sem, simprocAttr, rows_get hxi, f1, f0]
  simp only [retK, resD, retL, oneD, simprocAttr, Tryz.results38]
  exact ⟨_, rfl, rfl, by simp [f, D.pub]⟩
 ·have f1 := eq_true f
  simp only [Option.isSome_some, go_sem, simprocAttr, rows_get hxi, f1]
  simp only [retK, resD, retL, oneD, simprocAttr, Tryz.results38]
  exact ⟨_, rfl, rfl, by simp [f, D.pub]⟩
 have f1 : (x.from_ = 1) = False := eq_false (by omega)
 have f0 : (x.from_ = 0) = False := eq_false (by omega)
 have f2 := eq_true f
 simp only [Option.isSome_some, go_sem, simprocAttr, rows_get hxi, f1, f0]
 refine (ref11_Find os hos ⟨2, ⟨#[]⟩, space⟩).callW (enters_of Tryz.func17 rfl rfl) _ rfl rfl ?_
 rintro _ rfl
 simp only [f2, if_false, if_true]
 rcases hf : found os ⟨2, ⟨#[]⟩, space⟩ with _ | s
 ·simp only [foundD, go_sem, simprocAttr]
  simp only [retK, resD, retL, oneD, simprocAttr, Tryz.results38]
  exact ⟨_, rfl, rfl, rfl⟩
 have hsm := List.mem_of_find?_eq_some hf
 simp only [foundD, go_sem, simprocAttr]
 refine (ref9_May s (h s hsm) (hk s hsm)).callW (enters_of Tryz.func35 rfl rfl) _ rfl rfl ?_
 rintro _ rfl
 cases hs : objMay s
 ·simp only [go_sem, simprocAttr]
  simp only [retK, resD, retL, oneD, simprocAttr, Tryz.results38]
  exact ⟨_, rfl, rfl, by simp [D.pub]⟩
 simp only [go_sem, simprocAttr]
 refine (ref8_All x.needs hxok.nl hxok.n hxs s.labels (h s hsm).la (hk s hsm).lv).callW (enters_of Tryz.func71 rfl rfl) _ rfl rfl ?_
 rintro _ rfl
 simp only [go_sem, simprocAttr]
 simp only [retK, resD, retL, oneD, simprocAttr, Tryz.results38]
 exact ⟨_, rfl, rfl, by simp [D.pub]⟩

theorem meetStep_some {p h m : ByteArray} {out : List ByteArray} (e : hostMeet p h = some m) : meetStep p out h = if (out.any fun x => decide (x = m)) = true then out else out ++ [m] := by
 have : hasStr out m = out.any fun x => decide (x = m) := by
  unfold hasStr
  congr 1
  funext x
  exact decide_eq_decide.2 eq_comm
 unfold meetStep
 rw [e]
 simp only [this]

set_option maxHeartbeats 4000000 in
theorem ref13_Meet (p : ByteArray) (hosts : List ByteArray) (hl : hosts.length ≤ 1000000) :
 Pure Tryz.prog 39 [str p, .pd (.slice (strs hosts))] (fun d => d = .pd (.slice (strs (meets p hosts)))) := by
 refine pure_of_run follows an_zlplx Tryz.func39 rfl ok_zlplx.1 ok_zlplx.2 (by simp [Tryz.ntmps39]) ?_
 rw [run_start]
 by_cases he : hosts = []
 ·subst he
  have hm : meets p [] = if hostMay p = true then [p] else [] := by
   unfold meets someHosts
   rw [if_pos rfl, List.foldl_cons, List.foldl_nil]
   by_cases h : hostMay p = true
   ·rw [if_pos h, meetStep_some (meet_nil h)]
    rfl
   ·rw [if_neg h]
    unfold meetStep
    rw [show hostMeet p ⟨#[]⟩ = none by unfold hostMeet; rw [if_pos (.inl (by simpa using h))]]
  simp only [ac_zlplx, go_sem, simprocAttr]
  refine (ref2_May p).callW (enters_of Tryz.func43 rfl rfl) _ rfl rfl ?_
  rintro _ rfl
  cases h : hostMay p
  ·rw [if_neg (by simp [h])] at hm
   simp only [go_sem, simprocAttr]
   simp only [retK, resD, retL, oneD, simprocAttr, Tryz.results39]
   exact ⟨_, rfl, rfl, by rw [hm]; rfl⟩
  ·rw [if_pos h] at hm
   simp only [go_sem, simprocAttr]
   simp only [retK, resD, retL, oneD, simprocAttr, Tryz.results39]
   exact ⟨_, rfl, rfl, by rw [hm]; rfl⟩
 have hs : someHosts hosts = hosts := if_neg he
 have h0 : ((hosts.length : Int) = 0) = False := eq_false (fun e => he (List.length_eq_zero_iff.1 (by omega)))
 unfold meets
 rw [hs]
 simp only [ac_zlplx, go_sem, simprocAttr, h0]
 refine loopS (fun k st => ∃ i : Nat, k = hosts.length - i ∧ i ≤ hosts.length ∧
  st = ⟨[(0, str p), (1, .pd (.slice (strs hosts))), (5, .own 9 1 (strs ((hosts.take i).foldl (meetStep p) [])) 56), (6, int i)], [], [], .no⟩) hosts.length _ ?_ ⟨0, rfl, by omega, rfl⟩ ?_
 ·exact Weak.own1 5 56 9 1 (by kernel_rfl) (by decide) rfl (by simp [lessL, lk, St.purge, St.put, D.purge, rows]) (by simp [lessL, lk, St.purge, D.purges, D.purge]) (by simp [lessL]) rfl
 rintro k st ⟨i, rfl, hi, rfl⟩
 have hw := i64_succ (show i < 1000000000 by omega)
 by_cases hlt : i < hosts.length
 rotate_left
 ·have h1 : ((i : Int) < (hosts.length : Int)) = False := eq_false (by omega)
  rw [List.take_of_length_le (by omega)]
  simp only [go_sem, simprocAttr, h1]
  simp only [retK, resD, retL, oneD, simprocAttr, Tryz.results39]
  exact ⟨_, rfl, rfl, rfl⟩
 obtain ⟨x, hx⟩ := at_lt hlt
 have h1 : ((i : Int) < (hosts.length : Int)) = True := eq_true (by omega)
 have hf := foldl_take (f := meetStep p) (b := []) hx
 have hol := meetFold_len p (hosts.take i) []
 rw [List.length_nil, List.length_take] at hol
 generalize (hosts.take i).foldl (meetStep p) [] = out at hf hol ⊢
 simp only [go_sem, simprocAttr, rows_get hx, h1]
 refine (ref2_Meet p x).callW (enters_of Tryz.func19 rfl rfl) _ rfl rfl ?_
 rintro _ rfl
 cases hm : hostMeet p x with
 | none =>
   rw [show meetStep p out x = out by simp [meetStep, hm]] at hf
   simp only [meetD, go_sem, simprocAttr]
   refine loopS (fun k st => ∃ (j : Nat) (t : Bool), k = out.length - j ∧ j ≤ out.length ∧
    st = ⟨[(0, str p), (1, .pd (.slice (strs hosts))), (5, .own 9 1 (strs out) 56), (6, int i), (7, str ⟨#[]⟩), (8, bln false), (9, bln t), (10, int j)], [], [], .no⟩) out.length _ ?_ ⟨0, false, rfl, by omega, rfl⟩ ?_
   ·exact lessA
   rintro k st ⟨j, t, rfl, hj, rfl⟩
   have hwj := i64_succ (show j < 1000000000 by omega)
   by_cases hjl : j < out.length
   ·obtain ⟨y, hy⟩ := at_lt hjl
    have h2 : ((j : Int) < (out.length : Int)) = True := eq_true (by omega)
    cases t
    ·simp only [go_sem, simprocAttr, rows_get hy, h2, hwj]
     refine ⟨out.length - (j + 1), _, by omega, ?_, j + 1, decide (y = ⟨#[]⟩), rfl, by omega, rfl⟩
     exact lessA
    ·simp only [go_sem, simprocAttr, h2, hwj]
     refine ⟨out.length - (j + 1), _, by omega, ?_, j + 1, true, rfl, by omega, rfl⟩
     exact lessA
   have h2 : ((j : Int) < (out.length : Int)) = False := eq_false (by omega)
   simp only [go_sem, simprocAttr, h2, hw]
   refine ⟨hosts.length - (i + 1), _, by omega, ?_, i + 1, rfl, by omega, rfl⟩
   rw [hf]
   exact lessA
 | some m =>
   rw [meetStep_some hm] at hf
   simp only [meetD, go_sem, simprocAttr]
   refine loopS (fun k st => ∃ (j : Nat) (t : Bool), k = out.length - j ∧ j ≤ out.length ∧ t = ((out.take j).any fun x => decide (x = m)) ∧
    st = ⟨[(0, str p), (1, .pd (.slice (strs hosts))), (5, .own 9 1 (strs out) 56), (6, int i), (7, str m), (8, bln true), (9, bln t), (10, int j)], [], [], .no⟩) out.length _ ?_ ⟨0, false, rfl, by omega, rfl, rfl⟩ ?_
   ·exact lessA
   rintro k st ⟨j, t, rfl, hj, ht, rfl⟩
   have hwj := i64_succ (show j < 1000000000 by omega)
   by_cases hjl : j < out.length
   ·obtain ⟨y, hy⟩ := at_lt hjl
    have h2 : ((j : Int) < (out.length : Int)) = True := eq_true (by omega)
    have hst : ((out.take (j + 1)).any fun x => decide (x = m)) = (t || decide (y = m)) := by
     rw [take_at hy, List.any_append, ht]
     simp
    cases t
    ·simp only [go_sem, simprocAttr, rows_get hy, h2, hwj]
     refine ⟨out.length - (j + 1), _, by omega, ?_, j + 1, decide (y = m), rfl, by omega, by rw [hst]; rfl, rfl⟩
     exact lessA
    ·simp only [go_sem, simprocAttr, h2, hwj]
     refine ⟨out.length - (j + 1), _, by omega, ?_, j + 1, true, rfl, by omega, by rw [hst]; rfl, rfl⟩
     exact lessA
   have h2 : ((j : Int) < (out.length : Int)) = False := eq_false (by omega)
   rw [List.take_of_length_le (by omega)] at ht
   rw [← ht] at hf
   cases t
   ·rw [if_neg (by simp)] at hf
    simp only [go_sem, simprocAttr, h2, hw]
    rw [show strs out ++ [[pStr m]] = strs (out ++ [m]) from rows_one out m]
    refine ⟨by simp, by unfold maxLen; omega, by omega, hosts.length - (i + 1), _, by omega, ?_, i + 1, rfl, by omega, rfl⟩
    rw [hf]
    exact lessA
   ·rw [if_pos rfl] at hf
    simp only [go_sem, simprocAttr, h2, hw]
    refine ⟨hosts.length - (i + 1), _, by omega, ?_, i + 1, rfl, by omega, rfl⟩
    rw [hf]
    exact lessA

end Go.Proofs.YtcnhcamimcpinaaGreatDoor


