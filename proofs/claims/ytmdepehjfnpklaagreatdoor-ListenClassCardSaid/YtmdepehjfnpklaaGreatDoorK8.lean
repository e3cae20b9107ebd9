/- Texts of the prover's, joined: FF FH FI I3 IB IA I8 I9. -/
import Derived.Test.YtmdepehjfnpklaaGreatDoorK7

namespace Go.Proofs.YtmdepehjfnpklaaGreatDoor
open Go Go.RowKit
set_option linter.unusedSimpArgs false
set_option linter.unusedVariables false
set_option maxRecDepth 100000

theorem Reps.tell {g : Gh} {w : World} {d : D} : ∀ {ds : List D} {vs : List Value} (_ : Reps g w ds vs) (i : Nat) (_ : ∀ v, vs[i]? = some v → Rep g w d v), Reps g w (ds.set i d) vs
  | [], _, h, _, _ => by simpa using h
  | e :: ds, _, h, i, hd => by
    simp only [Reps] at h
    obtain ⟨v, vs', rfl, hv, hs⟩ := h
    cases i with
    | zero => exact ⟨v, vs', rfl, hd v rfl, hs⟩
    | succ i => exact ⟨v, vs', rfl, hv, Reps.tell hs i (fun u hu => hd u (by simpa using hu))⟩

theorem SR.tellB {C : Ctx} {st : St} {g : Gh} {a : Act} {w : World} (h : SR C st g a w) {n : Nat} {ds ds' : List D} (hn : lk st.bs n = some ds) (hd : ∀ vs, Reps g w ds vs → Reps g w ds' vs) : SR C { st with bs := (n, ds') :: st.bs } g a w := by
  have m := h.mem
  refine ⟨h.defers, h.size, h.rep, { m with bxs := fun k es hk => ?_ }, h.x, h.fix⟩
  simp only [lk] at hk
  split at hk
  · rename_i hkn
    subst hkn
    cases hk
    obtain ⟨b, cs, t, h1, h2, h3⟩ := m.bxs _ ds hn
    exact ⟨b, cs, t, h1, h2, hd _ h3⟩
  · exact m.bxs k es hk

theorem purges_at : ∀ (t : Nat) (ds : List D) (i : Nat), ds[i]? = some .nils → (D.purges t ds)[i]? = some .nils
  | _, [], _, h => by simp at h
  | t, d :: ds, 0, h => by
    simp only [List.getElem?_cons_zero, Option.some.injEq] at h
    subst h
    simp [D.purges, D.purge]
  | t, d :: ds, i + 1, h => by
    simp only [List.getElem?_cons_succ] at h
    simpa [D.purges] using purges_at t ds i h

theorem lk_purge {st : St} {t n : Nat} {ds : List D} (h : lk st.bs n = some ds) : lk (st.purge t).bs n = some (D.purges t ds) := by
  simp only [St.purge]
  rw [lk_map (fun ds => D.purges t ds) st.bs n, h]; rfl

theorem Weak.ownB0 {P : Program} {st : St} (n i t : Nat) (e : TypeId) {ti : TypeInfo} (hi : P.info? e = some ti) (hpos : 0 < ti.size) {ds : List D} (h : lk st.bs n = some ds) (hn : ds[i]? = some .nils) :
    Weak P st { st.purge t with bs := (n, (D.purges t ds).set i (.own e ti.size [] t)) :: (st.purge t).bs } := by
  intro C g a w hP hs
  subst hP
  have h1 := hs.purge t
  obtain ⟨h2, _⟩ := SR.owned h1 t (by simp) (grownBy_same w none) _ h1.x (fun k e => by cases e) (fun _ h => h) (fun k e => by cases e) e ti hi hpos (.slice none 0 0) 0 [] (World.ownsRow_nil _ _ _ _) (fun b hb => by cases hb) (fun b o _ hb => by cases hb)
  refine ⟨_, h2.tellB (lk_purge h) fun vs hv => ?_⟩
  refine hv.tell i fun v hvi => ?_
  obtain ⟨u, hu, hr⟩ := hv.get i _ (purges_at t ds i hn)
  rw [hvi] at hu
  cases hu
  simp only [Rep] at hr
  rw [hr]
  simp only [Rep]
  exact ⟨.empty _ _, by simp, by simp⟩

theorem Weak.ownB {P : Program} {st st' : St} (n i t : Nat) (e : TypeId) (sz : Nat) (hi : (P.info? e).map (·.size) = some sz) (hpos : 0 < sz) {ds : List D} (h : lk st.bs n = some ds) (hn : ds[i]? = some .nils)
    (hf : lessL st'.fr (st.purge t).fr) (hb : lessL st'.bs ((n, (D.purges t ds).set i (.own e sz [] t)) :: (st.purge t).bs)) (hm : lessL st'.ms st.ms) (hh : st'.hs = st.hs) : Weak P st st' := by
  obtain ⟨ti, h1, rfl⟩ := Option.map_eq_some_iff.1 hi
  exact (Weak.ownB0 n i t e h1 hpos h hn).trans (Weak.less hf hb hm hh)

theorem run_cut {P : Program} {x y : AC} {st s1 : St} {S : List Fr} {K : Exit → St → Prop} (h1 : ∀ K' : Exit → St → Prop, K' .normal s1 → run P x st (contS P [] K')) (h2 : run P y s1 (contS P S K)) : run P (.seq x y) st (contS P S K) := by
  rw [run_seq]; exact h1 (contS P (.seq y :: S) K) h2

theorem few_size (s : ByteArray) : (few s).size ≤ 100 := by
  unfold few
  split
  · assumption
  · simp [ByteArray.size_extract]; omega

theorem law3_Few (k : Int) (v : ByteArray) : Pure Tryz.prog 27 [.agg [int k, str v]] (fun d => d = .agg [int k, str (few v)]) := by
  refine pure_of_run follows an_zyx20 Tryz.func27 rfl ok_zyx20 dst_zyx20 (by simp [Tryz.ntmps27]) ?_
  rw [run_start]
  simp only [ac_zyx20, go_sem, contS_seq, simprocAttr]
  refine (law1_Few v).callW (enters_of Tryz.func15 rfl rfl) _ rfl rfl ?_
  rintro d rfl
  simp only [go_sem, contS_seq, simprocAttr]
  simp only [retK, fullK, iterK, resD, resA, AOp.ex, St.ev, Option.map_some, Option.bind_some, St.get, lk, reduceIte, Nat.reduceEqDiff, Option.getD_some, oneD, List.getElem?_cons_zero, List.getElem?_cons_succ, List.drop_zero, List.drop_succ_cons, List.take_succ_cons, List.take_zero, List.length_cons, List.length_nil, Nat.zero_add, Nat.reduceAdd, Nat.le_refl, Nat.reduceLeDiff, D.pub, D.pubs, ret_zyx20]
  exact ⟨_, rfl, rfl, rfl⟩

def fewPair (p : APair) : APair := ⟨few p.name, few p.val⟩
def fewPairs (l : List APair) : List APair := (l.take 31).map fewPair

theorem fewPair_ok (p : APair) : (fewPair p).ok := ⟨by have := few_size p.name; simp [fewPair]; omega, by have := few_size p.val; simp [fewPair]; omega⟩

theorem few_step {α β : Type} {f : β → List PD} {g : α → β} {l : List α} {i : Nat} {x : α} (h : l[i]? = some x) : rows f ((l.take i).map g) ++ [f (g x)] = rows f ((l.take (i + 1)).map g) := by
  rw [take_at h, List.map_append]; exact rows_one _ (g x)

theorem few_len {α β : Type} {f : β → List PD} {g : α → β} {l : List α} {i n : Nat} (h : i ≤ n) : (rows f ((l.take i).map g)).length ≤ n := by simp [rows]; omega

theorem few_end {α β : Type} {g : α → β} {l : List α} {i n : Nat} (h : i ≤ n) (hl : i ≤ l.length) (he : ¬ (i < l.length ∧ i < n)) : (l.take i).map g = (l.take n).map g := by
  rcases Nat.lt_or_ge i n with h6 | h6
  · rw [List.take_of_length_le (by omega), List.take_of_length_le (by omega)]
  · rw [show i = n by omega]

theorem law5_Few (l : List APair) : Pure Tryz.prog 14 [.pd (.slice (rows APair.pd l))] (fun d => d = .pd (.slice (rows APair.pd (fewPairs l)))) := by
  refine pure_of_run follows an_ztgmw Tryz.func14 rfl ok_ztgmw dst_ztgmw (by simp [Tryz.ntmps14]) ?_
  rw [run_start]
  simp only [ac_ztgmw, go_sem, contS_seq, simprocAttr, rows_len]
  refine loopS (fun k st => ∃ i : Nat, k = 31 - i ∧ i ≤ 31 ∧ i ≤ l.length ∧
    st = ⟨[(0, .pd (.slice (rows APair.pd l))), (3, .own 81 2 (rows APair.pd ((l.take i).map fewPair)) 30), (4, int i)], [], [], .no⟩) 31 _
    ?_ ⟨0, rfl, by omega, by omega, rfl⟩ ?_
  · exact Weak.own1 3 30 81 2 (by kernel_rfl) (by decide) rfl (by simp [lessL, lk, St.purge, St.put, D.purge, rows]) (by simp [lessL, lk, St.purge, D.purges, D.purge]) (by simp [lessL]) rfl
  rintro k st ⟨i, rfl, hi6, hi, rfl⟩
  have hw := i64_succ (show i < 1000000000 by omega)
  by_cases hlt : i < l.length ∧ i < 31
  · obtain ⟨x, hx⟩ := at_lt hlt.1
    have h1 : ((i : Int) < (l.length : Int)) = True := eq_true (by omega)
    have h2 : ((i : Int) < 31) = True := eq_true (by omega)
    simp only [go_sem, contS_seq, simprocAttr, go_sem, rows_len, rows_get hx, h1, h2]
    refine (law1_Few x.name).callX (enters_of Tryz.func15 rfl rfl) _ rfl rfl ?_
    rintro d rfl
    simp only [go_sem, contS_seq, simprocAttr, go_sem, rows_len, rows_get hx]
    refine (law1_Few x.val).callX (enters_of Tryz.func15 rfl rfl) _ rfl rfl ?_
    rintro d rfl
    simp only [go_sem, contS_seq, simprocAttr, go_sem, hw]
    have hl := few_len (f := APair.pd) (g := fewPair) (l := l) hi6
    have e1 : rows APair.pd ((l.take i).map fewPair) ++ [[PD.raw (Value.string (few x.name)), PD.raw (Value.string (few x.val))]] = rows APair.pd ((l.take (i + 1)).map fewPair) := few_step hx
    rw [e1]
    refine ⟨by simp, by unfold maxLen; omega, by omega, 31 - (i + 1), _, by omega, ?_, i + 1, rfl, by omega, by omega, rfl⟩
    exact Weak.less (by simp [lessL, lk]) (by simp [lessL, lk]) (by simp [lessL, lk]) rfl
  · have h3 := few_end (g := fewPair) hi6 hi hlt
    rw [h3]
    by_cases h1 : i < l.length
    · have h1' : ((i : Int) < (l.length : Int)) = True := eq_true (by omega)
      have h2 : ((i : Int) < 31) = False := eq_false (by omega)
      simp only [go_sem, contS_seq, simprocAttr, go_sem, rows_len, h1', h2]
      simp only [retK, fullK, iterK, resD, resA, AOp.ex, St.ev, Option.map_some, Option.bind_some, St.get, lk, reduceIte, Nat.reduceEqDiff, Option.getD_some, oneD, List.getElem?_cons_zero, List.getElem?_cons_succ, List.drop_zero, List.drop_succ_cons, List.take_succ_cons, List.take_zero, List.length_cons, List.length_nil, Nat.zero_add, Nat.reduceAdd, Nat.le_refl, Nat.reduceLeDiff, D.pub, D.pubs, Tryz.results14]
      exact ⟨_, rfl, rfl, rfl⟩
    · have h1' : ((i : Int) < (l.length : Int)) = False := eq_false (by omega)
      simp only [go_sem, contS_seq, simprocAttr, go_sem, rows_len, h1']
      simp only [retK, fullK, iterK, resD, resA, AOp.ex, St.ev, Option.map_some, Option.bind_some, St.get, lk, reduceIte, Nat.reduceEqDiff, Option.getD_some, oneD, List.getElem?_cons_zero, List.getElem?_cons_succ, List.drop_zero, List.drop_succ_cons, List.take_succ_cons, List.take_zero, List.length_cons, List.length_nil, Nat.zero_add, Nat.reduceAdd, Nat.le_refl, Nat.reduceLeDiff, D.pub, D.pubs, Tryz.results14]
      exact ⟨_, rfl, rfl, rfl⟩

def fewFilter (f : AFilter) : AFilter := { f with name := few f.name, val := few f.val, host := few f.host, path := few f.path }
def fewFilters (l : List AFilter) : List AFilter := (l.take 9).map fewFilter
def fewSide (s : ASide) : ASide := ⟨s.kind, few s.space, few s.name⟩
def fewSides (l : List ASide) : List ASide := (l.take 5).map fewSide

theorem law7_Few (l : List AFilter) : Pure Tryz.prog 18 [.pd (.slice (rows AFilter.pd l))] (fun d => d = .pd (.slice (rows AFilter.pd (fewFilters l)))) := by
  refine pure_of_run follows an_z9moo Tryz.func18 rfl ok_z9moo dst_z9moo (by simp [Tryz.ntmps18]) ?_
  rw [run_start]
  simp only [ac_z9moo, go_sem, contS_seq, simprocAttr, rows_len]
  refine loopS (fun k st => ∃ i : Nat, k = 9 - i ∧ i ≤ 9 ∧ i ≤ l.length ∧
    st = ⟨[(0, .pd (.slice (rows AFilter.pd l))), (3, .own 86 8 (rows AFilter.pd ((l.take i).map fewFilter)) 39), (4, int i)], [], [], .no⟩) 9 _
    ?_ ⟨0, rfl, by omega, by omega, rfl⟩ ?_
  · exact Weak.own1 3 39 86 8 (by kernel_rfl) (by decide) rfl (by simp [lessL, lk, St.purge, St.put, D.purge, rows]) (by simp [lessL, lk, St.purge, D.purges, D.purge]) (by simp [lessL]) rfl
  rintro k st ⟨i, rfl, hi6, hi, rfl⟩
  have hw := i64_succ (show i < 1000000000 by omega)
  by_cases hlt : i < l.length ∧ i < 9
  · obtain ⟨x, hx⟩ := at_lt hlt.1
    have h1 : ((i : Int) < (l.length : Int)) = True := eq_true (by omega)
    have h2 : ((i : Int) < 9) = True := eq_true (by omega)
    simp only [go_sem, contS_seq, simprocAttr, rows_len, rows_get hx, h1, h2]
    refine (law1_Few x.name).callX (enters_of Tryz.func15 rfl rfl) _ rfl rfl ?_
    rintro d rfl
    simp only [go_sem, contS_seq, simprocAttr, rows_len, rows_get hx]
    refine (law1_Few x.val).callX (enters_of Tryz.func15 rfl rfl) _ rfl rfl ?_
    rintro d rfl
    simp only [go_sem, contS_seq, simprocAttr, rows_len, rows_get hx]
    refine (law1_Few x.host).callX (enters_of Tryz.func15 rfl rfl) _ rfl rfl ?_
    rintro d rfl
    simp only [go_sem, contS_seq, simprocAttr, rows_len, rows_get hx]
    refine (law1_Few x.path).callX (enters_of Tryz.func15 rfl rfl) _ rfl rfl ?_
    rintro d rfl
    simp only [go_sem, contS_seq, simprocAttr, rows_len, rows_get hx, hw]
    have hl := few_len (f := AFilter.pd) (g := fewFilter) (l := l) hi6
    have hl' : ((l.take i).map fewFilter).length ≤ i := by simp; omega
    have e1 : rows AFilter.pd ((l.take i).map fewFilter) ++ [[PD.raw (Value.int IntKind.i64 x.kind), PD.raw (Value.string (few x.name)), PD.raw (Value.string (few x.val)), PD.raw (Value.string (few x.host)), PD.raw (Value.int IntKind.i64 x.port), PD.raw (Value.string (few x.path)), PD.raw (Value.bool x.whole), PD.raw (Value.int IntKind.i64 x.code)]] = rows AFilter.pd ((l.take (i + 1)).map fewFilter) := few_step hx
    rw [e1]
    refine ⟨by simp, by unfold maxLen; omega, by omega, 9 - (i + 1), _, by omega, ?_, i + 1, rfl, by omega, by omega, rfl⟩
    exact Weak.less (by simp [lessL, lk]) (by simp [lessL, lk]) (by simp [lessL, lk]) rfl
  · have h3 := few_end (g := fewFilter) hi6 hi hlt
    rw [h3]
    by_cases h1 : i < l.length
    · have h1' : ((i : Int) < (l.length : Int)) = True := eq_true (by omega)
      have h2 : ((i : Int) < 9) = False := eq_false (by omega)
      simp only [go_sem, contS_seq, simprocAttr, rows_len, h1', h2]
      simp only [retK, fullK, iterK, resD, resA, AOp.ex, St.ev, Option.map_some, Option.bind_some, St.get, lk, reduceIte, Nat.reduceEqDiff, Option.getD_some, oneD, List.getElem?_cons_zero, List.getElem?_cons_succ, List.drop_zero, List.drop_succ_cons, List.take_succ_cons, List.take_zero, List.length_cons, List.length_nil, Nat.zero_add, Nat.reduceAdd, Nat.le_refl, Nat.reduceLeDiff, D.pub, D.pubs, Tryz.results18]
      exact ⟨_, rfl, rfl, rfl⟩
    · have h1' : ((i : Int) < (l.length : Int)) = False := eq_false (by omega)
      simp only [go_sem, contS_seq, simprocAttr, rows_len, h1']
      simp only [retK, fullK, iterK, resD, resA, AOp.ex, St.ev, Option.map_some, Option.bind_some, St.get, lk, reduceIte, Nat.reduceEqDiff, Option.getD_some, oneD, List.getElem?_cons_zero, List.getElem?_cons_succ, List.drop_zero, List.drop_succ_cons, List.take_succ_cons, List.take_zero, List.length_cons, List.length_nil, Nat.zero_add, Nat.reduceAdd, Nat.le_refl, Nat.reduceLeDiff, D.pub, D.pubs, Tryz.results18]
      exact ⟨_, rfl, rfl, rfl⟩

theorem law9_sides (l : List ASide) : Pure Tryz.prog 16 [.pd (.slice (rows ASide.pd l))] (fun d => d = .pd (.slice (rows ASide.pd (fewSides l)))) := by
  refine pure_of_run follows an_zg0x2 Tryz.func16 rfl ok_zg0x2 dst_zg0x2 (by simp [Tryz.ntmps16]) ?_
  rw [run_start]
  simp only [ac_zg0x2, go_sem, contS_seq, simprocAttr, rows_len]
  refine loopS (fun k st => ∃ i : Nat, k = 5 - i ∧ i ≤ 5 ∧ i ≤ l.length ∧
    st = ⟨[(0, .pd (.slice (rows ASide.pd l))), (3, .own 82 3 (rows ASide.pd ((l.take i).map fewSide)) 35), (4, int i)], [], [], .no⟩) 5 _
    ?_ ⟨0, rfl, by omega, by omega, rfl⟩ ?_
  · exact Weak.own1 3 35 82 3 (by kernel_rfl) (by decide) rfl (by simp [lessL, lk, St.purge, St.put, D.purge, rows]) (by simp [lessL, lk, St.purge, D.purges, D.purge]) (by simp [lessL]) rfl
  rintro k st ⟨i, rfl, hi6, hi, rfl⟩
  have hw := i64_succ (show i < 1000000000 by omega)
  by_cases hlt : i < l.length ∧ i < 5
  · obtain ⟨x, hx⟩ := at_lt hlt.1
    have h1 : ((i : Int) < (l.length : Int)) = True := eq_true (by omega)
    have h2 : ((i : Int) < 5) = True := eq_true (by omega)
    simp only [go_sem, contS_seq, simprocAttr, rows_len, rows_get hx, h1, h2]
    refine (law1_Few x.space).callX (enters_of Tryz.func15 rfl rfl) _ rfl rfl ?_
    rintro d rfl
    simp only [go_sem, contS_seq, simprocAttr, rows_len, rows_get hx]
    refine (law1_Few x.name).callX (enters_of Tryz.func15 rfl rfl) _ rfl rfl ?_
    rintro d rfl
    simp only [go_sem, contS_seq, simprocAttr, rows_len, rows_get hx, hw]
    have hl := few_len (f := ASide.pd) (g := fewSide) (l := l) hi6
    have hl' : ((l.take i).map fewSide).length ≤ i := by simp; omega
    have e1 : rows ASide.pd ((l.take i).map fewSide) ++ [[PD.raw (Value.int IntKind.i64 x.kind), PD.raw (Value.string (few x.space)), PD.raw (Value.string (few x.name))]] = rows ASide.pd ((l.take (i + 1)).map fewSide) := few_step hx
    rw [e1]
    refine ⟨by simp, by unfold maxLen; omega, by omega, 5 - (i + 1), _, by omega, ?_, i + 1, rfl, by omega, by omega, rfl⟩
    exact Weak.less (by simp [lessL, lk]) (by simp [lessL, lk]) (by simp [lessL, lk]) rfl
  · have h3 := few_end (g := fewSide) hi6 hi hlt
    rw [h3]
    by_cases h1 : i < l.length
    · have h1' : ((i : Int) < (l.length : Int)) = True := eq_true (by omega)
      have h2 : ((i : Int) < 5) = False := eq_false (by omega)
      simp only [go_sem, contS_seq, simprocAttr, rows_len, h1', h2]
      simp only [retK, fullK, iterK, resD, resA, AOp.ex, St.ev, Option.map_some, Option.bind_some, St.get, lk, reduceIte, Nat.reduceEqDiff, Option.getD_some, oneD, List.getElem?_cons_zero, List.getElem?_cons_succ, List.drop_zero, List.drop_succ_cons, List.take_succ_cons, List.take_zero, List.length_cons, List.length_nil, Nat.zero_add, Nat.reduceAdd, Nat.le_refl, Nat.reduceLeDiff, D.pub, D.pubs, Tryz.results16]
      exact ⟨_, rfl, rfl, rfl⟩
    · have h1' : ((i : Int) < (l.length : Int)) = False := eq_false (by omega)
      simp only [go_sem, contS_seq, simprocAttr, rows_len, h1']
      simp only [retK, fullK, iterK, resD, resA, AOp.ex, St.ev, Option.map_some, Option.bind_some, St.get, lk, reduceIte, Nat.reduceEqDiff, Option.getD_some, oneD, List.getElem?_cons_zero, List.getElem?_cons_succ, List.drop_zero, List.drop_succ_cons, List.take_succ_cons, List.take_zero, List.length_cons, List.length_nil, Nat.zero_add, Nat.reduceAdd, Nat.le_refl, Nat.reduceLeDiff, D.pub, D.pubs, Tryz.results16]
      exact ⟨_, rfl, rfl, rfl⟩

def fewMatch (m : AMatch) : AMatch := ⟨m.pkind, few m.pval, few m.method, fewPairs m.head, fewPairs m.query⟩

theorem law6_Few (m : AMatch) : Pure Tryz.prog 19 [m.d] (fun d => d = (fewMatch m).d) := by
  refine pure_of_run follows an_zt3fs Tryz.func19 rfl ok_zt3fs dst_zt3fs (by simp [Tryz.ntmps19]) ?_
  rw [run_start]
  simp only [ac_zt3fs, go_sem, contS_seq, simprocAttr]
  refine (law3_Few m.pkind m.pval).callX (enters_of Tryz.func27 rfl rfl) _ rfl rfl ?_
  rintro d rfl
  simp only [go_sem, contS_seq, simprocAttr]
  refine (law1_Few m.method).callX (enters_of Tryz.func15 rfl rfl) _ rfl rfl ?_
  rintro d rfl
  simp only [go_sem, contS_seq, simprocAttr]
  refine (law5_Few m.head).callX (enters_of Tryz.func14 rfl rfl) _ rfl rfl ?_
  rintro d rfl
  simp only [go_sem, contS_seq, simprocAttr]
  refine (law5_Few m.query).callX (enters_of Tryz.func14 rfl rfl) _ rfl rfl ?_
  rintro d rfl
  simp only [go_sem, contS_seq, simprocAttr]
  simp only [retK, fullK, iterK, resD, resA, AOp.ex, St.ev, Option.map_some, Option.bind_some, St.get, lk, reduceIte, Nat.reduceEqDiff, Option.getD_some, oneD, List.getElem?_cons_zero, List.getElem?_cons_succ, List.drop_zero, List.drop_succ_cons, List.take_succ_cons, List.take_zero, List.length_cons, List.length_nil, Nat.zero_add, Nat.reduceAdd, Nat.le_refl, Nat.reduceLeDiff, D.pub, D.pubs, ret_zt3fs]
  exact ⟨_, rfl, rfl, rfl⟩

def fewNeed (n : ANeed) : ANeed := ⟨n.kind, few n.name, (n.vals.take 9).map few⟩
def fewNeeds (l : List ANeed) : List ANeed := (l.take 9).map fewNeed

theorem law8_Few (l : List ANeed) : Pure Tryz.prog 17 [.pd (.slice (rows ANeed.pd l))] (fun d => d = .pd (.slice (rows ANeed.pd (fewNeeds l)))) := by
  refine pure_of_run follows an_zpih5 Tryz.func17 rfl ok_zpih5 dst_zpih5 (by simp [Tryz.ntmps17]) ?_
  rw [run_start]
  simp only [ac_zpih5, go_sem, contS_seq, simprocAttr, rows_len]
  refine loopS (fun k st => ∃ i : Nat, k = 9 - i ∧ i ≤ 9 ∧ i ≤ l.length ∧
    st = ⟨[(0, .pd (.slice (rows ANeed.pd l))), (3, .own 84 3 (rows ANeed.pd ((l.take i).map fewNeed)) 60), (4, int i)], [], [], .no⟩) 9 _
    ?_ ⟨0, rfl, by omega, by omega, rfl⟩ ?_
  · exact Weak.own1 3 60 84 3 (by kernel_rfl) (by decide) rfl (by simp [lessL, lk, St.purge, St.put, D.purge, rows]) (by simp [lessL, lk, St.purge, D.purges, D.purge]) (by simp [lessL]) rfl
  rintro k st ⟨i, rfl, hi6, hi, rfl⟩
  have hw := i64_succ (show i < 1000000000 by omega)
  by_cases hlt : i < l.length ∧ i < 9
  · obtain ⟨x, hx⟩ := at_lt hlt.1
    have h1 : ((i : Int) < (l.length : Int)) = True := eq_true (by omega)
    have h2 : ((i : Int) < 9) = True := eq_true (by omega)
    apply run_cut
    · intro K' hK
      simp only [go_sem, contS_seq, simprocAttr, rows_len, h1, h2]
      exact hK
    apply run_cut
    · intro K' hK
      rw [run_block]
      apply run_cut
      · intro K'' hK'
        simp only [go_sem, contS_seq, simprocAttr, rows_len, rows_get hx]
        repeat' (first | exact hK' | (refine (law1_Few x.name).callX (enters_of Tryz.func15 rfl rfl) _ rfl rfl ?_; rintro _ rfl; simp only [go_sem, contS_seq, simprocAttr, rows_len, rows_get hx]) | refine And.intro ?_ ?_)
      simp only [go_sem, contS_seq, simprocAttr]
      refine loopS (fun k st => ∃ j : Nat, k = 9 - j ∧ j ≤ 9 ∧ j ≤ x.vals.length ∧
        st = ⟨[(0, .pd (.slice (rows ANeed.pd l))), (3, .own 84 3 (rows ANeed.pd ((l.take i).map fewNeed)) 60), (4, int i), (5, .ptr 5 0), (6, int j)],
          [(5, [int x.kind, str (few x.name), .own 9 1 (strs ((x.vals.take j).map few)) 55])], [], .no⟩) 9 _
        ?_ ⟨0, rfl, by omega, by omega, rfl⟩ ?_
      · exact Weak.ownB 5 2 55 9 1 (by kernel_rfl) (by decide) rfl rfl (by simp [lessL, lk, St.purge, D.purge, rows]) (by simp [lessL, lk, St.purge, D.purges, D.purge, rows]) (by simp [lessL]) rfl
      rintro k st ⟨j, rfl, hj6, hj, rfl⟩
      have hwj := i64_succ (show j < 1000000000 by omega)
      by_cases hltj : j < x.vals.length ∧ j < 9
      · obtain ⟨v, hv⟩ := at_lt hltj.1
        have h1' : ((j : Int) < (x.vals.length : Int)) = True := eq_true (by omega)
        have h2' : ((j : Int) < 9) = True := eq_true (by omega)
        simp only [go_sem, contS_seq, simprocAttr, rows_len, rows_get hx, rows_get hv, h1', h2']
        refine (law1_Few v).callX (enters_of Tryz.func15 rfl rfl) _ rfl rfl ?_
        rintro d rfl
        simp only [go_sem, contS_seq, simprocAttr, rows_get hx, rows_get hv, hwj]
        have e1 : strs ((x.vals.take j).map few) ++ [[PD.raw (Value.string (few v))]] = strs ((x.vals.take (j + 1)).map few) := few_step hv
        have hl : (strs ((x.vals.take j).map few)).length ≤ 9 := few_len hj6
        rw [e1]
        refine ⟨by simp, by unfold maxLen; omega, by omega, 9 - (j + 1), _, by omega, ?_, j + 1, rfl, by omega, by omega, rfl⟩
        exact Weak.less (by simp [lessL, lk]) (by simp [lessL, lk]) (by simp [lessL, lk]) rfl
      · have h3 := few_end (g := few) hj6 hj hltj
        rw [h3]
        have hl' : ((l.take i).map fewNeed).length ≤ i := by simp; omega
        have e1 : rows ANeed.pd ((l.take i).map fewNeed) ++ [[pInt x.kind, pStr (few x.name), .slice (strs ((x.vals.take 9).map few))]] = rows ANeed.pd ((l.take (i + 1)).map fewNeed) := few_step hx
        by_cases h1 : j < x.vals.length
        · have h1' : ((j : Int) < (x.vals.length : Int)) = True := eq_true (by omega)
          have h2' : ((j : Int) < 9) = False := eq_false (by omega)
          simp only [go_sem, contS_seq, simprocAttr, rows_get hx, rows_len, h1', h2']
          refine ⟨by simp, by unfold maxLen; omega, by omega, ?_⟩
          rw [e1]
          exact hK
        · have h1' : ((j : Int) < (x.vals.length : Int)) = False := eq_false (by omega)
          simp only [go_sem, contS_seq, simprocAttr, rows_get hx, rows_len, h1']
          refine ⟨by simp, by unfold maxLen; omega, by omega, ?_⟩
          rw [e1]
          exact hK
    simp only [go_sem, contS_seq, simprocAttr, hw]
    refine ⟨9 - (i + 1), _, by omega, ?_, i + 1, rfl, by omega, by omega, rfl⟩
    exact Weak.less (by simp [lessL, lk]) (by simp [lessL, lk]) (by simp [lessL, lk]) rfl
  · have h3 := few_end (g := fewNeed) hi6 hi hlt
    rw [h3]
    by_cases h1 : i < l.length
    · have h1' : ((i : Int) < (l.length : Int)) = True := eq_true (by omega)
      have h2 : ((i : Int) < 9) = False := eq_false (by omega)
      simp only [go_sem, contS_seq, simprocAttr, rows_len, h1', h2]
      simp only [retK, fullK, iterK, resD, resA, AOp.ex, St.ev, Option.map_some, Option.bind_some, St.get, lk, reduceIte, Nat.reduceEqDiff, Option.getD_some, oneD, List.getElem?_cons_zero, List.getElem?_cons_succ, List.drop_zero, List.drop_succ_cons, List.take_succ_cons, List.take_zero, List.length_cons, List.length_nil, Nat.zero_add, Nat.reduceAdd, Nat.le_refl, Nat.reduceLeDiff, D.pub, D.pubs, Tryz.results17]
      exact ⟨_, rfl, rfl, rfl⟩
    · have h1' : ((i : Int) < (l.length : Int)) = False := eq_false (by omega)
      simp only [go_sem, contS_seq, simprocAttr, rows_len, h1']
      simp only [retK, fullK, iterK, resD, resA, AOp.ex, St.ev, Option.map_some, Option.bind_some, St.get, lk, reduceIte, Nat.reduceEqDiff, Option.getD_some, oneD, List.getElem?_cons_zero, List.getElem?_cons_succ, List.drop_zero, List.drop_succ_cons, List.take_succ_cons, List.take_zero, List.length_cons, List.length_nil, Nat.zero_add, Nat.reduceAdd, Nat.le_refl, Nat.reduceLeDiff, D.pub, D.pubs, Tryz.results17]
      exact ⟨_, rfl, rfl, rfl⟩


theorem run_cutJ {P : Program} {x y : AC} {st : St} {S : List Fr} {K : Exit → St → Prop} (J : St → Prop) (h1 : ∀ K' : Exit → St → Prop, (∀ s, J s → K' .normal s) → run P x st (contS P [] K')) (h2 : ∀ s, J s → run P y s (contS P S K)) : run P (.seq x y) st (contS P S K) := by
  rw [run_seq]; exact h1 (contS P (.seq y :: S) K) h2

def fewListener (l : AListener) : AListener := ⟨few l.name, l.port, l.tls, few l.host, fewRef l.cert, l.from_, fewNeeds l.needs⟩
def fewParent (p : AParent) : AParent := ⟨few p.space, few p.name, few p.section_, p.port⟩
def fewBackend (b : ABackend) : ABackend := ⟨fewRef b.ref, b.port, b.weight⟩
def fewRule (r : ARule) : ARule := ⟨(r.matches_.take 5).map fewMatch, fewFilters r.filters, (r.backends.take 5).map fewBackend⟩
def fewObj (o : AObj) : AObj := ⟨fewRef o.ref, o.good, fewPairs o.labels, o.ports.take 9, few o.cls, (o.listeners.take 9).map fewListener, (o.parents.take 5).map fewParent, (o.hosts.take 5).map few, (o.rules.take 7).map fewRule, fewSides o.from_, fewSides o.to_⟩

set_option maxHeartbeats 4000000 in
theorem law9_Few (o : AObj) : Pure Tryz.prog 6 [o.d] (fun d => d = (fewObj o).d) := by
  refine pure_of_run follows an_z8s55 Tryz.func6 rfl ok_z8s55 dst_z8s55 (by simp [Tryz.ntmps6]) ?_
  rw [run_start]
  simp only [ac_z8s55]
  apply run_cut
  · intro K' hK
    simp only [go_sem, contS_seq, simprocAttr]
    exact hK
  apply run_cut
  · intro K' hK
    simp only [go_sem, contS_seq, simprocAttr]
    repeat' (first | exact hK | (refine (law9_FewRef o.ref).callX (enters_of Tryz.func13 rfl rfl) _ rfl rfl ?_; rintro _ rfl; simp only [go_sem, contS_seq, simprocAttr]) | (refine (law5_Few o.labels).callX (enters_of Tryz.func14 rfl rfl) _ rfl rfl ?_; rintro _ rfl; simp only [go_sem, contS_seq, simprocAttr]) | (refine (law1_Few o.cls).callX (enters_of Tryz.func15 rfl rfl) _ rfl rfl ?_; rintro _ rfl; simp only [go_sem, contS_seq, simprocAttr]) | (refine (law9_sides o.from_).callX (enters_of Tryz.func16 rfl rfl) _ rfl rfl ?_; rintro _ rfl; simp only [go_sem, contS_seq, simprocAttr]) | (refine (law9_sides o.to_).callX (enters_of Tryz.func16 rfl rfl) _ rfl rfl ?_; rintro _ rfl; simp only [go_sem, contS_seq, simprocAttr]) | refine And.intro ?_ ?_)
  refine run_cutJ (fun s => ∃ i : Nat, s = ⟨[(41, bln false), (1, .ptr 1 0), (2, .ptr 2 0), (3, .ptr 3 0), (4, int i), (41, bln false)], [(1, [int o.ref.kind, str o.ref.space, str o.ref.name, bln o.good, .pd (.slice (rows APair.pd o.labels)), .pd (.slice (ints o.ports)), str o.cls, .pd (.slice (rows AListener.pd o.listeners)), .pd (.slice (rows AParent.pd o.parents)), .pd (.slice (strs o.hosts)), .pd (.slice (rows ARule.pd o.rules)), .pd (.slice (rows ASide.pd o.from_)), .pd (.slice (rows ASide.pd o.to_))]), (2, [int 0, str ⟨#[]⟩, str ⟨#[]⟩, bln false, .nils, .nils, str ⟨#[]⟩, .nils, .nils, .nils, .nils, .nils, .nils]), (3, [int (fewRef o.ref).kind, str (fewRef o.ref).space, str (fewRef o.ref).name, bln o.good, .pd (.slice (rows APair.pd (fewPairs o.labels))), .own 3 1 (rows cInt ((o.ports.take 9).map id)) 52, str (few o.cls), .nils, .nils, .nils, .nils, .pd (.slice (rows ASide.pd (fewSides o.from_))), .pd (.slice (rows ASide.pd (fewSides o.to_)))])], [], .no⟩) ?_ ?_
  · intro K' hK
    simp only [go_sem, contS_seq, simprocAttr, rows_len]
    refine loopS (fun k st => ∃ i : Nat, k = 9 - i ∧ i ≤ 9 ∧ i ≤ o.ports.length ∧
      st = ⟨[(1, .ptr 1 0), (2, .ptr 2 0), (3, .ptr 3 0), (4, int i)], [(1, [int o.ref.kind, str o.ref.space, str o.ref.name, bln o.good, .pd (.slice (rows APair.pd o.labels)), .pd (.slice (ints o.ports)), str o.cls, .pd (.slice (rows AListener.pd o.listeners)), .pd (.slice (rows AParent.pd o.parents)), .pd (.slice (strs o.hosts)), .pd (.slice (rows ARule.pd o.rules)), .pd (.slice (rows ASide.pd o.from_)), .pd (.slice (rows ASide.pd o.to_))]), (2, [int 0, str ⟨#[]⟩, str ⟨#[]⟩, bln false, .nils, .nils, str ⟨#[]⟩, .nils, .nils, .nils, .nils, .nils, .nils]), (3, [int (fewRef o.ref).kind, str (fewRef o.ref).space, str (fewRef o.ref).name, bln o.good, .pd (.slice (rows APair.pd (fewPairs o.labels))), .own 3 1 (rows cInt ((o.ports.take i).map id)) 52, str (few o.cls), .nils, .nils, .nils, .nils, .pd (.slice (rows ASide.pd (fewSides o.from_))), .pd (.slice (rows ASide.pd (fewSides o.to_)))])], [], .no⟩) 9 _
      ?_ ⟨0, rfl, by omega, by omega, rfl⟩ ?_
    · exact Weak.ownB 3 5 52 3 1 (by kernel_rfl) (by decide) rfl rfl (by simp [lessL, lk, St.purge, D.purge, rows]) (by simp [lessL, lk, St.purge, D.purges, D.purge, rows]) (by simp [lessL]) rfl
    rintro k st ⟨i, rfl, hi6, hi, rfl⟩
    have hw := i64_succ (show i < 1000000000 by omega)
    by_cases hlt : i < o.ports.length ∧ i < 9
    · obtain ⟨x, hx⟩ := at_lt hlt.1
      have h1 : ((i : Int) < (o.ports.length : Int)) = True := eq_true (by omega)
      have h2 : ((i : Int) < 9) = True := eq_true (by omega)
      have hl' : ((o.ports.take i).map id).length ≤ i := by simp; omega
      have e1 : rows cInt ((o.ports.take i).map id) ++ [[PD.raw (Value.int IntKind.i64 x)]] = rows cInt ((o.ports.take (i + 1)).map id) := few_step hx
      simp only [go_sem, contS_seq, simprocAttr, rows_len, rows_get hx, h1, h2]
      simp only [go_sem, contS_seq, simprocAttr, hw, e1]
      refine ⟨by simp, by unfold maxLen; omega, by omega, 9 - (i + 1), _, by omega, ?_, i + 1, rfl, by omega, by omega, rfl⟩
      exact Weak.less (by simp [lessL, lk]) (by simp [lessL, lk]) (by simp [lessL, lk]) rfl
    · have h3 := few_end (g := id) hi6 hi hlt
      rw [h3]
      by_cases h1 : i < o.ports.length
      · have h1' : ((i : Int) < (o.ports.length : Int)) = True := eq_true (by omega)
        have h2 : ((i : Int) < 9) = False := eq_false (by omega)
        simp only [go_sem, contS_seq, simprocAttr, rows_len, h1', h2]
        exact hK _ ⟨i, rfl⟩
      · have h1' : ((i : Int) < (o.ports.length : Int)) = False := eq_false (by omega)
        simp only [go_sem, contS_seq, simprocAttr, rows_len, h1']
        exact hK _ ⟨i, rfl⟩
  rintro s ⟨_, rfl⟩
  refine run_cutJ (fun s => ∃ i : Nat, s = ⟨[(62, bln false), (1, .ptr 1 0), (2, .ptr 2 0), (3, .ptr 3 0), (5, int i), (62, bln false)], [(1, [int o.ref.kind, str o.ref.space, str o.ref.name, bln o.good, .pd (.slice (rows APair.pd o.labels)), .pd (.slice (ints o.ports)), str o.cls, .pd (.slice (rows AListener.pd o.listeners)), .pd (.slice (rows AParent.pd o.parents)), .pd (.slice (strs o.hosts)), .pd (.slice (rows ARule.pd o.rules)), .pd (.slice (rows ASide.pd o.from_)), .pd (.slice (rows ASide.pd o.to_))]), (2, [int 0, str ⟨#[]⟩, str ⟨#[]⟩, bln false, .nils, .nils, str ⟨#[]⟩, .nils, .nils, .nils, .nils, .nils, .nils]), (3, [int (fewRef o.ref).kind, str (fewRef o.ref).space, str (fewRef o.ref).name, bln o.good, .pd (.slice (rows APair.pd (fewPairs o.labels))), .own 3 1 (rows cInt ((o.ports.take 9).map id)) 52, str (few o.cls), .own 49 9 (rows AListener.pd ((o.listeners.take 9).map fewListener)) 92, .nils, .nils, .nils, .pd (.slice (rows ASide.pd (fewSides o.from_))), .pd (.slice (rows ASide.pd (fewSides o.to_)))])], [], .no⟩) ?_ ?_
  · intro K' hK
    simp only [go_sem, contS_seq, simprocAttr, rows_len]
    refine loopS (fun k st => ∃ i : Nat, k = 9 - i ∧ i ≤ 9 ∧ i ≤ o.listeners.length ∧
      st = ⟨[(1, .ptr 1 0), (2, .ptr 2 0), (3, .ptr 3 0), (5, int i)], [(1, [int o.ref.kind, str o.ref.space, str o.ref.name, bln o.good, .pd (.slice (rows APair.pd o.labels)), .pd (.slice (ints o.ports)), str o.cls, .pd (.slice (rows AListener.pd o.listeners)), .pd (.slice (rows AParent.pd o.parents)), .pd (.slice (strs o.hosts)), .pd (.slice (rows ARule.pd o.rules)), .pd (.slice (rows ASide.pd o.from_)), .pd (.slice (rows ASide.pd o.to_))]), (2, [int 0, str ⟨#[]⟩, str ⟨#[]⟩, bln false, .nils, .nils, str ⟨#[]⟩, .nils, .nils, .nils, .nils, .nils, .nils]), (3, [int (fewRef o.ref).kind, str (fewRef o.ref).space, str (fewRef o.ref).name, bln o.good, .pd (.slice (rows APair.pd (fewPairs o.labels))), .own 3 1 (rows cInt ((o.ports.take 9).map id)) 52, str (few o.cls), .own 49 9 (rows AListener.pd ((o.listeners.take i).map fewListener)) 92, .nils, .nils, .nils, .pd (.slice (rows ASide.pd (fewSides o.from_))), .pd (.slice (rows ASide.pd (fewSides o.to_)))])], [], .no⟩) 9 _
      ?_ ⟨0, rfl, by omega, by omega, rfl⟩ ?_
    · exact Weak.ownB 3 7 92 49 9 (by kernel_rfl) (by decide) rfl rfl (by simp [lessL, lk, St.purge, D.purge, rows]) (by simp [lessL, lk, St.purge, D.purges, D.purge, rows]) (by simp [lessL]) rfl
    rintro k st ⟨i, rfl, hi6, hi, rfl⟩
    have hw := i64_succ (show i < 1000000000 by omega)
    by_cases hlt : i < o.listeners.length ∧ i < 9
    · obtain ⟨x, hx⟩ := at_lt hlt.1
      have h1 : ((i : Int) < (o.listeners.length : Int)) = True := eq_true (by omega)
      have h2 : ((i : Int) < 9) = True := eq_true (by omega)
      have hl' : ((o.listeners.take i).map fewListener).length ≤ i := by simp; omega
      have e1 : rows AListener.pd ((o.listeners.take i).map fewListener) ++ [[PD.raw (Value.string (few x.name)), PD.raw (Value.int IntKind.i64 x.port), PD.raw (Value.bool x.tls), PD.raw (Value.string (few x.host)), PD.raw (Value.int IntKind.i64 (fewRef x.cert).kind), PD.raw (Value.string ((fewRef x.cert).space)), PD.raw (Value.string ((fewRef x.cert).name)), PD.raw (Value.int IntKind.i64 x.from_), PD.slice (rows ANeed.pd (fewNeeds x.needs))]] = rows AListener.pd ((o.listeners.take (i + 1)).map fewListener) := few_step hx
      simp only [go_sem, contS_seq, simprocAttr, rows_len, rows_get hx, h1, h2]
      repeat' (first | (refine (law1_Few x.name).callX (enters_of Tryz.func15 rfl rfl) _ rfl rfl ?_; rintro _ rfl; simp only [go_sem, contS_seq, simprocAttr, rows_len, rows_get hx]) | (refine (law1_Few x.host).callX (enters_of Tryz.func15 rfl rfl) _ rfl rfl ?_; rintro _ rfl; simp only [go_sem, contS_seq, simprocAttr, rows_len, rows_get hx]) | (refine (law9_FewRef x.cert).callX (enters_of Tryz.func13 rfl rfl) _ rfl rfl ?_; rintro _ rfl; simp only [go_sem, contS_seq, simprocAttr, rows_len, rows_get hx]) | (refine (law8_Few x.needs).callX (enters_of Tryz.func17 rfl rfl) _ rfl rfl ?_; rintro _ rfl; simp only [go_sem, contS_seq, simprocAttr, rows_len, rows_get hx]))
      simp only [go_sem, contS_seq, simprocAttr, hw, e1]
      refine ⟨by simp, by unfold maxLen; omega, by omega, 9 - (i + 1), _, by omega, ?_, i + 1, rfl, by omega, by omega, rfl⟩
      exact Weak.less (by simp [lessL, lk]) (by simp [lessL, lk]) (by simp [lessL, lk]) rfl
    · have h3 := few_end (g := fewListener) hi6 hi hlt
      rw [h3]
      by_cases h1 : i < o.listeners.length
      · have h1' : ((i : Int) < (o.listeners.length : Int)) = True := eq_true (by omega)
        have h2 : ((i : Int) < 9) = False := eq_false (by omega)
        simp only [go_sem, contS_seq, simprocAttr, rows_len, h1', h2]
        exact hK _ ⟨i, rfl⟩
      · have h1' : ((i : Int) < (o.listeners.length : Int)) = False := eq_false (by omega)
        simp only [go_sem, contS_seq, simprocAttr, rows_len, h1']
        exact hK _ ⟨i, rfl⟩
  rintro s ⟨_, rfl⟩
  refine run_cutJ (fun s => ∃ i : Nat, s = ⟨[(102, bln false), (1, .ptr 1 0), (2, .ptr 2 0), (3, .ptr 3 0), (7, int i), (102, bln false)], [(1, [int o.ref.kind, str o.ref.space, str o.ref.name, bln o.good, .pd (.slice (rows APair.pd o.labels)), .pd (.slice (ints o.ports)), str o.cls, .pd (.slice (rows AListener.pd o.listeners)), .pd (.slice (rows AParent.pd o.parents)), .pd (.slice (strs o.hosts)), .pd (.slice (rows ARule.pd o.rules)), .pd (.slice (rows ASide.pd o.from_)), .pd (.slice (rows ASide.pd o.to_))]), (2, [int 0, str ⟨#[]⟩, str ⟨#[]⟩, bln false, .nils, .nils, str ⟨#[]⟩, .nils, .nils, .nils, .nils, .nils, .nils]), (3, [int (fewRef o.ref).kind, str (fewRef o.ref).space, str (fewRef o.ref).name, bln o.good, .pd (.slice (rows APair.pd (fewPairs o.labels))), .own 3 1 (rows cInt ((o.ports.take 9).map id)) 52, str (few o.cls), .own 49 9 (rows AListener.pd ((o.listeners.take 9).map fewListener)) 92, .own 52 4 (rows AParent.pd ((o.parents.take 5).map fewParent)) 125, .nils, .nils, .pd (.slice (rows ASide.pd (fewSides o.from_))), .pd (.slice (rows ASide.pd (fewSides o.to_)))])], [], .no⟩) ?_ ?_
  · intro K' hK
    simp only [go_sem, contS_seq, simprocAttr, rows_len]
    refine loopS (fun k st => ∃ i : Nat, k = 5 - i ∧ i ≤ 5 ∧ i ≤ o.parents.length ∧
      st = ⟨[(1, .ptr 1 0), (2, .ptr 2 0), (3, .ptr 3 0), (7, int i)], [(1, [int o.ref.kind, str o.ref.space, str o.ref.name, bln o.good, .pd (.slice (rows APair.pd o.labels)), .pd (.slice (ints o.ports)), str o.cls, .pd (.slice (rows AListener.pd o.listeners)), .pd (.slice (rows AParent.pd o.parents)), .pd (.slice (strs o.hosts)), .pd (.slice (rows ARule.pd o.rules)), .pd (.slice (rows ASide.pd o.from_)), .pd (.slice (rows ASide.pd o.to_))]), (2, [int 0, str ⟨#[]⟩, str ⟨#[]⟩, bln false, .nils, .nils, str ⟨#[]⟩, .nils, .nils, .nils, .nils, .nils, .nils]), (3, [int (fewRef o.ref).kind, str (fewRef o.ref).space, str (fewRef o.ref).name, bln o.good, .pd (.slice (rows APair.pd (fewPairs o.labels))), .own 3 1 (rows cInt ((o.ports.take 9).map id)) 52, str (few o.cls), .own 49 9 (rows AListener.pd ((o.listeners.take 9).map fewListener)) 92, .own 52 4 (rows AParent.pd ((o.parents.take i).map fewParent)) 125, .nils, .nils, .pd (.slice (rows ASide.pd (fewSides o.from_))), .pd (.slice (rows ASide.pd (fewSides o.to_)))])], [], .no⟩) 5 _
      ?_ ⟨0, rfl, by omega, by omega, rfl⟩ ?_
    · exact Weak.ownB 3 8 125 52 4 (by kernel_rfl) (by decide) rfl rfl (by simp [lessL, lk, St.purge, D.purge, rows]) (by simp [lessL, lk, St.purge, D.purges, D.purge, rows]) (by simp [lessL]) rfl
    rintro k st ⟨i, rfl, hi6, hi, rfl⟩
    have hw := i64_succ (show i < 1000000000 by omega)
    by_cases hlt : i < o.parents.length ∧ i < 5
    · obtain ⟨x, hx⟩ := at_lt hlt.1
      have h1 : ((i : Int) < (o.parents.length : Int)) = True := eq_true (by omega)
      have h2 : ((i : Int) < 5) = True := eq_true (by omega)
      have hl' : ((o.parents.take i).map fewParent).length ≤ i := by simp; omega
      have e1 : rows AParent.pd ((o.parents.take i).map fewParent) ++ [[PD.raw (Value.string (few x.space)), PD.raw (Value.string (few x.name)), PD.raw (Value.string (few x.section_)), PD.raw (Value.int IntKind.i64 x.port)]] = rows AParent.pd ((o.parents.take (i + 1)).map fewParent) := few_step hx
      simp only [go_sem, contS_seq, simprocAttr, rows_len, rows_get hx, h1, h2]
      repeat' (first | (refine (law1_Few x.space).callX (enters_of Tryz.func15 rfl rfl) _ rfl rfl ?_; rintro _ rfl; simp only [go_sem, contS_seq, simprocAttr, rows_len, rows_get hx]) | (refine (law1_Few x.name).callX (enters_of Tryz.func15 rfl rfl) _ rfl rfl ?_; rintro _ rfl; simp only [go_sem, contS_seq, simprocAttr, rows_len, rows_get hx]) | (refine (law1_Few x.section_).callX (enters_of Tryz.func15 rfl rfl) _ rfl rfl ?_; rintro _ rfl; simp only [go_sem, contS_seq, simprocAttr, rows_len, rows_get hx]))
      simp only [go_sem, contS_seq, simprocAttr, hw, e1]
      refine ⟨by simp, by unfold maxLen; omega, by omega, 5 - (i + 1), _, by omega, ?_, i + 1, rfl, by omega, by omega, rfl⟩
      exact Weak.less (by simp [lessL, lk]) (by simp [lessL, lk]) (by simp [lessL, lk]) rfl
    · have h3 := few_end (g := fewParent) hi6 hi hlt
      rw [h3]
      by_cases h1 : i < o.parents.length
      · have h1' : ((i : Int) < (o.parents.length : Int)) = True := eq_true (by omega)
        have h2 : ((i : Int) < 5) = False := eq_false (by omega)
        simp only [go_sem, contS_seq, simprocAttr, rows_len, h1', h2]
        exact hK _ ⟨i, rfl⟩
      · have h1' : ((i : Int) < (o.parents.length : Int)) = False := eq_false (by omega)
        simp only [go_sem, contS_seq, simprocAttr, rows_len, h1']
        exact hK _ ⟨i, rfl⟩
  rintro s ⟨_, rfl⟩
  refine run_cutJ (fun s => ∃ i : Nat, s = ⟨[(135, bln false), (1, .ptr 1 0), (2, .ptr 2 0), (3, .ptr 3 0), (9, int i), (135, bln false)], [(1, [int o.ref.kind, str o.ref.space, str o.ref.name, bln o.good, .pd (.slice (rows APair.pd o.labels)), .pd (.slice (ints o.ports)), str o.cls, .pd (.slice (rows AListener.pd o.listeners)), .pd (.slice (rows AParent.pd o.parents)), .pd (.slice (strs o.hosts)), .pd (.slice (rows ARule.pd o.rules)), .pd (.slice (rows ASide.pd o.from_)), .pd (.slice (rows ASide.pd o.to_))]), (2, [int 0, str ⟨#[]⟩, str ⟨#[]⟩, bln false, .nils, .nils, str ⟨#[]⟩, .nils, .nils, .nils, .nils, .nils, .nils]), (3, [int (fewRef o.ref).kind, str (fewRef o.ref).space, str (fewRef o.ref).name, bln o.good, .pd (.slice (rows APair.pd (fewPairs o.labels))), .own 3 1 (rows cInt ((o.ports.take 9).map id)) 52, str (few o.cls), .own 49 9 (rows AListener.pd ((o.listeners.take 9).map fewListener)) 92, .own 52 4 (rows AParent.pd ((o.parents.take 5).map fewParent)) 125, .own 9 1 (rows cStr ((o.hosts.take 5).map few)) 147, .nils, .pd (.slice (rows ASide.pd (fewSides o.from_))), .pd (.slice (rows ASide.pd (fewSides o.to_)))])], [], .no⟩) ?_ ?_
  · intro K' hK
    simp only [go_sem, contS_seq, simprocAttr, rows_len]
    refine loopS (fun k st => ∃ i : Nat, k = 5 - i ∧ i ≤ 5 ∧ i ≤ o.hosts.length ∧
      st = ⟨[(1, .ptr 1 0), (2, .ptr 2 0), (3, .ptr 3 0), (9, int i)], [(1, [int o.ref.kind, str o.ref.space, str o.ref.name, bln o.good, .pd (.slice (rows APair.pd o.labels)), .pd (.slice (ints o.ports)), str o.cls, .pd (.slice (rows AListener.pd o.listeners)), .pd (.slice (rows AParent.pd o.parents)), .pd (.slice (strs o.hosts)), .pd (.slice (rows ARule.pd o.rules)), .pd (.slice (rows ASide.pd o.from_)), .pd (.slice (rows ASide.pd o.to_))]), (2, [int 0, str ⟨#[]⟩, str ⟨#[]⟩, bln false, .nils, .nils, str ⟨#[]⟩, .nils, .nils, .nils, .nils, .nils, .nils]), (3, [int (fewRef o.ref).kind, str (fewRef o.ref).space, str (fewRef o.ref).name, bln o.good, .pd (.slice (rows APair.pd (fewPairs o.labels))), .own 3 1 (rows cInt ((o.ports.take 9).map id)) 52, str (few o.cls), .own 49 9 (rows AListener.pd ((o.listeners.take 9).map fewListener)) 92, .own 52 4 (rows AParent.pd ((o.parents.take 5).map fewParent)) 125, .own 9 1 (rows cStr ((o.hosts.take i).map few)) 147, .nils, .pd (.slice (rows ASide.pd (fewSides o.from_))), .pd (.slice (rows ASide.pd (fewSides o.to_)))])], [], .no⟩) 5 _
      ?_ ⟨0, rfl, by omega, by omega, rfl⟩ ?_
    · exact Weak.ownB 3 9 147 9 1 (by kernel_rfl) (by decide) rfl rfl (by simp [lessL, lk, St.purge, D.purge, rows]) (by simp [lessL, lk, St.purge, D.purges, D.purge, rows]) (by simp [lessL]) rfl
    rintro k st ⟨i, rfl, hi6, hi, rfl⟩
    have hw := i64_succ (show i < 1000000000 by omega)
    by_cases hlt : i < o.hosts.length ∧ i < 5
    · obtain ⟨x, hx⟩ := at_lt hlt.1
      have h1 : ((i : Int) < (o.hosts.length : Int)) = True := eq_true (by omega)
      have h2 : ((i : Int) < 5) = True := eq_true (by omega)
      have hl' : ((o.hosts.take i).map few).length ≤ i := by simp; omega
      have e1 : rows cStr ((o.hosts.take i).map few) ++ [[PD.raw (Value.string (few x))]] = rows cStr ((o.hosts.take (i + 1)).map few) := few_step hx
      simp only [go_sem, contS_seq, simprocAttr, rows_len, rows_get hx, h1, h2]
      repeat' (first | (refine (law1_Few x).callX (enters_of Tryz.func15 rfl rfl) _ rfl rfl ?_; rintro _ rfl; simp only [go_sem, contS_seq, simprocAttr, rows_len, rows_get hx]))
      simp only [go_sem, contS_seq, simprocAttr, hw, e1]
      refine ⟨by simp, by unfold maxLen; omega, by omega, 5 - (i + 1), _, by omega, ?_, i + 1, rfl, by omega, by omega, rfl⟩
      exact Weak.less (by simp [lessL, lk]) (by simp [lessL, lk]) (by simp [lessL, lk]) rfl
    · have h3 := few_end (g := few) hi6 hi hlt
      rw [h3]
      by_cases h1 : i < o.hosts.length
      · have h1' : ((i : Int) < (o.hosts.length : Int)) = True := eq_true (by omega)
        have h2 : ((i : Int) < 5) = False := eq_false (by omega)
        simp only [go_sem, contS_seq, simprocAttr, rows_len, h1', h2]
        exact hK _ ⟨i, rfl⟩
      · have h1' : ((i : Int) < (o.hosts.length : Int)) = False := eq_false (by omega)
        simp only [go_sem, contS_seq, simprocAttr, rows_len, h1']
        exact hK _ ⟨i, rfl⟩
  rintro s ⟨_, rfl⟩
  refine run_cutJ (fun s => ∃ i : Nat, s = ⟨[(157, bln false), (1, .ptr 1 0), (2, .ptr 2 0), (3, .ptr 3 0), (10, int i), (157, bln false)], [(1, [int o.ref.kind, str o.ref.space, str o.ref.name, bln o.good, .pd (.slice (rows APair.pd o.labels)), .pd (.slice (ints o.ports)), str o.cls, .pd (.slice (rows AListener.pd o.listeners)), .pd (.slice (rows AParent.pd o.parents)), .pd (.slice (strs o.hosts)), .pd (.slice (rows ARule.pd o.rules)), .pd (.slice (rows ASide.pd o.from_)), .pd (.slice (rows ASide.pd o.to_))]), (2, [int 0, str ⟨#[]⟩, str ⟨#[]⟩, bln false, .nils, .nils, str ⟨#[]⟩, .nils, .nils, .nils, .nils, .nils, .nils]), (3, [int (fewRef o.ref).kind, str (fewRef o.ref).space, str (fewRef o.ref).name, bln o.good, .pd (.slice (rows APair.pd (fewPairs o.labels))), .own 3 1 (rows cInt ((o.ports.take 9).map id)) 52, str (few o.cls), .own 49 9 (rows AListener.pd ((o.listeners.take 9).map fewListener)) 92, .own 52 4 (rows AParent.pd ((o.parents.take 5).map fewParent)) 125, .own 9 1 (rows cStr ((o.hosts.take 5).map few)) 147, .own 58 3 (rows ARule.pd ((o.rules.take 7).map fewRule)) 239, .pd (.slice (rows ASide.pd (fewSides o.from_))), .pd (.slice (rows ASide.pd (fewSides o.to_)))])], [], .no⟩) ?_ ?_
  · intro K' hK
    simp only [go_sem, contS_seq, simprocAttr, rows_len]
    refine loopS (fun k st => ∃ i : Nat, k = 7 - i ∧ i ≤ 7 ∧ i ≤ o.rules.length ∧
      st = ⟨[(1, .ptr 1 0), (2, .ptr 2 0), (3, .ptr 3 0), (10, int i)], [(1, [int o.ref.kind, str o.ref.space, str o.ref.name, bln o.good, .pd (.slice (rows APair.pd o.labels)), .pd (.slice (ints o.ports)), str o.cls, .pd (.slice (rows AListener.pd o.listeners)), .pd (.slice (rows AParent.pd o.parents)), .pd (.slice (strs o.hosts)), .pd (.slice (rows ARule.pd o.rules)), .pd (.slice (rows ASide.pd o.from_)), .pd (.slice (rows ASide.pd o.to_))]), (2, [int 0, str ⟨#[]⟩, str ⟨#[]⟩, bln false, .nils, .nils, str ⟨#[]⟩, .nils, .nils, .nils, .nils, .nils, .nils]), (3, [int (fewRef o.ref).kind, str (fewRef o.ref).space, str (fewRef o.ref).name, bln o.good, .pd (.slice (rows APair.pd (fewPairs o.labels))), .own 3 1 (rows cInt ((o.ports.take 9).map id)) 52, str (few o.cls), .own 49 9 (rows AListener.pd ((o.listeners.take 9).map fewListener)) 92, .own 52 4 (rows AParent.pd ((o.parents.take 5).map fewParent)) 125, .own 9 1 (rows cStr ((o.hosts.take 5).map few)) 147, .own 58 3 (rows ARule.pd ((o.rules.take i).map fewRule)) 239, .pd (.slice (rows ASide.pd (fewSides o.from_))), .pd (.slice (rows ASide.pd (fewSides o.to_)))])], [], .no⟩) 7 _
      ?_ ⟨0, rfl, by omega, by omega, rfl⟩ ?_
    · exact Weak.ownB 3 10 239 58 3 (by kernel_rfl) (by decide) rfl rfl (by simp [lessL, lk, St.purge, D.purge, rows]) (by simp [lessL, lk, St.purge, D.purges, D.purge, rows]) (by simp [lessL]) rfl
    rintro k st ⟨i, rfl, hi6, hi, rfl⟩
    have hw := i64_succ (show i < 1000000000 by omega)
    by_cases hlt : i < o.rules.length ∧ i < 7
    · obtain ⟨x, hx⟩ := at_lt hlt.1
      have h1 : ((i : Int) < (o.rules.length : Int)) = True := eq_true (by omega)
      have h2 : ((i : Int) < 7) = True := eq_true (by omega)
      have hl' : ((o.rules.take i).map fewRule).length ≤ i := by simp; omega
      have e1 : rows ARule.pd ((o.rules.take i).map fewRule) ++ [[PD.slice (rows AMatch.pd ((x.matches_.take 5).map fewMatch)), PD.slice (rows AFilter.pd (fewFilters x.filters)), PD.slice (rows ABackend.pd ((x.backends.take 5).map fewBackend))]] = rows ARule.pd ((o.rules.take (i + 1)).map fewRule) := few_step hx
      apply run_cut
      · intro K' hK
        simp only [go_sem, contS_seq, simprocAttr, rows_len, h1, h2]
        exact hK
      apply run_cut
      · intro K' hK
        rw [run_block]
        apply run_cut
        · intro K' hK
          simp only [go_sem, contS_seq, simprocAttr, rows_len, rows_get hx]
          refine (law7_Few x.filters).callW (enters_of Tryz.func18 rfl rfl) _ rfl rfl ?_
          rintro _ rfl
          simp only [go_sem, contS_seq, simprocAttr]
          exact hK
        refine run_cutJ (fun s => ∃ j : Nat, s = ⟨[(180, bln false), (1, .ptr 1 0), (2, .ptr 2 0), (3, .ptr 3 0), (10, int i), (11, .ptr 11 0), (12, int j), (180, bln false)], [(1, [int o.ref.kind, str o.ref.space, str o.ref.name, bln o.good, .pd (.slice (rows APair.pd o.labels)), .pd (.slice (ints o.ports)), str o.cls, .pd (.slice (rows AListener.pd o.listeners)), .pd (.slice (rows AParent.pd o.parents)), .pd (.slice (strs o.hosts)), .pd (.slice (rows ARule.pd o.rules)), .pd (.slice (rows ASide.pd o.from_)), .pd (.slice (rows ASide.pd o.to_))]), (2, [int 0, str ⟨#[]⟩, str ⟨#[]⟩, bln false, .nils, .nils, str ⟨#[]⟩, .nils, .nils, .nils, .nils, .nils, .nils]), (3, [int (fewRef o.ref).kind, str (fewRef o.ref).space, str (fewRef o.ref).name, bln o.good, .pd (.slice (rows APair.pd (fewPairs o.labels))), .own 3 1 (rows cInt ((o.ports.take 9).map id)) 52, str (few o.cls), .own 49 9 (rows AListener.pd ((o.listeners.take 9).map fewListener)) 92, .own 52 4 (rows AParent.pd ((o.parents.take 5).map fewParent)) 125, .own 9 1 (rows cStr ((o.hosts.take 5).map few)) 147, .own 58 3 (rows ARule.pd ((o.rules.take i).map fewRule)) 239, .pd (.slice (rows ASide.pd (fewSides o.from_))), .pd (.slice (rows ASide.pd (fewSides o.to_)))]), (11, [.own 62 5 (rows AMatch.pd ((x.matches_.take 5).map fewMatch)) 196, .pd (.slice (rows AFilter.pd (fewFilters x.filters))), .nils])], [], .no⟩) ?_ ?_
        · intro K' hK
          simp only [go_sem, contS_seq, simprocAttr, rows_len, rows_get hx]
          refine loopS (fun k st => ∃ j : Nat, k = 5 - j ∧ j ≤ 5 ∧ j ≤ x.matches_.length ∧
            st = ⟨[(1, .ptr 1 0), (2, .ptr 2 0), (3, .ptr 3 0), (10, int i), (11, .ptr 11 0), (12, int j)], [(1, [int o.ref.kind, str o.ref.space, str o.ref.name, bln o.good, .pd (.slice (rows APair.pd o.labels)), .pd (.slice (ints o.ports)), str o.cls, .pd (.slice (rows AListener.pd o.listeners)), .pd (.slice (rows AParent.pd o.parents)), .pd (.slice (strs o.hosts)), .pd (.slice (rows ARule.pd o.rules)), .pd (.slice (rows ASide.pd o.from_)), .pd (.slice (rows ASide.pd o.to_))]), (2, [int 0, str ⟨#[]⟩, str ⟨#[]⟩, bln false, .nils, .nils, str ⟨#[]⟩, .nils, .nils, .nils, .nils, .nils, .nils]), (3, [int (fewRef o.ref).kind, str (fewRef o.ref).space, str (fewRef o.ref).name, bln o.good, .pd (.slice (rows APair.pd (fewPairs o.labels))), .own 3 1 (rows cInt ((o.ports.take 9).map id)) 52, str (few o.cls), .own 49 9 (rows AListener.pd ((o.listeners.take 9).map fewListener)) 92, .own 52 4 (rows AParent.pd ((o.parents.take 5).map fewParent)) 125, .own 9 1 (rows cStr ((o.hosts.take 5).map few)) 147, .own 58 3 (rows ARule.pd ((o.rules.take i).map fewRule)) 239, .pd (.slice (rows ASide.pd (fewSides o.from_))), .pd (.slice (rows ASide.pd (fewSides o.to_)))]), (11, [.own 62 5 (rows AMatch.pd ((x.matches_.take j).map fewMatch)) 196, .pd (.slice (rows AFilter.pd (fewFilters x.filters))), .nils])], [], .no⟩) 5 _
            ?_ ⟨0, rfl, by omega, by omega, rfl⟩ ?_
          · exact Weak.ownB 11 0 196 62 5 (by kernel_rfl) (by decide) rfl rfl (by simp [lessL, lk, St.purge, D.purge, rows]) (by simp [lessL, lk, St.purge, D.purges, D.purge, rows]) (by simp [lessL]) rfl
          rintro k st ⟨j, rfl, hj6, hj, rfl⟩
          have hwj := i64_succ (show j < 1000000000 by omega)
          by_cases hltj : j < x.matches_.length ∧ j < 5
          · obtain ⟨y, hy⟩ := at_lt hltj.1
            have h1' : ((j : Int) < (x.matches_.length : Int)) = True := eq_true (by omega)
            have h2' : ((j : Int) < 5) = True := eq_true (by omega)
            have hlj : ((x.matches_.take j).map fewMatch).length ≤ j := by simp; omega
            have e2 : rows AMatch.pd ((x.matches_.take j).map fewMatch) ++ [[PD.raw (Value.int IntKind.i64 (fewMatch y).pkind), PD.raw (Value.string (fewMatch y).pval), PD.raw (Value.string (fewMatch y).method), PD.slice (rows APair.pd (fewMatch y).head), PD.slice (rows APair.pd (fewMatch y).query)]] = rows AMatch.pd ((x.matches_.take (j + 1)).map fewMatch) := few_step hy
            simp only [go_sem, contS_seq, simprocAttr, rows_len, rows_get hx, rows_get hy, h1', h2']
            repeat' (first | (refine (law6_Few y).callX (enters_of Tryz.func19 rfl rfl) _ rfl rfl ?_; rintro _ rfl; simp only [go_sem, contS_seq, simprocAttr, rows_len, rows_get hx, rows_get hy]))
            simp only [go_sem, contS_seq, simprocAttr, hwj, e2]
            refine ⟨by simp, by unfold maxLen; omega, by omega, 5 - (j + 1), _, by omega, ?_, j + 1, rfl, by omega, by omega, rfl⟩
            exact Weak.less (by simp [lessL, lk]) (by simp [lessL, lk]) (by simp [lessL, lk]) rfl
          · have h3 := few_end (g := fewMatch) hj6 hj hltj
            rw [h3]
            by_cases h1 : j < x.matches_.length
            · have h1' : ((j : Int) < (x.matches_.length : Int)) = True := eq_true (by omega)
              have h2 : ((j : Int) < 5) = False := eq_false (by omega)
              simp only [go_sem, contS_seq, simprocAttr, rows_len, rows_get hx, h1', h2]
              exact hK _ ⟨j, rfl⟩
            · have h1' : ((j : Int) < (x.matches_.length : Int)) = False := eq_false (by omega)
              simp only [go_sem, contS_seq, simprocAttr, rows_len, rows_get hx, h1']
              exact hK _ ⟨j, rfl⟩
        rintro s ⟨_, rfl⟩
        refine run_cutJ (fun s => ∃ j : Nat, s = ⟨[(210, bln false), (1, .ptr 1 0), (2, .ptr 2 0), (3, .ptr 3 0), (10, int i), (11, .ptr 11 0), (13, int j), (210, bln false)], [(1, [int o.ref.kind, str o.ref.space, str o.ref.name, bln o.good, .pd (.slice (rows APair.pd o.labels)), .pd (.slice (ints o.ports)), str o.cls, .pd (.slice (rows AListener.pd o.listeners)), .pd (.slice (rows AParent.pd o.parents)), .pd (.slice (strs o.hosts)), .pd (.slice (rows ARule.pd o.rules)), .pd (.slice (rows ASide.pd o.from_)), .pd (.slice (rows ASide.pd o.to_))]), (2, [int 0, str ⟨#[]⟩, str ⟨#[]⟩, bln false, .nils, .nils, str ⟨#[]⟩, .nils, .nils, .nils, .nils, .nils, .nils]), (3, [int (fewRef o.ref).kind, str (fewRef o.ref).space, str (fewRef o.ref).name, bln o.good, .pd (.slice (rows APair.pd (fewPairs o.labels))), .own 3 1 (rows cInt ((o.ports.take 9).map id)) 52, str (few o.cls), .own 49 9 (rows AListener.pd ((o.listeners.take 9).map fewListener)) 92, .own 52 4 (rows AParent.pd ((o.parents.take 5).map fewParent)) 125, .own 9 1 (rows cStr ((o.hosts.take 5).map few)) 147, .own 58 3 (rows ARule.pd ((o.rules.take i).map fewRule)) 239, .pd (.slice (rows ASide.pd (fewSides o.from_))), .pd (.slice (rows ASide.pd (fewSides o.to_)))]), (11, [.own 62 5 (rows AMatch.pd ((x.matches_.take 5).map fewMatch)) 196, .pd (.slice (rows AFilter.pd (fewFilters x.filters))), .own 65 5 (rows ABackend.pd ((x.backends.take 5).map fewBackend)) 233])], [], .no⟩) ?_ ?_
        · intro K' hK
          simp only [go_sem, contS_seq, simprocAttr, rows_len, rows_get hx]
          refine loopS (fun k st => ∃ j : Nat, k = 5 - j ∧ j ≤ 5 ∧ j ≤ x.backends.length ∧
            st = ⟨[(1, .ptr 1 0), (2, .ptr 2 0), (3, .ptr 3 0), (10, int i), (11, .ptr 11 0), (13, int j)], [(1, [int o.ref.kind, str o.ref.space, str o.ref.name, bln o.good, .pd (.slice (rows APair.pd o.labels)), .pd (.slice (ints o.ports)), str o.cls, .pd (.slice (rows AListener.pd o.listeners)), .pd (.slice (rows AParent.pd o.parents)), .pd (.slice (strs o.hosts)), .pd (.slice (rows ARule.pd o.rules)), .pd (.slice (rows ASide.pd o.from_)), .pd (.slice (rows ASide.pd o.to_))]), (2, [int 0, str ⟨#[]⟩, str ⟨#[]⟩, bln false, .nils, .nils, str ⟨#[]⟩, .nils, .nils, .nils, .nils, .nils, .nils]), (3, [int (fewRef o.ref).kind, str (fewRef o.ref).space, str (fewRef o.ref).name, bln o.good, .pd (.slice (rows APair.pd (fewPairs o.labels))), .own 3 1 (rows cInt ((o.ports.take 9).map id)) 52, str (few o.cls), .own 49 9 (rows AListener.pd ((o.listeners.take 9).map fewListener)) 92, .own 52 4 (rows AParent.pd ((o.parents.take 5).map fewParent)) 125, .own 9 1 (rows cStr ((o.hosts.take 5).map few)) 147, .own 58 3 (rows ARule.pd ((o.rules.take i).map fewRule)) 239, .pd (.slice (rows ASide.pd (fewSides o.from_))), .pd (.slice (rows ASide.pd (fewSides o.to_)))]), (11, [.own 62 5 (rows AMatch.pd ((x.matches_.take 5).map fewMatch)) 196, .pd (.slice (rows AFilter.pd (fewFilters x.filters))), .own 65 5 (rows ABackend.pd ((x.backends.take j).map fewBackend)) 233])], [], .no⟩) 5 _
            ?_ ⟨0, rfl, by omega, by omega, rfl⟩ ?_
          · exact Weak.ownB 11 2 233 65 5 (by kernel_rfl) (by decide) rfl rfl (by simp [lessL, lk, St.purge, D.purge, rows]) (by simp [lessL, lk, St.purge, D.purges, D.purge, rows]) (by simp [lessL]) rfl
          rintro k st ⟨j, rfl, hj6, hj, rfl⟩
          have hwj := i64_succ (show j < 1000000000 by omega)
          by_cases hltj : j < x.backends.length ∧ j < 5
          · obtain ⟨y, hy⟩ := at_lt hltj.1
            have h1' : ((j : Int) < (x.backends.length : Int)) = True := eq_true (by omega)
            have h2' : ((j : Int) < 5) = True := eq_true (by omega)
            have hlj : ((x.backends.take j).map fewBackend).length ≤ j := by simp; omega
            have e2 : rows ABackend.pd ((x.backends.take j).map fewBackend) ++ [[PD.raw (Value.int IntKind.i64 (fewRef y.ref).kind), PD.raw (Value.string (fewRef y.ref).space), PD.raw (Value.string (fewRef y.ref).name), PD.raw (Value.int IntKind.i64 y.port), PD.raw (Value.int IntKind.i64 y.weight)]] = rows ABackend.pd ((x.backends.take (j + 1)).map fewBackend) := few_step hy
            simp only [go_sem, contS_seq, simprocAttr, rows_len, rows_get hx, rows_get hy, h1', h2']
            repeat' (first | (refine (law9_FewRef y.ref).callX (enters_of Tryz.func13 rfl rfl) _ rfl rfl ?_; rintro _ rfl; simp only [go_sem, contS_seq, simprocAttr, rows_len, rows_get hx, rows_get hy]))
            simp only [go_sem, contS_seq, simprocAttr, hwj, e2]
            refine ⟨by simp, by unfold maxLen; omega, by omega, 5 - (j + 1), _, by omega, ?_, j + 1, rfl, by omega, by omega, rfl⟩
            exact Weak.less (by simp [lessL, lk]) (by simp [lessL, lk]) (by simp [lessL, lk]) rfl
          · have h3 := few_end (g := fewBackend) hj6 hj hltj
            rw [h3]
            by_cases h1 : j < x.backends.length
            · have h1' : ((j : Int) < (x.backends.length : Int)) = True := eq_true (by omega)
              have h2 : ((j : Int) < 5) = False := eq_false (by omega)
              simp only [go_sem, contS_seq, simprocAttr, rows_len, rows_get hx, h1', h2]
              exact hK _ ⟨j, rfl⟩
            · have h1' : ((j : Int) < (x.backends.length : Int)) = False := eq_false (by omega)
              simp only [go_sem, contS_seq, simprocAttr, rows_len, rows_get hx, h1']
              exact hK _ ⟨j, rfl⟩
        rintro s ⟨_, rfl⟩
        simp only [go_sem, contS_seq, simprocAttr, rows_len, e1]
        refine ⟨by simp, by unfold maxLen; omega, by omega, ?_⟩
        exact hK
      simp only [go_sem, contS_seq, simprocAttr, hw]
      refine ⟨7 - (i + 1), _, by omega, ?_, i + 1, rfl, by omega, by omega, rfl⟩
      exact Weak.less (by simp [lessL, lk]) (by simp [lessL, lk]) (by simp [lessL, lk]) rfl
    · have h3 := few_end (g := fewRule) hi6 hi hlt
      rw [h3]
      by_cases h1 : i < o.rules.length
      · have h1' : ((i : Int) < (o.rules.length : Int)) = True := eq_true (by omega)
        have h2 : ((i : Int) < 7) = False := eq_false (by omega)
        simp only [go_sem, contS_seq, simprocAttr, rows_len, h1', h2]
        exact hK _ ⟨i, rfl⟩
      · have h1' : ((i : Int) < (o.rules.length : Int)) = False := eq_false (by omega)
        simp only [go_sem, contS_seq, simprocAttr, rows_len, h1']
        exact hK _ ⟨i, rfl⟩
  rintro s ⟨_, rfl⟩
  simp only [go_sem, contS_seq, simprocAttr]
  simp only [retK, fullK, iterK, resD, resA, AOp.ex, St.ev, Option.map_some, Option.bind_some, St.get, lk, reduceIte, Nat.reduceEqDiff, Option.getD_some, oneD, List.getElem?_cons_zero, List.getElem?_cons_succ, List.drop_zero, List.drop_succ_cons, List.take_succ_cons, List.take_zero, List.length_cons, List.length_nil, Nat.zero_add, Nat.reduceAdd, Nat.le_refl, Nat.reduceLeDiff, D.pub, D.pubs, ret_z8s55, List.map_id]
  exact ⟨_, rfl, rfl, rfl⟩


def fewObjs (l : List AObj) : List AObj := (l.take 24).map fewObj

theorem take_map_mem {α β : Type} {g : α → β} {l : List α} {n : Nat} {y : β} (h : y ∈ (l.take n).map g) : ∃ x, x ∈ l ∧ g x = y := by
  obtain ⟨x, hx, rfl⟩ := List.mem_map.1 h
  exact ⟨x, List.mem_of_mem_take hx, rfl⟩

theorem fewPairs_ok {l : List APair} : ∀ p ∈ fewPairs l, p.ok := fun p hp => by
  obtain ⟨x, _, rfl⟩ := take_map_mem hp
  exact fewPair_ok x

theorem fewPairs_len (l : List APair) : (fewPairs l).length ≤ 1000000 := by simp [fewPairs]; omega

theorem fewMatch_ok (m : AMatch) : (fewMatch m).ok := ⟨fewPairs_len _, fewPairs_len _, fewPairs_ok, fewPairs_ok⟩

theorem fewFilter_ok (f : AFilter) : (fewFilter f).ok := ⟨by have := few_size f.name; simp [fewFilter]; omega, by have := few_size f.val; simp [fewFilter]; omega⟩

theorem fewNeed_ok (n : ANeed) : (fewNeed n).ok := by simp [ANeed.ok, fewNeed]; omega

theorem fewListener_ok (l : AListener) : (fewListener l).ok := ⟨by simp [fewListener, fewNeeds]; omega, fun x hx => by
  obtain ⟨y, _, rfl⟩ := take_map_mem hx
  exact fewNeed_ok y⟩

theorem fewRule_ok (r : ARule) : (fewRule r).ok := ⟨by simp [fewRule]; omega, by simp [fewRule, fewFilters]; omega, by simp [fewRule]; omega, fun x hx => by
  obtain ⟨y, _, rfl⟩ := take_map_mem hx
  exact fewMatch_ok y, fun x hx => by
  obtain ⟨y, _, rfl⟩ := take_map_mem hx
  exact fewFilter_ok y⟩

theorem fewObj_ok (o : AObj) : (fewObj o).ok where
  la := fewPairs_len _
  po := by simp [fewObj]; omega
  li := by simp [fewObj]; omega
  pa := by simp [fewObj]; omega
  ho := by simp [fewObj]; omega
  ru := by simp [fewObj]; omega
  fr := by simp [fewObj, fewSides]; omega
  to := by simp [fewObj, fewSides]; omega
  lis := fun x hx => by
    obtain ⟨y, _, rfl⟩ := take_map_mem hx
    exact fewListener_ok y
  rus := fun x hx => by
    obtain ⟨y, _, rfl⟩ := take_map_mem hx
    exact fewRule_ok y

theorem fewObjs_ok {l : List AObj} : ∀ o ∈ fewObjs l, o.ok := fun o ho => by
  obtain ⟨x, _, rfl⟩ := take_map_mem ho
  exact fewObj_ok x

theorem fewObjs_len (l : List AObj) : (fewObjs l).length ≤ 24 := by simp [fewObjs]; omega

theorem law11_Some (l : List AObj) : Pure Tryz.prog 5 [.pd (.slice (rows AObj.pd l))] (fun d => d = .pd (.slice (rows AObj.pd (fewObjs l)))) := by
  refine pure_of_run follows an_zh218 Tryz.func5 rfl ok_zh218 dst_zh218 (by simp [Tryz.ntmps5]) ?_
  rw [run_start]
  simp only [ac_zh218, go_sem, contS_seq, simprocAttr, rows_len]
  refine loopS (fun k st => ∃ i : Nat, k = 24 - i ∧ i ≤ 24 ∧ i ≤ l.length ∧
    st = ⟨[(0, .pd (.slice (rows AObj.pd l))), (3, .own 33 13 (rows AObj.pd ((l.take i).map fewObj)) 22), (4, int i)], [], [], .no⟩) 24 _
    ?_ ⟨0, rfl, by omega, by omega, rfl⟩ ?_
  · exact Weak.own1 3 22 33 13 (by kernel_rfl) (by decide) rfl (by simp [lessL, lk, St.purge, St.put, D.purge, rows]) (by simp [lessL, lk, St.purge, D.purges, D.purge]) (by simp [lessL]) rfl
  rintro k st ⟨i, rfl, hi6, hi, rfl⟩
  have hw := i64_succ (show i < 1000000000 by omega)
  by_cases hlt : i < l.length ∧ i < 24
  · obtain ⟨x, hx⟩ := at_lt hlt.1
    have h1 : ((i : Int) < (l.length : Int)) = True := eq_true (by omega)
    have h2 : ((i : Int) < 24) = True := eq_true (by omega)
    simp only [go_sem, contS_seq, simprocAttr, rows_len, rows_get hx, h1, h2]
    refine (law9_Few x).callW (enters_of Tryz.func6 rfl rfl) _ rfl rfl ?_
    rintro d rfl
    have hl' : ((l.take i).map fewObj).length ≤ i := by simp; omega
    have e1 : rows AObj.pd ((l.take i).map fewObj) ++ [AObj.pd (fewObj x)] = rows AObj.pd ((l.take (i + 1)).map fewObj) := few_step hx
    simp only [go_sem, contS_seq, simprocAttr, rows_len, hw]
    rw [e1]
    refine ⟨by simp, by unfold maxLen; omega, by omega, 24 - (i + 1), _, by omega, ?_, i + 1, rfl, by omega, by omega, rfl⟩
    exact Weak.less (by simp [lessL, lk]) (by simp [lessL, lk]) (by simp [lessL, lk]) rfl
  · have h3 := few_end (g := fewObj) hi6 hi hlt
    rw [h3]
    by_cases h1 : i < l.length
    · have h1' : ((i : Int) < (l.length : Int)) = True := eq_true (by omega)
      have h2 : ((i : Int) < 24) = False := eq_false (by omega)
      simp only [go_sem, contS_seq, simprocAttr, rows_len, h1', h2]
      simp only [retK, fullK, iterK, resD, resA, AOp.ex, St.ev, Option.map_some, Option.bind_some, St.get, lk, reduceIte, Nat.reduceEqDiff, Option.getD_some, oneD, List.getElem?_cons_zero, List.getElem?_cons_succ, List.drop_zero, List.drop_succ_cons, List.take_succ_cons, List.take_zero, List.length_cons, List.length_nil, Nat.zero_add, Nat.reduceAdd, Nat.le_refl, Nat.reduceLeDiff, D.pub, D.pubs, Tryz.results5]
      exact ⟨_, rfl, rfl, rfl⟩
    · have h1' : ((i : Int) < (l.length : Int)) = False := eq_false (by omega)
      simp only [go_sem, contS_seq, simprocAttr, rows_len, h1']
      simp only [retK, fullK, iterK, resD, resA, AOp.ex, St.ev, Option.map_some, Option.bind_some, St.get, lk, reduceIte, Nat.reduceEqDiff, Option.getD_some, oneD, List.getElem?_cons_zero, List.getElem?_cons_succ, List.drop_zero, List.drop_succ_cons, List.take_succ_cons, List.take_zero, List.length_cons, List.length_nil, Nat.zero_add, Nat.reduceAdd, Nat.le_refl, Nat.reduceLeDiff, D.pub, D.pubs, Tryz.results5]
      exact ⟨_, rfl, rfl, rfl⟩

theorem filter_step {α : Type} {p : α → Bool} {l : List α} {i : Nat} {x : α} (h : l[i]? = some x) : (l.take (i + 1)).filter p = (l.take i).filter p ++ (if p x = true then [x] else []) := by
  rw [take_at h, List.filter_append]
  congr 1
  by_cases hp : p x = true <;> simp [hp]


def noLet : ByteArray := ⟨#[82, 101, 102, 78, 111, 116, 80, 101, 114, 109, 105, 116, 116, 101, 100]⟩
def badCert : ByteArray := ⟨#[73, 110, 118, 97, 108, 105, 100, 67, 101, 114, 116, 105, 102, 105, 99, 97, 116, 101, 82, 101, 102]⟩

def certOf (os : List AObj) (space : ByteArray) (r : ARef) : ByteArray :=
  if permits os 5 space r = true then (if goodAt os r = true then ⟨#[]⟩ else badCert) else noLet

def cert (os : List AObj) (g : AObj) (i : Int) : ByteArray := match atL g i with
  | none => ⟨#[]⟩
  | some x => if x.tls = true then certOf os g.ref.space (near x.cert g.ref.space) else ⟨#[]⟩

theorem listen_Cert (os : List AObj) (hos : os.length ≤ 1000000) (h : ∀ o ∈ os, o.ok) (g : AObj) (hg : g.ok) (i : Int) : Pure Tryz.prog 11 [.pd (.slice (rows AObj.pd os)), g.d, int i] (fun d => d = str (cert os g i)) := by
  refine pure_of_run follows an_zeup4 Tryz.func11 rfl ok_zeup4 dst_zeup4 (by simp [Tryz.ntmps11]) ?_
  rw [run_start]
  simp only [ac_zeup4, go_sem, contS_seq, simprocAttr]
  refine (listen_at g hg i).callW (enters_of Tryz.func21 rfl rfl) _ rfl rfl ?_
  rintro _ rfl
  unfold cert
  rcases hat : atL g i with _ | x
  · simp only [atD, go_sem, contS_seq, simprocAttr]
    refine (grant_Near ⟨0, ⟨#[]⟩, ⟨#[]⟩⟩ g.ref.space).callW (enters_of Tryz.func23 rfl rfl) _ rfl rfl ?_
    rintro _ rfl
    simp only [go_sem, contS_seq, simprocAttr]
    simp only [retK, fullK, iterK, resD, resA, AOp.ex, St.ev, Option.map_some, Option.bind_some, St.get, lk, reduceIte, Nat.reduceEqDiff, Option.getD_some, oneD, List.getElem?_cons_zero, List.getElem?_cons_succ, List.drop_zero, List.drop_succ_cons, List.take_succ_cons, List.take_zero, List.length_cons, List.length_nil, Nat.zero_add, Nat.reduceAdd, Nat.le_refl, Nat.reduceLeDiff, D.pub, D.pubs, Tryz.results11]
    exact ⟨_, rfl, rfl, rfl⟩
  simp only [atD, go_sem, contS_seq, simprocAttr]
  refine (grant_Near x.cert g.ref.space).callW (enters_of Tryz.func23 rfl rfl) _ rfl rfl ?_
  rintro _ rfl
  generalize near x.cert g.ref.space = r
  unfold certOf
  cases x.tls
  · simp only [go_sem, contS_seq, simprocAttr]
    simp only [retK, fullK, iterK, resD, resA, AOp.ex, St.ev, Option.map_some, Option.bind_some, St.get, lk, reduceIte, Nat.reduceEqDiff, Option.getD_some, oneD, List.getElem?_cons_zero, List.getElem?_cons_succ, List.drop_zero, List.drop_succ_cons, List.take_succ_cons, List.take_zero, List.length_cons, List.length_nil, Nat.zero_add, Nat.reduceAdd, Nat.le_refl, Nat.reduceLeDiff, D.pub, D.pubs, Tryz.results11]
    exact ⟨_, rfl, rfl, rfl⟩
  simp only [go_sem, contS_seq, simprocAttr]
  refine (grant_Permits' os hos h 5 g.ref.space r).callW (enters_of Tryz.func24 rfl rfl) _ rfl rfl ?_
  rintro _ rfl
  cases permits os 5 g.ref.space r
  · simp only [go_sem, contS_seq, simprocAttr]
    simp only [retK, fullK, iterK, resD, resA, AOp.ex, St.ev, Option.map_some, Option.bind_some, St.get, lk, reduceIte, Nat.reduceEqDiff, Option.getD_some, oneD, List.getElem?_cons_zero, List.getElem?_cons_succ, List.drop_zero, List.drop_succ_cons, List.take_succ_cons, List.take_zero, List.length_cons, List.length_nil, Nat.zero_add, Nat.reduceAdd, Nat.le_refl, Nat.reduceLeDiff, D.pub, D.pubs, Tryz.results11]
    exact ⟨_, rfl, rfl, rfl⟩
  simp only [go_sem, contS_seq, simprocAttr]
  refine (listen_good os hos h r).callW (enters_of Tryz.func25 rfl rfl) _ rfl rfl ?_
  rintro _ rfl
  cases goodAt os r
  all_goals
    simp only [go_sem, contS_seq, simprocAttr]
    simp only [retK, fullK, iterK, resD, resA, AOp.ex, St.ev, Option.map_some, Option.bind_some, St.get, lk, reduceIte, Nat.reduceEqDiff, Option.getD_some, oneD, List.getElem?_cons_zero, List.getElem?_cons_succ, List.drop_zero, List.drop_succ_cons, List.take_succ_cons, List.take_zero, List.length_cons, List.length_nil, Nat.zero_add, Nat.reduceAdd, Nat.le_refl, Nat.reduceLeDiff, D.pub, D.pubs, Tryz.results11]
    exact ⟨_, rfl, rfl, rfl⟩

def served (os : List AObj) (g : AObj) (i : Int) : Bool := (atL g i).isSome && ours os g && decide (conflict g i = ⟨#[]⟩) && decide (cert os g i = ⟨#[]⟩)

theorem listen_Served (os : List AObj) (hos : os.length ≤ 1000000) (h : ∀ o ∈ os, o.ok) (g : AObj) (hg : g.ok) (i : Int) : Pure Tryz.prog 10 [.pd (.slice (rows AObj.pd os)), g.d, int i] (fun d => d = bln (served os g i)) := by
  refine pure_of_run follows an_zwyow Tryz.func10 rfl ok_zwyow dst_zwyow (by simp [Tryz.ntmps10]) ?_
  rw [run_start]
  simp only [ac_zwyow, go_sem, contS_seq, simprocAttr]
  refine (listen_at g hg i).callW (enters_of Tryz.func21 rfl rfl) _ rfl rfl ?_
  rintro _ rfl
  unfold served
  rcases hat : atL g i with _ | x
  · simp only [atD, go_sem, contS_seq, simprocAttr]
    simp only [retK, fullK, iterK, resD, resA, AOp.ex, St.ev, Option.map_some, Option.bind_some, St.get, lk, reduceIte, Nat.reduceEqDiff, Option.getD_some, oneD, List.getElem?_cons_zero, List.getElem?_cons_succ, List.drop_zero, List.drop_succ_cons, List.take_succ_cons, List.take_zero, List.length_cons, List.length_nil, Nat.zero_add, Nat.reduceAdd, Nat.le_refl, Nat.reduceLeDiff, D.pub, D.pubs, Tryz.results10]
    exact ⟨_, rfl, rfl, rfl⟩
  simp only [atD, go_sem, contS_seq, simprocAttr]
  refine (listen_Ours os hos h g hg).callW (enters_of Tryz.func12 rfl rfl) _ rfl rfl ?_
  rintro _ rfl
  generalize ours os g = b1
  generalize hc : cert os g i = b3
  have c3 := listen_Cert os hos h g hg i
  rw [hc] at c3
  cases b1
  · simp only [go_sem, contS_seq, simprocAttr]
    simp only [retK, fullK, iterK, resD, resA, AOp.ex, St.ev, Option.map_some, Option.bind_some, St.get, lk, reduceIte, Nat.reduceEqDiff, Option.getD_some, oneD, List.getElem?_cons_zero, List.getElem?_cons_succ, List.drop_zero, List.drop_succ_cons, List.take_succ_cons, List.take_zero, List.length_cons, List.length_nil, Nat.zero_add, Nat.reduceAdd, Nat.le_refl, Nat.reduceLeDiff, D.pub, D.pubs, Tryz.results10]
    exact ⟨_, rfl, rfl, rfl⟩
  simp only [go_sem, contS_seq, simprocAttr]
  refine (listen_Conflict g hg i).callW (enters_of Tryz.func9 rfl rfl) _ rfl rfl ?_
  rintro _ rfl
  generalize conflict g i = b2
  simp only [go_sem, contS_seq, simprocAttr]
  refine GifP.mk (fun h2 => ?_) (fun h2 => ?_)
  · refine c3.callW (enters_of Tryz.func11 rfl rfl) _ rfl rfl ?_
    rintro _ rfl
    simp only [go_sem, contS_seq, simprocAttr]
    simp only [retK, fullK, iterK, resD, resA, AOp.ex, St.ev, Option.map_some, Option.bind_some, St.get, lk, reduceIte, Nat.reduceEqDiff, Option.getD_some, oneD, List.getElem?_cons_zero, List.getElem?_cons_succ, List.drop_zero, List.drop_succ_cons, List.take_succ_cons, List.take_zero, List.length_cons, List.length_nil, Nat.zero_add, Nat.reduceAdd, Nat.le_refl, Nat.reduceLeDiff, D.pub, D.pubs, Tryz.results10]
    exact ⟨_, rfl, rfl, by rw [decide_eq_true h2]; rfl⟩
  · simp only [retK, fullK, iterK, resD, resA, AOp.ex, St.ev, Option.map_some, Option.bind_some, St.get, lk, reduceIte, Nat.reduceEqDiff, Option.getD_some, oneD, List.getElem?_cons_zero, List.getElem?_cons_succ, List.drop_zero, List.drop_succ_cons, List.take_succ_cons, List.take_zero, List.length_cons, List.length_nil, Nat.zero_add, Nat.reduceAdd, Nat.le_refl, Nat.reduceLeDiff, D.pub, D.pubs, Tryz.results10]
    exact ⟨_, rfl, rfl, by rw [decide_eq_false h2]; rfl⟩

def aFour : AObj := ⟨⟨5, ⟨#[119, 101, 98]⟩, ⟨#[103, 119]⟩⟩, false, [], [], ⟨#[99]⟩, [⟨⟨#[97]⟩, 80, false, ⟨#[97, 46, 116, 101, 115, 116]⟩, ⟨0, ⟨#[]⟩, ⟨#[]⟩⟩, 0, []⟩, ⟨⟨#[98]⟩, 80, false, ⟨#[97, 46, 116, 101, 115, 116]⟩, ⟨0, ⟨#[]⟩, ⟨#[]⟩⟩, 0, []⟩,
  ⟨⟨#[99]⟩, 80, false, ⟨#[98, 46, 116, 101, 115, 116]⟩, ⟨0, ⟨#[]⟩, ⟨#[]⟩⟩, 0, []⟩, ⟨⟨#[100]⟩, 443, true, ⟨#[]⟩, ⟨4, ⟨#[]⟩, ⟨#[115]⟩⟩, 0, []⟩], [], [], [], [], []⟩
def aClass : AObj := ⟨⟨1, ⟨#[]⟩, ⟨#[99]⟩⟩, true, [], [], ⟨#[]⟩, [], [], [], [], [], []⟩

theorem aFour_ok : aFour.ok := by
  constructor <;> simp [aFour]
  refine ⟨?_, ?_, ?_, ?_⟩ <;> exact ⟨by simp, by simp⟩
theorem aClass_ok : aClass.ok := by constructor <;> simp [aClass]
theorem aClass_oks : ∀ o ∈ [aClass], o.ok := fun o h => by rw [List.mem_singleton.1 h]; exact aClass_ok

theorem law12_four : Pure Tryz.prog 20 [] (fun d => d = aFour.d) := by
  refine pure_of_run follows an_zbi27 Tryz.func20 rfl ok_zbi27 dst_zbi27 (by simp [Tryz.ntmps20]) ?_
  rw [run_start]
  simp only [ac_zbi27, go_sem, contS_seq, simprocAttr]
  simp only [retK, fullK, iterK, resD, resA, AOp.ex, St.ev, Option.map_some, Option.bind_some, St.get, lk, reduceIte, Nat.reduceEqDiff, Option.getD_some, oneD, List.getElem?_cons_zero, List.getElem?_cons_succ, List.drop_zero, List.drop_succ_cons, List.take_succ_cons, List.take_zero, List.length_cons, List.length_nil, Nat.zero_add, Nat.reduceAdd, Nat.le_refl, Nat.reduceLeDiff, D.pub, D.pubs, ret_zbi27]
  exact ⟨_, rfl, rfl, rfl⟩

theorem awake12 : Pure Tryz.prog 8 [] (fun d => d = bln true) := by
  have c1 := listen_Conflict aFour aFour_ok 0
  rw [show conflict aFour 0 = hostnames by decide +kernel] at c1
  have c2 := listen_Conflict aFour aFour_ok 2
  rw [show conflict aFour 2 = ⟨#[]⟩ by decide +kernel] at c2
  have c3 := listen_Cert [aClass] (by simp) aClass_oks aFour aFour_ok 3
  rw [show cert [aClass] aFour 3 = badCert by decide +kernel] at c3
  have c4 := listen_Served [aClass] (by simp) aClass_oks aFour aFour_ok 2
  rw [show served [aClass] aFour 2 = true by decide +kernel] at c4
  have c5 := listen_Ours [aClass] (by simp) aClass_oks aFour aFour_ok
  rw [show ours [aClass] aFour = true by decide +kernel] at c5
  refine pure_of_run follows an_zwa7s Tryz.func8 rfl ok_zwa7s dst_zwa7s (by simp [Tryz.ntmps8]) ?_
  rw [run_start]
  simp only [ac_zwa7s, go_sem, contS_seq, simprocAttr]
  refine law12_four.callW (enters_of Tryz.func20 rfl rfl) _ rfl rfl ?_
  rintro _ rfl
  simp only [go_sem, contS_seq, simprocAttr]
  refine c1.callW (enters_of Tryz.func9 rfl rfl) _ rfl rfl ?_
  rintro _ rfl
  simp only [go_sem, contS_seq, simprocAttr, hostnames]
  refine law12_four.callW (enters_of Tryz.func20 rfl rfl) _ rfl rfl ?_
  rintro _ rfl
  simp only [go_sem, contS_seq, simprocAttr]
  refine c2.callW (enters_of Tryz.func9 rfl rfl) _ rfl rfl ?_
  rintro _ rfl
  simp only [go_sem, contS_seq, simprocAttr]
  refine law12_four.callW (enters_of Tryz.func20 rfl rfl) _ rfl rfl ?_
  rintro _ rfl
  simp only [go_sem, contS_seq, simprocAttr]
  refine c3.callW (enters_of Tryz.func11 rfl rfl) _ rfl rfl ?_
  rintro _ rfl
  simp only [go_sem, contS_seq, simprocAttr, badCert]
  refine law12_four.callW (enters_of Tryz.func20 rfl rfl) _ rfl rfl ?_
  rintro _ rfl
  simp only [go_sem, contS_seq, simprocAttr]
  refine c4.callW (enters_of Tryz.func10 rfl rfl) _ rfl rfl ?_
  rintro _ rfl
  simp only [go_sem, contS_seq, simprocAttr]
  refine law12_four.callW (enters_of Tryz.func20 rfl rfl) _ rfl rfl ?_
  rintro _ rfl
  simp only [go_sem, contS_seq, simprocAttr]
  refine c5.callW (enters_of Tryz.func12 rfl rfl) _ rfl rfl ?_
  rintro _ rfl
  simp only [go_sem, contS_seq, simprocAttr]
  simp only [retK, fullK, iterK, resD, resA, AOp.ex, St.ev, Option.map_some, Option.bind_some, St.get, lk, reduceIte, Nat.reduceEqDiff, Option.getD_some, oneD, List.getElem?_cons_zero, List.getElem?_cons_succ, List.drop_zero, List.drop_succ_cons, List.take_succ_cons, List.take_zero, List.length_cons, List.length_nil, Nat.zero_add, Nat.reduceAdd, Nat.le_refl, Nat.reduceLeDiff, D.pub, D.pubs, Tryz.results8]
  exact ⟨_, rfl, rfl, rfl⟩


theorem countP_two {α : Type} {p : α → Bool} {l : List α} {i k : Nat} {x y : α} (hx : l[i]? = some x) (hy : l[k]? = some y) (hki : k < i) (h1 : p x = true) (h2 : p y = true) : 2 ≤ l.countP p := by
  rw [← List.take_append_drop i l, List.countP_append, drop_at hx, List.countP_cons_of_pos h1]
  have : 0 < (l.take i).countP p := List.countP_pos_iff.2 ⟨y, List.mem_of_getElem? (i := k) (by rw [List.getElem?_take, if_pos hki]; exact hy), h2⟩
  omega

def clash (x y : AListener) : Prop := x.port = y.port ∧ (x.tls ≠ y.tls ∨ x.host = y.host)

theorem clash_symm {x y : AListener} (h : clash x y) : clash y x := ⟨h.1.symm, h.2.imp (fun h => h.symm) (fun h => h.symm)⟩

theorem conflict_some {g : AObj} {i : Int} {x y : AListener} (ha : atL g i = some x) (hy : y ∈ g.listeners) (hc : clash x y) (h2 : x.tls = y.tls → 2 ≤ nPlace g.listeners (placeOf x)) : ¬ conflict g i = ⟨#[]⟩ := by
  unfold conflict
  rw [ha]
  simp only
  by_cases ht : x.tls = y.tls
  · have := h2 ht
    split
    · decide +kernel
    · rw [if_pos (by omega)]
      decide +kernel
  · have : 0 < nMode g.listeners (x.port, !x.tls) := List.countP_pos_iff.2 ⟨y, hy, by
      have : y.tls = !x.tls := by cases hx : x.tls <;> cases hz : y.tls <;> simp_all
      simp [modeOf, this, hc.1]⟩
    rw [if_pos (by omega)]
    decide +kernel

theorem atL_some {g : AObj} {i : Nat} {x : AListener} (hg : gwOk g = true) (hx : g.listeners[i]? = some x) : atL g i = some x := by
  unfold atL
  rw [if_pos hg, if_neg (by omega), Int.toNat_natCast, hx]

theorem atL_off {g : AObj} {i : Int} (hg : gwOk g = false) : atL g i = none := by
  unfold atL
  rw [if_neg (by simp [hg])]

theorem apart {os : List AObj} {g : AObj} {i k : Nat} {x y : AListener} (hx : g.listeners[i]? = some x) (hy : g.listeners[k]? = some y) (hki : k < i) (hc : clash x y) :
    served os g i = false ∧ served os g k = false ∧ (conflict g i = ⟨#[]⟩ ↔ conflict g k = ⟨#[]⟩) := by
  cases hg : gwOk g
  · have h1 := atL_off (i := i) hg
    have h2 := atL_off (i := k) hg
    refine ⟨by simp [served, h1], by simp [served, h2], ?_⟩
    simp [conflict, h1, h2]
  · have h1 := atL_some hg hx
    have h2 := atL_some hg hy
    have hp : ∀ (ht : x.tls = y.tls), placeOf x = placeOf y := fun ht => by
      rcases hc.2 with h | h
      · exact absurd ht h
      · simp [placeOf, hc.1, ht, h]
    have n1 := conflict_some h1 (List.mem_of_getElem? hy) hc (fun ht => countP_two hx hy hki (by simp) (by simp [hp ht]))
    have n2 := conflict_some h2 (List.mem_of_getElem? hx) (clash_symm hc) (fun ht => countP_two hx hy hki (by simp [hp ht.symm]) (by simp))
    exact ⟨by simp [served, n1], by simp [served, n2], by simp [n1, n2]⟩

theorem gw_kind {g : AObj} (h : gwOk g = true) : g.ref.kind = 5 ∧ objMay g = true := by simpa [gwOk] using h

theorem gw_may {g : AObj} (h : gwOk g = true) : gatewayMay g.cls g.listeners = true := by
  obtain ⟨h1, h2⟩ := gw_kind h
  simp only [objMay, Bool.and_eq_true] at h2
  have := h2.1.2
  simpa [kindMay, h1] using this

theorem gw_cert {g : AObj} (h : gwOk g = true) {x : AListener} (hx : x ∈ g.listeners) (ht : x.tls = true) : x.cert.kind = 4 := by
  have := gw_may h
  simp only [gatewayMay, every, Bool.and_eq_true, List.all_eq_true] at this
  have h1 := this.1.2.2 x hx
  simp only [listenerMay, ht, if_true, Bool.and_eq_true, decide_eq_true_eq] at h1
  exact h1.1.1.1.1.1.1.1.1.1

theorem atL_mem {g : AObj} {i : Int} {x : AListener} (h : atL g i = some x) : gwOk g = true ∧ x ∈ g.listeners ∧ 0 ≤ i ∧ g.listeners[i.toNat]? = some x := by
  unfold atL at h
  split at h
  · rename_i hg
    split at h
    · cases h
    · exact ⟨hg, List.mem_of_getElem? h, by omega, h⟩
  · cases h

theorem permits_filter (p : AObj → Bool) (hp : ∀ o : AObj, o.ref.kind = 7 → p o = true) (os : List AObj) (k : Int) (s : ByteArray) (t : ARef) : permits (os.filter p) k s t = permits os k s t := by
  unfold permits
  congr 1
  apply Bool.eq_iff_iff.2
  simp only [List.any_eq_true, List.mem_filter]
  constructor
  · rintro ⟨o, ⟨h1, _⟩, h2⟩; exact ⟨o, h1, h2⟩
  · rintro ⟨o, h1, h2⟩
    refine ⟨o, ⟨h1, hp o ?_⟩, h2⟩
    simp only [lets, Bool.and_eq_true, decide_eq_true_eq] at h2
    exact h2.1.1.1.1

theorem found_filter (p : AObj → Bool) (t : ARef) (hp : ∀ o : AObj, o.ref.kind = t.kind → p o = true) : ∀ os : List AObj, found (os.filter p) t = found os t
  | [] => rfl
  | o :: os => by
    have ih := found_filter p t hp os
    unfold found at ih ⊢
    by_cases h : p o = true
    · rw [List.filter_cons_of_pos h, List.find?_cons, List.find?_cons, ih]
    · have : isRef t o = false := by
        simp only [isRef, decide_eq_false_iff_not]
        rintro e
        exact h (hp o (by rw [e]))
      rw [List.filter_cons_of_neg h, List.find?_cons, this, ih]

theorem good_filter (p : AObj → Bool) (t : ARef) (hp : ∀ o : AObj, o.ref.kind = t.kind → p o = true) (os : List AObj) : goodAt (os.filter p) t = goodAt os t := by
  unfold goodAt
  rw [found_filter p t hp]

theorem ours_filter (p : AObj → Bool) (hp : ∀ o : AObj, o.ref.kind = 1 → p o = true) (os : List AObj) (g : AObj) : ours (os.filter p) g = ours os g := by
  unfold ours
  rw [good_filter p _ hp]

theorem cert_filter (p : AObj → Bool) (hp : ∀ o : AObj, o.ref.kind = 4 ∨ o.ref.kind = 7 → p o = true) (os : List AObj) (g : AObj) (i : Int) : cert (os.filter p) g i = cert os g i := by
  unfold cert
  rcases h : atL g i with _ | x
  · rfl
  · simp only
    obtain ⟨hg, hx, _⟩ := atL_mem h
    by_cases ht : x.tls = true
    · rw [if_pos ht, if_pos ht]
      unfold certOf
      have hk : (near x.cert g.ref.space).kind = 4 := by
        rw [← gw_cert hg hx ht]; unfold near; split <;> rfl
      rw [permits_filter p (fun o h => hp o (.inr h)), good_filter p _ (fun o h => hp o (.inl (by rw [h, hk])))]
    · rw [if_neg ht, if_neg ht]

theorem served_filter (p : AObj → Bool) (hp : ∀ o : AObj, o.ref.kind = 1 ∨ o.ref.kind = 4 ∨ o.ref.kind = 7 → p o = true) (os : List AObj) (g : AObj) (i : Int) : served (os.filter p) g i = served os g i := by
  unfold served
  rw [ours_filter p (fun o h => hp o (.inl h)), cert_filter p (fun o h => hp o (.inr h))]

theorem served_plain (p : AObj → Bool) (hp : ∀ o : AObj, o.ref.kind = 1 → p o = true) (os : List AObj) (g : AObj) (i : Int) (ht : ∀ x, atL g i = some x → x.tls = false) : served (os.filter p) g i = served os g i := by
  unfold served
  rw [ours_filter p hp]
  congr 2
  unfold cert
  rcases h : atL g i with _ | x
  · rfl
  · simp only [ht x h, Bool.false_eq_true, if_false]


theorem twiceFrom_iff {α : Type} {q : α → α → Bool} {l : List α} : ∀ {k i : Nat}, twiceFrom q l k i = false ↔ ∀ j x, i ≤ j → j < i + k → l[j]? = some x → (l.take j).any (fun y => q x y) = false
  | 0, i => by simp only [twiceFrom, true_iff]; intro j x h1 h2; omega
  | k + 1, i => by
    rw [twiceFrom, Bool.or_eq_false_iff, twiceFrom_iff]
    constructor
    · rintro ⟨h1, h2⟩ j x h3 h4 h5
      rcases Nat.eq_or_lt_of_le h3 with rfl | h6
      · rw [h5] at h1; exact h1
      · exact h2 j x (by omega) (by omega) h5
    · intro h
      refine ⟨?_, fun j x h3 h4 h5 => h j x (by omega) (by omega) h5⟩
      cases h1 : l[i]? with
      | none => rfl
      | some x => exact h i x (Nat.le_refl _) (by omega) h1

theorem twice_pairwise {α : Type} {q : α → α → Bool} {l : List α} : twice q l = false ↔ l.Pairwise (fun y x => q x y = false) := by
  unfold twice
  rw [twiceFrom_iff, List.pairwise_iff_getElem]
  constructor
  · intro h i j hi hj hij
    have h1 := h j l[j] (Nat.zero_le _) (by omega) (List.getElem?_eq_getElem hj)
    rw [List.any_eq_false] at h1
    have := h1 l[i] (List.mem_of_getElem? (i := i) (by rw [List.getElem?_take, if_pos hij]; exact List.getElem?_eq_getElem hi))
    simpa using this
  · intro h j x _ hj hx
    rw [List.any_eq_false]
    intro y hy
    obtain ⟨i, hi, rfl⟩ := List.getElem_of_mem hy
    obtain ⟨hjl, rfl⟩ := List.getElem?_eq_some_iff.1 hx
    have hil : i < j := by simp at hi; omega
    have := h i j (by omega) hjl hil
    simp [this]

def turnL (g : AObj) (ls : List AListener) : AObj := { g with listeners := ls }

theorem turnL_gw {g : AObj} {ls : List AListener} (hp : ls.Perm g.listeners) : gwOk (turnL g ls) = gwOk g := by
  by_cases hk : g.ref.kind = 5
  · have hm : gatewayMay g.cls ls = gatewayMay g.cls g.listeners := by
      unfold gatewayMay every
      rw [hp.length_eq, hp.all_eq]
      congr 2
      have := twice_pairwise (q := lisName) (l := ls)
      have h2 := twice_pairwise (q := lisName) (l := g.listeners)
      rw [hp.pairwise_iff (fun {a b} (h : lisName b a = false) => by simpa [lisName, eq_comm] using h), ← h2] at this
      cases h3 : twice lisName ls <;> cases h4 : twice lisName g.listeners <;> simp_all
    have hs : (turnL g ls).strip = g.strip := by
      obtain ⟨⟨k, s, n⟩, b, c, d, e, f, gg, hh, ii, jj, kk⟩ := g
      simp only at hk
      subst hk
      simp [turnL, AObj.strip]
    have hkm : kindMay (turnL g ls) = kindMay g := by
      have h1 : ∀ o : AObj, o.ref.kind = 5 → kindMay o = gatewayMay o.cls o.listeners := fun o ho => by simp [kindMay, ho]
      rw [h1 g hk, h1 (turnL g ls) hk]
      exact hm
    unfold gwOk objMay
    rw [hs, hkm]
    rfl
  · simp [gwOk, turnL, hk]

theorem turnL_at {g : AObj} {ls : List AListener} (hp : ls.Perm g.listeners) {i j : Nat} (h : ls[j]? = g.listeners[i]?) : atL (turnL g ls) j = atL g i := by
  unfold atL
  rw [turnL_gw hp, Int.toNat_natCast, Int.toNat_natCast, if_neg (show ¬ ((j : Int) < 0) by omega), if_neg (show ¬ ((i : Int) < 0) by omega)]
  simp only [turnL, h]

theorem turnL_conflict {g : AObj} {ls : List AListener} (hp : ls.Perm g.listeners) {i j : Nat} (h : ls[j]? = g.listeners[i]?) : conflict (turnL g ls) j = conflict g i := by
  unfold conflict
  rw [turnL_at hp h]
  rcases atL g i with _ | x
  · rfl
  · have n1 : ∀ k, nMode (turnL g ls).listeners k = nMode g.listeners k := fun k => hp.countP_eq _
    have n2 : ∀ k, nPlace (turnL g ls).listeners k = nPlace g.listeners k := fun k => hp.countP_eq _
    simp only [n1, n2]

theorem turnL_cert {os : List AObj} {g : AObj} {ls : List AListener} (hp : ls.Perm g.listeners) {i j : Nat} (h : ls[j]? = g.listeners[i]?) : cert os (turnL g ls) j = cert os g i := by
  unfold cert
  rw [turnL_at hp h]
  rfl

theorem turnL_ours {os : List AObj} {g : AObj} {ls : List AListener} (hp : ls.Perm g.listeners) : ours os (turnL g ls) = ours os g := by
  unfold ours
  rw [turnL_gw hp]
  rfl

theorem turnL_served {os : List AObj} {g : AObj} {ls : List AListener} (hp : ls.Perm g.listeners) {i j : Nat} (h : ls[j]? = g.listeners[i]?) : served os (turnL g ls) j = served os g i := by
  unfold served
  rw [turnL_at hp h, turnL_ours hp, turnL_conflict hp h, turnL_cert hp h]

theorem rot_perm {α : Type} (l : List α) (k : Nat) : (l.drop k ++ l.take k).Perm l := by
  have := List.perm_append_comm (l₁ := l.drop k) (l₂ := l.take k)
  rwa [List.take_append_drop] at this

theorem rot_at {α : Type} (l : List α) {k i : Nat} (hk : k < l.length) (hi : i < l.length) : (l.drop k ++ l.take k)[(i + l.length - k) % l.length]? = l[i]? := by
  by_cases h : k ≤ i
  · have e : (i + l.length - k) % l.length = i - k := by
      rw [show i + l.length - k = (i - k) + l.length by omega, Nat.add_mod_right, Nat.mod_eq_of_lt (by omega)]
    rw [e, List.getElem?_append_left (by simp; omega), List.getElem?_drop, show k + (i - k) = i by omega]
  · have e : (i + l.length - k) % l.length = i + l.length - k := Nat.mod_eq_of_lt (by omega)
    rw [e, List.getElem?_append_right (by simp; omega), List.length_drop, show i + l.length - k - (l.length - k) = i by omega, List.getElem?_take, if_pos (by omega)]

def servedAll (os : List AObj) (g : AObj) : List Int := ((List.range g.listeners.length).filter fun (i : Nat) => served os g i).map fun (i : Nat) => (i : Int)

theorem range_take {α : Type} (p : α → Bool) (l : List α) (f : Nat → Bool) (h : ∀ i x, l[i]? = some x → f i = p x) : ∀ n, n ≤ l.length → ((List.range n).filter f).length = (l.take n).countP p
  | 0, _ => rfl
  | n + 1, hn => by
    obtain ⟨x, hx⟩ := at_lt (show n < l.length by omega)
    rw [List.range_succ, List.filter_append, List.length_append, take_at hx, List.countP_append, range_take p l f h n (by omega)]
    have := h n x hx
    cases hp : p x <;> simp [this, hp]

theorem range_count {α : Type} (p : α → Bool) (l : List α) (f : Nat → Bool) (h : ∀ i x, l[i]? = some x → f i = p x) : ((List.range l.length).filter f).length = l.countP p := by
  rw [range_take p l f h l.length (Nat.le_refl _), List.take_length]

def servedX (os : List AObj) (g : AObj) (x : AListener) : Bool := gwOk g && ours os g &&
  decide ((if 0 < (nMode g.listeners (x.port, !x.tls) : Int) then protocols else if 1 < (nPlace g.listeners (placeOf x) : Int) then hostnames else ⟨#[]⟩) = ⟨#[]⟩) &&
  decide ((if x.tls = true then certOf os g.ref.space (near x.cert g.ref.space) else ⟨#[]⟩) = ⟨#[]⟩)

theorem served_X {os : List AObj} {g : AObj} {i : Nat} {x : AListener} (hx : g.listeners[i]? = some x) : served os g i = servedX os g x := by
  unfold served servedX
  cases hg : gwOk g
  · simp [atL_off hg]
  · have ha := atL_some hg hx
    unfold conflict cert
    rw [ha]
    rfl

theorem turnL_all {os : List AObj} {g : AObj} {ls : List AListener} (hp : ls.Perm g.listeners) : (servedAll os (turnL g ls)).length = (servedAll os g).length := by
  unfold servedAll
  rw [List.length_map, List.length_map, range_count (servedX os (turnL g ls)) (turnL g ls).listeners _ (fun i x hx => served_X hx), range_count (servedX os g) g.listeners _ (fun i x hx => served_X hx)]
  have : servedX os (turnL g ls) = servedX os g := by
    funext x
    have n1 : ∀ k, nMode (turnL g ls).listeners k = nMode g.listeners k := fun k => hp.countP_eq _
    have n2 : ∀ k, nPlace (turnL g ls).listeners k = nPlace g.listeners k := fun k => hp.countP_eq _
    simp only [servedX, turnL_gw hp, turnL_ours hp, n1, n2]
    rfl
  rw [this]
  exact hp.countP_eq _

theorem all_none {os : List AObj} {g : AObj} (h : ours os g = false) : servedAll os g = [] := by
  unfold servedAll
  rw [List.filter_eq_nil_iff.2 (fun i _ => by simp [served, h])]
  rfl

abbrev classOf (g : AObj) : ARef := ⟨1, ⟨#[]⟩, g.cls⟩

theorem ours_less (os : List AObj) (g : AObj) : ours (os.filter fun o => !isRef (classOf g) o) g = false := by
  unfold ours goodAt found
  rw [List.find?_eq_none.2 (fun o h => by have := (List.mem_filter.1 h).2; simpa using this)]
  simp

theorem ours_bad (os : List AObj) (g : AObj) : ours (AObj.zero (classOf g) :: os) g = false := by
  unfold ours goodAt found
  rw [List.find?_cons, show isRef ⟨1, ⟨#[]⟩, g.cls⟩ (AObj.zero (classOf g)) = true by simp [isRef, AObj.zero]]
  simp [AObj.zero]

def goodClass (g : AObj) : AObj := { AObj.zero (classOf g) with good := true }

theorem ours_good {os : List AObj} {g : AObj} (h : ours os g = true) : ours (goodClass g :: os) g = true := by
  simp only [ours, Bool.and_eq_true] at h
  have hm := gw_may h.1
  simp only [gatewayMay, Bool.and_eq_true] at hm
  have hc := hm.1.1.1
  have ho : objMay (goodClass g) = true := by
    simp [objMay, goodClass, AObj.zero, mayRef, hc, kindMay, AObj.strip, objSame, eqf]
  unfold ours goodAt found
  rw [List.find?_cons, show isRef ⟨1, ⟨#[]⟩, g.cls⟩ (goodClass g) = true by simp [isRef, goodClass, AObj.zero], h.1]
  simp only [ho]
  rfl


theorem u8_wf {n : Int} (h : (Lit.int .u8 n).wf = true) : 0 ≤ n ∧ n < 256 := by
  simp [Lit.wf, IntKind.min, IntKind.max, IntKind.signed, IntKind.bits] at h
  omega

def svd (os : List AObj) (g : AObj) (i : Nat) : List Int := ((List.range i).filter fun (j : Nat) => served os g j).map fun (j : Nat) => (j : Int)

theorem svd_succ (os : List AObj) (g : AObj) (i : Nat) : svd os g (i + 1) = svd os g i ++ (if served os g i = true then [(i : Int)] else []) := by
  unfold svd
  rw [List.range_succ, List.filter_append, List.map_append]
  cases h : served os g i <;> simp [h]

theorem svd_len (os : List AObj) (g : AObj) (i : Nat) : (svd os g i).length ≤ i := by
  unfold svd
  rw [List.length_map]
  exact Nat.le_trans (List.length_filter_le _ _) (by simp)

theorem listen_All (os : List AObj) (hos : os.length ≤ 1000000) (h : ∀ o ∈ os, o.ok) (g : AObj) (hg : g.ok) : Pure Tryz.prog 7 [.pd (.slice (rows AObj.pd os)), g.d] (fun d => d = .pd (.slice (ints (servedAll os g)))) := by
  have hli := hg.li
  refine pure_of_run follows an_zu7tu Tryz.func7 rfl ok_zu7tu dst_zu7tu (by simp [Tryz.ntmps7]) ?_
  rw [run_start]
  simp only [ac_zu7tu, go_sem, contS_seq, simprocAttr, rows_len]
  refine loopS (fun k st => ∃ i : Nat, k = g.listeners.length - i ∧ i ≤ g.listeners.length ∧
    st = ⟨[(0, .pd (.slice (rows AObj.pd os))), (3, .ptr 3 0), (5, .own 3 1 (ints (svd os g i)) 20), (9, int g.listeners.length), (10, int i)], [(3, g.ds)], [], .no⟩) g.listeners.length _ ?_ ⟨0, rfl, by omega, rfl⟩ ?_
  · exact Weak.own1 5 20 3 1 (by kernel_rfl) (by decide) rfl (by simp [lessL, lk, St.purge, St.put, D.purge, rows, svd]) (by simp [lessL, lk, St.purge, D.purges, D.purge]) (by simp [lessL]) rfl
  rintro k st ⟨i, rfl, hi, rfl⟩
  have hw := i64_succ (show i < 1000000000 by omega)
  have hs := svd_succ os g i
  have hl := svd_len os g i
  by_cases hlt : i < g.listeners.length
  · have h1 : ((i : Int) < (g.listeners.length : Int)) = True := eq_true (by omega)
    simp only [go_sem, contS_seq, simprocAttr, rows_len, h1]
    refine (listen_Served os hos h g hg i).callW (enters_of Tryz.func10 rfl rfl) _ rfl rfl ?_
    rintro _ rfl
    cases hsv : served os g i
    · rw [hsv] at hs
      simp only [Bool.false_eq_true, if_false, List.append_nil] at hs
      simp only [go_sem, contS_seq, simprocAttr, hw]
      refine ⟨g.listeners.length - (i + 1), _, by omega, ?_, i + 1, rfl, by omega, rfl⟩
      rw [hs]
      exact Weak.less (by simp [lessL, lk]) (by simp [lessL, lk]) (by simp [lessL, lk]) rfl
    · rw [hsv] at hs
      simp only [if_true] at hs
      simp only [go_sem, contS_seq, simprocAttr, rows_len, hw]
      rw [ints_one, ← hs]
      refine ⟨by simp, by unfold maxLen; omega, by omega, g.listeners.length - (i + 1), _, by omega, ?_, i + 1, rfl, by omega, rfl⟩
      exact Weak.less (by simp [lessL, lk]) (by simp [lessL, lk]) (by simp [lessL, lk]) rfl
  · have h1 : ((i : Int) < (g.listeners.length : Int)) = False := eq_false (by omega)
    obtain rfl : i = g.listeners.length := by omega
    simp only [go_sem, contS_seq, simprocAttr, rows_len, h1]
    simp only [retK, fullK, iterK, resD, resA, AOp.ex, St.ev, Option.map_some, Option.bind_some, St.get, lk, reduceIte, Nat.reduceEqDiff, Option.getD_some, oneD, List.getElem?_cons_zero, List.getElem?_cons_succ, List.drop_zero, List.drop_succ_cons, List.take_succ_cons, List.take_zero, List.length_cons, List.length_nil, Nat.zero_add, Nat.reduceAdd, Nat.le_refl, Nat.reduceLeDiff, D.pub, D.pubs, Tryz.results7]
    exact ⟨_, rfl, rfl, rfl⟩

theorem turnL_ok {g : AObj} (hg : g.ok) {ls : List AListener} (hp : ls.Perm g.listeners) : (turnL g ls).ok where
  la := hg.la
  po := hg.po
  li := by simp only [turnL, hp.length_eq]; exact hg.li
  pa := hg.pa
  ho := hg.ho
  ru := hg.ru
  fr := hg.fr
  to := hg.to
  lis := fun x hx => hg.lis x (hp.mem_iff.1 hx)
  rus := hg.rus


theorem goodClass_ok (g : AObj) : (goodClass g).ok := by constructor <;> simp [goodClass, AObj.zero]

set_option maxHeartbeats 4000000 in
theorem law_ListenClass (l : List AObj) (g : AObj) : Pure Tryz.prog 4 [.pd (.slice (rows AObj.pd l)), g.d] (fun d => d = bln true) := by
  refine pure_of_run follows an_zbm5m Tryz.func4 rfl ok_zbm5m dst_zbm5m (by simp [Tryz.ntmps4]) ?_
  rw [run_start]
  simp only [ac_zbm5m, go_sem, contS_seq, simprocAttr]
  refine (law11_Some l).callX (enters_of Tryz.func5 rfl rfl) _ rfl rfl ?_
  rintro _ rfl
  simp only [go_sem, contS_seq, simprocAttr]
  refine (law9_Few g).callX (enters_of Tryz.func6 rfl rfl) _ rfl rfl ?_
  rintro _ rfl
  have hos : (fewObjs l).length ≤ 1000 := Nat.le_trans (fewObjs_len l) (by omega)
  have ho := fewObjs_ok (l := l)
  have hg := fewObj_ok g
  generalize fewObjs l = os at hos ho ⊢
  generalize fewObj g = g at hg ⊢
  simp only [go_sem, contS_seq, simprocAttr]
  refine loopS (fun k st => ∃ i : Nat, k = os.length - i ∧ i ≤ os.length ∧
    st = ⟨[(0, .pd (.slice (rows AObj.pd os))), (3, .ptr 3 0), (5, .ptr 5 0), (6, .own 33 13 (rows AObj.pd ((os.take i).filter fun o => !isRef (classOf g) o)) 36), (7, int i)],
      [(3, g.ds), (5, [int 1, str ⟨#[]⟩, str g.cls])], [], .no⟩) os.length _ ?_ ⟨0, rfl, by omega, rfl⟩ ?_
  · exact Weak.own1 6 36 33 13 (by kernel_rfl) (by decide) rfl (by simp [lessL, lk, St.purge, St.put, D.purge, rows]) (by simp [lessL, lk, St.purge, D.purges, D.purge]) (by simp [lessL]) rfl
  rintro k st ⟨i, rfl, hi, rfl⟩
  by_cases hlt : i < os.length
  · obtain ⟨x, hx⟩ := at_lt hlt
    have h1 : ((i : Int) < (os.length : Int)) = True := eq_true (by omega)
    have hw := i64_succ (show i < 1000000000 by omega)
    have hf := filter_step (p := fun o => !isRef (classOf g) o) hx
    have hl' : ((os.take i).filter fun o => !isRef (classOf g) o).length ≤ i := Nat.le_trans (List.length_filter_le _ _) (by simp; omega)
    have he : (decide (x.ref.kind = 1) && (decide (x.ref.space = ⟨#[]⟩) && decide (x.ref.name = g.cls))) = isRef (classOf g) x := eq_Ref x.ref (classOf g)
    simp only [go_sem, contS_seq, simprocAttr, rows_len, rows_get hx, h1, hw, eqVs, eqV, he]
    cases hr : isRef (classOf g) x
    · simp only [hr, Bool.not_false, if_true] at hf
      simp only [go_sem, contS_seq, simprocAttr, rows_len, rows_get hx, hw]
      rw [rows_one _ x, ← hf]
      refine ⟨by simp, by unfold maxLen; omega, by omega, os.length - (i + 1), _, by omega, ?_, i + 1, rfl, by omega, rfl⟩
      exact Weak.less (by simp [lessL, lk]) (by simp [lessL, lk]) (by simp [lessL, lk]) rfl
    · simp only [hr, Bool.not_true, Bool.false_eq_true, if_false, List.append_nil] at hf
      simp only [go_sem, contS_seq, simprocAttr, rows_len, rows_get hx, hw]
      rw [← hf]
      refine ⟨os.length - (i + 1), _, by omega, ?_, i + 1, rfl, by omega, rfl⟩
      exact Weak.less (by simp [lessL, lk]) (by simp [lessL, lk]) (by simp [lessL, lk]) rfl
  · have h1 : ((i : Int) < (os.length : Int)) = False := eq_false (by omega)
    rw [List.take_of_length_le (by omega)]
    have hfl : (os.filter fun o => !isRef (classOf g) o).length ≤ 1000000 := Nat.le_trans (List.length_filter_le _ _) (by omega)
    have hfo : ∀ o ∈ (os.filter fun o => !isRef (classOf g) o), o.ok := fun o h => ho o (List.mem_filter.1 h).1
    have hbl : (AObj.zero (classOf g) :: os).length ≤ 1000000 := by simp; omega
    have hbo : ∀ o ∈ AObj.zero (classOf g) :: os, o.ok := fun o h => by
      rcases List.mem_cons.1 h with rfl | h
      · exact AObj.zero_ok _
      · exact ho o h
    have hgl : (goodClass g :: os).length ≤ 1000000 := by simp; omega
    have hgo : ∀ o ∈ goodClass g :: os, o.ok := fun o h => by
      rcases List.mem_cons.1 h with rfl | h
      · exact goodClass_ok _
      · exact ho o h
    have c1 := listen_Ours (os.filter fun o => !isRef (classOf g) o) hfl hfo g hg
    rw [ours_less] at c1
    have c2 := listen_All (os.filter fun o => !isRef (classOf g) o) hfl hfo g hg
    rw [all_none (ours_less os g)] at c2
    have c3 := listen_Ours (AObj.zero (classOf g) :: os) hbl hbo g hg
    rw [ours_bad] at c3
    have c4 := listen_All (AObj.zero (classOf g) :: os) hbl hbo g hg
    rw [all_none (ours_bad os g)] at c4
    have c5 := listen_Ours os (by omega) ho g hg
    have c6 := listen_Ours (goodClass g :: os) hgl hgo g hg
    have hyes := ours_good (os := os) (g := g)
    generalize ours (goodClass g :: os) g = b6 at c6 hyes
    generalize ours os g = b5 at c5 hyes
    have hrow := rows_row (f := AObj.pd) (n := 13) (fun _ => rfl) os
    simp only [go_sem, contS_seq, simprocAttr, rows_len, h1]
    refine ⟨hrow, by unfold maxLen; omega, by omega, hrow, by unfold maxLen; omega, by omega, ?_⟩
    refine c1.callW (enters_of Tryz.func12 rfl rfl) _ rfl rfl ?_
    rintro _ rfl
    simp only [go_sem, contS_seq, simprocAttr]
    refine c2.callW (enters_of Tryz.func7 rfl rfl) _ rfl rfl ?_
    rintro _ rfl
    simp only [go_sem, contS_seq, simprocAttr, rows_len]
    refine c3.callW (enters_of Tryz.func12 rfl rfl) _ rfl rfl ?_
    rintro _ rfl
    simp only [go_sem, contS_seq, simprocAttr]
    refine c4.callW (enters_of Tryz.func7 rfl rfl) _ rfl rfl ?_
    rintro _ rfl
    simp only [go_sem, contS_seq, simprocAttr, rows_len]
    refine c5.callW (enters_of Tryz.func12 rfl rfl) _ rfl rfl ?_
    rintro _ rfl
    cases b5
    · simp only [go_sem, contS_seq, simprocAttr]
      refine awake12.callW (enters_of Tryz.func8 rfl rfl) _ rfl rfl ?_
      rintro _ rfl
      simp only [go_sem, contS_seq, simprocAttr]
      simp only [retK, fullK, iterK, resD, resA, AOp.ex, St.ev, Option.map_some, Option.bind_some, St.get, lk, reduceIte, Nat.reduceEqDiff, Option.getD_some, oneD, List.getElem?_cons_zero, List.getElem?_cons_succ, List.drop_zero, List.drop_succ_cons, List.take_succ_cons, List.take_zero, List.length_cons, List.length_nil, Nat.zero_add, Nat.reduceAdd, Nat.le_refl, Nat.reduceLeDiff, D.pub, D.pubs, Tryz.results4]
      exact ⟨_, rfl, rfl, rfl⟩
    · obtain rfl := hyes rfl
      simp only [go_sem, contS_seq, simprocAttr]
      refine c6.callW (enters_of Tryz.func12 rfl rfl) _ rfl rfl ?_
      rintro _ rfl
      simp only [go_sem, contS_seq, simprocAttr]
      refine awake12.callW (enters_of Tryz.func8 rfl rfl) _ rfl rfl ?_
      rintro _ rfl
      simp only [go_sem, contS_seq, simprocAttr]
      simp only [retK, fullK, iterK, resD, resA, AOp.ex, St.ev, Option.map_some, Option.bind_some, St.get, lk, reduceIte, Nat.reduceEqDiff, Option.getD_some, oneD, List.getElem?_cons_zero, List.getElem?_cons_succ, List.drop_zero, List.drop_succ_cons, List.take_succ_cons, List.take_zero, List.length_cons, List.length_nil, Nat.zero_add, Nat.reduceAdd, Nat.le_refl, Nat.reduceLeDiff, D.pub, D.pubs, Tryz.results4]
      exact ⟨_, rfl, rfl, rfl⟩

end Go.Proofs.YtmdepehjfnpklaaGreatDoor
