/- Texts of the prover's, joined: FF FH E4 FD E5 FE FI E8 E9 D7 D8 EH. -/
import Derived.Test.YtbpgebfejebmlaaGreatDoorK7
import Derived.Test.YtbpgebfejebmlaaGreatDoorProg
import Derived.KernelRfl

namespace Go.Proofs.YtbpgebfejebmlaaGreatDoor
open Go Go.RowKit
set_option linter.unusedSimpArgs false
set_option linter.unusedVariables false
set_option maxRecDepth 100000

/-! A box's cell: the nil slice is a row of one's own. -/

theorem Reps.tell {g : Gh} {w : World} {d : D} : ∀ {ds : List D} {vs : List Value} (_ : Reps g w ds vs) (i : Nat) (_ : ∀ v, vs[i]? = some v → Rep g w d v), Reps g w (ds.set i d) vs
  | [], _, h, _, _ => by simpa using h
  | e :: ds, _, h, i, hd => by
    simp only [Reps] at h
    obtain ⟨v, vs', rfl, hv, hs⟩ := h
    cases i with
    | zero => exact ⟨v, vs', rfl, hd v rfl, hs⟩
    | succ i => exact ⟨v, vs', rfl, hv, Reps.tell hs i (fun u hu => hd u (by simpa using hu))⟩

theorem SR.tellB {C : Ctx} {st : St} {g : Gh} {a : Act} {w : World} (h : SR C st g a w) {n : Nat} {ds ds' : List D} (hn : lk st.bs n = some ds) (hd : ∀ vs, Reps g w ds vs → Reps g w ds' vs) : SR C { st with bs := (n, ds') :: st.bs } g a w := by
  have m := h.mem
  refine ⟨h.defers, h.size, h.rep, { m with bxs := fun k es hk => ?_ }, h.x, h.fix⟩
  simp only [lk] at hk
  split at hk
  · rename_i hkn
    subst hkn
    cases hk
    obtain ⟨b, cs, t, h1, h2, h3⟩ := m.bxs _ ds hn
    exact ⟨b, cs, t, h1, h2, hd _ h3⟩
  · exact m.bxs k es hk

theorem purges_at : ∀ (t : Nat) (ds : List D) (i : Nat), ds[i]? = some .nils → (D.purges t ds)[i]? = some .nils
  | _, [], _, h => by simp at h
  | t, d :: ds, 0, h => by
    simp only [List.getElem?_cons_zero, Option.some.injEq] at h
    subst h
    simp [D.purges, D.purge]
  | t, d :: ds, i + 1, h => by
    simp only [List.getElem?_cons_succ] at h
    simpa [D.purges] using purges_at t ds i h

theorem lk_purge {st : St} {t n : Nat} {ds : List D} (h : lk st.bs n = some ds) : lk (st.purge t).bs n = some (D.purges t ds) := by
  simp only [St.purge]
  rw [lk_map (fun ds => D.purges t ds) st.bs n, h]; rfl

theorem Weak.ownB0 {P : Program} {st : St} (n i t : Nat) (e : TypeId) {ti : TypeInfo} (hi : P.info? e = some ti) (hpos : 0 < ti.size) {ds : List D} (h : lk st.bs n = some ds) (hn : ds[i]? = some .nils) :
    Weak P st { st.purge t with bs := (n, (D.purges t ds).set i (.own e ti.size [] t)) :: (st.purge t).bs } := by
  intro C g a w hP hs
  subst hP
  have h1 := hs.purge t
  obtain ⟨h2, _⟩ := SR.owned h1 t (by simp) (grownBy_same w none) _ h1.x (fun k e => by cases e) (fun _ h => h) (fun k e => by cases e) e ti hi hpos (.slice none 0 0) 0 [] (World.ownsRow_nil _ _ _ _) (fun b hb => by cases hb) (fun b o _ hb => by cases hb)
  refine ⟨_, h2.tellB (lk_purge h) fun vs hv => ?_⟩
  refine hv.tell i fun v hvi => ?_
  obtain ⟨u, hu, hr⟩ := hv.get i _ (purges_at t ds i hn)
  rw [hvi] at hu
  cases hu
  simp only [Rep] at hr
  rw [hr]
  simp only [Rep]
  exact ⟨.empty _ _, by simp, by simp⟩

theorem Weak.ownB {P : Program} {st st' : St} (n i t : Nat) (e : TypeId) (sz : Nat) (hi : (P.info? e).map (·.size) = some sz) (hpos : 0 < sz) {ds : List D} (h : lk st.bs n = some ds) (hn : ds[i]? = some .nils)
    (hf : lessL st'.fr (st.purge t).fr) (hb : lessL st'.bs ((n, (D.purges t ds).set i (.own e sz [] t)) :: (st.purge t).bs)) (hm : lessL st'.ms st.ms) (hh : st'.hs = st.hs) : Weak P st st' := by
  obtain ⟨ti, h1, rfl⟩ := Option.map_eq_some_iff.1 hi
  exact (Weak.ownB0 n i t e h1 hpos h hn).trans (Weak.less hf hb hm hh)

/-- A piece of code by itself. -/
theorem run_cut {P : Program} {x y : AC} {st s1 : St} {S : List Fr} {K : Exit → St → Prop} (h1 : ∀ K' : Exit → St → Prop, K' .normal s1 → run P x st (contS P [] K')) (h2 : run P y s1 (contS P S K)) : run P (.seq x y) st (contS P S K) := by
  rw [run_seq]; exact h1 (contS P (.seq y :: S) K) h2

theorem few_size (s : ByteArray) : (few s).size ≤ 100 := by
  unfold few
  split
  · assumption
  · simp [ByteArray.size_extract]; omega

theorem law3_Few (k : Int) (v : ByteArray) : Pure Tryz.prog 47 [.agg [int k, str v]] (fun d => d = .agg [int k, str (few v)]) := by
  refine pure_of_run follows an_z168 Tryz.func47 rfl ok_z168 dst_z168 (by simp [Tryz.ntmps47]) ?_
  rw [run_start]
  simp only [ac_z168, go_sem, contS_seq, reduceIte, reduceCtorEq, Nat.reduceEqDiff, Nat.reduceAdd, Nat.reduceBEq, Nat.reduceBNe, Int.reduceLE, Int.reduceLT, Int.reduceToNat, Int.reduceEq, Nat.reduceLeDiff, Nat.reduceLT, Nat.reducePow, Nat.reduceDiv, Nat.reduceMod]
  refine (law1_Few v).callW (enters_of Tryz.func30 rfl rfl) _ rfl rfl ?_
  rintro d rfl
  simp only [go_sem, contS_seq, reduceIte, reduceCtorEq, Nat.reduceEqDiff, Nat.reduceAdd, Nat.reduceBEq, Nat.reduceBNe, Int.reduceLE, Int.reduceLT, Int.reduceToNat, Int.reduceEq, Nat.reduceLeDiff, Nat.reduceLT, Nat.reducePow, Nat.reduceDiv, Nat.reduceMod]
  simp only [retK, fullK, iterK, resD, resA, AOp.ex, St.ev, Option.map_some, Option.bind_some, St.get, lk, reduceIte, Nat.reduceEqDiff, Option.getD_some, oneD, List.getElem?_cons_zero, List.getElem?_cons_succ, List.drop_zero, List.drop_succ_cons, List.take_succ_cons, List.take_zero, List.length_cons, List.length_nil, Nat.zero_add, Nat.reduceAdd, Nat.le_refl, Nat.reduceLeDiff, D.pub, D.pubs, ret_z168]
  exact ⟨_, rfl, rfl, rfl⟩

def fewPair (p : APair) : APair := ⟨few p.name, few p.val⟩
def fewPairs (l : List APair) : List APair := (l.take 31).map fewPair

theorem fewPair_ok (p : APair) : (fewPair p).ok := ⟨by have := few_size p.name; simp [fewPair]; omega, by have := few_size p.val; simp [fewPair]; omega⟩

/-- What one more round brings. -/
theorem few_step {α β : Type} {f : β → List PD} {g : α → β} {l : List α} {i : Nat} {x : α} (h : l[i]? = some x) : rows f ((l.take i).map g) ++ [f (g x)] = rows f ((l.take (i + 1)).map g) := by
  rw [take_at h, List.map_append]; exact rows_one _ (g x)

theorem few_len {α β : Type} {f : β → List PD} {g : α → β} {l : List α} {i n : Nat} (h : i ≤ n) : (rows f ((l.take i).map g)).length ≤ n := by simp [rows]; omega

theorem few_end {α β : Type} {g : α → β} {l : List α} {i n : Nat} (h : i ≤ n) (hl : i ≤ l.length) (he : ¬ (i < l.length ∧ i < n)) : (l.take i).map g = (l.take n).map g := by
  rcases Nat.lt_or_ge i n with h6 | h6
  · rw [List.take_of_length_le (by omega), List.take_of_length_le (by omega)]
  · rw [show i = n by omega]

theorem law5_Few (l : List APair) : Pure Tryz.prog 29 [.pd (.slice (rows APair.pd l))] (fun d => d = .pd (.slice (rows APair.pd (fewPairs l)))) := by
  refine pure_of_run follows an_z169 Tryz.func29 rfl ok_z169 dst_z169 (by simp [Tryz.ntmps29]) ?_
  rw [run_start]
  simp only [ac_z169, go_sem, contS_seq, reduceIte, reduceCtorEq, Nat.reduceEqDiff, Nat.reduceAdd, Nat.reduceBEq, Nat.reduceBNe, Int.reduceLE, Int.reduceLT, Int.reduceToNat, Int.reduceEq, Nat.reduceLeDiff, Nat.reduceLT, Nat.reducePow, Nat.reduceDiv, Nat.reduceMod, rows_len]
  refine loopS (fun k st => ∃ i : Nat, k = 31 - i ∧ i ≤ 31 ∧ i ≤ l.length ∧
    st = ⟨[(0, .pd (.slice (rows APair.pd l))), (3, .own 95 2 (rows APair.pd ((l.take i).map fewPair)) 30), (4, int i)], [], [], .no⟩) 31 _
    ?_ ⟨0, rfl, by omega, by omega, rfl⟩ ?_
  · exact Weak.own1 3 30 95 2 (by kernel_rfl) (by decide) rfl (by simp [lessL, lk, St.purge, St.put, D.purge, rows]) (by simp [lessL, lk, St.purge, D.purges, D.purge]) (by simp [lessL]) rfl
  rintro k st ⟨i, rfl, hi6, hi, rfl⟩
  have hw := i64_succ (show i < 1000000000 by omega)
  by_cases hlt : i < l.length ∧ i < 31
  · obtain ⟨x, hx⟩ := at_lt hlt.1
    have h1 : ((i : Int) < (l.length : Int)) = True := eq_true (by omega)
    have h2 : ((i : Int) < 31) = True := eq_true (by omega)
    simp only [go_sem, contS_seq, reduceIte, reduceCtorEq, Nat.reduceEqDiff, Nat.reduceAdd, Nat.reduceBEq, Nat.reduceBNe, Int.reduceLE, Int.reduceLT, Int.reduceToNat, Int.reduceEq, Nat.reduceLeDiff, Nat.reduceLT, Nat.reducePow, Nat.reduceDiv, Nat.reduceMod, go_sem, rows_len, rows_get hx, h1, h2]
    refine (law1_Few x.name).callX (enters_of Tryz.func30 rfl rfl) _ rfl rfl ?_
    rintro d rfl
    simp only [go_sem, contS_seq, reduceIte, reduceCtorEq, Nat.reduceEqDiff, Nat.reduceAdd, Nat.reduceBEq, Nat.reduceBNe, Int.reduceLE, Int.reduceLT, Int.reduceToNat, Int.reduceEq, Nat.reduceLeDiff, Nat.reduceLT, Nat.reducePow, Nat.reduceDiv, Nat.reduceMod, go_sem, rows_len, rows_get hx]
    refine (law1_Few x.val).callX (enters_of Tryz.func30 rfl rfl) _ rfl rfl ?_
    rintro d rfl
    simp only [go_sem, contS_seq, reduceIte, reduceCtorEq, Nat.reduceEqDiff, Nat.reduceAdd, Nat.reduceBEq, Nat.reduceBNe, Int.reduceLE, Int.reduceLT, Int.reduceToNat, Int.reduceEq, Nat.reduceLeDiff, Nat.reduceLT, Nat.reducePow, Nat.reduceDiv, Nat.reduceMod, go_sem, hw]
    have hl := few_len (f := APair.pd) (g := fewPair) (l := l) hi6
    have e1 : rows APair.pd ((l.take i).map fewPair) ++ [[PD.raw (Value.string (few x.name)), PD.raw (Value.string (few x.val))]] = rows APair.pd ((l.take (i + 1)).map fewPair) := few_step hx
    rw [e1]
    refine ⟨by simp, by unfold maxLen; omega, by omega, 31 - (i + 1), _, by omega, ?_, i + 1, rfl, by omega, by omega, rfl⟩
    exact Weak.less (by simp [lessL, lk]) (by simp [lessL, lk]) (by simp [lessL, lk]) rfl
  · have h3 := few_end (g := fewPair) hi6 hi hlt
    rw [h3]
    by_cases h1 : i < l.length
    · have h1' : ((i : Int) < (l.length : Int)) = True := eq_true (by omega)
      have h2 : ((i : Int) < 31) = False := eq_false (by omega)
      simp only [go_sem, contS_seq, reduceIte, reduceCtorEq, Nat.reduceEqDiff, Nat.reduceAdd, Nat.reduceBEq, Nat.reduceBNe, Int.reduceLE, Int.reduceLT, Int.reduceToNat, Int.reduceEq, Nat.reduceLeDiff, Nat.reduceLT, Nat.reducePow, Nat.reduceDiv, Nat.reduceMod, go_sem, rows_len, h1', h2]
      simp only [retK, fullK, iterK, resD, resA, AOp.ex, St.ev, Option.map_some, Option.bind_some, St.get, lk, reduceIte, Nat.reduceEqDiff, Option.getD_some, oneD, List.getElem?_cons_zero, List.getElem?_cons_succ, List.drop_zero, List.drop_succ_cons, List.take_succ_cons, List.take_zero, List.length_cons, List.length_nil, Nat.zero_add, Nat.reduceAdd, Nat.le_refl, Nat.reduceLeDiff, D.pub, D.pubs, Tryz.results29]
      exact ⟨_, rfl, rfl, rfl⟩
    · have h1' : ((i : Int) < (l.length : Int)) = False := eq_false (by omega)
      simp only [go_sem, contS_seq, reduceIte, reduceCtorEq, Nat.reduceEqDiff, Nat.reduceAdd, Nat.reduceBEq, Nat.reduceBNe, Int.reduceLE, Int.reduceLT, Int.reduceToNat, Int.reduceEq, Nat.reduceLeDiff, Nat.reduceLT, Nat.reducePow, Nat.reduceDiv, Nat.reduceMod, go_sem, rows_len, h1']
      simp only [retK, fullK, iterK, resD, resA, AOp.ex, St.ev, Option.map_some, Option.bind_some, St.get, lk, reduceIte, Nat.reduceEqDiff, Option.getD_some, oneD, List.getElem?_cons_zero, List.getElem?_cons_succ, List.drop_zero, List.drop_succ_cons, List.take_succ_cons, List.take_zero, List.length_cons, List.length_nil, Nat.zero_add, Nat.reduceAdd, Nat.le_refl, Nat.reduceLeDiff, D.pub, D.pubs, Tryz.results29]
      exact ⟨_, rfl, rfl, rfl⟩

/-! Filters, sides, needs. -/

def fewFilter (f : AFilter) : AFilter := { f with name := few f.name, val := few f.val, host := few f.host, path := few f.path }
def fewFilters (l : List AFilter) : List AFilter := (l.take 9).map fewFilter
def fewSide (s : ASide) : ASide := ⟨s.kind, few s.space, few s.name⟩
def fewSides (l : List ASide) : List ASide := (l.take 5).map fewSide

theorem law7_Few (l : List AFilter) : Pure Tryz.prog 33 [.pd (.slice (rows AFilter.pd l))] (fun d => d = .pd (.slice (rows AFilter.pd (fewFilters l)))) := by
  refine pure_of_run follows an_z171 Tryz.func33 rfl ok_z171 dst_z171 (by simp [Tryz.ntmps33]) ?_
  rw [run_start]
  simp only [ac_z171, go_sem, contS_seq, reduceIte, reduceCtorEq, Nat.reduceEqDiff, Nat.reduceAdd, Nat.reduceBEq, Nat.reduceBNe, Int.reduceLE, Int.reduceLT, Int.reduceToNat, Int.reduceEq, Nat.reduceLeDiff, Nat.reduceLT, Nat.reducePow, Nat.reduceDiv, Nat.reduceMod, rows_len]
  refine loopS (fun k st => ∃ i : Nat, k = 9 - i ∧ i ≤ 9 ∧ i ≤ l.length ∧
    st = ⟨[(0, .pd (.slice (rows AFilter.pd l))), (3, .own 99 8 (rows AFilter.pd ((l.take i).map fewFilter)) 39), (4, int i)], [], [], .no⟩) 9 _
    ?_ ⟨0, rfl, by omega, by omega, rfl⟩ ?_
  · exact Weak.own1 3 39 99 8 (by kernel_rfl) (by decide) rfl (by simp [lessL, lk, St.purge, St.put, D.purge, rows]) (by simp [lessL, lk, St.purge, D.purges, D.purge]) (by simp [lessL]) rfl
  rintro k st ⟨i, rfl, hi6, hi, rfl⟩
  have hw := i64_succ (show i < 1000000000 by omega)
  by_cases hlt : i < l.length ∧ i < 9
  · obtain ⟨x, hx⟩ := at_lt hlt.1
    have h1 : ((i : Int) < (l.length : Int)) = True := eq_true (by omega)
    have h2 : ((i : Int) < 9) = True := eq_true (by omega)
    simp only [go_sem, contS_seq, reduceIte, reduceCtorEq, Nat.reduceEqDiff, Nat.reduceAdd, Nat.reduceBEq, Nat.reduceBNe, Int.reduceLE, Int.reduceLT, Int.reduceToNat, Int.reduceEq, Nat.reduceLeDiff, Nat.reduceLT, Nat.reducePow, Nat.reduceDiv, Nat.reduceMod, rows_len, rows_get hx, h1, h2]
    refine (law1_Few x.name).callX (enters_of Tryz.func30 rfl rfl) _ rfl rfl ?_
    rintro d rfl
    simp only [go_sem, contS_seq, reduceIte, reduceCtorEq, Nat.reduceEqDiff, Nat.reduceAdd, Nat.reduceBEq, Nat.reduceBNe, Int.reduceLE, Int.reduceLT, Int.reduceToNat, Int.reduceEq, Nat.reduceLeDiff, Nat.reduceLT, Nat.reducePow, Nat.reduceDiv, Nat.reduceMod, rows_len, rows_get hx]
    refine (law1_Few x.val).callX (enters_of Tryz.func30 rfl rfl) _ rfl rfl ?_
    rintro d rfl
    simp only [go_sem, contS_seq, reduceIte, reduceCtorEq, Nat.reduceEqDiff, Nat.reduceAdd, Nat.reduceBEq, Nat.reduceBNe, Int.reduceLE, Int.reduceLT, Int.reduceToNat, Int.reduceEq, Nat.reduceLeDiff, Nat.reduceLT, Nat.reducePow, Nat.reduceDiv, Nat.reduceMod, rows_len, rows_get hx]
    refine (law1_Few x.host).callX (enters_of Tryz.func30 rfl rfl) _ rfl rfl ?_
    rintro d rfl
    simp only [go_sem, contS_seq, reduceIte, reduceCtorEq, Nat.reduceEqDiff, Nat.reduceAdd, Nat.reduceBEq, Nat.reduceBNe, Int.reduceLE, Int.reduceLT, Int.reduceToNat, Int.reduceEq, Nat.reduceLeDiff, Nat.reduceLT, Nat.reducePow, Nat.reduceDiv, Nat.reduceMod, rows_len, rows_get hx]
    refine (law1_Few x.path).callX (enters_of Tryz.func30 rfl rfl) _ rfl rfl ?_
    rintro d rfl
    simp only [go_sem, contS_seq, reduceIte, reduceCtorEq, Nat.reduceEqDiff, Nat.reduceAdd, Nat.reduceBEq, Nat.reduceBNe, Int.reduceLE, Int.reduceLT, Int.reduceToNat, Int.reduceEq, Nat.reduceLeDiff, Nat.reduceLT, Nat.reducePow, Nat.reduceDiv, Nat.reduceMod, rows_len, rows_get hx, hw]
    have hl := few_len (f := AFilter.pd) (g := fewFilter) (l := l) hi6
    have hl' : ((l.take i).map fewFilter).length ≤ i := by simp; omega
    have e1 : rows AFilter.pd ((l.take i).map fewFilter) ++ [[PD.raw (Value.int IntKind.i64 x.kind), PD.raw (Value.string (few x.name)), PD.raw (Value.string (few x.val)), PD.raw (Value.string (few x.host)), PD.raw (Value.int IntKind.i64 x.port), PD.raw (Value.string (few x.path)), PD.raw (Value.bool x.whole), PD.raw (Value.int IntKind.i64 x.code)]] = rows AFilter.pd ((l.take (i + 1)).map fewFilter) := few_step hx
    rw [e1]
    refine ⟨by simp, by unfold maxLen; omega, by omega, 9 - (i + 1), _, by omega, ?_, i + 1, rfl, by omega, by omega, rfl⟩
    exact Weak.less (by simp [lessL, lk]) (by simp [lessL, lk]) (by simp [lessL, lk]) rfl
  · have h3 := few_end (g := fewFilter) hi6 hi hlt
    rw [h3]
    by_cases h1 : i < l.length
    · have h1' : ((i : Int) < (l.length : Int)) = True := eq_true (by omega)
      have h2 : ((i : Int) < 9) = False := eq_false (by omega)
      simp only [go_sem, contS_seq, reduceIte, reduceCtorEq, Nat.reduceEqDiff, Nat.reduceAdd, Nat.reduceBEq, Nat.reduceBNe, Int.reduceLE, Int.reduceLT, Int.reduceToNat, Int.reduceEq, Nat.reduceLeDiff, Nat.reduceLT, Nat.reducePow, Nat.reduceDiv, Nat.reduceMod, rows_len, h1', h2]
      simp only [retK, fullK, iterK, resD, resA, AOp.ex, St.ev, Option.map_some, Option.bind_some, St.get, lk, reduceIte, Nat.reduceEqDiff, Option.getD_some, oneD, List.getElem?_cons_zero, List.getElem?_cons_succ, List.drop_zero, List.drop_succ_cons, List.take_succ_cons, List.take_zero, List.length_cons, List.length_nil, Nat.zero_add, Nat.reduceAdd, Nat.le_refl, Nat.reduceLeDiff, D.pub, D.pubs, Tryz.results33]
      exact ⟨_, rfl, rfl, rfl⟩
    · have h1' : ((i : Int) < (l.length : Int)) = False := eq_false (by omega)
      simp only [go_sem, contS_seq, reduceIte, reduceCtorEq, Nat.reduceEqDiff, Nat.reduceAdd, Nat.reduceBEq, Nat.reduceBNe, Int.reduceLE, Int.reduceLT, Int.reduceToNat, Int.reduceEq, Nat.reduceLeDiff, Nat.reduceLT, Nat.reducePow, Nat.reduceDiv, Nat.reduceMod, rows_len, h1']
      simp only [retK, fullK, iterK, resD, resA, AOp.ex, St.ev, Option.map_some, Option.bind_some, St.get, lk, reduceIte, Nat.reduceEqDiff, Option.getD_some, oneD, List.getElem?_cons_zero, List.getElem?_cons_succ, List.drop_zero, List.drop_succ_cons, List.take_succ_cons, List.take_zero, List.length_cons, List.length_nil, Nat.zero_add, Nat.reduceAdd, Nat.le_refl, Nat.reduceLeDiff, D.pub, D.pubs, Tryz.results33]
      exact ⟨_, rfl, rfl, rfl⟩

theorem law9_sides (l : List ASide) : Pure Tryz.prog 31 [.pd (.slice (rows ASide.pd l))] (fun d => d = .pd (.slice (rows ASide.pd (fewSides l)))) := by
  refine pure_of_run follows an_z173 Tryz.func31 rfl ok_z173 dst_z173 (by simp [Tryz.ntmps31]) ?_
  rw [run_start]
  simp only [ac_z173, go_sem, contS_seq, reduceIte, reduceCtorEq, Nat.reduceEqDiff, Nat.reduceAdd, Nat.reduceBEq, Nat.reduceBNe, Int.reduceLE, Int.reduceLT, Int.reduceToNat, Int.reduceEq, Nat.reduceLeDiff, Nat.reduceLT, Nat.reducePow, Nat.reduceDiv, Nat.reduceMod, rows_len]
  refine loopS (fun k st => ∃ i : Nat, k = 5 - i ∧ i ≤ 5 ∧ i ≤ l.length ∧
    st = ⟨[(0, .pd (.slice (rows ASide.pd l))), (3, .own 60 3 (rows ASide.pd ((l.take i).map fewSide)) 35), (4, int i)], [], [], .no⟩) 5 _
    ?_ ⟨0, rfl, by omega, by omega, rfl⟩ ?_
  · exact Weak.own1 3 35 60 3 (by kernel_rfl) (by decide) rfl (by simp [lessL, lk, St.purge, St.put, D.purge, rows]) (by simp [lessL, lk, St.purge, D.purges, D.purge]) (by simp [lessL]) rfl
  rintro k st ⟨i, rfl, hi6, hi, rfl⟩
  have hw := i64_succ (show i < 1000000000 by omega)
  by_cases hlt : i < l.length ∧ i < 5
  · obtain ⟨x, hx⟩ := at_lt hlt.1
    have h1 : ((i : Int) < (l.length : Int)) = True := eq_true (by omega)
    have h2 : ((i : Int) < 5) = True := eq_true (by omega)
    simp only [go_sem, contS_seq, reduceIte, reduceCtorEq, Nat.reduceEqDiff, Nat.reduceAdd, Nat.reduceBEq, Nat.reduceBNe, Int.reduceLE, Int.reduceLT, Int.reduceToNat, Int.reduceEq, Nat.reduceLeDiff, Nat.reduceLT, Nat.reducePow, Nat.reduceDiv, Nat.reduceMod, rows_len, rows_get hx, h1, h2]
    refine (law1_Few x.space).callX (enters_of Tryz.func30 rfl rfl) _ rfl rfl ?_
    rintro d rfl
    simp only [go_sem, contS_seq, reduceIte, reduceCtorEq, Nat.reduceEqDiff, Nat.reduceAdd, Nat.reduceBEq, Nat.reduceBNe, Int.reduceLE, Int.reduceLT, Int.reduceToNat, Int.reduceEq, Nat.reduceLeDiff, Nat.reduceLT, Nat.reducePow, Nat.reduceDiv, Nat.reduceMod, rows_len, rows_get hx]
    refine (law1_Few x.name).callX (enters_of Tryz.func30 rfl rfl) _ rfl rfl ?_
    rintro d rfl
    simp only [go_sem, contS_seq, reduceIte, reduceCtorEq, Nat.reduceEqDiff, Nat.reduceAdd, Nat.reduceBEq, Nat.reduceBNe, Int.reduceLE, Int.reduceLT, Int.reduceToNat, Int.reduceEq, Nat.reduceLeDiff, Nat.reduceLT, Nat.reducePow, Nat.reduceDiv, Nat.reduceMod, rows_len, rows_get hx, hw]
    have hl := few_len (f := ASide.pd) (g := fewSide) (l := l) hi6
    have hl' : ((l.take i).map fewSide).length ≤ i := by simp; omega
    have e1 : rows ASide.pd ((l.take i).map fewSide) ++ [[PD.raw (Value.int IntKind.i64 x.kind), PD.raw (Value.string (few x.space)), PD.raw (Value.string (few x.name))]] = rows ASide.pd ((l.take (i + 1)).map fewSide) := few_step hx
    rw [e1]
    refine ⟨by simp, by unfold maxLen; omega, by omega, 5 - (i + 1), _, by omega, ?_, i + 1, rfl, by omega, by omega, rfl⟩
    exact Weak.less (by simp [lessL, lk]) (by simp [lessL, lk]) (by simp [lessL, lk]) rfl
  · have h3 := few_end (g := fewSide) hi6 hi hlt
    rw [h3]
    by_cases h1 : i < l.length
    · have h1' : ((i : Int) < (l.length : Int)) = True := eq_true (by omega)
      have h2 : ((i : Int) < 5) = False := eq_false (by omega)
      simp only [go_sem, contS_seq, reduceIte, reduceCtorEq, Nat.reduceEqDiff, Nat.reduceAdd, Nat.reduceBEq, Nat.reduceBNe, Int.reduceLE, Int.reduceLT, Int.reduceToNat, Int.reduceEq, Nat.reduceLeDiff, Nat.reduceLT, Nat.reducePow, Nat.reduceDiv, Nat.reduceMod, rows_len, h1', h2]
      simp only [retK, fullK, iterK, resD, resA, AOp.ex, St.ev, Option.map_some, Option.bind_some, St.get, lk, reduceIte, Nat.reduceEqDiff, Option.getD_some, oneD, List.getElem?_cons_zero, List.getElem?_cons_succ, List.drop_zero, List.drop_succ_cons, List.take_succ_cons, List.take_zero, List.length_cons, List.length_nil, Nat.zero_add, Nat.reduceAdd, Nat.le_refl, Nat.reduceLeDiff, D.pub, D.pubs, Tryz.results31]
      exact ⟨_, rfl, rfl, rfl⟩
    · have h1' : ((i : Int) < (l.length : Int)) = False := eq_false (by omega)
      simp only [go_sem, contS_seq, reduceIte, reduceCtorEq, Nat.reduceEqDiff, Nat.reduceAdd, Nat.reduceBEq, Nat.reduceBNe, Int.reduceLE, Int.reduceLT, Int.reduceToNat, Int.reduceEq, Nat.reduceLeDiff, Nat.reduceLT, Nat.reducePow, Nat.reduceDiv, Nat.reduceMod, rows_len, h1']
      simp only [retK, fullK, iterK, resD, resA, AOp.ex, St.ev, Option.map_some, Option.bind_some, St.get, lk, reduceIte, Nat.reduceEqDiff, Option.getD_some, oneD, List.getElem?_cons_zero, List.getElem?_cons_succ, List.drop_zero, List.drop_succ_cons, List.take_succ_cons, List.take_zero, List.length_cons, List.length_nil, Nat.zero_add, Nat.reduceAdd, Nat.le_refl, Nat.reduceLeDiff, D.pub, D.pubs, Tryz.results31]
      exact ⟨_, rfl, rfl, rfl⟩

def fewMatch (m : AMatch) : AMatch := ⟨m.pkind, few m.pval, few m.method, fewPairs m.head, fewPairs m.query⟩

theorem law6_Few (m : AMatch) : Pure Tryz.prog 34 [m.d] (fun d => d = (fewMatch m).d) := by
  refine pure_of_run follows an_z170 Tryz.func34 rfl ok_z170 dst_z170 (by simp [Tryz.ntmps34]) ?_
  rw [run_start]
  simp only [ac_z170, go_sem, contS_seq, reduceIte, reduceCtorEq, Nat.reduceEqDiff, Nat.reduceAdd, Nat.reduceBEq, Nat.reduceBNe, Int.reduceLE, Int.reduceLT, Int.reduceToNat, Int.reduceEq, Nat.reduceLeDiff, Nat.reduceLT, Nat.reducePow, Nat.reduceDiv, Nat.reduceMod]
  refine (law3_Few m.pkind m.pval).callX (enters_of Tryz.func47 rfl rfl) _ rfl rfl ?_
  rintro d rfl
  simp only [go_sem, contS_seq, reduceIte, reduceCtorEq, Nat.reduceEqDiff, Nat.reduceAdd, Nat.reduceBEq, Nat.reduceBNe, Int.reduceLE, Int.reduceLT, Int.reduceToNat, Int.reduceEq, Nat.reduceLeDiff, Nat.reduceLT, Nat.reducePow, Nat.reduceDiv, Nat.reduceMod]
  refine (law1_Few m.method).callX (enters_of Tryz.func30 rfl rfl) _ rfl rfl ?_
  rintro d rfl
  simp only [go_sem, contS_seq, reduceIte, reduceCtorEq, Nat.reduceEqDiff, Nat.reduceAdd, Nat.reduceBEq, Nat.reduceBNe, Int.reduceLE, Int.reduceLT, Int.reduceToNat, Int.reduceEq, Nat.reduceLeDiff, Nat.reduceLT, Nat.reducePow, Nat.reduceDiv, Nat.reduceMod]
  refine (law5_Few m.head).callX (enters_of Tryz.func29 rfl rfl) _ rfl rfl ?_
  rintro d rfl
  simp only [go_sem, contS_seq, reduceIte, reduceCtorEq, Nat.reduceEqDiff, Nat.reduceAdd, Nat.reduceBEq, Nat.reduceBNe, Int.reduceLE, Int.reduceLT, Int.reduceToNat, Int.reduceEq, Nat.reduceLeDiff, Nat.reduceLT, Nat.reducePow, Nat.reduceDiv, Nat.reduceMod]
  refine (law5_Few m.query).callX (enters_of Tryz.func29 rfl rfl) _ rfl rfl ?_
  rintro d rfl
  simp only [go_sem, contS_seq, reduceIte, reduceCtorEq, Nat.reduceEqDiff, Nat.reduceAdd, Nat.reduceBEq, Nat.reduceBNe, Int.reduceLE, Int.reduceLT, Int.reduceToNat, Int.reduceEq, Nat.reduceLeDiff, Nat.reduceLT, Nat.reducePow, Nat.reduceDiv, Nat.reduceMod]
  simp only [retK, fullK, iterK, resD, resA, AOp.ex, St.ev, Option.map_some, Option.bind_some, St.get, lk, reduceIte, Nat.reduceEqDiff, Option.getD_some, oneD, List.getElem?_cons_zero, List.getElem?_cons_succ, List.drop_zero, List.drop_succ_cons, List.take_succ_cons, List.take_zero, List.length_cons, List.length_nil, Nat.zero_add, Nat.reduceAdd, Nat.le_refl, Nat.reduceLeDiff, D.pub, D.pubs, ret_z170]
  exact ⟨_, rfl, rfl, rfl⟩

def fewNeed (n : ANeed) : ANeed := ⟨n.kind, few n.name, (n.vals.take 9).map few⟩
def fewNeeds (l : List ANeed) : List ANeed := (l.take 9).map fewNeed

theorem law8_Few (l : List ANeed) : Pure Tryz.prog 32 [.pd (.slice (rows ANeed.pd l))] (fun d => d = .pd (.slice (rows ANeed.pd (fewNeeds l)))) := by
  refine pure_of_run follows an_z172 Tryz.func32 rfl ok_z172 dst_z172 (by simp [Tryz.ntmps32]) ?_
  rw [run_start]
  simp only [ac_z172, go_sem, contS_seq, reduceIte, reduceCtorEq, Nat.reduceEqDiff, Nat.reduceAdd, Nat.reduceBEq, Nat.reduceBNe, Int.reduceLE, Int.reduceLT, Int.reduceToNat, Int.reduceEq, Nat.reduceLeDiff, Nat.reduceLT, Nat.reducePow, Nat.reduceDiv, Nat.reduceMod, rows_len]
  refine loopS (fun k st => ∃ i : Nat, k = 9 - i ∧ i ≤ 9 ∧ i ≤ l.length ∧
    st = ⟨[(0, .pd (.slice (rows ANeed.pd l))), (3, .own 97 3 (rows ANeed.pd ((l.take i).map fewNeed)) 60), (4, int i)], [], [], .no⟩) 9 _
    ?_ ⟨0, rfl, by omega, by omega, rfl⟩ ?_
  · exact Weak.own1 3 60 97 3 (by kernel_rfl) (by decide) rfl (by simp [lessL, lk, St.purge, St.put, D.purge, rows]) (by simp [lessL, lk, St.purge, D.purges, D.purge]) (by simp [lessL]) rfl
  rintro k st ⟨i, rfl, hi6, hi, rfl⟩
  have hw := i64_succ (show i < 1000000000 by omega)
  by_cases hlt : i < l.length ∧ i < 9
  · obtain ⟨x, hx⟩ := at_lt hlt.1
    have h1 : ((i : Int) < (l.length : Int)) = True := eq_true (by omega)
    have h2 : ((i : Int) < 9) = True := eq_true (by omega)
    apply run_cut
    · intro K' hK
      simp only [go_sem, contS_seq, reduceIte, reduceCtorEq, Nat.reduceEqDiff, Nat.reduceAdd, Nat.reduceBEq, Nat.reduceBNe, Int.reduceLE, Int.reduceLT, Int.reduceToNat, Int.reduceEq, Nat.reduceLeDiff, Nat.reduceLT, Nat.reducePow, Nat.reduceDiv, Nat.reduceMod, rows_len, h1, h2]
      exact hK
    apply run_cut
    · intro K' hK
      rw [run_block]
      apply run_cut
      · intro K'' hK'
        simp only [go_sem, contS_seq, reduceIte, reduceCtorEq, Nat.reduceEqDiff, Nat.reduceAdd, Nat.reduceBEq, Nat.reduceBNe, Int.reduceLE, Int.reduceLT, Int.reduceToNat, Int.reduceEq, Nat.reduceLeDiff, Nat.reduceLT, Nat.reducePow, Nat.reduceDiv, Nat.reduceMod, rows_len, rows_get hx]
        repeat' (first | exact hK' | (refine (law1_Few x.name).callX (enters_of Tryz.func30 rfl rfl) _ rfl rfl ?_; rintro _ rfl; simp only [go_sem, contS_seq, reduceIte, reduceCtorEq, Nat.reduceEqDiff, Nat.reduceAdd, Nat.reduceBEq, Nat.reduceBNe, Int.reduceLE, Int.reduceLT, Int.reduceToNat, Int.reduceEq, Nat.reduceLeDiff, Nat.reduceLT, Nat.reducePow, Nat.reduceDiv, Nat.reduceMod, rows_len, rows_get hx]) | refine And.intro ?_ ?_)
      simp only [go_sem, contS_seq, reduceIte, reduceCtorEq, Nat.reduceEqDiff, Nat.reduceAdd, Nat.reduceBEq, Nat.reduceBNe, Int.reduceLE, Int.reduceLT, Int.reduceToNat, Int.reduceEq, Nat.reduceLeDiff, Nat.reduceLT, Nat.reducePow, Nat.reduceDiv, Nat.reduceMod]
      refine loopS (fun k st => ∃ j : Nat, k = 9 - j ∧ j ≤ 9 ∧ j ≤ x.vals.length ∧
        st = ⟨[(0, .pd (.slice (rows ANeed.pd l))), (3, .own 97 3 (rows ANeed.pd ((l.take i).map fewNeed)) 60), (4, int i), (5, .ptr 5 0), (6, int j)],
          [(5, [int x.kind, str (few x.name), .own 9 1 (strs ((x.vals.take j).map few)) 55])], [], .no⟩) 9 _
        ?_ ⟨0, rfl, by omega, by omega, rfl⟩ ?_
      · exact Weak.ownB 5 2 55 9 1 (by kernel_rfl) (by decide) rfl rfl (by simp [lessL, lk, St.purge, D.purge, rows]) (by simp [lessL, lk, St.purge, D.purges, D.purge, rows]) (by simp [lessL]) rfl
      rintro k st ⟨j, rfl, hj6, hj, rfl⟩
      have hwj := i64_succ (show j < 1000000000 by omega)
      by_cases hltj : j < x.vals.length ∧ j < 9
      · obtain ⟨v, hv⟩ := at_lt hltj.1
        have h1' : ((j : Int) < (x.vals.length : Int)) = True := eq_true (by omega)
        have h2' : ((j : Int) < 9) = True := eq_true (by omega)
        simp only [go_sem, contS_seq, reduceIte, reduceCtorEq, Nat.reduceEqDiff, Nat.reduceAdd, Nat.reduceBEq, Nat.reduceBNe, Int.reduceLE, Int.reduceLT, Int.reduceToNat, Int.reduceEq, Nat.reduceLeDiff, Nat.reduceLT, Nat.reducePow, Nat.reduceDiv, Nat.reduceMod, rows_len, rows_get hx, rows_get hv, h1', h2']
        refine (law1_Few v).callX (enters_of Tryz.func30 rfl rfl) _ rfl rfl ?_
        rintro d rfl
        simp only [go_sem, contS_seq, reduceIte, reduceCtorEq, Nat.reduceEqDiff, Nat.reduceAdd, Nat.reduceBEq, Nat.reduceBNe, Int.reduceLE, Int.reduceLT, Int.reduceToNat, Int.reduceEq, Nat.reduceLeDiff, Nat.reduceLT, Nat.reducePow, Nat.reduceDiv, Nat.reduceMod, rows_get hx, rows_get hv, hwj]
        have e1 : strs ((x.vals.take j).map few) ++ [[PD.raw (Value.string (few v))]] = strs ((x.vals.take (j + 1)).map few) := few_step hv
        have hl : (strs ((x.vals.take j).map few)).length ≤ 9 := few_len hj6
        rw [e1]
        refine ⟨by simp, by unfold maxLen; omega, by omega, 9 - (j + 1), _, by omega, ?_, j + 1, rfl, by omega, by omega, rfl⟩
        exact Weak.less (by simp [lessL, lk]) (by simp [lessL, lk]) (by simp [lessL, lk]) rfl
      · have h3 := few_end (g := few) hj6 hj hltj
        rw [h3]
        have hl' : ((l.take i).map fewNeed).length ≤ i := by simp; omega
        have e1 : rows ANeed.pd ((l.take i).map fewNeed) ++ [[pInt x.kind, pStr (few x.name), .slice (strs ((x.vals.take 9).map few))]] = rows ANeed.pd ((l.take (i + 1)).map fewNeed) := few_step hx
        by_cases h1 : j < x.vals.length
        · have h1' : ((j : Int) < (x.vals.length : Int)) = True := eq_true (by omega)
          have h2' : ((j : Int) < 9) = False := eq_false (by omega)
          simp only [go_sem, contS_seq, reduceIte, reduceCtorEq, Nat.reduceEqDiff, Nat.reduceAdd, Nat.reduceBEq, Nat.reduceBNe, Int.reduceLE, Int.reduceLT, Int.reduceToNat, Int.reduceEq, Nat.reduceLeDiff, Nat.reduceLT, Nat.reducePow, Nat.reduceDiv, Nat.reduceMod, rows_get hx, rows_len, h1', h2']
          refine ⟨by simp, by unfold maxLen; omega, by omega, ?_⟩
          rw [e1]
          exact hK
        · have h1' : ((j : Int) < (x.vals.length : Int)) = False := eq_false (by omega)
          simp only [go_sem, contS_seq, reduceIte, reduceCtorEq, Nat.reduceEqDiff, Nat.reduceAdd, Nat.reduceBEq, Nat.reduceBNe, Int.reduceLE, Int.reduceLT, Int.reduceToNat, Int.reduceEq, Nat.reduceLeDiff, Nat.reduceLT, Nat.reducePow, Nat.reduceDiv, Nat.reduceMod, rows_get hx, rows_len, h1']
          refine ⟨by simp, by unfold maxLen; omega, by omega, ?_⟩
          rw [e1]
          exact hK
    simp only [go_sem, contS_seq, reduceIte, reduceCtorEq, Nat.reduceEqDiff, Nat.reduceAdd, Nat.reduceBEq, Nat.reduceBNe, Int.reduceLE, Int.reduceLT, Int.reduceToNat, Int.reduceEq, Nat.reduceLeDiff, Nat.reduceLT, Nat.reducePow, Nat.reduceDiv, Nat.reduceMod, hw]
    refine ⟨9 - (i + 1), _, by omega, ?_, i + 1, rfl, by omega, by omega, rfl⟩
    exact Weak.less (by simp [lessL, lk]) (by simp [lessL, lk]) (by simp [lessL, lk]) rfl
  · have h3 := few_end (g := fewNeed) hi6 hi hlt
    rw [h3]
    by_cases h1 : i < l.length
    · have h1' : ((i : Int) < (l.length : Int)) = True := eq_true (by omega)
      have h2 : ((i : Int) < 9) = False := eq_false (by omega)
      simp only [go_sem, contS_seq, reduceIte, reduceCtorEq, Nat.reduceEqDiff, Nat.reduceAdd, Nat.reduceBEq, Nat.reduceBNe, Int.reduceLE, Int.reduceLT, Int.reduceToNat, Int.reduceEq, Nat.reduceLeDiff, Nat.reduceLT, Nat.reducePow, Nat.reduceDiv, Nat.reduceMod, rows_len, h1', h2]
      simp only [retK, fullK, iterK, resD, resA, AOp.ex, St.ev, Option.map_some, Option.bind_some, St.get, lk, reduceIte, Nat.reduceEqDiff, Option.getD_some, oneD, List.getElem?_cons_zero, List.getElem?_cons_succ, List.drop_zero, List.drop_succ_cons, List.take_succ_cons, List.take_zero, List.length_cons, List.length_nil, Nat.zero_add, Nat.reduceAdd, Nat.le_refl, Nat.reduceLeDiff, D.pub, D.pubs, Tryz.results32]
      exact ⟨_, rfl, rfl, rfl⟩
    · have h1' : ((i : Int) < (l.length : Int)) = False := eq_false (by omega)
      simp only [go_sem, contS_seq, reduceIte, reduceCtorEq, Nat.reduceEqDiff, Nat.reduceAdd, Nat.reduceBEq, Nat.reduceBNe, Int.reduceLE, Int.reduceLT, Int.reduceToNat, Int.reduceEq, Nat.reduceLeDiff, Nat.reduceLT, Nat.reducePow, Nat.reduceDiv, Nat.reduceMod, rows_len, h1']
      simp only [retK, fullK, iterK, resD, resA, AOp.ex, St.ev, Option.map_some, Option.bind_some, St.get, lk, reduceIte, Nat.reduceEqDiff, Option.getD_some, oneD, List.getElem?_cons_zero, List.getElem?_cons_succ, List.drop_zero, List.drop_succ_cons, List.take_succ_cons, List.take_zero, List.length_cons, List.length_nil, Nat.zero_add, Nat.reduceAdd, Nat.le_refl, Nat.reduceLeDiff, D.pub, D.pubs, Tryz.results32]
      exact ⟨_, rfl, rfl, rfl⟩


/-- A piece of code by itself: what holds behind it. -/
theorem run_cutJ {P : Program} {x y : AC} {st : St} {S : List Fr} {K : Exit → St → Prop} (J : St → Prop) (h1 : ∀ K' : Exit → St → Prop, (∀ s, J s → K' .normal s) → run P x st (contS P [] K')) (h2 : ∀ s, J s → run P y s (contS P S K)) : run P (.seq x y) st (contS P S K) := by
  rw [run_seq]; exact h1 (contS P (.seq y :: S) K) h2

def fewListener (l : AListener) : AListener := ⟨few l.name, l.port, l.tls, few l.host, fewRef l.cert, l.from_, fewNeeds l.needs⟩
def fewParent (p : AParent) : AParent := ⟨few p.space, few p.name, few p.section_, p.port⟩
def fewBackend (b : ABackend) : ABackend := ⟨fewRef b.ref, b.port, b.weight⟩
def fewRule (r : ARule) : ARule := ⟨(r.matches_.take 5).map fewMatch, fewFilters r.filters, (r.backends.take 5).map fewBackend⟩
def fewObj (o : AObj) : AObj := ⟨fewRef o.ref, o.good, fewPairs o.labels, o.ports.take 9, few o.cls, (o.listeners.take 9).map fewListener, (o.parents.take 5).map fewParent, (o.hosts.take 5).map few, (o.rules.take 7).map fewRule, fewSides o.from_, fewSides o.to_⟩

set_option maxHeartbeats 4000000 in
theorem law9_Few (o : AObj) : Pure Tryz.prog 13 [o.d] (fun d => d = (fewObj o).d) := by
  refine pure_of_run follows an_z174 Tryz.func13 rfl ok_z174 dst_z174 (by simp [Tryz.ntmps13]) ?_
  rw [run_start]
  simp only [ac_z174]
  apply run_cut
  · intro K' hK
    simp only [go_sem, contS_seq, reduceIte, reduceCtorEq, Nat.reduceEqDiff, Nat.reduceAdd, Nat.reduceBEq, Nat.reduceBNe, Int.reduceLE, Int.reduceLT, Int.reduceToNat, Int.reduceEq, Nat.reduceLeDiff, Nat.reduceLT, Nat.reducePow, Nat.reduceDiv, Nat.reduceMod]
    exact hK
  apply run_cut
  · intro K' hK
    simp only [go_sem, contS_seq, reduceIte, reduceCtorEq, Nat.reduceEqDiff, Nat.reduceAdd, Nat.reduceBEq, Nat.reduceBNe, Int.reduceLE, Int.reduceLT, Int.reduceToNat, Int.reduceEq, Nat.reduceLeDiff, Nat.reduceLT, Nat.reducePow, Nat.reduceDiv, Nat.reduceMod]
    repeat' (first | exact hK | (refine (law9_FewRef o.ref).callX (enters_of Tryz.func14 rfl rfl) _ rfl rfl ?_; rintro _ rfl; simp only [go_sem, contS_seq, reduceIte, reduceCtorEq, Nat.reduceEqDiff, Nat.reduceAdd, Nat.reduceBEq, Nat.reduceBNe, Int.reduceLE, Int.reduceLT, Int.reduceToNat, Int.reduceEq, Nat.reduceLeDiff, Nat.reduceLT, Nat.reducePow, Nat.reduceDiv, Nat.reduceMod]) | (refine (law5_Few o.labels).callX (enters_of Tryz.func29 rfl rfl) _ rfl rfl ?_; rintro _ rfl; simp only [go_sem, contS_seq, reduceIte, reduceCtorEq, Nat.reduceEqDiff, Nat.reduceAdd, Nat.reduceBEq, Nat.reduceBNe, Int.reduceLE, Int.reduceLT, Int.reduceToNat, Int.reduceEq, Nat.reduceLeDiff, Nat.reduceLT, Nat.reducePow, Nat.reduceDiv, Nat.reduceMod]) | (refine (law1_Few o.cls).callX (enters_of Tryz.func30 rfl rfl) _ rfl rfl ?_; rintro _ rfl; simp only [go_sem, contS_seq, reduceIte, reduceCtorEq, Nat.reduceEqDiff, Nat.reduceAdd, Nat.reduceBEq, Nat.reduceBNe, Int.reduceLE, Int.reduceLT, Int.reduceToNat, Int.reduceEq, Nat.reduceLeDiff, Nat.reduceLT, Nat.reducePow, Nat.reduceDiv, Nat.reduceMod]) | (refine (law9_sides o.from_).callX (enters_of Tryz.func31 rfl rfl) _ rfl rfl ?_; rintro _ rfl; simp only [go_sem, contS_seq, reduceIte, reduceCtorEq, Nat.reduceEqDiff, Nat.reduceAdd, Nat.reduceBEq, Nat.reduceBNe, Int.reduceLE, Int.reduceLT, Int.reduceToNat, Int.reduceEq, Nat.reduceLeDiff, Nat.reduceLT, Nat.reducePow, Nat.reduceDiv, Nat.reduceMod]) | (refine (law9_sides o.to_).callX (enters_of Tryz.func31 rfl rfl) _ rfl rfl ?_; rintro _ rfl; simp only [go_sem, contS_seq, reduceIte, reduceCtorEq, Nat.reduceEqDiff, Nat.reduceAdd, Nat.reduceBEq, Nat.reduceBNe, Int.reduceLE, Int.reduceLT, Int.reduceToNat, Int.reduceEq, Nat.reduceLeDiff, Nat.reduceLT, Nat.reducePow, Nat.reduceDiv, Nat.reduceMod]) | refine And.intro ?_ ?_)
  refine run_cutJ (fun s => ∃ i : Nat, s = ⟨[(41, bln false), (1, .ptr 1 0), (2, .ptr 2 0), (3, .ptr 3 0), (4, int i), (41, bln false)], [(1, [int o.ref.kind, str o.ref.space, str o.ref.name, bln o.good, .pd (.slice (rows APair.pd o.labels)), .pd (.slice (ints o.ports)), str o.cls, .pd (.slice (rows AListener.pd o.listeners)), .pd (.slice (rows AParent.pd o.parents)), .pd (.slice (strs o.hosts)), .pd (.slice (rows ARule.pd o.rules)), .pd (.slice (rows ASide.pd o.from_)), .pd (.slice (rows ASide.pd o.to_))]), (2, [int 0, str ⟨#[]⟩, str ⟨#[]⟩, bln false, .nils, .nils, str ⟨#[]⟩, .nils, .nils, .nils, .nils, .nils, .nils]), (3, [int (fewRef o.ref).kind, str (fewRef o.ref).space, str (fewRef o.ref).name, bln o.good, .pd (.slice (rows APair.pd (fewPairs o.labels))), .own 3 1 (rows cInt ((o.ports.take 9).map id)) 52, str (few o.cls), .nils, .nils, .nils, .nils, .pd (.slice (rows ASide.pd (fewSides o.from_))), .pd (.slice (rows ASide.pd (fewSides o.to_)))])], [], .no⟩) ?_ ?_
  · intro K' hK
    simp only [go_sem, contS_seq, reduceIte, reduceCtorEq, Nat.reduceEqDiff, Nat.reduceAdd, Nat.reduceBEq, Nat.reduceBNe, Int.reduceLE, Int.reduceLT, Int.reduceToNat, Int.reduceEq, Nat.reduceLeDiff, Nat.reduceLT, Nat.reducePow, Nat.reduceDiv, Nat.reduceMod, rows_len]
    refine loopS (fun k st => ∃ i : Nat, k = 9 - i ∧ i ≤ 9 ∧ i ≤ o.ports.length ∧
      st = ⟨[(1, .ptr 1 0), (2, .ptr 2 0), (3, .ptr 3 0), (4, int i)], [(1, [int o.ref.kind, str o.ref.space, str o.ref.name, bln o.good, .pd (.slice (rows APair.pd o.labels)), .pd (.slice (ints o.ports)), str o.cls, .pd (.slice (rows AListener.pd o.listeners)), .pd (.slice (rows AParent.pd o.parents)), .pd (.slice (strs o.hosts)), .pd (.slice (rows ARule.pd o.rules)), .pd (.slice (rows ASide.pd o.from_)), .pd (.slice (rows ASide.pd o.to_))]), (2, [int 0, str ⟨#[]⟩, str ⟨#[]⟩, bln false, .nils, .nils, str ⟨#[]⟩, .nils, .nils, .nils, .nils, .nils, .nils]), (3, [int (fewRef o.ref).kind, str (fewRef o.ref).space, str (fewRef o.ref).name, bln o.good, .pd (.slice (rows APair.pd (fewPairs o.labels))), .own 3 1 (rows cInt ((o.ports.take i).map id)) 52, str (few o.cls), .nils, .nils, .nils, .nils, .pd (.slice (rows ASide.pd (fewSides o.from_))), .pd (.slice (rows ASide.pd (fewSides o.to_)))])], [], .no⟩) 9 _
      ?_ ⟨0, rfl, by omega, by omega, rfl⟩ ?_
    · exact Weak.ownB 3 5 52 3 1 (by kernel_rfl) (by decide) rfl rfl (by simp [lessL, lk, St.purge, D.purge, rows]) (by simp [lessL, lk, St.purge, D.purges, D.purge, rows]) (by simp [lessL]) rfl
    rintro k st ⟨i, rfl, hi6, hi, rfl⟩
    have hw := i64_succ (show i < 1000000000 by omega)
    by_cases hlt : i < o.ports.length ∧ i < 9
    · obtain ⟨x, hx⟩ := at_lt hlt.1
      have h1 : ((i : Int) < (o.ports.length : Int)) = True := eq_true (by omega)
      have h2 : ((i : Int) < 9) = True := eq_true (by omega)
      have hl' : ((o.ports.take i).map id).length ≤ i := by simp; omega
      have e1 : rows cInt ((o.ports.take i).map id) ++ [[PD.raw (Value.int IntKind.i64 x)]] = rows cInt ((o.ports.take (i + 1)).map id) := few_step hx
      simp only [go_sem, contS_seq, reduceIte, reduceCtorEq, Nat.reduceEqDiff, Nat.reduceAdd, Nat.reduceBEq, Nat.reduceBNe, Int.reduceLE, Int.reduceLT, Int.reduceToNat, Int.reduceEq, Nat.reduceLeDiff, Nat.reduceLT, Nat.reducePow, Nat.reduceDiv, Nat.reduceMod, rows_len, rows_get hx, h1, h2]
      simp only [go_sem, contS_seq, reduceIte, reduceCtorEq, Nat.reduceEqDiff, Nat.reduceAdd, Nat.reduceBEq, Nat.reduceBNe, Int.reduceLE, Int.reduceLT, Int.reduceToNat, Int.reduceEq, Nat.reduceLeDiff, Nat.reduceLT, Nat.reducePow, Nat.reduceDiv, Nat.reduceMod, hw, e1]
      refine ⟨by simp, by unfold maxLen; omega, by omega, 9 - (i + 1), _, by omega, ?_, i + 1, rfl, by omega, by omega, rfl⟩
      exact Weak.less (by simp [lessL, lk]) (by simp [lessL, lk]) (by simp [lessL, lk]) rfl
    · have h3 := few_end (g := id) hi6 hi hlt
      rw [h3]
      by_cases h1 : i < o.ports.length
      · have h1' : ((i : Int) < (o.ports.length : Int)) = True := eq_true (by omega)
        have h2 : ((i : Int) < 9) = False := eq_false (by omega)
        simp only [go_sem, contS_seq, reduceIte, reduceCtorEq, Nat.reduceEqDiff, Nat.reduceAdd, Nat.reduceBEq, Nat.reduceBNe, Int.reduceLE, Int.reduceLT, Int.reduceToNat, Int.reduceEq, Nat.reduceLeDiff, Nat.reduceLT, Nat.reducePow, Nat.reduceDiv, Nat.reduceMod, rows_len, h1', h2]
        exact hK _ ⟨i, rfl⟩
      · have h1' : ((i : Int) < (o.ports.length : Int)) = False := eq_false (by omega)
        simp only [go_sem, contS_seq, reduceIte, reduceCtorEq, Nat.reduceEqDiff, Nat.reduceAdd, Nat.reduceBEq, Nat.reduceBNe, Int.reduceLE, Int.reduceLT, Int.reduceToNat, Int.reduceEq, Nat.reduceLeDiff, Nat.reduceLT, Nat.reducePow, Nat.reduceDiv, Nat.reduceMod, rows_len, h1']
        exact hK _ ⟨i, rfl⟩
  rintro s ⟨_, rfl⟩
  refine run_cutJ (fun s => ∃ i : Nat, s = ⟨[(62, bln false), (1, .ptr 1 0), (2, .ptr 2 0), (3, .ptr 3 0), (5, int i), (62, bln false)], [(1, [int o.ref.kind, str o.ref.space, str o.ref.name, bln o.good, .pd (.slice (rows APair.pd o.labels)), .pd (.slice (ints o.ports)), str o.cls, .pd (.slice (rows AListener.pd o.listeners)), .pd (.slice (rows AParent.pd o.parents)), .pd (.slice (strs o.hosts)), .pd (.slice (rows ARule.pd o.rules)), .pd (.slice (rows ASide.pd o.from_)), .pd (.slice (rows ASide.pd o.to_))]), (2, [int 0, str ⟨#[]⟩, str ⟨#[]⟩, bln false, .nils, .nils, str ⟨#[]⟩, .nils, .nils, .nils, .nils, .nils, .nils]), (3, [int (fewRef o.ref).kind, str (fewRef o.ref).space, str (fewRef o.ref).name, bln o.good, .pd (.slice (rows APair.pd (fewPairs o.labels))), .own 3 1 (rows cInt ((o.ports.take 9).map id)) 52, str (few o.cls), .own 77 9 (rows AListener.pd ((o.listeners.take 9).map fewListener)) 92, .nils, .nils, .nils, .pd (.slice (rows ASide.pd (fewSides o.from_))), .pd (.slice (rows ASide.pd (fewSides o.to_)))])], [], .no⟩) ?_ ?_
  · intro K' hK
    simp only [go_sem, contS_seq, reduceIte, reduceCtorEq, Nat.reduceEqDiff, Nat.reduceAdd, Nat.reduceBEq, Nat.reduceBNe, Int.reduceLE, Int.reduceLT, Int.reduceToNat, Int.reduceEq, Nat.reduceLeDiff, Nat.reduceLT, Nat.reducePow, Nat.reduceDiv, Nat.reduceMod, rows_len]
    refine loopS (fun k st => ∃ i : Nat, k = 9 - i ∧ i ≤ 9 ∧ i ≤ o.listeners.length ∧
      st = ⟨[(1, .ptr 1 0), (2, .ptr 2 0), (3, .ptr 3 0), (5, int i)], [(1, [int o.ref.kind, str o.ref.space, str o.ref.name, bln o.good, .pd (.slice (rows APair.pd o.labels)), .pd (.slice (ints o.ports)), str o.cls, .pd (.slice (rows AListener.pd o.listeners)), .pd (.slice (rows AParent.pd o.parents)), .pd (.slice (strs o.hosts)), .pd (.slice (rows ARule.pd o.rules)), .pd (.slice (rows ASide.pd o.from_)), .pd (.slice (rows ASide.pd o.to_))]), (2, [int 0, str ⟨#[]⟩, str ⟨#[]⟩, bln false, .nils, .nils, str ⟨#[]⟩, .nils, .nils, .nils, .nils, .nils, .nils]), (3, [int (fewRef o.ref).kind, str (fewRef o.ref).space, str (fewRef o.ref).name, bln o.good, .pd (.slice (rows APair.pd (fewPairs o.labels))), .own 3 1 (rows cInt ((o.ports.take 9).map id)) 52, str (few o.cls), .own 77 9 (rows AListener.pd ((o.listeners.take i).map fewListener)) 92, .nils, .nils, .nils, .pd (.slice (rows ASide.pd (fewSides o.from_))), .pd (.slice (rows ASide.pd (fewSides o.to_)))])], [], .no⟩) 9 _
      ?_ ⟨0, rfl, by omega, by omega, rfl⟩ ?_
    · exact Weak.ownB 3 7 92 77 9 (by kernel_rfl) (by decide) rfl rfl (by simp [lessL, lk, St.purge, D.purge, rows]) (by simp [lessL, lk, St.purge, D.purges, D.purge, rows]) (by simp [lessL]) rfl
    rintro k st ⟨i, rfl, hi6, hi, rfl⟩
    have hw := i64_succ (show i < 1000000000 by omega)
    by_cases hlt : i < o.listeners.length ∧ i < 9
    · obtain ⟨x, hx⟩ := at_lt hlt.1
      have h1 : ((i : Int) < (o.listeners.length : Int)) = True := eq_true (by omega)
      have h2 : ((i : Int) < 9) = True := eq_true (by omega)
      have hl' : ((o.listeners.take i).map fewListener).length ≤ i := by simp; omega
      have e1 : rows AListener.pd ((o.listeners.take i).map fewListener) ++ [[PD.raw (Value.string (few x.name)), PD.raw (Value.int IntKind.i64 x.port), PD.raw (Value.bool x.tls), PD.raw (Value.string (few x.host)), PD.raw (Value.int IntKind.i64 (fewRef x.cert).kind), PD.raw (Value.string ((fewRef x.cert).space)), PD.raw (Value.string ((fewRef x.cert).name)), PD.raw (Value.int IntKind.i64 x.from_), PD.slice (rows ANeed.pd (fewNeeds x.needs))]] = rows AListener.pd ((o.listeners.take (i + 1)).map fewListener) := few_step hx
      simp only [go_sem, contS_seq, reduceIte, reduceCtorEq, Nat.reduceEqDiff, Nat.reduceAdd, Nat.reduceBEq, Nat.reduceBNe, Int.reduceLE, Int.reduceLT, Int.reduceToNat, Int.reduceEq, Nat.reduceLeDiff, Nat.reduceLT, Nat.reducePow, Nat.reduceDiv, Nat.reduceMod, rows_len, rows_get hx, h1, h2]
      repeat' (first | (refine (law1_Few x.name).callX (enters_of Tryz.func30 rfl rfl) _ rfl rfl ?_; rintro _ rfl; simp only [go_sem, contS_seq, reduceIte, reduceCtorEq, Nat.reduceEqDiff, Nat.reduceAdd, Nat.reduceBEq, Nat.reduceBNe, Int.reduceLE, Int.reduceLT, Int.reduceToNat, Int.reduceEq, Nat.reduceLeDiff, Nat.reduceLT, Nat.reducePow, Nat.reduceDiv, Nat.reduceMod, rows_len, rows_get hx]) | (refine (law1_Few x.host).callX (enters_of Tryz.func30 rfl rfl) _ rfl rfl ?_; rintro _ rfl; simp only [go_sem, contS_seq, reduceIte, reduceCtorEq, Nat.reduceEqDiff, Nat.reduceAdd, Nat.reduceBEq, Nat.reduceBNe, Int.reduceLE, Int.reduceLT, Int.reduceToNat, Int.reduceEq, Nat.reduceLeDiff, Nat.reduceLT, Nat.reducePow, Nat.reduceDiv, Nat.reduceMod, rows_len, rows_get hx]) | (refine (law9_FewRef x.cert).callX (enters_of Tryz.func14 rfl rfl) _ rfl rfl ?_; rintro _ rfl; simp only [go_sem, contS_seq, reduceIte, reduceCtorEq, Nat.reduceEqDiff, Nat.reduceAdd, Nat.reduceBEq, Nat.reduceBNe, Int.reduceLE, Int.reduceLT, Int.reduceToNat, Int.reduceEq, Nat.reduceLeDiff, Nat.reduceLT, Nat.reducePow, Nat.reduceDiv, Nat.reduceMod, rows_len, rows_get hx]) | (refine (law8_Few x.needs).callX (enters_of Tryz.func32 rfl rfl) _ rfl rfl ?_; rintro _ rfl; simp only [go_sem, contS_seq, reduceIte, reduceCtorEq, Nat.reduceEqDiff, Nat.reduceAdd, Nat.reduceBEq, Nat.reduceBNe, Int.reduceLE, Int.reduceLT, Int.reduceToNat, Int.reduceEq, Nat.reduceLeDiff, Nat.reduceLT, Nat.reducePow, Nat.reduceDiv, Nat.reduceMod, rows_len, rows_get hx]))
      simp only [go_sem, contS_seq, reduceIte, reduceCtorEq, Nat.reduceEqDiff, Nat.reduceAdd, Nat.reduceBEq, Nat.reduceBNe, Int.reduceLE, Int.reduceLT, Int.reduceToNat, Int.reduceEq, Nat.reduceLeDiff, Nat.reduceLT, Nat.reducePow, Nat.reduceDiv, Nat.reduceMod, hw, e1]
      refine ⟨by simp, by unfold maxLen; omega, by omega, 9 - (i + 1), _, by omega, ?_, i + 1, rfl, by omega, by omega, rfl⟩
      exact Weak.less (by simp [lessL, lk]) (by simp [lessL, lk]) (by simp [lessL, lk]) rfl
    · have h3 := few_end (g := fewListener) hi6 hi hlt
      rw [h3]
      by_cases h1 : i < o.listeners.length
      · have h1' : ((i : Int) < (o.listeners.length : Int)) = True := eq_true (by omega)
        have h2 : ((i : Int) < 9) = False := eq_false (by omega)
        simp only [go_sem, contS_seq, reduceIte, reduceCtorEq, Nat.reduceEqDiff, Nat.reduceAdd, Nat.reduceBEq, Nat.reduceBNe, Int.reduceLE, Int.reduceLT, Int.reduceToNat, Int.reduceEq, Nat.reduceLeDiff, Nat.reduceLT, Nat.reducePow, Nat.reduceDiv, Nat.reduceMod, rows_len, h1', h2]
        exact hK _ ⟨i, rfl⟩
      · have h1' : ((i : Int) < (o.listeners.length : Int)) = False := eq_false (by omega)
        simp only [go_sem, contS_seq, reduceIte, reduceCtorEq, Nat.reduceEqDiff, Nat.reduceAdd, Nat.reduceBEq, Nat.reduceBNe, Int.reduceLE, Int.reduceLT, Int.reduceToNat, Int.reduceEq, Nat.reduceLeDiff, Nat.reduceLT, Nat.reducePow, Nat.reduceDiv, Nat.reduceMod, rows_len, h1']
        exact hK _ ⟨i, rfl⟩
  rintro s ⟨_, rfl⟩
  refine run_cutJ (fun s => ∃ i : Nat, s = ⟨[(102, bln false), (1, .ptr 1 0), (2, .ptr 2 0), (3, .ptr 3 0), (7, int i), (102, bln false)], [(1, [int o.ref.kind, str o.ref.space, str o.ref.name, bln o.good, .pd (.slice (rows APair.pd o.labels)), .pd (.slice (ints o.ports)), str o.cls, .pd (.slice (rows AListener.pd o.listeners)), .pd (.slice (rows AParent.pd o.parents)), .pd (.slice (strs o.hosts)), .pd (.slice (rows ARule.pd o.rules)), .pd (.slice (rows ASide.pd o.from_)), .pd (.slice (rows ASide.pd o.to_))]), (2, [int 0, str ⟨#[]⟩, str ⟨#[]⟩, bln false, .nils, .nils, str ⟨#[]⟩, .nils, .nils, .nils, .nils, .nils, .nils]), (3, [int (fewRef o.ref).kind, str (fewRef o.ref).space, str (fewRef o.ref).name, bln o.good, .pd (.slice (rows APair.pd (fewPairs o.labels))), .own 3 1 (rows cInt ((o.ports.take 9).map id)) 52, str (few o.cls), .own 77 9 (rows AListener.pd ((o.listeners.take 9).map fewListener)) 92, .own 80 4 (rows AParent.pd ((o.parents.take 5).map fewParent)) 125, .nils, .nils, .pd (.slice (rows ASide.pd (fewSides o.from_))), .pd (.slice (rows ASide.pd (fewSides o.to_)))])], [], .no⟩) ?_ ?_
  · intro K' hK
    simp only [go_sem, contS_seq, reduceIte, reduceCtorEq, Nat.reduceEqDiff, Nat.reduceAdd, Nat.reduceBEq, Nat.reduceBNe, Int.reduceLE, Int.reduceLT, Int.reduceToNat, Int.reduceEq, Nat.reduceLeDiff, Nat.reduceLT, Nat.reducePow, Nat.reduceDiv, Nat.reduceMod, rows_len]
    refine loopS (fun k st => ∃ i : Nat, k = 5 - i ∧ i ≤ 5 ∧ i ≤ o.parents.length ∧
      st = ⟨[(1, .ptr 1 0), (2, .ptr 2 0), (3, .ptr 3 0), (7, int i)], [(1, [int o.ref.kind, str o.ref.space, str o.ref.name, bln o.good, .pd (.slice (rows APair.pd o.labels)), .pd (.slice (ints o.ports)), str o.cls, .pd (.slice (rows AListener.pd o.listeners)), .pd (.slice (rows AParent.pd o.parents)), .pd (.slice (strs o.hosts)), .pd (.slice (rows ARule.pd o.rules)), .pd (.slice (rows ASide.pd o.from_)), .pd (.slice (rows ASide.pd o.to_))]), (2, [int 0, str ⟨#[]⟩, str ⟨#[]⟩, bln false, .nils, .nils, str ⟨#[]⟩, .nils, .nils, .nils, .nils, .nils, .nils]), (3, [int (fewRef o.ref).kind, str (fewRef o.ref).space, str (fewRef o.ref).name, bln o.good, .pd (.slice (rows APair.pd (fewPairs o.labels))), .own 3 1 (rows cInt ((o.ports.take 9).map id)) 52, str (few o.cls), .own 77 9 (rows AListener.pd ((o.listeners.take 9).map fewListener)) 92, .own 80 4 (rows AParent.pd ((o.parents.take i).map fewParent)) 125, .nils, .nils, .pd (.slice (rows ASide.pd (fewSides o.from_))), .pd (.slice (rows ASide.pd (fewSides o.to_)))])], [], .no⟩) 5 _
      ?_ ⟨0, rfl, by omega, by omega, rfl⟩ ?_
    · exact Weak.ownB 3 8 125 80 4 (by kernel_rfl) (by decide) rfl rfl (by simp [lessL, lk, St.purge, D.purge, rows]) (by simp [lessL, lk, St.purge, D.purges, D.purge, rows]) (by simp [lessL]) rfl
    rintro k st ⟨i, rfl, hi6, hi, rfl⟩
    have hw := i64_succ (show i < 1000000000 by omega)
    by_cases hlt : i < o.parents.length ∧ i < 5
    · obtain ⟨x, hx⟩ := at_lt hlt.1
      have h1 : ((i : Int) < (o.parents.length : Int)) = True := eq_true (by omega)
      have h2 : ((i : Int) < 5) = True := eq_true (by omega)
      have hl' : ((o.parents.take i).map fewParent).length ≤ i := by simp; omega
      have e1 : rows AParent.pd ((o.parents.take i).map fewParent) ++ [[PD.raw (Value.string (few x.space)), PD.raw (Value.string (few x.name)), PD.raw (Value.string (few x.section_)), PD.raw (Value.int IntKind.i64 x.port)]] = rows AParent.pd ((o.parents.take (i + 1)).map fewParent) := few_step hx
      simp only [go_sem, contS_seq, reduceIte, reduceCtorEq, Nat.reduceEqDiff, Nat.reduceAdd, Nat.reduceBEq, Nat.reduceBNe, Int.reduceLE, Int.reduceLT, Int.reduceToNat, Int.reduceEq, Nat.reduceLeDiff, Nat.reduceLT, Nat.reducePow, Nat.reduceDiv, Nat.reduceMod, rows_len, rows_get hx, h1, h2]
      repeat' (first | (refine (law1_Few x.space).callX (enters_of Tryz.func30 rfl rfl) _ rfl rfl ?_; rintro _ rfl; simp only [go_sem, contS_seq, reduceIte, reduceCtorEq, Nat.reduceEqDiff, Nat.reduceAdd, Nat.reduceBEq, Nat.reduceBNe, Int.reduceLE, Int.reduceLT, Int.reduceToNat, Int.reduceEq, Nat.reduceLeDiff, Nat.reduceLT, Nat.reducePow, Nat.reduceDiv, Nat.reduceMod, rows_len, rows_get hx]) | (refine (law1_Few x.name).callX (enters_of Tryz.func30 rfl rfl) _ rfl rfl ?_; rintro _ rfl; simp only [go_sem, contS_seq, reduceIte, reduceCtorEq, Nat.reduceEqDiff, Nat.reduceAdd, Nat.reduceBEq, Nat.reduceBNe, Int.reduceLE, Int.reduceLT, Int.reduceToNat, Int.reduceEq, Nat.reduceLeDiff, Nat.reduceLT, Nat.reducePow, Nat.reduceDiv, Nat.reduceMod, rows_len, rows_get hx]) | (refine (law1_Few x.section_).callX (enters_of Tryz.func30 rfl rfl) _ rfl rfl ?_; rintro _ rfl; simp only [go_sem, contS_seq, reduceIte, reduceCtorEq, Nat.reduceEqDiff, Nat.reduceAdd, Nat.reduceBEq, Nat.reduceBNe, Int.reduceLE, Int.reduceLT, Int.reduceToNat, Int.reduceEq, Nat.reduceLeDiff, Nat.reduceLT, Nat.reducePow, Nat.reduceDiv, Nat.reduceMod, rows_len, rows_get hx]))
      simp only [go_sem, contS_seq, reduceIte, reduceCtorEq, Nat.reduceEqDiff, Nat.reduceAdd, Nat.reduceBEq, Nat.reduceBNe, Int.reduceLE, Int.reduceLT, Int.reduceToNat, Int.reduceEq, Nat.reduceLeDiff, Nat.reduceLT, Nat.reducePow, Nat.reduceDiv, Nat.reduceMod, hw, e1]
      refine ⟨by simp, by unfold maxLen; omega, by omega, 5 - (i + 1), _, by omega, ?_, i + 1, rfl, by omega, by omega, rfl⟩
      exact Weak.less (by simp [lessL, lk]) (by simp [lessL, lk]) (by simp [lessL, lk]) rfl
    · have h3 := few_end (g := fewParent) hi6 hi hlt
      rw [h3]
      by_cases h1 : i < o.parents.length
      · have h1' : ((i : Int) < (o.parents.length : Int)) = True := eq_true (by omega)
        have h2 : ((i : Int) < 5) = False := eq_false (by omega)
        simp only [go_sem, contS_seq, reduceIte, reduceCtorEq, Nat.reduceEqDiff, Nat.reduceAdd, Nat.reduceBEq, Nat.reduceBNe, Int.reduceLE, Int.reduceLT, Int.reduceToNat, Int.reduceEq, Nat.reduceLeDiff, Nat.reduceLT, Nat.reducePow, Nat.reduceDiv, Nat.reduceMod, rows_len, h1', h2]
        exact hK _ ⟨i, rfl⟩
      · have h1' : ((i : Int) < (o.parents.length : Int)) = False := eq_false (by omega)
        simp only [go_sem, contS_seq, reduceIte, reduceCtorEq, Nat.reduceEqDiff, Nat.reduceAdd, Nat.reduceBEq, Nat.reduceBNe, Int.reduceLE, Int.reduceLT, Int.reduceToNat, Int.reduceEq, Nat.reduceLeDiff, Nat.reduceLT, Nat.reducePow, Nat.reduceDiv, Nat.reduceMod, rows_len, h1']
        exact hK _ ⟨i, rfl⟩
  rintro s ⟨_, rfl⟩
  refine run_cutJ (fun s => ∃ i : Nat, s = ⟨[(135, bln false), (1, .ptr 1 0), (2, .ptr 2 0), (3, .ptr 3 0), (9, int i), (135, bln false)], [(1, [int o.ref.kind, str o.ref.space, str o.ref.name, bln o.good, .pd (.slice (rows APair.pd o.labels)), .pd (.slice (ints o.ports)), str o.cls, .pd (.slice (rows AListener.pd o.listeners)), .pd (.slice (rows AParent.pd o.parents)), .pd (.slice (strs o.hosts)), .pd (.slice (rows ARule.pd o.rules)), .pd (.slice (rows ASide.pd o.from_)), .pd (.slice (rows ASide.pd o.to_))]), (2, [int 0, str ⟨#[]⟩, str ⟨#[]⟩, bln false, .nils, .nils, str ⟨#[]⟩, .nils, .nils, .nils, .nils, .nils, .nils]), (3, [int (fewRef o.ref).kind, str (fewRef o.ref).space, str (fewRef o.ref).name, bln o.good, .pd (.slice (rows APair.pd (fewPairs o.labels))), .own 3 1 (rows cInt ((o.ports.take 9).map id)) 52, str (few o.cls), .own 77 9 (rows AListener.pd ((o.listeners.take 9).map fewListener)) 92, .own 80 4 (rows AParent.pd ((o.parents.take 5).map fewParent)) 125, .own 9 1 (rows cStr ((o.hosts.take 5).map few)) 147, .nils, .pd (.slice (rows ASide.pd (fewSides o.from_))), .pd (.slice (rows ASide.pd (fewSides o.to_)))])], [], .no⟩) ?_ ?_
  · intro K' hK
    simp only [go_sem, contS_seq, reduceIte, reduceCtorEq, Nat.reduceEqDiff, Nat.reduceAdd, Nat.reduceBEq, Nat.reduceBNe, Int.reduceLE, Int.reduceLT, Int.reduceToNat, Int.reduceEq, Nat.reduceLeDiff, Nat.reduceLT, Nat.reducePow, Nat.reduceDiv, Nat.reduceMod, rows_len]
    refine loopS (fun k st => ∃ i : Nat, k = 5 - i ∧ i ≤ 5 ∧ i ≤ o.hosts.length ∧
      st = ⟨[(1, .ptr 1 0), (2, .ptr 2 0), (3, .ptr 3 0), (9, int i)], [(1, [int o.ref.kind, str o.ref.space, str o.ref.name, bln o.good, .pd (.slice (rows APair.pd o.labels)), .pd (.slice (ints o.ports)), str o.cls, .pd (.slice (rows AListener.pd o.listeners)), .pd (.slice (rows AParent.pd o.parents)), .pd (.slice (strs o.hosts)), .pd (.slice (rows ARule.pd o.rules)), .pd (.slice (rows ASide.pd o.from_)), .pd (.slice (rows ASide.pd o.to_))]), (2, [int 0, str ⟨#[]⟩, str ⟨#[]⟩, bln false, .nils, .nils, str ⟨#[]⟩, .nils, .nils, .nils, .nils, .nils, .nils]), (3, [int (fewRef o.ref).kind, str (fewRef o.ref).space, str (fewRef o.ref).name, bln o.good, .pd (.slice (rows APair.pd (fewPairs o.labels))), .own 3 1 (rows cInt ((o.ports.take 9).map id)) 52, str (few o.cls), .own 77 9 (rows AListener.pd ((o.listeners.take 9).map fewListener)) 92, .own 80 4 (rows AParent.pd ((o.parents.take 5).map fewParent)) 125, .own 9 1 (rows cStr ((o.hosts.take i).map few)) 147, .nils, .pd (.slice (rows ASide.pd (fewSides o.from_))), .pd (.slice (rows ASide.pd (fewSides o.to_)))])], [], .no⟩) 5 _
      ?_ ⟨0, rfl, by omega, by omega, rfl⟩ ?_
    · exact Weak.ownB 3 9 147 9 1 (by kernel_rfl) (by decide) rfl rfl (by simp [lessL, lk, St.purge, D.purge, rows]) (by simp [lessL, lk, St.purge, D.purges, D.purge, rows]) (by simp [lessL]) rfl
    rintro k st ⟨i, rfl, hi6, hi, rfl⟩
    have hw := i64_succ (show i < 1000000000 by omega)
    by_cases hlt : i < o.hosts.length ∧ i < 5
    · obtain ⟨x, hx⟩ := at_lt hlt.1
      have h1 : ((i : Int) < (o.hosts.length : Int)) = True := eq_true (by omega)
      have h2 : ((i : Int) < 5) = True := eq_true (by omega)
      have hl' : ((o.hosts.take i).map few).length ≤ i := by simp; omega
      have e1 : rows cStr ((o.hosts.take i).map few) ++ [[PD.raw (Value.string (few x))]] = rows cStr ((o.hosts.take (i + 1)).map few) := few_step hx
      simp only [go_sem, contS_seq, reduceIte, reduceCtorEq, Nat.reduceEqDiff, Nat.reduceAdd, Nat.reduceBEq, Nat.reduceBNe, Int.reduceLE, Int.reduceLT, Int.reduceToNat, Int.reduceEq, Nat.reduceLeDiff, Nat.reduceLT, Nat.reducePow, Nat.reduceDiv, Nat.reduceMod, rows_len, rows_get hx, h1, h2]
      repeat' (first | (refine (law1_Few x).callX (enters_of Tryz.func30 rfl rfl) _ rfl rfl ?_; rintro _ rfl; simp only [go_sem, contS_seq, reduceIte, reduceCtorEq, Nat.reduceEqDiff, Nat.reduceAdd, Nat.reduceBEq, Nat.reduceBNe, Int.reduceLE, Int.reduceLT, Int.reduceToNat, Int.reduceEq, Nat.reduceLeDiff, Nat.reduceLT, Nat.reducePow, Nat.reduceDiv, Nat.reduceMod, rows_len, rows_get hx]))
      simp only [go_sem, contS_seq, reduceIte, reduceCtorEq, Nat.reduceEqDiff, Nat.reduceAdd, Nat.reduceBEq, Nat.reduceBNe, Int.reduceLE, Int.reduceLT, Int.reduceToNat, Int.reduceEq, Nat.reduceLeDiff, Nat.reduceLT, Nat.reducePow, Nat.reduceDiv, Nat.reduceMod, hw, e1]
      refine ⟨by simp, by unfold maxLen; omega, by omega, 5 - (i + 1), _, by omega, ?_, i + 1, rfl, by omega, by omega, rfl⟩
      exact Weak.less (by simp [lessL, lk]) (by simp [lessL, lk]) (by simp [lessL, lk]) rfl
    · have h3 := few_end (g := few) hi6 hi hlt
      rw [h3]
      by_cases h1 : i < o.hosts.length
      · have h1' : ((i : Int) < (o.hosts.length : Int)) = True := eq_true (by omega)
        have h2 : ((i : Int) < 5) = False := eq_false (by omega)
        simp only [go_sem, contS_seq, reduceIte, reduceCtorEq, Nat.reduceEqDiff, Nat.reduceAdd, Nat.reduceBEq, Nat.reduceBNe, Int.reduceLE, Int.reduceLT, Int.reduceToNat, Int.reduceEq, Nat.reduceLeDiff, Nat.reduceLT, Nat.reducePow, Nat.reduceDiv, Nat.reduceMod, rows_len, h1', h2]
        exact hK _ ⟨i, rfl⟩
      · have h1' : ((i : Int) < (o.hosts.length : Int)) = False := eq_false (by omega)
        simp only [go_sem, contS_seq, reduceIte, reduceCtorEq, Nat.reduceEqDiff, Nat.reduceAdd, Nat.reduceBEq, Nat.reduceBNe, Int.reduceLE, Int.reduceLT, Int.reduceToNat, Int.reduceEq, Nat.reduceLeDiff, Nat.reduceLT, Nat.reducePow, Nat.reduceDiv, Nat.reduceMod, rows_len, h1']
        exact hK _ ⟨i, rfl⟩
  rintro s ⟨_, rfl⟩
  refine run_cutJ (fun s => ∃ i : Nat, s = ⟨[(157, bln false), (1, .ptr 1 0), (2, .ptr 2 0), (3, .ptr 3 0), (10, int i), (157, bln false)], [(1, [int o.ref.kind, str o.ref.space, str o.ref.name, bln o.good, .pd (.slice (rows APair.pd o.labels)), .pd (.slice (ints o.ports)), str o.cls, .pd (.slice (rows AListener.pd o.listeners)), .pd (.slice (rows AParent.pd o.parents)), .pd (.slice (strs o.hosts)), .pd (.slice (rows ARule.pd o.rules)), .pd (.slice (rows ASide.pd o.from_)), .pd (.slice (rows ASide.pd o.to_))]), (2, [int 0, str ⟨#[]⟩, str ⟨#[]⟩, bln false, .nils, .nils, str ⟨#[]⟩, .nils, .nils, .nils, .nils, .nils, .nils]), (3, [int (fewRef o.ref).kind, str (fewRef o.ref).space, str (fewRef o.ref).name, bln o.good, .pd (.slice (rows APair.pd (fewPairs o.labels))), .own 3 1 (rows cInt ((o.ports.take 9).map id)) 52, str (few o.cls), .own 77 9 (rows AListener.pd ((o.listeners.take 9).map fewListener)) 92, .own 80 4 (rows AParent.pd ((o.parents.take 5).map fewParent)) 125, .own 9 1 (rows cStr ((o.hosts.take 5).map few)) 147, .own 66 3 (rows ARule.pd ((o.rules.take 7).map fewRule)) 239, .pd (.slice (rows ASide.pd (fewSides o.from_))), .pd (.slice (rows ASide.pd (fewSides o.to_)))])], [], .no⟩) ?_ ?_
  · intro K' hK
    simp only [go_sem, contS_seq, reduceIte, reduceCtorEq, Nat.reduceEqDiff, Nat.reduceAdd, Nat.reduceBEq, Nat.reduceBNe, Int.reduceLE, Int.reduceLT, Int.reduceToNat, Int.reduceEq, Nat.reduceLeDiff, Nat.reduceLT, Nat.reducePow, Nat.reduceDiv, Nat.reduceMod, rows_len]
    refine loopS (fun k st => ∃ i : Nat, k = 7 - i ∧ i ≤ 7 ∧ i ≤ o.rules.length ∧
      st = ⟨[(1, .ptr 1 0), (2, .ptr 2 0), (3, .ptr 3 0), (10, int i)], [(1, [int o.ref.kind, str o.ref.space, str o.ref.name, bln o.good, .pd (.slice (rows APair.pd o.labels)), .pd (.slice (ints o.ports)), str o.cls, .pd (.slice (rows AListener.pd o.listeners)), .pd (.slice (rows AParent.pd o.parents)), .pd (.slice (strs o.hosts)), .pd (.slice (rows ARule.pd o.rules)), .pd (.slice (rows ASide.pd o.from_)), .pd (.slice (rows ASide.pd o.to_))]), (2, [int 0, str ⟨#[]⟩, str ⟨#[]⟩, bln false, .nils, .nils, str ⟨#[]⟩, .nils, .nils, .nils, .nils, .nils, .nils]), (3, [int (fewRef o.ref).kind, str (fewRef o.ref).space, str (fewRef o.ref).name, bln o.good, .pd (.slice (rows APair.pd (fewPairs o.labels))), .own 3 1 (rows cInt ((o.ports.take 9).map id)) 52, str (few o.cls), .own 77 9 (rows AListener.pd ((o.listeners.take 9).map fewListener)) 92, .own 80 4 (rows AParent.pd ((o.parents.take 5).map fewParent)) 125, .own 9 1 (rows cStr ((o.hosts.take 5).map few)) 147, .own 66 3 (rows ARule.pd ((o.rules.take i).map fewRule)) 239, .pd (.slice (rows ASide.pd (fewSides o.from_))), .pd (.slice (rows ASide.pd (fewSides o.to_)))])], [], .no⟩) 7 _
      ?_ ⟨0, rfl, by omega, by omega, rfl⟩ ?_
    · exact Weak.ownB 3 10 239 66 3 (by kernel_rfl) (by decide) rfl rfl (by simp [lessL, lk, St.purge, D.purge, rows]) (by simp [lessL, lk, St.purge, D.purges, D.purge, rows]) (by simp [lessL]) rfl
    rintro k st ⟨i, rfl, hi6, hi, rfl⟩
    have hw := i64_succ (show i < 1000000000 by omega)
    by_cases hlt : i < o.rules.length ∧ i < 7
    · obtain ⟨x, hx⟩ := at_lt hlt.1
      have h1 : ((i : Int) < (o.rules.length : Int)) = True := eq_true (by omega)
      have h2 : ((i : Int) < 7) = True := eq_true (by omega)
      have hl' : ((o.rules.take i).map fewRule).length ≤ i := by simp; omega
      have e1 : rows ARule.pd ((o.rules.take i).map fewRule) ++ [[PD.slice (rows AMatch.pd ((x.matches_.take 5).map fewMatch)), PD.slice (rows AFilter.pd (fewFilters x.filters)), PD.slice (rows ABackend.pd ((x.backends.take 5).map fewBackend))]] = rows ARule.pd ((o.rules.take (i + 1)).map fewRule) := few_step hx
      apply run_cut
      · intro K' hK
        simp only [go_sem, contS_seq, reduceIte, reduceCtorEq, Nat.reduceEqDiff, Nat.reduceAdd, Nat.reduceBEq, Nat.reduceBNe, Int.reduceLE, Int.reduceLT, Int.reduceToNat, Int.reduceEq, Nat.reduceLeDiff, Nat.reduceLT, Nat.reducePow, Nat.reduceDiv, Nat.reduceMod, rows_len, h1, h2]
        exact hK
      apply run_cut
      · intro K' hK
        rw [run_block]
        apply run_cut
        · intro K' hK
          simp only [go_sem, contS_seq, reduceIte, reduceCtorEq, Nat.reduceEqDiff, Nat.reduceAdd, Nat.reduceBEq, Nat.reduceBNe, Int.reduceLE, Int.reduceLT, Int.reduceToNat, Int.reduceEq, Nat.reduceLeDiff, Nat.reduceLT, Nat.reducePow, Nat.reduceDiv, Nat.reduceMod, rows_len, rows_get hx]
          refine (law7_Few x.filters).callW (enters_of Tryz.func33 rfl rfl) _ rfl rfl ?_
          rintro _ rfl
          simp only [go_sem, contS_seq, reduceIte, reduceCtorEq, Nat.reduceEqDiff, Nat.reduceAdd, Nat.reduceBEq, Nat.reduceBNe, Int.reduceLE, Int.reduceLT, Int.reduceToNat, Int.reduceEq, Nat.reduceLeDiff, Nat.reduceLT, Nat.reducePow, Nat.reduceDiv, Nat.reduceMod]
          exact hK
        refine run_cutJ (fun s => ∃ j : Nat, s = ⟨[(180, bln false), (1, .ptr 1 0), (2, .ptr 2 0), (3, .ptr 3 0), (10, int i), (11, .ptr 11 0), (12, int j), (180, bln false)], [(1, [int o.ref.kind, str o.ref.space, str o.ref.name, bln o.good, .pd (.slice (rows APair.pd o.labels)), .pd (.slice (ints o.ports)), str o.cls, .pd (.slice (rows AListener.pd o.listeners)), .pd (.slice (rows AParent.pd o.parents)), .pd (.slice (strs o.hosts)), .pd (.slice (rows ARule.pd o.rules)), .pd (.slice (rows ASide.pd o.from_)), .pd (.slice (rows ASide.pd o.to_))]), (2, [int 0, str ⟨#[]⟩, str ⟨#[]⟩, bln false, .nils, .nils, str ⟨#[]⟩, .nils, .nils, .nils, .nils, .nils, .nils]), (3, [int (fewRef o.ref).kind, str (fewRef o.ref).space, str (fewRef o.ref).name, bln o.good, .pd (.slice (rows APair.pd (fewPairs o.labels))), .own 3 1 (rows cInt ((o.ports.take 9).map id)) 52, str (few o.cls), .own 77 9 (rows AListener.pd ((o.listeners.take 9).map fewListener)) 92, .own 80 4 (rows AParent.pd ((o.parents.take 5).map fewParent)) 125, .own 9 1 (rows cStr ((o.hosts.take 5).map few)) 147, .own 66 3 (rows ARule.pd ((o.rules.take i).map fewRule)) 239, .pd (.slice (rows ASide.pd (fewSides o.from_))), .pd (.slice (rows ASide.pd (fewSides o.to_)))]), (11, [.own 85 5 (rows AMatch.pd ((x.matches_.take 5).map fewMatch)) 196, .pd (.slice (rows AFilter.pd (fewFilters x.filters))), .nils])], [], .no⟩) ?_ ?_
        · intro K' hK
          simp only [go_sem, contS_seq, reduceIte, reduceCtorEq, Nat.reduceEqDiff, Nat.reduceAdd, Nat.reduceBEq, Nat.reduceBNe, Int.reduceLE, Int.reduceLT, Int.reduceToNat, Int.reduceEq, Nat.reduceLeDiff, Nat.reduceLT, Nat.reducePow, Nat.reduceDiv, Nat.reduceMod, rows_len, rows_get hx]
          refine loopS (fun k st => ∃ j : Nat, k = 5 - j ∧ j ≤ 5 ∧ j ≤ x.matches_.length ∧
            st = ⟨[(1, .ptr 1 0), (2, .ptr 2 0), (3, .ptr 3 0), (10, int i), (11, .ptr 11 0), (12, int j)], [(1, [int o.ref.kind, str o.ref.space, str o.ref.name, bln o.good, .pd (.slice (rows APair.pd o.labels)), .pd (.slice (ints o.ports)), str o.cls, .pd (.slice (rows AListener.pd o.listeners)), .pd (.slice (rows AParent.pd o.parents)), .pd (.slice (strs o.hosts)), .pd (.slice (rows ARule.pd o.rules)), .pd (.slice (rows ASide.pd o.from_)), .pd (.slice (rows ASide.pd o.to_))]), (2, [int 0, str ⟨#[]⟩, str ⟨#[]⟩, bln false, .nils, .nils, str ⟨#[]⟩, .nils, .nils, .nils, .nils, .nils, .nils]), (3, [int (fewRef o.ref).kind, str (fewRef o.ref).space, str (fewRef o.ref).name, bln o.good, .pd (.slice (rows APair.pd (fewPairs o.labels))), .own 3 1 (rows cInt ((o.ports.take 9).map id)) 52, str (few o.cls), .own 77 9 (rows AListener.pd ((o.listeners.take 9).map fewListener)) 92, .own 80 4 (rows AParent.pd ((o.parents.take 5).map fewParent)) 125, .own 9 1 (rows cStr ((o.hosts.take 5).map few)) 147, .own 66 3 (rows ARule.pd ((o.rules.take i).map fewRule)) 239, .pd (.slice (rows ASide.pd (fewSides o.from_))), .pd (.slice (rows ASide.pd (fewSides o.to_)))]), (11, [.own 85 5 (rows AMatch.pd ((x.matches_.take j).map fewMatch)) 196, .pd (.slice (rows AFilter.pd (fewFilters x.filters))), .nils])], [], .no⟩) 5 _
            ?_ ⟨0, rfl, by omega, by omega, rfl⟩ ?_
          · exact Weak.ownB 11 0 196 85 5 (by kernel_rfl) (by decide) rfl rfl (by simp [lessL, lk, St.purge, D.purge, rows]) (by simp [lessL, lk, St.purge, D.purges, D.purge, rows]) (by simp [lessL]) rfl
          rintro k st ⟨j, rfl, hj6, hj, rfl⟩
          have hwj := i64_succ (show j < 1000000000 by omega)
          by_cases hltj : j < x.matches_.length ∧ j < 5
          · obtain ⟨y, hy⟩ := at_lt hltj.1
            have h1' : ((j : Int) < (x.matches_.length : Int)) = True := eq_true (by omega)
            have h2' : ((j : Int) < 5) = True := eq_true (by omega)
            have hlj : ((x.matches_.take j).map fewMatch).length ≤ j := by simp; omega
            have e2 : rows AMatch.pd ((x.matches_.take j).map fewMatch) ++ [[PD.raw (Value.int IntKind.i64 (fewMatch y).pkind), PD.raw (Value.string (fewMatch y).pval), PD.raw (Value.string (fewMatch y).method), PD.slice (rows APair.pd (fewMatch y).head), PD.slice (rows APair.pd (fewMatch y).query)]] = rows AMatch.pd ((x.matches_.take (j + 1)).map fewMatch) := few_step hy
            simp only [go_sem, contS_seq, reduceIte, reduceCtorEq, Nat.reduceEqDiff, Nat.reduceAdd, Nat.reduceBEq, Nat.reduceBNe, Int.reduceLE, Int.reduceLT, Int.reduceToNat, Int.reduceEq, Nat.reduceLeDiff, Nat.reduceLT, Nat.reducePow, Nat.reduceDiv, Nat.reduceMod, rows_len, rows_get hx, rows_get hy, h1', h2']
            repeat' (first | (refine (law6_Few y).callX (enters_of Tryz.func34 rfl rfl) _ rfl rfl ?_; rintro _ rfl; simp only [go_sem, contS_seq, reduceIte, reduceCtorEq, Nat.reduceEqDiff, Nat.reduceAdd, Nat.reduceBEq, Nat.reduceBNe, Int.reduceLE, Int.reduceLT, Int.reduceToNat, Int.reduceEq, Nat.reduceLeDiff, Nat.reduceLT, Nat.reducePow, Nat.reduceDiv, Nat.reduceMod, rows_len, rows_get hx, rows_get hy]))
            simp only [go_sem, contS_seq, reduceIte, reduceCtorEq, Nat.reduceEqDiff, Nat.reduceAdd, Nat.reduceBEq, Nat.reduceBNe, Int.reduceLE, Int.reduceLT, Int.reduceToNat, Int.reduceEq, Nat.reduceLeDiff, Nat.reduceLT, Nat.reducePow, Nat.reduceDiv, Nat.reduceMod, hwj, e2]
            refine ⟨by simp, by unfold maxLen; omega, by omega, 5 - (j + 1), _, by omega, ?_, j + 1, rfl, by omega, by omega, rfl⟩
            exact Weak.less (by simp [lessL, lk]) (by simp [lessL, lk]) (by simp [lessL, lk]) rfl
          · have h3 := few_end (g := fewMatch) hj6 hj hltj
            rw [h3]
            by_cases h1 : j < x.matches_.length
            · have h1' : ((j : Int) < (x.matches_.length : Int)) = True := eq_true (by omega)
              have h2 : ((j : Int) < 5) = False := eq_false (by omega)
              simp only [go_sem, contS_seq, reduceIte, reduceCtorEq, Nat.reduceEqDiff, Nat.reduceAdd, Nat.reduceBEq, Nat.reduceBNe, Int.reduceLE, Int.reduceLT, Int.reduceToNat, Int.reduceEq, Nat.reduceLeDiff, Nat.reduceLT, Nat.reducePow, Nat.reduceDiv, Nat.reduceMod, rows_len, rows_get hx, h1', h2]
              exact hK _ ⟨j, rfl⟩
            · have h1' : ((j : Int) < (x.matches_.length : Int)) = False := eq_false (by omega)
              simp only [go_sem, contS_seq, reduceIte, reduceCtorEq, Nat.reduceEqDiff, Nat.reduceAdd, Nat.reduceBEq, Nat.reduceBNe, Int.reduceLE, Int.reduceLT, Int.reduceToNat, Int.reduceEq, Nat.reduceLeDiff, Nat.reduceLT, Nat.reducePow, Nat.reduceDiv, Nat.reduceMod, rows_len, rows_get hx, h1']
              exact hK _ ⟨j, rfl⟩
        rintro s ⟨_, rfl⟩
        refine run_cutJ (fun s => ∃ j : Nat, s = ⟨[(210, bln false), (1, .ptr 1 0), (2, .ptr 2 0), (3, .ptr 3 0), (10, int i), (11, .ptr 11 0), (13, int j), (210, bln false)], [(1, [int o.ref.kind, str o.ref.space, str o.ref.name, bln o.good, .pd (.slice (rows APair.pd o.labels)), .pd (.slice (ints o.ports)), str o.cls, .pd (.slice (rows AListener.pd o.listeners)), .pd (.slice (rows AParent.pd o.parents)), .pd (.slice (strs o.hosts)), .pd (.slice (rows ARule.pd o.rules)), .pd (.slice (rows ASide.pd o.from_)), .pd (.slice (rows ASide.pd o.to_))]), (2, [int 0, str ⟨#[]⟩, str ⟨#[]⟩, bln false, .nils, .nils, str ⟨#[]⟩, .nils, .nils, .nils, .nils, .nils, .nils]), (3, [int (fewRef o.ref).kind, str (fewRef o.ref).space, str (fewRef o.ref).name, bln o.good, .pd (.slice (rows APair.pd (fewPairs o.labels))), .own 3 1 (rows cInt ((o.ports.take 9).map id)) 52, str (few o.cls), .own 77 9 (rows AListener.pd ((o.listeners.take 9).map fewListener)) 92, .own 80 4 (rows AParent.pd ((o.parents.take 5).map fewParent)) 125, .own 9 1 (rows cStr ((o.hosts.take 5).map few)) 147, .own 66 3 (rows ARule.pd ((o.rules.take i).map fewRule)) 239, .pd (.slice (rows ASide.pd (fewSides o.from_))), .pd (.slice (rows ASide.pd (fewSides o.to_)))]), (11, [.own 85 5 (rows AMatch.pd ((x.matches_.take 5).map fewMatch)) 196, .pd (.slice (rows AFilter.pd (fewFilters x.filters))), .own 43 5 (rows ABackend.pd ((x.backends.take 5).map fewBackend)) 233])], [], .no⟩) ?_ ?_
        · intro K' hK
          simp only [go_sem, contS_seq, reduceIte, reduceCtorEq, Nat.reduceEqDiff, Nat.reduceAdd, Nat.reduceBEq, Nat.reduceBNe, Int.reduceLE, Int.reduceLT, Int.reduceToNat, Int.reduceEq, Nat.reduceLeDiff, Nat.reduceLT, Nat.reducePow, Nat.reduceDiv, Nat.reduceMod, rows_len, rows_get hx]
          refine loopS (fun k st => ∃ j : Nat, k = 5 - j ∧ j ≤ 5 ∧ j ≤ x.backends.length ∧
            st = ⟨[(1, .ptr 1 0), (2, .ptr 2 0), (3, .ptr 3 0), (10, int i), (11, .ptr 11 0), (13, int j)], [(1, [int o.ref.kind, str o.ref.space, str o.ref.name, bln o.good, .pd (.slice (rows APair.pd o.labels)), .pd (.slice (ints o.ports)), str o.cls, .pd (.slice (rows AListener.pd o.listeners)), .pd (.slice (rows AParent.pd o.parents)), .pd (.slice (strs o.hosts)), .pd (.slice (rows ARule.pd o.rules)), .pd (.slice (rows ASide.pd o.from_)), .pd (.slice (rows ASide.pd o.to_))]), (2, [int 0, str ⟨#[]⟩, str ⟨#[]⟩, bln false, .nils, .nils, str ⟨#[]⟩, .nils, .nils, .nils, .nils, .nils, .nils]), (3, [int (fewRef o.ref).kind, str (fewRef o.ref).space, str (fewRef o.ref).name, bln o.good, .pd (.slice (rows APair.pd (fewPairs o.labels))), .own 3 1 (rows cInt ((o.ports.take 9).map id)) 52, str (few o.cls), .own 77 9 (rows AListener.pd ((o.listeners.take 9).map fewListener)) 92, .own 80 4 (rows AParent.pd ((o.parents.take 5).map fewParent)) 125, .own 9 1 (rows cStr ((o.hosts.take 5).map few)) 147, .own 66 3 (rows ARule.pd ((o.rules.take i).map fewRule)) 239, .pd (.slice (rows ASide.pd (fewSides o.from_))), .pd (.slice (rows ASide.pd (fewSides o.to_)))]), (11, [.own 85 5 (rows AMatch.pd ((x.matches_.take 5).map fewMatch)) 196, .pd (.slice (rows AFilter.pd (fewFilters x.filters))), .own 43 5 (rows ABackend.pd ((x.backends.take j).map fewBackend)) 233])], [], .no⟩) 5 _
            ?_ ⟨0, rfl, by omega, by omega, rfl⟩ ?_
          · exact Weak.ownB 11 2 233 43 5 (by kernel_rfl) (by decide) rfl rfl (by simp [lessL, lk, St.purge, D.purge, rows]) (by simp [lessL, lk, St.purge, D.purges, D.purge, rows]) (by simp [lessL]) rfl
          rintro k st ⟨j, rfl, hj6, hj, rfl⟩
          have hwj := i64_succ (show j < 1000000000 by omega)
          by_cases hltj : j < x.backends.length ∧ j < 5
          · obtain ⟨y, hy⟩ := at_lt hltj.1
            have h1' : ((j : Int) < (x.backends.length : Int)) = True := eq_true (by omega)
            have h2' : ((j : Int) < 5) = True := eq_true (by omega)
            have hlj : ((x.backends.take j).map fewBackend).length ≤ j := by simp; omega
            have e2 : rows ABackend.pd ((x.backends.take j).map fewBackend) ++ [[PD.raw (Value.int IntKind.i64 (fewRef y.ref).kind), PD.raw (Value.string (fewRef y.ref).space), PD.raw (Value.string (fewRef y.ref).name), PD.raw (Value.int IntKind.i64 y.port), PD.raw (Value.int IntKind.i64 y.weight)]] = rows ABackend.pd ((x.backends.take (j + 1)).map fewBackend) := few_step hy
            simp only [go_sem, contS_seq, reduceIte, reduceCtorEq, Nat.reduceEqDiff, Nat.reduceAdd, Nat.reduceBEq, Nat.reduceBNe, Int.reduceLE, Int.reduceLT, Int.reduceToNat, Int.reduceEq, Nat.reduceLeDiff, Nat.reduceLT, Nat.reducePow, Nat.reduceDiv, Nat.reduceMod, rows_len, rows_get hx, rows_get hy, h1', h2']
            repeat' (first | (refine (law9_FewRef y.ref).callX (enters_of Tryz.func14 rfl rfl) _ rfl rfl ?_; rintro _ rfl; simp only [go_sem, contS_seq, reduceIte, reduceCtorEq, Nat.reduceEqDiff, Nat.reduceAdd, Nat.reduceBEq, Nat.reduceBNe, Int.reduceLE, Int.reduceLT, Int.reduceToNat, Int.reduceEq, Nat.reduceLeDiff, Nat.reduceLT, Nat.reducePow, Nat.reduceDiv, Nat.reduceMod, rows_len, rows_get hx, rows_get hy]))
            simp only [go_sem, contS_seq, reduceIte, reduceCtorEq, Nat.reduceEqDiff, Nat.reduceAdd, Nat.reduceBEq, Nat.reduceBNe, Int.reduceLE, Int.reduceLT, Int.reduceToNat, Int.reduceEq, Nat.reduceLeDiff, Nat.reduceLT, Nat.reducePow, Nat.reduceDiv, Nat.reduceMod, hwj, e2]
            refine ⟨by simp, by unfold maxLen; omega, by omega, 5 - (j + 1), _, by omega, ?_, j + 1, rfl, by omega, by omega, rfl⟩
            exact Weak.less (by simp [lessL, lk]) (by simp [lessL, lk]) (by simp [lessL, lk]) rfl
          · have h3 := few_end (g := fewBackend) hj6 hj hltj
            rw [h3]
            by_cases h1 : j < x.backends.length
            · have h1' : ((j : Int) < (x.backends.length : Int)) = True := eq_true (by omega)
              have h2 : ((j : Int) < 5) = False := eq_false (by omega)
              simp only [go_sem, contS_seq, reduceIte, reduceCtorEq, Nat.reduceEqDiff, Nat.reduceAdd, Nat.reduceBEq, Nat.reduceBNe, Int.reduceLE, Int.reduceLT, Int.reduceToNat, Int.reduceEq, Nat.reduceLeDiff, Nat.reduceLT, Nat.reducePow, Nat.reduceDiv, Nat.reduceMod, rows_len, rows_get hx, h1', h2]
              exact hK _ ⟨j, rfl⟩
            · have h1' : ((j : Int) < (x.backends.length : Int)) = False := eq_false (by omega)
              simp only [go_sem, contS_seq, reduceIte, reduceCtorEq, Nat.reduceEqDiff, Nat.reduceAdd, Nat.reduceBEq, Nat.reduceBNe, Int.reduceLE, Int.reduceLT, Int.reduceToNat, Int.reduceEq, Nat.reduceLeDiff, Nat.reduceLT, Nat.reducePow, Nat.reduceDiv, Nat.reduceMod, rows_len, rows_get hx, h1']
              exact hK _ ⟨j, rfl⟩
        rintro s ⟨_, rfl⟩
        simp only [go_sem, contS_seq, reduceIte, reduceCtorEq, Nat.reduceEqDiff, Nat.reduceAdd, Nat.reduceBEq, Nat.reduceBNe, Int.reduceLE, Int.reduceLT, Int.reduceToNat, Int.reduceEq, Nat.reduceLeDiff, Nat.reduceLT, Nat.reducePow, Nat.reduceDiv, Nat.reduceMod, rows_len, e1]
        refine ⟨by simp, by unfold maxLen; omega, by omega, ?_⟩
        exact hK
      simp only [go_sem, contS_seq, reduceIte, reduceCtorEq, Nat.reduceEqDiff, Nat.reduceAdd, Nat.reduceBEq, Nat.reduceBNe, Int.reduceLE, Int.reduceLT, Int.reduceToNat, Int.reduceEq, Nat.reduceLeDiff, Nat.reduceLT, Nat.reducePow, Nat.reduceDiv, Nat.reduceMod, hw]
      refine ⟨7 - (i + 1), _, by omega, ?_, i + 1, rfl, by omega, by omega, rfl⟩
      exact Weak.less (by simp [lessL, lk]) (by simp [lessL, lk]) (by simp [lessL, lk]) rfl
    · have h3 := few_end (g := fewRule) hi6 hi hlt
      rw [h3]
      by_cases h1 : i < o.rules.length
      · have h1' : ((i : Int) < (o.rules.length : Int)) = True := eq_true (by omega)
        have h2 : ((i : Int) < 7) = False := eq_false (by omega)
        simp only [go_sem, contS_seq, reduceIte, reduceCtorEq, Nat.reduceEqDiff, Nat.reduceAdd, Nat.reduceBEq, Nat.reduceBNe, Int.reduceLE, Int.reduceLT, Int.reduceToNat, Int.reduceEq, Nat.reduceLeDiff, Nat.reduceLT, Nat.reducePow, Nat.reduceDiv, Nat.reduceMod, rows_len, h1', h2]
        exact hK _ ⟨i, rfl⟩
      · have h1' : ((i : Int) < (o.rules.length : Int)) = False := eq_false (by omega)
        simp only [go_sem, contS_seq, reduceIte, reduceCtorEq, Nat.reduceEqDiff, Nat.reduceAdd, Nat.reduceBEq, Nat.reduceBNe, Int.reduceLE, Int.reduceLT, Int.reduceToNat, Int.reduceEq, Nat.reduceLeDiff, Nat.reduceLT, Nat.reducePow, Nat.reduceDiv, Nat.reduceMod, rows_len, h1']
        exact hK _ ⟨i, rfl⟩
  rintro s ⟨_, rfl⟩
  simp only [go_sem, contS_seq, reduceIte, reduceCtorEq, Nat.reduceEqDiff, Nat.reduceAdd, Nat.reduceBEq, Nat.reduceBNe, Int.reduceLE, Int.reduceLT, Int.reduceToNat, Int.reduceEq, Nat.reduceLeDiff, Nat.reduceLT, Nat.reducePow, Nat.reduceDiv, Nat.reduceMod]
  simp only [retK, fullK, iterK, resD, resA, AOp.ex, St.ev, Option.map_some, Option.bind_some, St.get, lk, reduceIte, Nat.reduceEqDiff, Option.getD_some, oneD, List.getElem?_cons_zero, List.getElem?_cons_succ, List.drop_zero, List.drop_succ_cons, List.take_succ_cons, List.take_zero, List.length_cons, List.length_nil, Nat.zero_add, Nat.reduceAdd, Nat.le_refl, Nat.reduceLeDiff, D.pub, D.pubs, ret_z174, List.map_id]
  exact ⟨_, rfl, rfl, rfl⟩


def near (r : ARef) (s : ByteArray) : ARef := if r.space = ⟨#[]⟩ ∧ r.kind ≠ 1 ∧ r.kind ≠ 2 then { r with space := s } else r

set_option maxRecDepth 100000 in
theorem grant_Near (r : ARef) (s : ByteArray) : Pure Tryz.prog 35 [r.d, str s] (fun d => d = (near r s).d) := by
  refine pure_of_run follows an_z152 Tryz.func35 rfl ok_z152 dst_z152 (by simp [Tryz.ntmps35]) ?_
  rw [run_start]
  simp only [ac_z152, go_sem, contS_seq, reduceIte, reduceCtorEq, Nat.reduceEqDiff, Nat.reduceAdd, Nat.reduceBEq, Nat.reduceBNe, Int.reduceLE, Int.reduceLT, Int.reduceToNat, Int.reduceEq, Nat.reduceLeDiff, Nat.reduceLT, Nat.reducePow, Nat.reduceDiv, Nat.reduceMod]
  simp only [retK, fullK, iterK, resD, resA, AOp.ex, St.ev, Option.map_some, Option.bind_some, St.get, lk, reduceIte, Nat.reduceEqDiff, Option.getD_some, oneD, List.getElem?_cons_zero, List.getElem?_cons_succ, List.drop_zero, List.drop_succ_cons, List.take_succ_cons, List.take_zero, List.length_cons, List.length_nil, Nat.zero_add, Nat.reduceAdd, Nat.le_refl, Nat.reduceLeDiff, D.pub, D.pubs, ret_z152]
  refine ⟨fun h1 => ⟨fun h2 => ?_, fun h2 => ⟨fun h3 => ?_, fun h3 => ?_⟩⟩, fun h1 => ?_⟩
  · exact ⟨_, rfl, rfl, by simp [near, h1, h2, oneD, D.pub, D.pubs]⟩
  · exact ⟨_, rfl, rfl, by simp [near, h1, h3, oneD, D.pub, D.pubs]⟩
  · exact ⟨_, rfl, rfl, by simp [near, h1, h2, h3, oneD, D.pub, D.pubs]⟩
  · exact ⟨_, rfl, rfl, by simp [near, h1, oneD, D.pub, D.pubs]⟩

/-- A ref as it is handed on. -/
abbrev refVal (r : ARef) : Value := .agg #[.int .i64 r.kind, .string r.space, .string r.name]

/-- The refs of those that let it: the iterator. -/
theorem by_iter (p : AObj → Bool) (os : List AObj) (kind : Int) (space : ByteArray) (to_ : ARef) (hos : os.length ≤ 1000000)
    (hp : ∀ o ∈ os, Pure Tryz.prog 70 [o.d, int kind, str space, to_.d] (fun d => d = bln (p o))) :
    IterB Tryz.prog 69 [(500001, 0), (500002, 0), (500003, 0), (500004, 0)]
      [(500001, [.pd (.slice (rows AObj.pd os))]), (500002, [int kind]), (500003, [str space]), (500004, [int to_.kind, str to_.space, str to_.name])] ((os.filter p).map fun o => refVal o.ref) := by
  refine iter_of_run follows an_z150 Tryz.func69 rfl ok_z150 dst_z150 (by simp [Tryz.ntmps69]) rfl ?_
  intro l
  rw [run_start]
  simp only [ac_z150, go_sem, contS_seq, reduceIte, reduceCtorEq, Nat.reduceEqDiff, Nat.reduceAdd, Nat.reduceBEq, Nat.reduceBNe, Int.reduceLE, Int.reduceLT, Int.reduceToNat, Int.reduceEq, Nat.reduceLeDiff, Nat.reduceLT, Nat.reducePow, Nat.reduceDiv, Nat.reduceMod, rows_len]
  have hb := hos
  refine loopS (fun k st => ∃ i : Nat, k = os.length - i ∧ i ≤ os.length ∧
    st = ⟨[(0, yieldD l), (2, .ptr 500002 0), (3, .ptr 500003 0), (4, .ptr 500004 0), (8, .pd (.slice (rows AObj.pd os))), (9, int os.length), (10, int i)],
      [(500001, [.pd (.slice (rows AObj.pd os))]), (500002, [int kind]), (500003, [str space]), (500004, [int to_.kind, str to_.space, str to_.name])], [], .it l (((os.filter p).map fun o => refVal o.ref).map ([·])) ((os.take i).filter p).length false⟩) os.length _
    (Weak.refl _ _) ⟨0, rfl, Nat.zero_le _, rfl⟩ ?_
  rintro k st ⟨i, rfl, hi, rfl⟩
  by_cases hlt : i < os.length
  · obtain ⟨o, ho⟩ := at_lt hlt
    have hlt' : (i : Int) < (os.length : Int) := by omega
    simp only [go_sem, contS_seq, reduceIte, reduceCtorEq, Nat.reduceEqDiff, Nat.reduceAdd, Nat.reduceBEq, Nat.reduceBNe, Int.reduceLE, Int.reduceLT, Int.reduceToNat, Int.reduceEq, Nat.reduceLeDiff, Nat.reduceLT, Nat.reducePow, Nat.reduceDiv, Nat.reduceMod, hlt', decide_true, rows_get ho]
    refine (hp o (List.mem_of_getElem? ho)).callW (enters_of Tryz.func70 rfl rfl) _ rfl rfl ?_
    rintro d rfl
    have hw : IntKind.i64.wrap ((i : Int) + 1) = ((i + 1 : Nat) : Int) := by rw [IntWalk.i64_in _ (by omega)]; omega
    cases hpo : p o with
    | true =>
      have hx : (((os.filter p).map fun o => refVal o.ref).map ([·]))[((os.take i).filter p).length]? = some [refVal o.ref] := by
        simp [List.getElem?_map, filter_at ho hpo]
      simp only [go_sem, contS_seq, reduceIte, reduceCtorEq, Nat.reduceEqDiff, Nat.reduceAdd, Nat.reduceBEq, Nat.reduceBNe, Int.reduceLE, Int.reduceLT, Int.reduceToNat, Int.reduceEq, Nat.reduceLeDiff, Nat.reduceLT, Nat.reducePow, Nat.reduceDiv, Nat.reduceMod, hx, hw]
      refine ⟨⟨_, _, ?_, ?_, i + 1, rfl, ?_, rfl⟩, ?_⟩
      · omega
      · rw [filter_yes ho hpo]; exact Weak.less (by simp [lessL, lk]) (by simp [lessL, lk]) (by simp [lessL, lk]) rfl
      · omega
      · exact ⟨[], _, _, rfl, rfl, fun h => by cases h⟩
    | false =>
      simp only [go_sem, contS_seq, reduceIte, reduceCtorEq, Nat.reduceEqDiff, Nat.reduceAdd, Nat.reduceBEq, Nat.reduceBNe, Int.reduceLE, Int.reduceLT, Int.reduceToNat, Int.reduceEq, Nat.reduceLeDiff, Nat.reduceLT, Nat.reducePow, Nat.reduceDiv, Nat.reduceMod, hw]
      refine ⟨_, _, ?_, ?_, i + 1, rfl, ?_, rfl⟩
      · omega
      · rw [filter_no ho hpo]; exact Weak.less (by simp [lessL, lk]) (by simp [lessL, lk]) (by simp [lessL, lk]) rfl
      · omega
  · have hlt' : ¬ (i : Int) < (os.length : Int) := by omega
    simp only [go_sem, contS_seq, reduceIte, reduceCtorEq, Nat.reduceEqDiff, Nat.reduceAdd, Nat.reduceBEq, Nat.reduceBNe, Int.reduceLE, Int.reduceLT, Int.reduceToNat, Int.reduceEq, Nat.reduceLeDiff, Nat.reduceLT, Nat.reducePow, Nat.reduceDiv, Nat.reduceMod, hlt', decide_false]
    exact ⟨[], _, _, rfl, rfl, fun _ => by rw [List.take_of_length_le (by omega)]; simp⟩

/-- It is made of its captured variables. -/
theorem grant_by (os : List AObj) (kind : Int) (space : ByteArray) (to_ : ARef) :
    Full Tryz.prog 48 [.pd (.slice (rows AObj.pd os)), int kind, str space, to_.d] [] true
      (fun d bs => d = .fn 69 [(4, 0), (5, 0), (6, 0), (7, 0)] ∧ bs = [(4, [.pd (.slice (rows AObj.pd os))]), (5, [int kind]), (6, [str space]), (7, [int to_.kind, str to_.space, str to_.name])]) := by
  refine full_of_run follows an_z149 Tryz.func48 rfl ok_z149 dst_z149 (by simp [Tryz.ntmps48]) (by simp [Tryz.ntmps48]) (.inl rfl) ?_
  rw [run_start]
  simp only [ac_z149, go_sem, contS_seq, reduceIte, reduceCtorEq, Nat.reduceEqDiff, Nat.reduceAdd, Nat.reduceBEq, Nat.reduceBNe, Int.reduceLE, Int.reduceLT, Int.reduceToNat, Int.reduceEq, Nat.reduceLeDiff, Nat.reduceLT, Nat.reducePow, Nat.reduceDiv, Nat.reduceMod]
  simp only [retK, fullK, iterK, resD, resA, AOp.ex, St.ev, Option.map_some, Option.bind_some, St.get, lk, reduceIte, Nat.reduceEqDiff, Option.getD_some, oneD, List.getElem?_cons_zero, List.getElem?_cons_succ, List.drop_zero, List.drop_succ_cons, List.take_succ_cons, List.take_zero, List.length_cons, List.length_nil, Nat.zero_add, Nat.reduceAdd, Nat.le_refl, Nat.reduceLeDiff, D.pub, D.pubs, Tryz.results48]
  exact ⟨_, _, rfl, by simp [lessL, lk], rfl, rfl⟩

/-- May it? -/
theorem grant_Permits (p : AObj → Bool) (os : List AObj) (kind : Int) (space : ByteArray) (to_ : ARef) (hos : os.length ≤ 1000000)
    (hp : ∀ o ∈ os, Pure Tryz.prog 70 [o.d, int kind, str space, to_.d] (fun d => d = bln (p o))) :
    Pure Tryz.prog 36 [.pd (.slice (rows AObj.pd os)), int kind, str space, to_.d] (fun d => d = bln (os.any p || decide (space = to_.space))) := by
  refine pure_of_run follows an_z151 Tryz.func36 rfl ok_z151 dst_z151 (by simp [Tryz.ntmps36]) ?_
  rw [run_start]
  simp only [ac_z151, go_sem, contS_seq, reduceIte, reduceCtorEq, Nat.reduceEqDiff, Nat.reduceAdd, Nat.reduceBEq, Nat.reduceBNe, Int.reduceLE, Int.reduceLT, Int.reduceToNat, Int.reduceEq, Nat.reduceLeDiff, Nat.reduceLT, Nat.reducePow, Nat.reduceDiv, Nat.reduceMod]
  refine (grant_by os kind space to_).callW (enters_of Tryz.func48 rfl rfl) _ false [] [] [(4, 200001), (5, 200002), (6, 200003), (7, 200004)] [] rfl rfl rfl ?_
  rintro d bs ⟨rfl, rfl⟩
  simp only [go_sem, contS_seq, reduceIte, reduceCtorEq, Nat.reduceEqDiff, Nat.reduceAdd, Nat.reduceBEq, Nat.reduceBNe, Int.reduceLE, Int.reduceLT, Int.reduceToNat, Int.reduceEq, Nat.reduceLeDiff, Nat.reduceLT, Nat.reducePow, Nat.reduceDiv, Nat.reduceMod]
  refine rangeS ((os.filter p).map fun o => refVal o.ref) (fun i bs => i = 0 ∧ bs = [(7, [int to_.kind, str to_.space, str to_.name]), (8, [bln false])]) rfl rfl rfl
    ((by_iter p os kind space to_ hos hp).iterW (enters_of Tryz.func69 rfl rfl) false [(200001, 500001), (200002, 500002), (200003, 500003), (200004, 500004)] rfl rfl rfl) ⟨rfl, rfl⟩ ?_ ?_
  · rintro i v bs hv ⟨rfl, rfl⟩
    simp only [go_sem, contS_seq, reduceIte, reduceCtorEq, Nat.reduceEqDiff, Nat.reduceAdd, Nat.reduceBEq, Nat.reduceBNe, Int.reduceLE, Int.reduceLT, Int.reduceToNat, Int.reduceEq, Nat.reduceLeDiff, Nat.reduceLT, Nat.reducePow, Nat.reduceDiv, Nat.reduceMod]
    simp only [retK, fullK, iterK, resD, resA, AOp.ex, St.ev, Option.map_some, Option.bind_some, St.get, lk, reduceIte, Nat.reduceEqDiff, Option.getD_some, oneD, List.getElem?_cons_zero, List.getElem?_cons_succ, List.drop_zero, List.drop_succ_cons, List.take_succ_cons, List.take_zero, List.length_cons, List.length_nil, Nat.zero_add, Nat.reduceAdd, Nat.le_refl, Nat.reduceLeDiff, D.pub, D.pubs, ret_z151]
    have hany : os.any p = true := by
      rw [List.getElem?_map] at hv
      obtain ⟨o, ho, _⟩ := Option.map_eq_some_iff.1 hv
      have := List.mem_filter.1 (List.mem_of_getElem? ho)
      exact List.any_eq_true.2 ⟨o, this.1, this.2⟩
    exact ⟨_, rfl, rfl, by simp [hany, oneD, D.pub]⟩
  · rintro bs ⟨hl, rfl⟩
    simp only [go_sem, contS_seq, reduceIte, reduceCtorEq, Nat.reduceEqDiff, Nat.reduceAdd, Nat.reduceBEq, Nat.reduceBNe, Int.reduceLE, Int.reduceLT, Int.reduceToNat, Int.reduceEq, Nat.reduceLeDiff, Nat.reduceLT, Nat.reducePow, Nat.reduceDiv, Nat.reduceMod]
    simp only [retK, fullK, iterK, resD, resA, AOp.ex, St.ev, Option.map_some, Option.bind_some, St.get, lk, reduceIte, Nat.reduceEqDiff, Option.getD_some, oneD, List.getElem?_cons_zero, List.getElem?_cons_succ, List.drop_zero, List.drop_succ_cons, List.take_succ_cons, List.take_zero, List.length_cons, List.length_nil, Nat.zero_add, Nat.reduceAdd, Nat.le_refl, Nat.reduceLeDiff, D.pub, D.pubs, ret_z151]
    have hany : os.any p = false := by
      rw [List.length_map, List.length_eq_zero_iff, List.filter_eq_nil_iff] at hl
      exact List.any_eq_false.2 hl
    exact ⟨_, rfl, rfl, by simp [hany, oneD, D.pub]⟩


def sideIs (kind : Int) (space : ByteArray) (s : ASide) : Bool := decide (s.kind = kind) && decide (s.space = space)
def sideAt (t : ARef) (s : ASide) : Bool := decide (s.kind = t.kind) && (decide (s.name = ⟨#[]⟩) || decide (s.name = t.name))

theorem Lets_1 (kind : Int) (space : ByteArray) (s : ASide) : PureB Tryz.prog 120 [s.d, .ptr 1000001 0, .ptr 1000002 0] [(1000001, [int kind]), (1000002, [str space])] (fun d => d = bln (sideIs kind space s)) := by
  refine pureB_of_run follows an_z121 Tryz.func120 rfl ok_z121 dst_z121 (by simp [Tryz.ntmps120]) ?_
  rw [run_start]
  simp only [ac_z121, go_sem, contS_seq, reduceIte, reduceCtorEq, Nat.reduceEqDiff, Nat.reduceAdd, Nat.reduceBEq, Nat.reduceBNe, Int.reduceLE, Int.reduceLT, Int.reduceToNat, Int.reduceEq, Nat.reduceLeDiff, Nat.reduceLT, Nat.reducePow, Nat.reduceDiv, Nat.reduceMod]
  (repeat' (first | (refine GifP.mk (fun _ => ?_) (fun _ => ?_)) | (refine Gif.mk (fun _ => ?_) (fun _ => ?_)))) <;> (simp only [retK, fullK, iterK, resD, resA, AOp.ex, St.ev, Option.map_some, Option.bind_some, St.get, lk, reduceIte, Nat.reduceEqDiff, Option.getD_some, oneD, List.getElem?_cons_zero, List.getElem?_cons_succ, List.drop_zero, List.drop_succ_cons, List.take_succ_cons, List.take_zero, List.length_cons, List.length_nil, Nat.zero_add, Nat.reduceAdd, Nat.le_refl, Nat.reduceLeDiff, D.pub, D.pubs, Tryz.results120]; exact ⟨_, rfl, rfl, congrArg bln (by first | rfl | (rw [Bool.eq_iff_iff]; simp only [sideIs]; simp; done) | (rw [Bool.eq_iff_iff]; simp only [sideIs]; simp; omega) | (rw [Bool.eq_iff_iff]; simp only [sideIs]; simp [*]; done) | (rw [Bool.eq_iff_iff]; simp only [sideIs]; simp [*]; omega) | (simp_all [sideIs]; done) | (exfalso; omega))⟩)

theorem Lets_2 (t : ARef) (s : ASide) : PureB Tryz.prog 121 [s.d, .ptr 1000001 0] [(1000001, [int t.kind, str t.space, str t.name])] (fun d => d = bln (sideAt t s)) := by
  refine pureB_of_run follows an_z122 Tryz.func121 rfl ok_z122 dst_z122 (by simp [Tryz.ntmps121]) ?_
  rw [run_start]
  simp only [ac_z122, go_sem, contS_seq, reduceIte, reduceCtorEq, Nat.reduceEqDiff, Nat.reduceAdd, Nat.reduceBEq, Nat.reduceBNe, Int.reduceLE, Int.reduceLT, Int.reduceToNat, Int.reduceEq, Nat.reduceLeDiff, Nat.reduceLT, Nat.reducePow, Nat.reduceDiv, Nat.reduceMod]
  (repeat' (first | (refine GifP.mk (fun _ => ?_) (fun _ => ?_)) | (refine Gif.mk (fun _ => ?_) (fun _ => ?_)))) <;> (simp only [retK, fullK, iterK, resD, resA, AOp.ex, St.ev, Option.map_some, Option.bind_some, St.get, lk, reduceIte, Nat.reduceEqDiff, Option.getD_some, oneD, List.getElem?_cons_zero, List.getElem?_cons_succ, List.drop_zero, List.drop_succ_cons, List.take_succ_cons, List.take_zero, List.length_cons, List.length_nil, Nat.zero_add, Nat.reduceAdd, Nat.le_refl, Nat.reduceLeDiff, D.pub, D.pubs, Tryz.results121]; exact ⟨_, rfl, rfl, congrArg bln (by first | rfl | (rw [Bool.eq_iff_iff]; simp only [sideAt]; simp; done) | (rw [Bool.eq_iff_iff]; simp only [sideAt]; simp; omega) | (rw [Bool.eq_iff_iff]; simp only [sideAt]; simp [*]; done) | (rw [Bool.eq_iff_iff]; simp only [sideAt]; simp [*]; omega) | (simp_all [sideAt]; done) | (exfalso; omega))⟩)

/-- Does a grant let a kind of a space point at an object? -/
def lets (kind : Int) (space : ByteArray) (t : ARef) (o : AObj) : Bool :=
  decide (o.ref.kind = 7) && decide (o.ref.space = t.space) && objMay o && o.from_.any (sideIs kind space) && o.to_.any (sideAt t)

theorem grant_Lets (o : AObj) (h : o.ok) (kind : Int) (space : ByteArray) (t : ARef) : Pure Tryz.prog 70 [o.d, int kind, str space, t.d] (fun d => d = bln (lets kind space t o)) := by
  refine pure_of_run follows an_z106 Tryz.func70 rfl ok_z106 dst_z106 (by simp [Tryz.ntmps70]) ?_
  rw [run_start]
  simp only [ac_z106, go_sem, contS_seq, reduceIte, reduceCtorEq, Nat.reduceEqDiff, Nat.reduceAdd, Nat.reduceBEq, Nat.reduceBNe, Int.reduceLE, Int.reduceLT, Int.reduceToNat, Int.reduceEq, Nat.reduceLeDiff, Nat.reduceLT, Nat.reducePow, Nat.reduceDiv, Nat.reduceMod]
  (repeat' (first | (refine GifP.mk (fun _ => ?_) (fun _ => ?_)) | (refine Gif.mk (fun _ => ?_) (fun _ => ?_)) | ((first | refine (object_May o h).callW (enters_of Tryz.func38 rfl rfl) _ rfl rfl ?_ | refine (ContainsFunc_Side (sideIs kind space) 120 (enters_of Tryz.func120 rfl rfl) [(1000001, 0), (1000002, 0)] [(1000001, [int kind]), (1000002, [str space])] (Cl.of rfl rfl rfl rfl rfl) o.from_ h.fr (fun s _ => Lets_1 kind space s)).callW (enters_of Tryz.func122 rfl rfl) _ [(5, 1000001), (6, 1000002)] rfl rfl rfl ?_ | refine (ContainsFunc_Side (sideAt t) 121 (enters_of Tryz.func121 rfl rfl) [(1000001, 0)] [(1000001, [int t.kind, str t.space, str t.name])] (Cl.of rfl rfl rfl rfl rfl) o.to_ h.to (fun s _ => Lets_2 t s)).callW (enters_of Tryz.func122 rfl rfl) _ [(7, 1000001)] rfl rfl rfl ?_); rintro _ rfl; try simp only [go_sem, contS_seq, reduceIte, reduceCtorEq, Nat.reduceEqDiff, Nat.reduceAdd, Nat.reduceBEq, Nat.reduceBNe, Int.reduceLE, Int.reduceLT, Int.reduceToNat, Int.reduceEq, Nat.reduceLeDiff, Nat.reduceLT, Nat.reducePow, Nat.reduceDiv, Nat.reduceMod]))) <;> (simp only [retK, fullK, iterK, resD, resA, AOp.ex, St.ev, Option.map_some, Option.bind_some, St.get, lk, reduceIte, Nat.reduceEqDiff, Option.getD_some, oneD, List.getElem?_cons_zero, List.getElem?_cons_succ, List.drop_zero, List.drop_succ_cons, List.take_succ_cons, List.take_zero, List.length_cons, List.length_nil, Nat.zero_add, Nat.reduceAdd, Nat.le_refl, Nat.reduceLeDiff, D.pub, D.pubs, Tryz.results70]; exact ⟨_, rfl, rfl, congrArg bln (by first | rfl | (rw [Bool.eq_iff_iff]; simp only [lets]; simp; done) | (rw [Bool.eq_iff_iff]; simp only [lets]; simp; omega) | (rw [Bool.eq_iff_iff]; simp only [lets]; simp [*]; done) | (rw [Bool.eq_iff_iff]; simp only [lets]; simp [*]; omega) | (simp_all [lets]; done) | (exfalso; omega))⟩)

/-- May a kind of a space point at an object? -/
def permits (os : List AObj) (kind : Int) (space : ByteArray) (t : ARef) : Bool := os.any (lets kind space t) || decide (space = t.space)

theorem grant_Permits' (os : List AObj) (hos : os.length ≤ 1000000) (h : ∀ o ∈ os, o.ok) (kind : Int) (space : ByteArray) (t : ARef) :
    Pure Tryz.prog 36 [.pd (.slice (rows AObj.pd os)), int kind, str space, t.d] (fun d => d = bln (permits os kind space t)) :=
  grant_Permits (lets kind space t) os kind space t hos (fun o ho => grant_Lets o (h o ho) kind space t)

def isRef (r : ARef) (o : AObj) : Bool := decide (o.ref = r)

theorem Find_1 (r : ARef) (o : AObj) : PureB Tryz.prog 50 [o.d, .ptr 1000001 0] [(1000001, [int r.kind, str r.space, str r.name])] (fun d => d = bln (isRef r o)) := by
  refine pureB_of_run follows an_z97 Tryz.func50 rfl ok_z97 dst_z97 (by simp [Tryz.ntmps50]) ?_
  rw [run_start]
  simp only [ac_z97, go_sem, contS_seq, reduceIte, reduceCtorEq, Nat.reduceEqDiff, Nat.reduceAdd, Nat.reduceBEq, Nat.reduceBNe, Int.reduceLE, Int.reduceLT, Int.reduceToNat, Int.reduceEq, Nat.reduceLeDiff, Nat.reduceLT, Nat.reducePow, Nat.reduceDiv, Nat.reduceMod, eqVs, eqV, eq_Ref]
  simp only [retK, fullK, iterK, resD, resA, AOp.ex, St.ev, Option.map_some, Option.bind_some, St.get, lk, reduceIte, Nat.reduceEqDiff, Option.getD_some, oneD, List.getElem?_cons_zero, List.getElem?_cons_succ, List.drop_zero, List.drop_succ_cons, List.take_succ_cons, List.take_zero, List.length_cons, List.length_nil, Nat.zero_add, Nat.reduceAdd, Nat.le_refl, Nat.reduceLeDiff, D.pub, D.pubs, Tryz.results50]
  exact ⟨_, rfl, rfl, rfl⟩

theorem lidx_find {α : Type} (p : α → Bool) : ∀ (l : List α) (k : Nat), (l.find? p = none ∧ lidx p l k = -1) ∨ ∃ x j, l.find? p = some x ∧ lidx p l k = ((k + j : Nat) : Int) ∧ l[j]? = some x
  | [], k => .inl ⟨rfl, rfl⟩
  | x :: l, k => by
    rw [List.find?_cons, lidx]
    by_cases h : p x = true
    · rw [if_pos h, h]; exact .inr ⟨x, 0, rfl, by simp, by simp⟩
    · rw [if_neg h]
      have h' : p x = false := by simpa using h
      rw [h']
      rcases lidx_find p l (k + 1) with h1 | ⟨y, j, h1, h2, h3⟩
      · exact .inl h1
      · exact .inr ⟨y, j + 1, h1, by rw [h2]; omega, by simpa using h3⟩

def ref0 : ARef := ⟨0, ⟨#[]⟩, ⟨#[]⟩⟩

/-- The first object of a ref, or none. -/
def found (os : List AObj) (r : ARef) : Option AObj := os.find? (isRef r)

def foundD : Option AObj → D
  | some o => .tup [o.d, bln true]
  | none => .tup [(AObj.zero ref0).d, bln false]

theorem grant_Find (os : List AObj) (hos : os.length ≤ 1000000) (r : ARef) : Pure Tryz.prog 37 [.pd (.slice (rows AObj.pd os)), r.d] (fun d => d = foundD (found os r)) := by
  refine pure_of_run follows an_z95 Tryz.func37 rfl ok_z95 dst_z95 (by simp [Tryz.ntmps37]) ?_
  rw [run_start]
  simp only [ac_z95, go_sem, contS_seq, reduceIte, reduceCtorEq, Nat.reduceEqDiff, Nat.reduceAdd, Nat.reduceBEq, Nat.reduceBNe, Int.reduceLE, Int.reduceLT, Int.reduceToNat, Int.reduceEq, Nat.reduceLeDiff, Nat.reduceLT, Nat.reducePow, Nat.reduceDiv, Nat.reduceMod]
  refine (IndexFunc_Object (isRef r) 50 (enters_of Tryz.func50 rfl rfl) [(1000001, 0)] [(1000001, [int r.kind, str r.space, str r.name])] (Cl.of rfl rfl rfl rfl rfl) os hos (fun o _ => Find_1 r o)).callW (enters_of Tryz.func49 rfl rfl) _ [(3, 1000001)] rfl rfl rfl ?_
  rintro d rfl
  rcases lidx_find (isRef r) os 0 with ⟨h1, h2⟩ | ⟨x, j, h1, h2, h3⟩
  · rw [h2]
    simp only [go_sem, contS_seq, reduceIte, reduceCtorEq, Nat.reduceEqDiff, Nat.reduceAdd, Nat.reduceBEq, Nat.reduceBNe, Int.reduceLE, Int.reduceLT, Int.reduceToNat, Int.reduceEq, Nat.reduceLeDiff, Nat.reduceLT, Nat.reducePow, Nat.reduceDiv, Nat.reduceMod]
    simp only [retK, fullK, iterK, resD, resA, AOp.ex, St.ev, Option.map_some, Option.bind_some, St.get, lk, reduceIte, Nat.reduceEqDiff, Option.getD_some, oneD, List.getElem?_cons_zero, List.getElem?_cons_succ, List.drop_zero, List.drop_succ_cons, List.take_succ_cons, List.take_zero, List.length_cons, List.length_nil, Nat.zero_add, Nat.reduceAdd, Nat.le_refl, Nat.reduceLeDiff, D.pub, D.pubs, ret_z95]
    refine ⟨_, rfl, rfl, ?_⟩
    rw [found, h1]; rfl
  · rw [h2, Nat.zero_add]
    have hn : ((j : Int) < 0) = False := eq_false (by omega)
    simp only [go_sem, contS_seq, reduceIte, reduceCtorEq, Nat.reduceEqDiff, Nat.reduceAdd, Nat.reduceBEq, Nat.reduceBNe, Int.reduceLE, Int.reduceLT, Int.reduceToNat, Int.reduceEq, Nat.reduceLeDiff, Nat.reduceLT, Nat.reducePow, Nat.reduceDiv, Nat.reduceMod, hn, rows_get h3]
    simp only [retK, fullK, iterK, resD, resA, AOp.ex, St.ev, Option.map_some, Option.bind_some, St.get, lk, reduceIte, Nat.reduceEqDiff, Option.getD_some, oneD, List.getElem?_cons_zero, List.getElem?_cons_succ, List.drop_zero, List.drop_succ_cons, List.take_succ_cons, List.take_zero, List.length_cons, List.length_nil, Nat.zero_add, Nat.reduceAdd, Nat.le_refl, Nat.reduceLeDiff, D.pub, D.pubs, ret_z95]
    refine ⟨_, rfl, rfl, ?_⟩
    rw [found, h1]; rfl


def badKind : ByteArray := ⟨#[73, 110, 118, 97, 108, 105, 100, 75, 105, 110, 100]⟩
def notLet : ByteArray := ⟨#[82, 101, 102, 78, 111, 116, 80, 101, 114, 109, 105, 116, 116, 101, 100]⟩

set_option maxRecDepth 100000 in
theorem wrong_nil (r : AObj) (b : ABackend) (t : ARef) (ht : near b.ref r.ref.space = t) (h : t.kind ≠ 3 ∨ r.ref.space ≠ t.space) :
    Pure Tryz.prog 15 [.pd (.slice []), r.d, b.d] (fun d => d = str (if t.kind = 3 then notLet else badKind)) := by
  refine pure_of_run follows an_z153 Tryz.func15 rfl ok_z153 dst_z153 (by simp [Tryz.ntmps15]) ?_
  rw [run_start]
  simp only [ac_z153, go_sem, contS_seq, reduceIte, reduceCtorEq, Nat.reduceEqDiff, Nat.reduceAdd, Nat.reduceBEq, Nat.reduceBNe, Int.reduceLE, Int.reduceLT, Int.reduceToNat, Int.reduceEq, Nat.reduceLeDiff, Nat.reduceLT, Nat.reducePow, Nat.reduceDiv, Nat.reduceMod]
  refine (grant_Near b.ref r.ref.space).callW (enters_of Tryz.func35 rfl rfl) _ rfl rfl ?_
  rintro d rfl
  rw [ht]
  simp only [go_sem, contS_seq, reduceIte, reduceCtorEq, Nat.reduceEqDiff, Nat.reduceAdd, Nat.reduceBEq, Nat.reduceBNe, Int.reduceLE, Int.reduceLT, Int.reduceToNat, Int.reduceEq, Nat.reduceLeDiff, Nat.reduceLT, Nat.reducePow, Nat.reduceDiv, Nat.reduceMod]
  refine ⟨fun h3 => ?_, fun h3 => ?_⟩
  · have hs : r.ref.space ≠ t.space := by
      rcases h with h | h
      · exact absurd h3 h
      · exact h
    refine (grant_Permits (fun _ => false) [] 6 r.ref.space t (by simp) (by simp)).callW (enters_of Tryz.func36 rfl rfl) _ rfl rfl ?_
    rintro d rfl
    simp only [go_sem, contS_seq, reduceIte, reduceCtorEq, Nat.reduceEqDiff, Nat.reduceAdd, Nat.reduceBEq, Nat.reduceBNe, Int.reduceLE, Int.reduceLT, Int.reduceToNat, Int.reduceEq, Nat.reduceLeDiff, Nat.reduceLT, Nat.reducePow, Nat.reduceDiv, Nat.reduceMod, hs]
    simp only [retK, fullK, iterK, resD, resA, AOp.ex, St.ev, Option.map_some, Option.bind_some, St.get, lk, reduceIte, Nat.reduceEqDiff, Option.getD_some, oneD, List.getElem?_cons_zero, List.getElem?_cons_succ, List.drop_zero, List.drop_succ_cons, List.take_succ_cons, List.take_zero, List.length_cons, List.length_nil, Nat.zero_add, Nat.reduceAdd, Nat.le_refl, Nat.reduceLeDiff, D.pub, D.pubs, Tryz.results15, h3]
    exact ⟨_, rfl, rfl, rfl⟩
  · simp only [retK, fullK, iterK, resD, resA, AOp.ex, St.ev, Option.map_some, Option.bind_some, St.get, lk, reduceIte, Nat.reduceEqDiff, Option.getD_some, oneD, List.getElem?_cons_zero, List.getElem?_cons_succ, List.drop_zero, List.drop_succ_cons, List.take_succ_cons, List.take_zero, List.length_cons, List.length_nil, Nat.zero_add, Nat.reduceAdd, Nat.le_refl, Nat.reduceLeDiff, D.pub, D.pubs, Tryz.results15, h3]
    exact ⟨_, rfl, rfl, rfl⟩


def noBackend : ByteArray := ⟨#[66, 97, 99, 107, 101, 110, 100, 78, 111, 116, 70, 111, 117, 110, 100]⟩

/-- Is it there, may it be, with that port? -/
def thereIs (os : List AObj) (t : ARef) (port : Int) : Bool := match found os t with
  | some s => objMay s && hasInt s.ports port
  | none => false

/-- Why a backend does not go. -/
def wrongAt (os : List AObj) (space : ByteArray) (t : ARef) (port : Int) : ByteArray :=
  if t.kind ≠ 3 then badKind else if permits os 6 space t = false then notLet else if thereIs os t port = false then noBackend else ⟨#[]⟩

def wrong (os : List AObj) (r : AObj) (b : ABackend) : ByteArray := wrongAt os r.ref.space (near b.ref r.ref.space) b.port

theorem found_mem {os : List AObj} {t : ARef} {s : AObj} (h : found os t = some s) : s ∈ os := List.mem_of_find?_eq_some h

theorem back_Wrong (os : List AObj) (hos : os.length ≤ 1000000) (h : ∀ o ∈ os, o.ok) (r : AObj) (b : ABackend) : Pure Tryz.prog 15 [.pd (.slice (rows AObj.pd os)), r.d, b.d] (fun d => d = str (wrong os r b)) := by
  refine pure_of_run follows an_z153 Tryz.func15 rfl ok_z153 dst_z153 (by simp [Tryz.ntmps15]) ?_
  rw [run_start]
  simp only [ac_z153, go_sem, contS_seq, reduceIte, reduceCtorEq, Nat.reduceEqDiff, Nat.reduceAdd, Nat.reduceBEq, Nat.reduceBNe, Int.reduceLE, Int.reduceLT, Int.reduceToNat, Int.reduceEq, Nat.reduceLeDiff, Nat.reduceLT, Nat.reducePow, Nat.reduceDiv, Nat.reduceMod]
  refine (grant_Near b.ref r.ref.space).callW (enters_of Tryz.func35 rfl rfl) _ rfl rfl ?_
  rintro d rfl
  obtain ⟨t, ht⟩ : ∃ t, near b.ref r.ref.space = t := ⟨_, rfl⟩
  have hwr : wrong os r b = wrongAt os r.ref.space t b.port := by rw [wrong, ht]
  rw [ht]
  simp only [go_sem, contS_seq, reduceIte, reduceCtorEq, Nat.reduceEqDiff, Nat.reduceAdd, Nat.reduceBEq, Nat.reduceBNe, Int.reduceLE, Int.reduceLT, Int.reduceToNat, Int.reduceEq, Nat.reduceLeDiff, Nat.reduceLT, Nat.reducePow, Nat.reduceDiv, Nat.reduceMod]
  refine GifP.mk (fun h3 => ?_) (fun h3 => ?_)
  · refine (grant_Permits' os hos h 6 r.ref.space t).callW (enters_of Tryz.func36 rfl rfl) _ rfl rfl ?_
    rintro d rfl
    simp only [go_sem, contS_seq, reduceIte, reduceCtorEq, Nat.reduceEqDiff, Nat.reduceAdd, Nat.reduceBEq, Nat.reduceBNe, Int.reduceLE, Int.reduceLT, Int.reduceToNat, Int.reduceEq, Nat.reduceLeDiff, Nat.reduceLT, Nat.reducePow, Nat.reduceDiv, Nat.reduceMod]
    refine Gif.mk (fun hp => ?_) (fun hp => ?_)
    · refine (grant_Find os hos t).callW (enters_of Tryz.func37 rfl rfl) _ rfl rfl ?_
      rintro d rfl
      cases hf : found os t with
      | none =>
        simp only [foundD, go_sem, contS_seq, reduceIte, reduceCtorEq, Nat.reduceEqDiff, Nat.reduceAdd, Nat.reduceBEq, Nat.reduceBNe, Int.reduceLE, Int.reduceLT, Int.reduceToNat, Int.reduceEq, Nat.reduceLeDiff, Nat.reduceLT, Nat.reducePow, Nat.reduceDiv, Nat.reduceMod]
        simp only [retK, fullK, iterK, resD, resA, AOp.ex, St.ev, Option.map_some, Option.bind_some, St.get, lk, reduceIte, Nat.reduceEqDiff, Option.getD_some, oneD, List.getElem?_cons_zero, List.getElem?_cons_succ, List.drop_zero, List.drop_succ_cons, List.take_succ_cons, List.take_zero, List.length_cons, List.length_nil, Nat.zero_add, Nat.reduceAdd, Nat.le_refl, Nat.reduceLeDiff, D.pub, D.pubs, Tryz.results15]
        exact ⟨_, rfl, rfl, by rw [hwr]; simp [wrongAt, h3, hp, thereIs, hf, D.pub, noBackend]⟩
      | some s =>
        simp only [foundD, go_sem, contS_seq, reduceIte, reduceCtorEq, Nat.reduceEqDiff, Nat.reduceAdd, Nat.reduceBEq, Nat.reduceBNe, Int.reduceLE, Int.reduceLT, Int.reduceToNat, Int.reduceEq, Nat.reduceLeDiff, Nat.reduceLT, Nat.reducePow, Nat.reduceDiv, Nat.reduceMod]
        refine (object_May s (h s (found_mem hf))).callW (enters_of Tryz.func38 rfl rfl) _ rfl rfl ?_
        rintro d rfl
        simp only [go_sem, contS_seq, reduceIte, reduceCtorEq, Nat.reduceEqDiff, Nat.reduceAdd, Nat.reduceBEq, Nat.reduceBNe, Int.reduceLE, Int.reduceLT, Int.reduceToNat, Int.reduceEq, Nat.reduceLeDiff, Nat.reduceLT, Nat.reducePow, Nat.reduceDiv, Nat.reduceMod]
        refine Gif.mk (fun hm => ?_) (fun hm => ?_)
        · refine (slices_Contains_int s.ports (h s (found_mem hf)).po b.port).callW (enters_of Tryz.func39 rfl rfl) _ rfl rfl ?_
          rintro d rfl
          simp only [go_sem, contS_seq, reduceIte, reduceCtorEq, Nat.reduceEqDiff, Nat.reduceAdd, Nat.reduceBEq, Nat.reduceBNe, Int.reduceLE, Int.reduceLT, Int.reduceToNat, Int.reduceEq, Nat.reduceLeDiff, Nat.reduceLT, Nat.reducePow, Nat.reduceDiv, Nat.reduceMod]
          refine Gif.mk (fun hc => ?_) (fun hc => ?_)
          all_goals
            simp only [retK, fullK, iterK, resD, resA, AOp.ex, St.ev, Option.map_some, Option.bind_some, St.get, lk, reduceIte, Nat.reduceEqDiff, Option.getD_some, oneD, List.getElem?_cons_zero, List.getElem?_cons_succ, List.drop_zero, List.drop_succ_cons, List.take_succ_cons, List.take_zero, List.length_cons, List.length_nil, Nat.zero_add, Nat.reduceAdd, Nat.le_refl, Nat.reduceLeDiff, D.pub, D.pubs, Tryz.results15]
            exact ⟨_, rfl, rfl, by rw [hwr]; simp [wrongAt, h3, hp, thereIs, hf, hm, hc, D.pub, noBackend]⟩
        · simp only [retK, fullK, iterK, resD, resA, AOp.ex, St.ev, Option.map_some, Option.bind_some, St.get, lk, reduceIte, Nat.reduceEqDiff, Option.getD_some, oneD, List.getElem?_cons_zero, List.getElem?_cons_succ, List.drop_zero, List.drop_succ_cons, List.take_succ_cons, List.take_zero, List.length_cons, List.length_nil, Nat.zero_add, Nat.reduceAdd, Nat.le_refl, Nat.reduceLeDiff, D.pub, D.pubs, Tryz.results15]
          exact ⟨_, rfl, rfl, by rw [hwr]; simp [wrongAt, h3, hp, thereIs, hf, hm, D.pub, noBackend]⟩
    · simp only [retK, fullK, iterK, resD, resA, AOp.ex, St.ev, Option.map_some, Option.bind_some, St.get, lk, reduceIte, Nat.reduceEqDiff, Option.getD_some, oneD, List.getElem?_cons_zero, List.getElem?_cons_succ, List.drop_zero, List.drop_succ_cons, List.take_succ_cons, List.take_zero, List.length_cons, List.length_nil, Nat.zero_add, Nat.reduceAdd, Nat.le_refl, Nat.reduceLeDiff, D.pub, D.pubs, Tryz.results15]
      exact ⟨_, rfl, rfl, by rw [hwr]; simp [wrongAt, h3, hp, D.pub, notLet]⟩
  · simp only [retK, fullK, iterK, resD, resA, AOp.ex, St.ev, Option.map_some, Option.bind_some, St.get, lk, reduceIte, Nat.reduceEqDiff, Option.getD_some, oneD, List.getElem?_cons_zero, List.getElem?_cons_succ, List.drop_zero, List.drop_succ_cons, List.take_succ_cons, List.take_zero, List.length_cons, List.length_nil, Nat.zero_add, Nat.reduceAdd, Nat.le_refl, Nat.reduceLeDiff, D.pub, D.pubs, Tryz.results15]
    exact ⟨_, rfl, rfl, by rw [hwr]; simp [wrongAt, h3, D.pub, badKind]⟩

def isRoute (r : AObj) : Bool := decide (r.ref.kind = 6) && objMay r

theorem back_route (r : AObj) (h : r.ok) : Pure Tryz.prog 42 [r.d] (fun d => d = bln (isRoute r)) := by
  refine pure_of_run follows an_z165 Tryz.func42 rfl ok_z165 dst_z165 (by simp [Tryz.ntmps42]) ?_
  rw [run_start]
  simp only [ac_z165, go_sem, contS_seq, reduceIte, reduceCtorEq, Nat.reduceEqDiff, Nat.reduceAdd, Nat.reduceBEq, Nat.reduceBNe, Int.reduceLE, Int.reduceLT, Int.reduceToNat, Int.reduceEq, Nat.reduceLeDiff, Nat.reduceLT, Nat.reducePow, Nat.reduceDiv, Nat.reduceMod]
  (repeat' (first | (refine GifP.mk (fun _ => ?_) (fun _ => ?_)) | (refine Gif.mk (fun _ => ?_) (fun _ => ?_)) | (refine (object_May r h).callW (enters_of Tryz.func38 rfl rfl) _ rfl rfl ?_; rintro _ rfl; try simp only [go_sem, contS_seq, reduceIte, reduceCtorEq, Nat.reduceEqDiff, Nat.reduceAdd, Nat.reduceBEq, Nat.reduceBNe, Int.reduceLE, Int.reduceLT, Int.reduceToNat, Int.reduceEq, Nat.reduceLeDiff, Nat.reduceLT, Nat.reducePow, Nat.reduceDiv, Nat.reduceMod]))) <;> (simp only [retK, fullK, iterK, resD, resA, AOp.ex, St.ev, Option.map_some, Option.bind_some, St.get, lk, reduceIte, Nat.reduceEqDiff, Option.getD_some, oneD, List.getElem?_cons_zero, List.getElem?_cons_succ, List.drop_zero, List.drop_succ_cons, List.take_succ_cons, List.take_zero, List.length_cons, List.length_nil, Nat.zero_add, Nat.reduceAdd, Nat.le_refl, Nat.reduceLeDiff, D.pub, D.pubs, Tryz.results42]; exact ⟨_, rfl, rfl, congrArg bln (by first | rfl | (rw [Bool.eq_iff_iff]; simp only [isRoute]; simp; done) | (rw [Bool.eq_iff_iff]; simp only [isRoute]; simp; omega) | (rw [Bool.eq_iff_iff]; simp only [isRoute]; simp [*]; done) | (rw [Bool.eq_iff_iff]; simp only [isRoute]; simp [*]; omega) | (simp_all [isRoute]; done) | (exfalso; omega))⟩)

/-- The first reason among a rule's backends. -/
def firstWrong (os : List AObj) (r : AObj) : List ABackend → Option ByteArray
  | [] => none
  | b :: l => if wrong os r b = ⟨#[]⟩ then firstWrong os r l else some (wrong os r b)

def firstRule (os : List AObj) (r : AObj) : List ARule → ByteArray
  | [] => ⟨#[]⟩
  | x :: l => match firstWrong os r x.backends with
    | some w => w
    | none => firstRule os r l

def routeWhy (os : List AObj) (r : AObj) : ByteArray := if isRoute r = true then firstRule os r r.rules else ⟨#[]⟩

set_option maxHeartbeats 1000000 in
theorem back_Route (os : List AObj) (hos : os.length ≤ 1000000) (h : ∀ o ∈ os, o.ok) (r : AObj) (hr : r.ok) : Pure Tryz.prog 23 [.pd (.slice (rows AObj.pd os)), r.d] (fun d => d = str (routeWhy os r)) := by
  refine pure_of_run follows an_z166 Tryz.func23 rfl ok_z166 dst_z166 (by simp [Tryz.ntmps23]) ?_
  rw [run_start]
  simp only [ac_z166, go_sem, contS_seq, reduceIte, reduceCtorEq, Nat.reduceEqDiff, Nat.reduceAdd, Nat.reduceBEq, Nat.reduceBNe, Int.reduceLE, Int.reduceLT, Int.reduceToNat, Int.reduceEq, Nat.reduceLeDiff, Nat.reduceLT, Nat.reducePow, Nat.reduceDiv, Nat.reduceMod]
  refine (back_route r hr).callW (enters_of Tryz.func42 rfl rfl) _ rfl rfl ?_
  rintro d rfl
  simp only [go_sem, contS_seq, reduceIte, reduceCtorEq, Nat.reduceEqDiff, Nat.reduceAdd, Nat.reduceBEq, Nat.reduceBNe, Int.reduceLE, Int.reduceLT, Int.reduceToNat, Int.reduceEq, Nat.reduceLeDiff, Nat.reduceLT, Nat.reducePow, Nat.reduceDiv, Nat.reduceMod]
  refine Gif.mk (fun h1 => ?_) (fun h1 => ?_)
  rotate_left
  · simp only [retK, fullK, iterK, resD, resA, AOp.ex, St.ev, Option.map_some, Option.bind_some, St.get, lk, reduceIte, Nat.reduceEqDiff, Option.getD_some, oneD, List.getElem?_cons_zero, List.getElem?_cons_succ, List.drop_zero, List.drop_succ_cons, List.take_succ_cons, List.take_zero, List.length_cons, List.length_nil, Nat.zero_add, Nat.reduceAdd, Nat.le_refl, Nat.reduceLeDiff, D.pub, D.pubs, Tryz.results23]
    exact ⟨_, rfl, rfl, by simp [routeWhy, h1, D.pub]⟩
  simp only [rows_len]
  refine loopS (fun k st => ∃ i : Nat, k = r.rules.length - i ∧ i ≤ r.rules.length ∧ firstRule os r (r.rules.drop i) = firstRule os r r.rules ∧
    st = ⟨[(0, .pd (.slice (rows AObj.pd os))), (3, .ptr 3 0), (14, .pd (.slice (rows ARule.pd r.rules))), (15, int r.rules.length), (16, int i)], [(3, r.ds)], [], .no⟩) r.rules.length _ ?_ ⟨0, rfl, Nat.zero_le _, rfl, rfl⟩ ?_
  · exact Weak.less (by simp [lessL, lk]) (by simp [lessL, lk]) (by simp [lessL, lk]) rfl
  rintro k st ⟨i, rfl, hi, hrr, rfl⟩
  by_cases hlt : i < r.rules.length
  · obtain ⟨x, hx⟩ := at_lt hlt
    have hlt' : ((i : Int) < (r.rules.length : Int)) = True := eq_true (by omega)
    have hw := i64_succ (show i < 1000000000 by have := hr.ru; omega)
    have hxb := (hr.rus x (List.mem_of_getElem? hx)).bl
    rw [drop_at hx, firstRule] at hrr
    simp only [go_sem, contS_seq, reduceIte, reduceCtorEq, Nat.reduceEqDiff, Nat.reduceAdd, Nat.reduceBEq, Nat.reduceBNe, Int.reduceLE, Int.reduceLT, Int.reduceToNat, Int.reduceEq, Nat.reduceLeDiff, Nat.reduceLT, Nat.reducePow, Nat.reduceDiv, Nat.reduceMod, hlt', rows_get hx, rows_len]
    refine loopS (fun k st => ∃ j : Nat, k = x.backends.length - j ∧ j ≤ x.backends.length ∧ firstWrong os r (x.backends.drop j) = firstWrong os r x.backends ∧
      st = ⟨[(0, .pd (.slice (rows AObj.pd os))), (3, .ptr 3 0), (14, .pd (.slice (rows ARule.pd r.rules))), (15, int r.rules.length), (16, int i), (21, .pd (.slice (rows ABackend.pd x.backends))), (22, int x.backends.length), (23, int j)], [(3, r.ds)], [], .no⟩) x.backends.length _ ?_ ⟨0, rfl, Nat.zero_le _, rfl, rfl⟩ ?_
    · exact Weak.less (by simp [lessL, lk]) (by simp [lessL, lk]) (by simp [lessL, lk]) rfl
    rintro k st ⟨j, rfl, hj, hfw, rfl⟩
    by_cases hjl : j < x.backends.length
    · obtain ⟨b, hb⟩ := at_lt hjl
      have hjl' : ((j : Int) < (x.backends.length : Int)) = True := eq_true (by omega)
      have hwj := i64_succ (show j < 1000000000 by omega)
      rw [drop_at hb, firstWrong] at hfw
      simp only [go_sem, contS_seq, reduceIte, reduceCtorEq, Nat.reduceEqDiff, Nat.reduceAdd, Nat.reduceBEq, Nat.reduceBNe, Int.reduceLE, Int.reduceLT, Int.reduceToNat, Int.reduceEq, Nat.reduceLeDiff, Nat.reduceLT, Nat.reducePow, Nat.reduceDiv, Nat.reduceMod, hjl', rows_get hb]
      refine (back_Wrong os hos h r b).callW (enters_of Tryz.func15 rfl rfl) _ rfl rfl ?_
      rintro d rfl
      simp only [go_sem, contS_seq, reduceIte, reduceCtorEq, Nat.reduceEqDiff, Nat.reduceAdd, Nat.reduceBEq, Nat.reduceBNe, Int.reduceLE, Int.reduceLT, Int.reduceToNat, Int.reduceEq, Nat.reduceLeDiff, Nat.reduceLT, Nat.reducePow, Nat.reduceDiv, Nat.reduceMod, hwj]
      refine GifP.mk (fun hwr => ?_) (fun hwr => ?_)
      · rw [if_pos hwr] at hfw
        refine ⟨x.backends.length - (j + 1), _, ?_, ?_, j + 1, rfl, ?_, hfw, rfl⟩
        · omega
        · exact Weak.less (by simp [lessL, lk]) (by simp [lessL, lk]) (by simp [lessL, lk]) rfl
        · omega
      · rw [if_neg hwr] at hfw
        rw [← hfw] at hrr
        simp only [retK, fullK, iterK, resD, resA, AOp.ex, St.ev, Option.map_some, Option.bind_some, St.get, lk, reduceIte, Nat.reduceEqDiff, Option.getD_some, oneD, List.getElem?_cons_zero, List.getElem?_cons_succ, List.drop_zero, List.drop_succ_cons, List.take_succ_cons, List.take_zero, List.length_cons, List.length_nil, Nat.zero_add, Nat.reduceAdd, Nat.le_refl, Nat.reduceLeDiff, D.pub, D.pubs, Tryz.results23]
        refine ⟨_, rfl, rfl, ?_⟩
        rw [routeWhy, if_pos h1, ← hrr]; rfl
    · have hjl' : ((j : Int) < (x.backends.length : Int)) = False := eq_false (by omega)
      rw [List.drop_eq_nil_of_le (by omega), firstWrong] at hfw
      rw [← hfw] at hrr
      simp only [go_sem, contS_seq, reduceIte, reduceCtorEq, Nat.reduceEqDiff, Nat.reduceAdd, Nat.reduceBEq, Nat.reduceBNe, Int.reduceLE, Int.reduceLT, Int.reduceToNat, Int.reduceEq, Nat.reduceLeDiff, Nat.reduceLT, Nat.reducePow, Nat.reduceDiv, Nat.reduceMod, hjl', hw]
      refine ⟨r.rules.length - (i + 1), _, ?_, ?_, i + 1, rfl, ?_, hrr, rfl⟩
      · omega
      · exact Weak.less (by simp [lessL, lk]) (by simp [lessL, lk]) (by simp [lessL, lk]) rfl
      · omega
  · have hlt' : ((i : Int) < (r.rules.length : Int)) = False := eq_false (by omega)
    rw [List.drop_eq_nil_of_le (by omega), firstRule] at hrr
    simp only [go_sem, contS_seq, reduceIte, reduceCtorEq, Nat.reduceEqDiff, Nat.reduceAdd, Nat.reduceBEq, Nat.reduceBNe, Int.reduceLE, Int.reduceLT, Int.reduceToNat, Int.reduceEq, Nat.reduceLeDiff, Nat.reduceLT, Nat.reducePow, Nat.reduceDiv, Nat.reduceMod, hlt']
    simp only [retK, fullK, iterK, resD, resA, AOp.ex, St.ev, Option.map_some, Option.bind_some, St.get, lk, reduceIte, Nat.reduceEqDiff, Option.getD_some, oneD, List.getElem?_cons_zero, List.getElem?_cons_succ, List.drop_zero, List.drop_succ_cons, List.take_succ_cons, List.take_zero, List.length_cons, List.length_nil, Nat.zero_add, Nat.reduceAdd, Nat.le_refl, Nat.reduceLeDiff, D.pub, D.pubs, Tryz.results23]
    refine ⟨_, rfl, rfl, ?_⟩
    rw [routeWhy, if_pos h1, ← hrr]; rfl


def fewObjs (l : List AObj) : List AObj := (l.take 24).map fewObj

theorem take_map_mem {α β : Type} {g : α → β} {l : List α} {n : Nat} {y : β} (h : y ∈ (l.take n).map g) : ∃ x, x ∈ l ∧ g x = y := by
  obtain ⟨x, hx, rfl⟩ := List.mem_map.1 h
  exact ⟨x, List.mem_of_mem_take hx, rfl⟩

theorem fewPairs_ok {l : List APair} : ∀ p ∈ fewPairs l, p.ok := fun p hp => by
  obtain ⟨x, _, rfl⟩ := take_map_mem hp
  exact fewPair_ok x

theorem fewPairs_len (l : List APair) : (fewPairs l).length ≤ 1000000 := by simp [fewPairs]; omega

theorem fewMatch_ok (m : AMatch) : (fewMatch m).ok := ⟨fewPairs_len _, fewPairs_len _, fewPairs_ok, fewPairs_ok⟩

theorem fewFilter_ok (f : AFilter) : (fewFilter f).ok := ⟨by have := few_size f.name; simp [fewFilter]; omega, by have := few_size f.val; simp [fewFilter]; omega⟩

theorem fewNeed_ok (n : ANeed) : (fewNeed n).ok := by simp [ANeed.ok, fewNeed]; omega

theorem fewListener_ok (l : AListener) : (fewListener l).ok := ⟨by simp [fewListener, fewNeeds]; omega, fun x hx => by
  obtain ⟨y, _, rfl⟩ := take_map_mem hx
  exact fewNeed_ok y⟩

theorem fewRule_ok (r : ARule) : (fewRule r).ok := ⟨by simp [fewRule]; omega, by simp [fewRule, fewFilters]; omega, by simp [fewRule]; omega, fun x hx => by
  obtain ⟨y, _, rfl⟩ := take_map_mem hx
  exact fewMatch_ok y, fun x hx => by
  obtain ⟨y, _, rfl⟩ := take_map_mem hx
  exact fewFilter_ok y⟩

theorem fewObj_ok (o : AObj) : (fewObj o).ok where
  la := fewPairs_len _
  po := by simp [fewObj]; omega
  li := by simp [fewObj]; omega
  pa := by simp [fewObj]; omega
  ho := by simp [fewObj]; omega
  ru := by simp [fewObj]; omega
  fr := by simp [fewObj, fewSides]; omega
  to := by simp [fewObj, fewSides]; omega
  lis := fun x hx => by
    obtain ⟨y, _, rfl⟩ := take_map_mem hx
    exact fewListener_ok y
  rus := fun x hx => by
    obtain ⟨y, _, rfl⟩ := take_map_mem hx
    exact fewRule_ok y

theorem fewObjs_ok {l : List AObj} : ∀ o ∈ fewObjs l, o.ok := fun o ho => by
  obtain ⟨x, _, rfl⟩ := take_map_mem ho
  exact fewObj_ok x

theorem fewObjs_len (l : List AObj) : (fewObjs l).length ≤ 24 := by simp [fewObjs]; omega

theorem law11_Some (l : List AObj) : Pure Tryz.prog 12 [.pd (.slice (rows AObj.pd l))] (fun d => d = .pd (.slice (rows AObj.pd (fewObjs l)))) := by
  refine pure_of_run follows an_z175 Tryz.func12 rfl ok_z175 dst_z175 (by simp [Tryz.ntmps12]) ?_
  rw [run_start]
  simp only [ac_z175, go_sem, contS_seq, reduceIte, reduceCtorEq, Nat.reduceEqDiff, Nat.reduceAdd, Nat.reduceBEq, Nat.reduceBNe, Int.reduceLE, Int.reduceLT, Int.reduceToNat, Int.reduceEq, Nat.reduceLeDiff, Nat.reduceLT, Nat.reducePow, Nat.reduceDiv, Nat.reduceMod, rows_len]
  refine loopS (fun k st => ∃ i : Nat, k = 24 - i ∧ i ≤ 24 ∧ i ≤ l.length ∧
    st = ⟨[(0, .pd (.slice (rows AObj.pd l))), (3, .own 41 13 (rows AObj.pd ((l.take i).map fewObj)) 22), (4, int i)], [], [], .no⟩) 24 _
    ?_ ⟨0, rfl, by omega, by omega, rfl⟩ ?_
  · exact Weak.own1 3 22 41 13 (by kernel_rfl) (by decide) rfl (by simp [lessL, lk, St.purge, St.put, D.purge, rows]) (by simp [lessL, lk, St.purge, D.purges, D.purge]) (by simp [lessL]) rfl
  rintro k st ⟨i, rfl, hi6, hi, rfl⟩
  have hw := i64_succ (show i < 1000000000 by omega)
  by_cases hlt : i < l.length ∧ i < 24
  · obtain ⟨x, hx⟩ := at_lt hlt.1
    have h1 : ((i : Int) < (l.length : Int)) = True := eq_true (by omega)
    have h2 : ((i : Int) < 24) = True := eq_true (by omega)
    simp only [go_sem, contS_seq, reduceIte, reduceCtorEq, Nat.reduceEqDiff, Nat.reduceAdd, Nat.reduceBEq, Nat.reduceBNe, Int.reduceLE, Int.reduceLT, Int.reduceToNat, Int.reduceEq, Nat.reduceLeDiff, Nat.reduceLT, Nat.reducePow, Nat.reduceDiv, Nat.reduceMod, rows_len, rows_get hx, h1, h2]
    refine (law9_Few x).callW (enters_of Tryz.func13 rfl rfl) _ rfl rfl ?_
    rintro d rfl
    have hl' : ((l.take i).map fewObj).length ≤ i := by simp; omega
    have e1 : rows AObj.pd ((l.take i).map fewObj) ++ [AObj.pd (fewObj x)] = rows AObj.pd ((l.take (i + 1)).map fewObj) := few_step hx
    simp only [go_sem, contS_seq, reduceIte, reduceCtorEq, Nat.reduceEqDiff, Nat.reduceAdd, Nat.reduceBEq, Nat.reduceBNe, Int.reduceLE, Int.reduceLT, Int.reduceToNat, Int.reduceEq, Nat.reduceLeDiff, Nat.reduceLT, Nat.reducePow, Nat.reduceDiv, Nat.reduceMod, rows_len, hw]
    rw [e1]
    refine ⟨by simp, by unfold maxLen; omega, by omega, 24 - (i + 1), _, by omega, ?_, i + 1, rfl, by omega, by omega, rfl⟩
    exact Weak.less (by simp [lessL, lk]) (by simp [lessL, lk]) (by simp [lessL, lk]) rfl
  · have h3 := few_end (g := fewObj) hi6 hi hlt
    rw [h3]
    by_cases h1 : i < l.length
    · have h1' : ((i : Int) < (l.length : Int)) = True := eq_true (by omega)
      have h2 : ((i : Int) < 24) = False := eq_false (by omega)
      simp only [go_sem, contS_seq, reduceIte, reduceCtorEq, Nat.reduceEqDiff, Nat.reduceAdd, Nat.reduceBEq, Nat.reduceBNe, Int.reduceLE, Int.reduceLT, Int.reduceToNat, Int.reduceEq, Nat.reduceLeDiff, Nat.reduceLT, Nat.reducePow, Nat.reduceDiv, Nat.reduceMod, rows_len, h1', h2]
      simp only [retK, fullK, iterK, resD, resA, AOp.ex, St.ev, Option.map_some, Option.bind_some, St.get, lk, reduceIte, Nat.reduceEqDiff, Option.getD_some, oneD, List.getElem?_cons_zero, List.getElem?_cons_succ, List.drop_zero, List.drop_succ_cons, List.take_succ_cons, List.take_zero, List.length_cons, List.length_nil, Nat.zero_add, Nat.reduceAdd, Nat.le_refl, Nat.reduceLeDiff, D.pub, D.pubs, Tryz.results12]
      exact ⟨_, rfl, rfl, rfl⟩
    · have h1' : ((i : Int) < (l.length : Int)) = False := eq_false (by omega)
      simp only [go_sem, contS_seq, reduceIte, reduceCtorEq, Nat.reduceEqDiff, Nat.reduceAdd, Nat.reduceBEq, Nat.reduceBNe, Int.reduceLE, Int.reduceLT, Int.reduceToNat, Int.reduceEq, Nat.reduceLeDiff, Nat.reduceLT, Nat.reducePow, Nat.reduceDiv, Nat.reduceMod, rows_len, h1']
      simp only [retK, fullK, iterK, resD, resA, AOp.ex, St.ev, Option.map_some, Option.bind_some, St.get, lk, reduceIte, Nat.reduceEqDiff, Option.getD_some, oneD, List.getElem?_cons_zero, List.getElem?_cons_succ, List.drop_zero, List.drop_succ_cons, List.take_succ_cons, List.take_zero, List.length_cons, List.length_nil, Nat.zero_add, Nat.reduceAdd, Nat.le_refl, Nat.reduceLeDiff, D.pub, D.pubs, Tryz.results12]
      exact ⟨_, rfl, rfl, rfl⟩

/-! A rule's goals. -/

def goalOf (os : List AObj) (r : AObj) (b : ABackend) : AGoal := ⟨near b.ref r.ref.space, b.port, b.weight, !decide (wrong os r b = ⟨#[]⟩)⟩

def goals (os : List AObj) (r : AObj) (i : Int) : List AGoal := if isRoute r = true ∧ 0 ≤ i ∧ i < r.rules.length then match r.rules[i.toNat]? with
    | some x => x.backends.map (goalOf os r)
    | none => []
  else []

set_option maxHeartbeats 1000000 in
theorem back_Goals (os : List AObj) (hos : os.length ≤ 1000000) (h : ∀ o ∈ os, o.ok) (r : AObj) (hr : r.ok) (i : Int) : Pure Tryz.prog 20 [.pd (.slice (rows AObj.pd os)), r.d, int i] (fun d => d = .pd (.slice (rows AGoal.pd (goals os r i)))) := by
  refine pure_of_run follows an_z167 Tryz.func20 rfl ok_z167 dst_z167 (by simp [Tryz.ntmps20]) ?_
  rw [run_start]
  simp only [ac_z167, go_sem, contS_seq, reduceIte, reduceCtorEq, Nat.reduceEqDiff, Nat.reduceAdd, Nat.reduceBEq, Nat.reduceBNe, Int.reduceLE, Int.reduceLT, Int.reduceToNat, Int.reduceEq, Nat.reduceLeDiff, Nat.reduceLT, Nat.reducePow, Nat.reduceDiv, Nat.reduceMod, rows_len]
  refine (back_route r hr).callW (enters_of Tryz.func42 rfl rfl) _ rfl rfl ?_
  rintro d rfl
  simp only [go_sem, contS_seq, reduceIte, reduceCtorEq, Nat.reduceEqDiff, Nat.reduceAdd, Nat.reduceBEq, Nat.reduceBNe, Int.reduceLE, Int.reduceLT, Int.reduceToNat, Int.reduceEq, Nat.reduceLeDiff, Nat.reduceLT, Nat.reducePow, Nat.reduceDiv, Nat.reduceMod, rows_len]
  by_cases hg : isRoute r = true ∧ 0 ≤ i ∧ i < r.rules.length
  · have h1 : isRoute r = true := hg.1
    have h2 : (i < 0) = False := eq_false (by omega)
    have h3 : ((r.rules.length : Int) ≤ i) = False := eq_false (by omega)
    obtain ⟨n, rfl⟩ := Int.eq_ofNat_of_zero_le hg.2.1
    obtain ⟨x, hx⟩ := at_lt (show n < r.rules.length by omega)
    have hgo : goals os r n = x.backends.map (goalOf os r) := by simp only [goals, if_pos hg, Int.toNat_natCast, hx]
    have hxb := (hr.rus x (List.mem_of_getElem? hx)).bl
    simp only [go_sem, contS_seq, reduceIte, reduceCtorEq, Nat.reduceEqDiff, Nat.reduceAdd, Nat.reduceBEq, Nat.reduceBNe, Int.reduceLE, Int.reduceLT, Int.reduceToNat, Int.reduceEq, Nat.reduceLeDiff, Nat.reduceLT, Nat.reducePow, Nat.reduceDiv, Nat.reduceMod, rows_len, h1, h2, h3, rows_get hx]
    refine loopS (fun k st => ∃ j : Nat, k = x.backends.length - j ∧ j ≤ x.backends.length ∧
      st = ⟨[(0, .pd (.slice (rows AObj.pd os))), (4, .ptr 4 0), (7, .own 52 6 (rows AGoal.pd ((x.backends.take j).map (goalOf os r))) 53), (29, .pd (.slice (rows ABackend.pd x.backends))), (30, int x.backends.length), (31, int j)], [(4, r.ds)], [], .no⟩) x.backends.length _
      ?_ ⟨0, rfl, by omega, rfl⟩ ?_
    · exact Weak.own1 7 53 52 6 (by kernel_rfl) (by decide) rfl (by simp [lessL, lk, St.purge, St.put, D.purge, rows]) (by simp [lessL, lk, St.purge, D.purges, D.purge]) (by simp [lessL]) rfl
    rintro k st ⟨j, rfl, hj, rfl⟩
    by_cases hlt : j < x.backends.length
    · obtain ⟨b, hb⟩ := at_lt hlt
      have h1' : ((j : Int) < (x.backends.length : Int)) = True := eq_true (by omega)
      have hw := i64_succ (show j < 1000000000 by omega)
      simp only [go_sem, contS_seq, reduceIte, reduceCtorEq, Nat.reduceEqDiff, Nat.reduceAdd, Nat.reduceBEq, Nat.reduceBNe, Int.reduceLE, Int.reduceLT, Int.reduceToNat, Int.reduceEq, Nat.reduceLeDiff, Nat.reduceLT, Nat.reducePow, Nat.reduceDiv, Nat.reduceMod, rows_len, rows_get hb, h1']
      refine (grant_Near b.ref r.ref.space).callX (enters_of Tryz.func35 rfl rfl) _ rfl rfl ?_
      rintro _ rfl
      simp only [go_sem, contS_seq, reduceIte, reduceCtorEq, Nat.reduceEqDiff, Nat.reduceAdd, Nat.reduceBEq, Nat.reduceBNe, Int.reduceLE, Int.reduceLT, Int.reduceToNat, Int.reduceEq, Nat.reduceLeDiff, Nat.reduceLT, Nat.reducePow, Nat.reduceDiv, Nat.reduceMod]
      refine (back_Wrong os hos h r b).callX (enters_of Tryz.func15 rfl rfl) _ rfl rfl ?_
      rintro _ rfl
      have hl' : ((x.backends.take j).map (goalOf os r)).length ≤ j := by simp; omega
      have e1 : rows AGoal.pd ((x.backends.take j).map (goalOf os r)) ++ [[PD.raw (Value.int IntKind.i64 (near b.ref r.ref.space).kind), PD.raw (Value.string (near b.ref r.ref.space).space), PD.raw (Value.string (near b.ref r.ref.space).name), PD.raw (Value.int IntKind.i64 b.port), PD.raw (Value.int IntKind.i64 b.weight), PD.raw (Value.bool !decide (wrong os r b = ⟨#[]⟩))]] = rows AGoal.pd ((x.backends.take (j + 1)).map (goalOf os r)) := few_step (f := AGoal.pd) (g := goalOf os r) hb
      simp only [go_sem, contS_seq, reduceIte, reduceCtorEq, Nat.reduceEqDiff, Nat.reduceAdd, Nat.reduceBEq, Nat.reduceBNe, Int.reduceLE, Int.reduceLT, Int.reduceToNat, Int.reduceEq, Nat.reduceLeDiff, Nat.reduceLT, Nat.reducePow, Nat.reduceDiv, Nat.reduceMod, rows_len, hw]
      rw [e1]
      refine ⟨by simp, by unfold maxLen; omega, by omega, x.backends.length - (j + 1), _, by omega, ?_, j + 1, rfl, by omega, rfl⟩
      exact Weak.less (by simp [lessL, lk]) (by simp [lessL, lk]) (by simp [lessL, lk]) rfl
    · have h1' : ((j : Int) < (x.backends.length : Int)) = False := eq_false (by omega)
      simp only [go_sem, contS_seq, reduceIte, reduceCtorEq, Nat.reduceEqDiff, Nat.reduceAdd, Nat.reduceBEq, Nat.reduceBNe, Int.reduceLE, Int.reduceLT, Int.reduceToNat, Int.reduceEq, Nat.reduceLeDiff, Nat.reduceLT, Nat.reducePow, Nat.reduceDiv, Nat.reduceMod, rows_len, h1']
      simp only [retK, fullK, iterK, resD, resA, AOp.ex, St.ev, Option.map_some, Option.bind_some, St.get, lk, reduceIte, Nat.reduceEqDiff, Option.getD_some, oneD, List.getElem?_cons_zero, List.getElem?_cons_succ, List.drop_zero, List.drop_succ_cons, List.take_succ_cons, List.take_zero, List.length_cons, List.length_nil, Nat.zero_add, Nat.reduceAdd, Nat.le_refl, Nat.reduceLeDiff, D.pub, D.pubs, Tryz.results20]
      exact ⟨_, rfl, rfl, by rw [hgo, List.take_of_length_le (by omega)]; rfl⟩
  · have hgo : goals os r i = [] := by simp only [goals, if_neg hg]
    refine Gif.mk (fun h1 => ?_) (fun h1 => ?_)
    · refine GifP.mk (fun h2 => ?_) (fun h2 => ?_)
      · simp only [retK, fullK, iterK, resD, resA, AOp.ex, St.ev, Option.map_some, Option.bind_some, St.get, lk, reduceIte, Nat.reduceEqDiff, Option.getD_some, oneD, List.getElem?_cons_zero, List.getElem?_cons_succ, List.drop_zero, List.drop_succ_cons, List.take_succ_cons, List.take_zero, List.length_cons, List.length_nil, Nat.zero_add, Nat.reduceAdd, Nat.le_refl, Nat.reduceLeDiff, D.pub, D.pubs, Tryz.results20]
        exact ⟨_, rfl, rfl, by rw [hgo]; rfl⟩
      refine GifP.mk (fun h3 => ?_) (fun h3 => ?_)
      · simp only [retK, fullK, iterK, resD, resA, AOp.ex, St.ev, Option.map_some, Option.bind_some, St.get, lk, reduceIte, Nat.reduceEqDiff, Option.getD_some, oneD, List.getElem?_cons_zero, List.getElem?_cons_succ, List.drop_zero, List.drop_succ_cons, List.take_succ_cons, List.take_zero, List.length_cons, List.length_nil, Nat.zero_add, Nat.reduceAdd, Nat.le_refl, Nat.reduceLeDiff, D.pub, D.pubs, Tryz.results20]
        exact ⟨_, rfl, rfl, by rw [hgo]; rfl⟩
      · exact absurd ⟨h1, by omega, by omega⟩ hg
    · simp only [retK, fullK, iterK, resD, resA, AOp.ex, St.ev, Option.map_some, Option.bind_some, St.get, lk, reduceIte, Nat.reduceEqDiff, Option.getD_some, oneD, List.getElem?_cons_zero, List.getElem?_cons_succ, List.drop_zero, List.drop_succ_cons, List.take_succ_cons, List.take_zero, List.length_cons, List.length_nil, Nat.zero_add, Nat.reduceAdd, Nat.le_refl, Nat.reduceLeDiff, D.pub, D.pubs, Tryz.results20]
      exact ⟨_, rfl, rfl, by rw [hgo]; rfl⟩


theorem heavy_nat (x : Int) : heavy x = ((min 1000 x.toNat : Nat) : Int) := by unfold heavy; omega

theorem chs_total : ∀ (i : Nat) (ws : List Int), ((chs i ws).length : Int) = total ws
  | _, [] => rfl
  | i, w :: ws => by
    have := chs_total (i + 1) ws
    simp only [chs, total, List.length_append, List.length_replicate, heavy_nat]
    omega

theorem pos_chs : ∀ (i : Nat) (ws : List Int) (m : Nat), (m : Int) < total ws → ∃ j : Nat, pos i ws m = some j ∧ (chs i ws)[m]? = some (j : Int)
  | _, [], m, h => by simp [total] at h; omega
  | i, w :: ws, m, h => by
    simp only [total, heavy_nat] at h
    simp only [pos, chs, heavy_nat]
    by_cases hm : m < min 1000 w.toNat
    · refine ⟨i, if_pos (by omega), ?_⟩
      rw [List.getElem?_append_left (by rw [List.length_replicate]; exact hm), List.getElem?_replicate, if_pos hm]
    · obtain ⟨j, h1, h2⟩ := pos_chs (i + 1) ws (m - min 1000 w.toNat) (by omega)
      refine ⟨j, ?_, ?_⟩
      · rw [if_neg (by omega), ← h1]
        congr 1
        omega
      · rw [List.getElem?_append_right (by rw [List.length_replicate]; omega), List.length_replicate]
        exact h2

theorem refChoose_eq (ws : List Int) (n : Nat) : refChoose ws n = placeD (choose ws n) := by
  unfold refChoose choose
  have ht := chs_total 0 ws
  by_cases h0 : (chs 0 ws).length = 0
  · rw [if_pos h0, if_pos (by omega)]; rfl
  · rw [if_neg h0, if_neg (by omega)]
    have hm : n % (chs 0 ws).length < (chs 0 ws).length := Nat.mod_lt _ (by omega)
    have e : (n : Int) % total ws = ((n % (chs 0 ws).length : Nat) : Int) := by rw [← ht]; simp
    obtain ⟨j, h1, h2⟩ := pos_chs 0 ws (n % (chs 0 ws).length) (by omega)
    rw [e, h1, List.getD_eq_getElem?_getD, h2]
    rfl

theorem ref_Choose2 (ws : List Int) (n : Nat) (hn : n < 2 ^ 64) (hl : ws.length ≤ 8) : Pure Tryz.prog 17 [.pd (.slice (ints ws)), u64 n] (fun d => d = placeD (choose ws n)) :=
  (ref_Choose' ws n hn hl).mono fun d h => by rw [h, refChoose_eq]

set_option maxRecDepth 100000 in
theorem ref_Pick (gs : List AGoal) (n : Nat) (hn : n < 2 ^ 64) (hl : gs.length ≤ 8) : Pure Tryz.prog 19 [.pd (.slice (rows AGoal.pd gs)), u64 n] (fun d => d = .tup [(pick gs n).1.d, bln (pick gs n).2]) := by
  refine pure_of_run follows an_z158 Tryz.func19 rfl ok_z158 dst_z158 (by simp [Tryz.ntmps19]) ?_
  rw [run_start]
  simp only [ac_z158, go_sem, contS_seq, reduceIte, reduceCtorEq, Nat.reduceEqDiff, Nat.reduceAdd, Nat.reduceBEq, Nat.reduceBNe, Int.reduceLE, Int.reduceLT, Int.reduceToNat, Int.reduceEq, Nat.reduceLeDiff, Nat.reduceLT, Nat.reducePow, Nat.reduceDiv, Nat.reduceMod]
  refine loopS (fun k st => ∃ i : Nat, k = gs.length - i ∧ i ≤ gs.length ∧
    st = ⟨[(0, .pd (.slice (rows AGoal.pd gs))), (1, u64 n), (4, .ptr 4 0), (6, .own 3 1 (ints ((gs.take i).map (·.weight))) 23), (7, int i)], [(4, [int 0, str ⟨#[]⟩, str ⟨#[]⟩, int 0, int 0, bln false])], [], .no⟩) gs.length _
    ?_ ⟨0, rfl, by omega, rfl⟩ ?_
  · exact Weak.own1 6 23 3 1 (by kernel_rfl) (by decide) rfl (by simp [lessL, lk, St.purge, St.put, D.purge, rows]) (by simp [lessL, lk, St.purge, D.purges, D.purge]) (by simp [lessL]) rfl
  rintro k st ⟨i, rfl, hi, rfl⟩
  have hi1 : IntKind.i64.wrap ((i : Int) + 1) = ((i + 1 : Nat) : Int) := by rw [IntWalk.i64_in _ (by omega)]; omega
  by_cases hlt : i < gs.length
  · obtain ⟨g, hg⟩ := at_lt hlt
    have h1 : (i : Int) < (gs.length : Int) := by omega
    simp only [go_sem, contS_seq, reduceIte, reduceCtorEq, Nat.reduceEqDiff, Nat.reduceAdd, Nat.reduceBEq, Nat.reduceBNe, Int.reduceLE, Int.reduceLT, Int.reduceToNat, Int.reduceEq, Nat.reduceLeDiff, Nat.reduceLT, Nat.reducePow, Nat.reduceDiv, Nat.reduceMod, rows_len, rows_get hg, h1, hi1]
    have e1 : ints ((gs.take i).map (·.weight)) ++ [[pInt g.weight]] = ints ((gs.take (i + 1)).map (·.weight)) := by
      rw [take_at hg, List.map_append]; exact ints_one _ _
    rw [e1]
    refine ⟨by simp, by unfold maxLen; simp; omega, by simp; omega, gs.length - (i + 1), _, by omega, ?_, i + 1, rfl, by omega, rfl⟩
    exact Weak.less (by simp [lessL, lk]) (by simp [lessL, lk]) (by simp [lessL, lk]) rfl
  · have h1 : ¬ (i : Int) < (gs.length : Int) := by omega
    simp only [go_sem, contS_seq, reduceIte, reduceCtorEq, Nat.reduceEqDiff, Nat.reduceAdd, Nat.reduceBEq, Nat.reduceBNe, Int.reduceLE, Int.reduceLT, Int.reduceToNat, Int.reduceEq, Nat.reduceLeDiff, Nat.reduceLT, Nat.reducePow, Nat.reduceDiv, Nat.reduceMod, rows_len, h1, List.take_of_length_le (show gs.length ≤ i by omega)]
    refine (ref_Choose2 (gs.map (·.weight)) n hn (by simpa using hl)).callW (enters_of Tryz.func17 rfl rfl) _ rfl rfl ?_
    rintro d rfl
    unfold pick
    cases hch : choose (gs.map (·.weight)) n with
    | none =>
      simp only [placeD, go_sem, contS_seq, reduceIte, reduceCtorEq, Nat.reduceEqDiff, Nat.reduceAdd, Nat.reduceBEq, Nat.reduceBNe, Int.reduceLE, Int.reduceLT, Int.reduceToNat, Int.reduceEq, Nat.reduceLeDiff, Nat.reduceLT, Nat.reducePow, Nat.reduceDiv, Nat.reduceMod]
      simp only [retK, fullK, iterK, resD, resA, AOp.ex, St.ev, Option.map_some, Option.bind_some, St.get, lk, reduceIte, Nat.reduceEqDiff, Option.getD_some, oneD, List.getElem?_cons_zero, List.getElem?_cons_succ, List.drop_zero, List.drop_succ_cons, List.take_succ_cons, List.take_zero, List.length_cons, List.length_nil, Nat.zero_add, Nat.reduceAdd, Nat.le_refl, Nat.reduceLeDiff, D.pub, D.pubs, ret_z158]
      exact ⟨_, rfl, rfl, rfl⟩
    | some i =>
      have hi := choose_lt hch
      rw [List.length_map] at hi
      obtain ⟨g, hg⟩ := at_lt hi
      simp only [placeD, go_sem, contS_seq, reduceIte, reduceCtorEq, Nat.reduceEqDiff, Nat.reduceAdd, Nat.reduceBEq, Nat.reduceBNe, Int.reduceLE, Int.reduceLT, Int.reduceToNat, Int.reduceEq, Nat.reduceLeDiff, Nat.reduceLT, Nat.reducePow, Nat.reduceDiv, Nat.reduceMod, rows_get hg]
      refine ⟨fun hb => ?_, fun hb => ?_⟩
      · simp only [retK, fullK, iterK, resD, resA, AOp.ex, St.ev, Option.map_some, Option.bind_some, St.get, lk, reduceIte, Nat.reduceEqDiff, Option.getD_some, oneD, List.getElem?_cons_zero, List.getElem?_cons_succ, List.drop_zero, List.drop_succ_cons, List.take_succ_cons, List.take_zero, List.length_cons, List.length_nil, Nat.zero_add, Nat.reduceAdd, Nat.le_refl, Nat.reduceLeDiff, D.pub, D.pubs, ret_z158, hg, hb]
        exact ⟨_, rfl, rfl, rfl⟩
      · simp only [retK, fullK, iterK, resD, resA, AOp.ex, St.ev, Option.map_some, Option.bind_some, St.get, lk, reduceIte, Nat.reduceEqDiff, Option.getD_some, oneD, List.getElem?_cons_zero, List.getElem?_cons_succ, List.drop_zero, List.drop_succ_cons, List.take_succ_cons, List.take_zero, List.length_cons, List.length_nil, Nat.zero_add, Nat.reduceAdd, Nat.le_refl, Nat.reduceLeDiff, D.pub, D.pubs, ret_z158, hg, hb]
        exact ⟨_, rfl, rfl, by simp [hb, D.pub, D.pubs]⟩


def wantAt (i : Nat) : Nat := if i = 0 ∨ i = 4 then 0 else 2

theorem choose_eg : ∀ i, i < 5 → choose [1, 0, 3] i = some (wantAt i) := by decide

theorem want_eg : ∀ i, i < 5 → ([[pInt 0], [pInt 2], [pInt 2], [pInt 2], [pInt 0]] : List (List PD))[i]? = some [pInt (wantAt i)] := by
  intro i hi
  match i, hi with
  | 0, _ => rfl
  | 1, _ => rfl
  | 2, _ => rfl
  | 3, _ => rfl
  | 4, _ => rfl

def aRoute : AObj := ⟨⟨6, ⟨#[119, 101, 98]⟩, ⟨#[114]⟩⟩, false, [], [], ⟨#[]⟩, [], [], [], [], [], []⟩

set_option maxRecDepth 100000 in
theorem awake14 : Pure Tryz.prog 11 [] (fun d => d = bln true) := by
  refine pure_of_run follows an_z162 Tryz.func11 rfl ok_z162 dst_z162 (by simp [Tryz.ntmps11]) ?_
  rw [run_start]
  simp only [ac_z162, go_sem, contS_seq, reduceIte, reduceCtorEq, Nat.reduceEqDiff, Nat.reduceAdd, Nat.reduceBEq, Nat.reduceBNe, Int.reduceLE, Int.reduceLT, Int.reduceToNat, Int.reduceEq, Nat.reduceLeDiff, Nat.reduceLT, Nat.reducePow, Nat.reduceDiv, Nat.reduceMod]
  refine loopS (fun k st => ∃ i : Nat, k = 5 - i ∧ i ≤ 5 ∧
    st = ⟨[(6, .own 3 1 [[pInt 0], [pInt 2], [pInt 2], [pInt 2], [pInt 0]] 6), (7, int 5), (8, int i)], [], [], .no⟩) 5 _
    ?_ ⟨0, rfl, by omega, rfl⟩ ?_
  · exact Weak.less (by simp [lessL, lk]) (by simp [lessL, lk]) (by simp [lessL, lk]) rfl
  rintro k st ⟨i, rfl, hi, rfl⟩
  have hi1 : IntKind.i64.wrap ((i : Int) + 1) = ((i + 1 : Nat) : Int) := by rw [IntWalk.i64_in _ (by omega)]; omega
  by_cases hlt : i < 5
  · have h1 : (i : Int) < 5 := by omega
    have hu : IntKind.u64.wrap (i : Int) = (i : Int) := IntWalk.u64_in _ (by omega)
    simp only [go_sem, contS_seq, reduceIte, reduceCtorEq, Nat.reduceEqDiff, Nat.reduceAdd, Nat.reduceBEq, Nat.reduceBNe, Int.reduceLE, Int.reduceLT, Int.reduceToNat, Int.reduceEq, Nat.reduceLeDiff, Nat.reduceLT, Nat.reducePow, Nat.reduceDiv, Nat.reduceMod, h1, hi1, hu, want_eg i hlt]
    refine (back_Choose [1, 0, 3] i (by omega) (by simp)).callW (enters_of Tryz.func10 rfl rfl) _ rfl rfl ?_
    rintro d rfl
    simp only [choose_eg i hlt, placeD, go_sem, contS_seq, reduceIte, reduceCtorEq, Nat.reduceEqDiff, Nat.reduceAdd, Nat.reduceBEq, Nat.reduceBNe, Int.reduceLE, Int.reduceLT, Int.reduceToNat, Int.reduceEq, Nat.reduceLeDiff, Nat.reduceLT, Nat.reducePow, Nat.reduceDiv, Nat.reduceMod, hi1]
    refine ⟨5 - (i + 1), _, by omega, ?_, i + 1, rfl, by omega, rfl⟩
    exact Weak.less (by simp [lessL, lk]) (by simp [lessL, lk]) (by simp [lessL, lk]) rfl
  · have h1 : ¬ (i : Int) < 5 := by omega
    simp only [go_sem, contS_seq, reduceIte, reduceCtorEq, Nat.reduceEqDiff, Nat.reduceAdd, Nat.reduceBEq, Nat.reduceBNe, Int.reduceLE, Int.reduceLT, Int.reduceToNat, Int.reduceEq, Nat.reduceLeDiff, Nat.reduceLT, Nat.reducePow, Nat.reduceDiv, Nat.reduceMod, h1]
    refine (wrong_nil aRoute ⟨⟨4, ⟨#[]⟩, ⟨#[115]⟩⟩, 0, 0⟩ ⟨4, ⟨#[119, 101, 98]⟩, ⟨#[115]⟩⟩ (by simp [near, aRoute]) (.inl (by decide))).callW (enters_of Tryz.func15 rfl rfl) _ rfl rfl ?_
    rintro d rfl
    simp only [go_sem, contS_seq, reduceIte, reduceCtorEq, Nat.reduceEqDiff, Nat.reduceAdd, Nat.reduceBEq, Nat.reduceBNe, Int.reduceLE, Int.reduceLT, Int.reduceToNat, Int.reduceEq, Nat.reduceLeDiff, Nat.reduceLT, Nat.reducePow, Nat.reduceDiv, Nat.reduceMod, badKind]
    trace_state
    refine (wrong_nil aRoute ⟨⟨3, ⟨#[97, 112, 112]⟩, ⟨#[115]⟩⟩, 0, 0⟩ ⟨3, ⟨#[97, 112, 112]⟩, ⟨#[115]⟩⟩ (by simp [near]) (.inr (by decide))).callW (enters_of Tryz.func15 rfl rfl) _ rfl rfl ?_
    rintro d rfl
    simp only [go_sem, contS_seq, reduceIte, reduceCtorEq, Nat.reduceEqDiff, Nat.reduceAdd, Nat.reduceBEq, Nat.reduceBNe, Int.reduceLE, Int.reduceLT, Int.reduceToNat, Int.reduceEq, Nat.reduceLeDiff, Nat.reduceLT, Nat.reducePow, Nat.reduceDiv, Nat.reduceMod, notLet]
    simp only [retK, fullK, iterK, resD, resA, AOp.ex, St.ev, Option.map_some, Option.bind_some, St.get, lk, reduceIte, Nat.reduceEqDiff, Option.getD_some, oneD, List.getElem?_cons_zero, List.getElem?_cons_succ, List.drop_zero, List.drop_succ_cons, List.take_succ_cons, List.take_zero, List.length_cons, List.length_nil, Nat.zero_add, Nat.reduceAdd, Nat.le_refl, Nat.reduceLeDiff, D.pub, D.pubs, Tryz.results11]
    exact ⟨_, rfl, rfl, rfl⟩

end Go.Proofs.YtbpgebfejebmlaaGreatDoor

namespace Go.Proofs.YtbpgebfejebmlaaGreatDoor
open Go

/-- toll/tolllaw14.BackLets -/
def an_z179 : Ann := ⟨[(0, [0, 2, 4]), (1, [0, 2, 4]), (2, [0, 4, 7]), (3, [0, 4, 7, 8]), (4, [0, 4, 7, 8, 29]), (5, [0, 4, 7, 8]), (6, [0, 4, 7, 8, 9]), (7, [0, 4, 7, 8, 9, 37]), (8, [0, 4, 7, 8, 9, 10, 11]), (9, [0, 4, 7, 8, 9, 10, 11, 12]), (10, [0, 4, 7, 8, 9, 10, 11, 12, 13]), (11, [0, 4, 7, 8, 9, 10, 11, 12, 13, 49]), (12, [0, 4, 7, 8, 9, 10, 11, 12, 13]), (13, [0, 4, 7, 8, 9, 10, 11, 12, 13]), (14, [0, 4, 7, 8, 9, 11, 12, 14]), (15, [0, 4, 7, 8, 9, 11, 12, 14, 15]), (16, [0, 4, 7, 8, 9, 11, 12, 14, 15, 73]), (17, [0, 4, 7, 8, 9, 11, 12, 14, 15]), (18, [0, 4, 7, 8, 9, 11, 12, 14, 15, 16]), (19, [0, 4, 7, 8, 9, 11, 12, 14, 15, 16, 17]), (20, [0, 4, 7, 8, 9, 11, 12, 14, 15, 16, 17, 84]), (21, [0, 4, 7, 8, 9, 11, 12, 14, 15, 16, 17]), (22, [0, 4, 7, 8, 9, 11, 12, 14, 15, 16, 17]), (23, [0, 4, 7, 8, 139]), (24, [6]), (25, [6])], [(1, ([0, 1, 0, 7, 15, 31], .take 0 (.take 2 (.alts (.cons 1 false (.alts (.cons 3 true (.take 4 (.alts (.cons 5 true (.done) (.nil)))) (.nil))) (.nil)))))), (13, ([0, 1, 3, 7, 3, 31, 63, 3, 131, 511, 1023, 2047], .take 0 (.take 1 (.take 2 (.take 3 (.take 4 (.take 5 (.take 6 (.take 7 (.take 8 (.take 9 (.take 10 (.take 11 (.done)))))))))))))), (22, ([0, 1, 3, 7, 15, 31, 63, 127, 255, 511, 127, 1151, 3199, 8191, 16383, 32767, 65535, 131071, 65535, 524287, 1048575, 2097151, 4194303, 8388607, 16777215, 33554431, 67108863, 33554431, 268435455, 536870911, 1073741823, 33554431, 2181038079, 6476005375, 17179869183, 34359738367, 68719476735, 137438953471], .take 0 (.take 1 (.take 2 (.take 3 (.take 4 (.take 5 (.take 6 (.take 7 (.take 8 (.take 9 (.take 10 (.take 11 (.take 12 (.take 13 (.take 14 (.take 15 (.take 16 (.take 17 (.take 18 (.take 19 (.take 20 (.take 21 (.take 22 (.take 23 (.take 24 (.take 25 (.take 26 (.take 27 (.take 28 (.take 29 (.take 30 (.take 31 (.take 32 (.take 33 (.take 34 (.take 35 (.take 36 (.take 37 (.done))))))))))))))))))))))))))))))))))))))))], []⟩
def ac_z179 : AC := (.seq (.region [.mk none (some 4) (.box 41 (.tmp 1)), .mk none (some 6) (.mv (.const (.bool false)))] (some [0, 2, 4])) (.seq (.draw [.mk none (some 18) (.mv (.tmp 0)), .mk none (some 19) (.call 12 [.tmp 18]), .mk none (some 20) (.load (some 13) (.tmp 4)), .mk none (some 21) (.call 13 [.tmp 20]), .mk none (some 0) (.mv (.tmp 19)), .mk none none (.store 13 (.tmp 4) (.tmp 21))] [0, 1, 0, 7, 15, 31] (.take 0 (.take 2 (.alts (.cons 1 false (.alts (.cons 3 true (.take 4 (.alts (.cons 5 true .done .nil))) .nil)) .nil)))) (some [0, 2, 4])) (.seq (.region [.mk none (some 22) (.mv (.tmp 0)), .mk none (some 23) (.load (some 13) (.tmp 4)), .mk none (some 24) (.mv (.tmp 2)), .mk none (some 25) (.call 20 [.tmp 22, .tmp 23, .tmp 24]), .mk none (some 7) (.mv (.tmp 25))] (some [0, 4, 7])) (.seq (.seq (.region [.mk none (some 8) (.mv (.const (.int .i64 0)))] (some [0, 4, 7, 8])) (.block 0 (.loop (.seq (.seq (.region [.mk none (some 26) (.mv (.tmp 8)), .mk none (some 27) (.mv (.tmp 7)), .mk none (some 28) (.len (.tmp 27) false), .mk none (some 29) (.bin .lss (.tmp 26) (.tmp 28))] (some [0, 4, 7, 8, 29])) (.cond (.tmp 29) .skip (.exit 0))) (.seq (.block 1 (.seq (.region [.mk none (some 32) (.mv (.tmp 7)), .mk none (some 33) (.mv (.tmp 8)), .mk none (some 34) (.idxA 6 (.tmp 32) (.tmp 33)), .mk none (some 35) (.load (some 6) (.tmp 34)), .mk none (some 9) (.alloc 52 [.pd (.raw (.int .i64 0)), .pd (.raw (.string ⟨#[]⟩)), .pd (.raw (.string ⟨#[]⟩)), .pd (.raw (.int .i64 0)), .pd (.raw (.int .i64 0)), .pd (.raw (.bool false))]), .mk none none (.store 6 (.tmp 9) (.tmp 35))] (some [0, 4, 7, 8, 9])) (.seq (.seq (.region [.mk none (some 36) (.fieldA 5 (.tmp 9)), .mk none (some 37) (.load none (.tmp 36))] (some [0, 4, 7, 8, 9, 37])) (.cond (.tmp 37) (.exit 1) .skip)) (.seq (.region [.mk none (some 39) (.mv (.tmp 0)), .mk none (some 40) (.fieldA 0 (.tmp 9)), .mk none (some 41) (.load (some 3) (.tmp 40)), .mk none (some 42) (.call 21 [.tmp 39, .tmp 41]), .mk none (some 38) (.mv (.tmp 42)), .mk none (some 43) (.extract (.tmp 38) 0), .mk none (some 44) (.extract (.tmp 38) 1), .mk none (some 10) (.alloc 41 [.pd (.raw (.int .i64 0)), .pd (.raw (.string ⟨#[]⟩)), .pd (.raw (.string ⟨#[]⟩)), .pd (.raw (.bool false)), .nils, .nils, .pd (.raw (.string ⟨#[]⟩)), .nils, .nils, .nils, .nils, .nils, .nils]), .mk none none (.store 13 (.tmp 10) (.tmp 43)), .mk none (some 11) (.mv (.tmp 44))] (some [0, 4, 7, 8, 9, 10, 11])) (.seq (.region [.mk none (some 12) (.mv (.const (.bool false)))] (some [0, 4, 7, 8, 9, 10, 11, 12])) (.seq (.seq (.region [.mk none (some 13) (.mv (.const (.int .i64 0)))] (some [0, 4, 7, 8, 9, 10, 11, 12, 13])) (.block 2 (.loop (.seq (.seq (.region [.mk none (some 45) (.mv (.tmp 13)), .mk none (some 46) (.fieldA 5 (.tmp 10)), .mk none (some 47) (.load none (.tmp 46)), .mk none (some 48) (.len (.tmp 47) false), .mk none (some 49) (.bin .lss (.tmp 45) (.tmp 48))] (some [0, 4, 7, 8, 9, 10, 11, 12, 13, 49])) (.cond (.tmp 49) .skip (.exit 2))) (.seq (.block 3 (.draw [.mk none (some 52) (.mv (.tmp 12)), .mk none (some 53) (.mv (.tmp 52)), .mk (some (53, false)) (some 54) (.fieldA 5 (.tmp 10)), .mk (some (53, false)) (some 55) (.load none (.tmp 54)), .mk (some (53, false)) (some 56) (.mv (.tmp 13)), .mk (some (53, false)) (some 57) (.idxA 1 (.tmp 55) (.tmp 56)), .mk (some (53, false)) (some 58) (.load none (.tmp 57)), .mk (some (53, false)) (some 59) (.fieldA 3 (.tmp 9)), .mk (some (53, false)) (some 60) (.load none (.tmp 59)), .mk (some (53, false)) (some 61) (.bin .eql (.tmp 58) (.tmp 60)), .mk none (some 62) (.pick (.tmp 53) (.const (.bool true)) (.tmp 61)), .mk none (some 12) (.mv (.tmp 62))] [0, 1, 3, 7, 3, 31, 63, 3, 131, 511, 1023, 2047] (.take 0 (.take 1 (.take 2 (.take 3 (.take 4 (.take 5 (.take 6 (.take 7 (.take 8 (.take 9 (.take 10 (.take 11 .done)))))))))))) (some [0, 4, 7, 8, 9, 10, 11, 12, 13]))) (.region [.mk none (some 50) (.mv (.tmp 13)), .mk none (some 51) (.bin .add (.tmp 50) (.const (.int .i64 1))), .mk none (some 13) (.mv (.tmp 51))] (some [0, 4, 7, 8, 9, 10, 11, 12, 13]))))))) (.seq (.region [.mk none (some 63) (.fieldA 0 (.tmp 9)), .mk none (some 64) (.fieldA 1 (.tmp 63)), .mk none (some 65) (.load none (.tmp 64)), .mk none (some 66) (.fieldA 0 (.tmp 4)), .mk none (some 67) (.fieldA 1 (.tmp 66)), .mk none (some 68) (.load none (.tmp 67)), .mk none (some 69) (.bin .eql (.tmp 65) (.tmp 68)), .mk none (some 14) (.mv (.tmp 69))] (some [0, 4, 7, 8, 9, 11, 12, 14])) (.seq (.seq (.region [.mk none (some 15) (.mv (.const (.int .i64 0)))] (some [0, 4, 7, 8, 9, 11, 12, 14, 15])) (.block 4 (.loop (.seq (.seq (.region [.mk none (some 70) (.mv (.tmp 15)), .mk none (some 71) (.mv (.tmp 0)), .mk none (some 72) (.len (.tmp 71) false), .mk none (some 73) (.bin .lss (.tmp 70) (.tmp 72))] (some [0, 4, 7, 8, 9, 11, 12, 14, 15, 73])) (.cond (.tmp 73) .skip (.exit 4))) (.seq (.block 5 (.seq (.region [.mk none (some 76) (.mv (.tmp 0)), .mk none (some 77) (.mv (.tmp 15)), .mk none (some 78) (.idxA 13 (.tmp 76) (.tmp 77)), .mk none (some 79) (.load (some 13) (.tmp 78)), .mk none (some 16) (.alloc 41 [.pd (.raw (.int .i64 0)), .pd (.raw (.string ⟨#[]⟩)), .pd (.raw (.string ⟨#[]⟩)), .pd (.raw (.bool false)), .nils, .nils, .pd (.raw (.string ⟨#[]⟩)), .nils, .nils, .nils, .nils, .nils, .nils]), .mk none none (.store 13 (.tmp 16) (.tmp 79))] (some [0, 4, 7, 8, 9, 11, 12, 14, 15, 16])) (.seq (.region [.mk none (some 17) (.mv (.const (.int .i64 0)))] (some [0, 4, 7, 8, 9, 11, 12, 14, 15, 16, 17])) (.block 6 (.loop (.seq (.seq (.region [.mk none (some 80) (.mv (.tmp 17)), .mk none (some 81) (.fieldA 11 (.tmp 16)), .mk none (some 82) (.load none (.tmp 81)), .mk none (some 83) (.len (.tmp 82) false), .mk none (some 84) (.bin .lss (.tmp 80) (.tmp 83))] (some [0, 4, 7, 8, 9, 11, 12, 14, 15, 16, 17, 84])) (.cond (.tmp 84) .skip (.exit 6))) (.seq (.block 7 (.draw [.mk none (some 87) (.mv (.tmp 14)), .mk none (some 88) (.mv (.tmp 87)), .mk (some (88, false)) (some 89) (.fieldA 0 (.tmp 16)), .mk (some (88, false)) (some 90) (.fieldA 0 (.tmp 89)), .mk (some (88, false)) (some 91) (.load none (.tmp 90)), .mk (some (88, false)) (some 92) (.bin .eql (.tmp 91) (.const (.int .i64 7))), .mk (some (88, false)) (some 93) (.mv (.tmp 92)), .mk (some (93, true)) (some 94) (.fieldA 0 (.tmp 16)), .mk (some (93, true)) (some 95) (.fieldA 1 (.tmp 94)), .mk (some (93, true)) (some 96) (.load none (.tmp 95)), .mk (some (93, true)) (some 97) (.fieldA 0 (.tmp 9)), .mk (some (93, true)) (some 98) (.fieldA 1 (.tmp 97)), .mk (some (93, true)) (some 99) (.load none (.tmp 98)), .mk (some (93, true)) (some 100) (.bin .eql (.tmp 96) (.tmp 99)), .mk (some (88, false)) (some 101) (.pick (.tmp 93) (.tmp 100) (.const (.bool false))), .mk (some (88, false)) (some 102) (.mv (.tmp 101)), .mk (some (102, true)) (some 103) (.fieldA 11 (.tmp 16)), .mk (some (102, true)) (some 104) (.load none (.tmp 103)), .mk (some (102, true)) (some 105) (.mv (.tmp 17)), .mk (some (102, true)) (some 106) (.idxA 3 (.tmp 104) (.tmp 105)), .mk (some (102, true)) (some 107) (.fieldA 0 (.tmp 106)), .mk (some (102, true)) (some 108) (.load none (.tmp 107)), .mk (some (102, true)) (some 109) (.bin .eql (.tmp 108) (.const (.int .i64 6))), .mk (some (88, false)) (some 110) (.pick (.tmp 102) (.tmp 109) (.const (.bool false))), .mk (some (88, false)) (some 111) (.mv (.tmp 110)), .mk (some (111, true)) (some 112) (.fieldA 11 (.tmp 16)), .mk (some (111, true)) (some 113) (.load none (.tmp 112)), .mk (some (111, true)) (some 114) (.mv (.tmp 17)), .mk (some (111, true)) (some 115) (.idxA 3 (.tmp 113) (.tmp 114)), .mk (some (111, true)) (some 116) (.fieldA 1 (.tmp 115)), .mk (some (111, true)) (some 117) (.load none (.tmp 116)), .mk (some (111, true)) (some 118) (.fieldA 0 (.tmp 4)), .mk (some (111, true)) (some 119) (.fieldA 1 (.tmp 118)), .mk (some (111, true)) (some 120) (.load none (.tmp 119)), .mk (some (111, true)) (some 121) (.bin .eql (.tmp 117) (.tmp 120)), .mk (some (88, false)) (some 122) (.pick (.tmp 111) (.tmp 121) (.const (.bool false))), .mk none (some 123) (.pick (.tmp 88) (.const (.bool true)) (.tmp 122)), .mk none (some 14) (.mv (.tmp 123))] [0, 1, 3, 7, 15, 31, 63, 127, 255, 511, 127, 1151, 3199, 8191, 16383, 32767, 65535, 131071, 65535, 524287, 1048575, 2097151, 4194303, 8388607, 16777215, 33554431, 67108863, 33554431, 268435455, 536870911, 1073741823, 33554431, 2181038079, 6476005375, 17179869183, 34359738367, 68719476735, 137438953471] (.take 0 (.take 1 (.take 2 (.take 3 (.take 4 (.take 5 (.take 6 (.take 7 (.take 8 (.take 9 (.take 10 (.take 11 (.take 12 (.take 13 (.take 14 (.take 15 (.take 16 (.take 17 (.take 18 (.take 19 (.take 20 (.take 21 (.take 22 (.take 23 (.take 24 (.take 25 (.take 26 (.take 27 (.take 28 (.take 29 (.take 30 (.take 31 (.take 32 (.take 33 (.take 34 (.take 35 (.take 36 (.take 37 .done)))))))))))))))))))))))))))))))))))))) (some [0, 4, 7, 8, 9, 11, 12, 14, 15, 16, 17]))) (.region [.mk none (some 85) (.mv (.tmp 17)), .mk none (some 86) (.bin .add (.tmp 85) (.const (.int .i64 1))), .mk none (some 17) (.mv (.tmp 86))] (some [0, 4, 7, 8, 9, 11, 12, 14, 15, 16, 17]))))))))) (.region [.mk none (some 74) (.mv (.tmp 15)), .mk none (some 75) (.bin .add (.tmp 74) (.const (.int .i64 1))), .mk none (some 15) (.mv (.tmp 75))] (some [0, 4, 7, 8, 9, 11, 12, 14, 15]))))))) (.seq (.region [.mk none (some 124) (.mv (.tmp 11)), .mk none (some 125) (.un .not (.tmp 124)), .mk none (some 126) (.mv (.tmp 125)), .mk (some (126, false)) (some 127) (.fieldA 0 (.tmp 9)), .mk (some (126, false)) (some 128) (.fieldA 0 (.tmp 127)), .mk (some (126, false)) (some 129) (.load none (.tmp 128)), .mk (some (126, false)) (some 130) (.bin .neq (.tmp 129) (.const (.int .i64 3))), .mk none (some 131) (.pick (.tmp 126) (.const (.bool true)) (.tmp 130)), .mk none (some 132) (.mv (.tmp 131)), .mk (some (132, false)) (some 133) (.mv (.tmp 12)), .mk (some (132, false)) (some 134) (.un .not (.tmp 133)), .mk none (some 135) (.pick (.tmp 132) (.const (.bool true)) (.tmp 134)), .mk none (some 136) (.mv (.tmp 135)), .mk (some (136, false)) (some 137) (.mv (.tmp 14)), .mk (some (136, false)) (some 138) (.un .not (.tmp 137)), .mk none (some 139) (.pick (.tmp 136) (.const (.bool true)) (.tmp 138))] (some [0, 4, 7, 8, 139])) (.cond (.tmp 139) (.seq (.region [.mk none (some 6) (.mv (.const (.bool false)))] (some [6])) .ret) .skip)))))))))) (.region [.mk none (some 30) (.mv (.tmp 8)), .mk none (some 31) (.bin .add (.tmp 30) (.const (.int .i64 1))), .mk none (some 8) (.mv (.tmp 31))] (some [0, 4, 7, 8]))))))) (.seq (.region [.mk none (some 140) (.call 11 []), .mk none (some 6) (.mv (.tmp 140))] (some [6])) .ret)))))
theorem ok_z179 : compC Tryz.prog an_z179 (Tryz.f7.body.getD .skip) = some ac_z179 := by kernel_rfl
theorem dst_z179 : ac_z179.dstOK Tryz.f7.ntmps (fun i => decide (i < Tryz.f7.ntmps)) = true := by kernel_rfl


/-- toll/tollref11.Find -/
def an_z181 : Ann := ⟨[(0, [0, 3, 4]), (1, [0, 3, 4, 6]), (2, [0, 3, 4, 6, 10]), (3, [0, 3, 4, 6]), (4, [0, 3, 4, 6, 19]), (5, [4, 5]), (6, [4, 5])], [(4, ([0, 0, 3, 7, 15, 0, 63], .take 0 (.take 1 (.take 2 (.take 3 (.take 4 (.take 5 (.take 6 (.done)))))))))], []⟩
def ac_z181 : AC := (.seq (.region [.mk none (some 3) (.box 33 (.tmp 1)), .mk none (some 4) (.alloc 41 [.pd (.raw (.int .i64 0)), .pd (.raw (.string ⟨#[]⟩)), .pd (.raw (.string ⟨#[]⟩)), .pd (.raw (.bool false)), .nils, .nils, .pd (.raw (.string ⟨#[]⟩)), .nils, .nils, .nils, .nils, .nils, .nils]), .mk none (some 5) (.mv (.const (.bool false)))] (some [0, 3, 4])) (.seq (.seq (.region [.mk none (some 6) (.mv (.const (.int .i64 0)))] (some [0, 3, 4, 6])) (.block 0 (.loop (.seq (.seq (.region [.mk none (some 7) (.mv (.tmp 6)), .mk none (some 8) (.mv (.tmp 0)), .mk none (some 9) (.len (.tmp 8) false), .mk none (some 10) (.bin .lss (.tmp 7) (.tmp 9))] (some [0, 3, 4, 6, 10])) (.cond (.tmp 10) .skip (.exit 0))) (.seq (.block 1 (.seq (.draw [.mk none (some 13) (.mv (.tmp 0)), .mk none (some 14) (.mv (.tmp 6)), .mk none (some 15) (.idxA 13 (.tmp 13) (.tmp 14)), .mk none (some 16) (.fieldA 0 (.tmp 15)), .mk none (some 17) (.load (some 3) (.tmp 16)), .mk none (some 18) (.load (some 3) (.tmp 3)), .mk none (some 19) (.eqs false [.int, .str, .str] (.tmp 17) (.tmp 18))] [0, 0, 3, 7, 15, 0, 63] (.take 0 (.take 1 (.take 2 (.take 3 (.take 4 (.take 5 (.take 6 .done))))))) (some [0, 3, 4, 6, 19])) (.cond (.tmp 19) (.seq (.region [.mk none (some 20) (.mv (.tmp 0)), .mk none (some 21) (.mv (.tmp 6)), .mk none (some 22) (.idxA 13 (.tmp 20) (.tmp 21)), .mk none (some 23) (.load (some 13) (.tmp 22)), .mk none none (.store 13 (.tmp 4) (.tmp 23)), .mk none (some 5) (.mv (.const (.bool true)))] (some [4, 5])) .ret) .skip))) (.region [.mk none (some 11) (.mv (.tmp 6)), .mk none (some 12) (.bin .add (.tmp 11) (.const (.int .i64 1))), .mk none (some 6) (.mv (.tmp 12))] (some [0, 3, 4, 6]))))))) (.seq (.region [.mk none (some 24) (.build [.pd (.raw (.int .i64 0)), .pd (.raw (.string ⟨#[]⟩)), .pd (.raw (.string ⟨#[]⟩)), .pd (.raw (.bool false)), .nils, .nils, .pd (.raw (.string ⟨#[]⟩)), .nils, .nils, .nils, .nils, .nils, .nils] []), .mk none none (.store 13 (.tmp 4) (.tmp 24)), .mk none (some 5) (.mv (.const (.bool false)))] (some [4, 5])) .ret)))
theorem ok_z181 : compC Tryz.prog an_z181 (Tryz.f21.body.getD .skip) = some ac_z181 := by kernel_rfl
theorem ret_z181 (st : St) : resD Tryz.prog st Tryz.f21.results.toList = resA st [.cell 4 (some 13), .tmp 5] := resD_of (by kernel_rfl)
theorem dst_z181 : ac_z181.dstOK Tryz.f21.ntmps (fun i => decide (i < Tryz.f21.ntmps)) = true := by kernel_rfl


end Go.Proofs.YtbpgebfejebmlaaGreatDoor

namespace Go.Proofs.YtbpgebfejebmlaaGreatDoor
open Go Go.RowKit
set_option linter.unusedSimpArgs false
set_option linter.unusedVariables false
set_option maxRecDepth 100000

theorem ref11_Find (os : List AObj) (hos : os.length ≤ 1000000) (r : ARef) : Pure Tryz.prog 21 [.pd (.slice (rows AObj.pd os)), r.d] (fun d => d = foundD (found os r)) := by
  refine pure_of_run follows an_z181 Tryz.func21 rfl ok_z181 dst_z181 (by simp [Tryz.ntmps21]) ?_
  rw [run_start]
  simp only [ac_z181, go_sem, contS_seq, reduceIte, reduceCtorEq, Nat.reduceEqDiff, Nat.reduceAdd, Nat.reduceBEq, Nat.reduceBNe, Int.reduceLE, Int.reduceLT, Int.reduceToNat, Int.reduceEq, Nat.reduceLeDiff, Nat.reduceLT, Nat.reducePow, Nat.reduceDiv, Nat.reduceMod]
  refine loopS (fun k st => ∃ i : Nat, k = os.length - i ∧ i ≤ os.length ∧ (os.drop i).find? (isRef r) = found os r ∧
    st = ⟨[(0, .pd (.slice (rows AObj.pd os))), (3, .ptr 3 0), (4, .ptr 4 0), (6, int i)], [(3, [int r.kind, str r.space, str r.name]), (4, [int 0, str ⟨#[]⟩, str ⟨#[]⟩, bln false, .nils, .nils, str ⟨#[]⟩, .nils, .nils, .nils, .nils, .nils, .nils])], [], .no⟩) os.length _ ?_ ⟨0, rfl, by omega, rfl, rfl⟩ ?_
  · exact Weak.less (by simp [lessL, lk]) (by simp [lessL, lk]) (by simp [lessL, lk]) rfl
  rintro k st ⟨i, rfl, hi, hf, rfl⟩
  by_cases hlt : i < os.length
  · obtain ⟨x, hx⟩ := at_lt hlt
    have h1 : ((i : Int) < (os.length : Int)) = True := eq_true (by omega)
    have hw := i64_succ (show i < 1000000000 by omega)
    rw [drop_at hx, List.find?_cons] at hf
    simp only [go_sem, contS_seq, reduceIte, reduceCtorEq, Nat.reduceEqDiff, Nat.reduceAdd, Nat.reduceBEq, Nat.reduceBNe, Int.reduceLE, Int.reduceLT, Int.reduceToNat, Int.reduceEq, Nat.reduceLeDiff, Nat.reduceLT, Nat.reducePow, Nat.reduceDiv, Nat.reduceMod, rows_len, rows_get hx, h1, hw, eqVs, eqV, eq_Ref]
    refine GifP.mk (fun h => ?_) (fun h => ?_)
    · rw [show isRef r x = true by simp [isRef, h]] at hf
      simp only [retK, fullK, iterK, resD, resA, AOp.ex, St.ev, Option.map_some, Option.bind_some, St.get, lk, reduceIte, Nat.reduceEqDiff, Option.getD_some, oneD, List.getElem?_cons_zero, List.getElem?_cons_succ, List.drop_zero, List.drop_succ_cons, List.take_succ_cons, List.take_zero, List.length_cons, List.length_nil, Nat.zero_add, Nat.reduceAdd, Nat.le_refl, Nat.reduceLeDiff, D.pub, D.pubs, ret_z181]
      refine ⟨_, rfl, rfl, ?_⟩
      rw [← hf]; rfl
    · rw [show isRef r x = false by simp [isRef, h]] at hf
      refine ⟨os.length - (i + 1), _, by omega, ?_, i + 1, rfl, by omega, hf, rfl⟩
      exact Weak.less (by simp [lessL, lk]) (by simp [lessL, lk]) (by simp [lessL, lk]) rfl
  · have h1 : ((i : Int) < (os.length : Int)) = False := eq_false (by omega)
    rw [List.drop_eq_nil_of_le (by omega), List.find?_nil] at hf
    simp only [go_sem, contS_seq, reduceIte, reduceCtorEq, Nat.reduceEqDiff, Nat.reduceAdd, Nat.reduceBEq, Nat.reduceBNe, Int.reduceLE, Int.reduceLT, Int.reduceToNat, Int.reduceEq, Nat.reduceLeDiff, Nat.reduceLT, Nat.reducePow, Nat.reduceDiv, Nat.reduceMod, rows_len, h1]
    simp only [retK, fullK, iterK, resD, resA, AOp.ex, St.ev, Option.map_some, Option.bind_some, St.get, lk, reduceIte, Nat.reduceEqDiff, Option.getD_some, oneD, List.getElem?_cons_zero, List.getElem?_cons_succ, List.drop_zero, List.drop_succ_cons, List.take_succ_cons, List.take_zero, List.length_cons, List.length_nil, Nat.zero_add, Nat.reduceAdd, Nat.le_refl, Nat.reduceLeDiff, D.pub, D.pubs, ret_z181]
    refine ⟨_, rfl, rfl, ?_⟩
    rw [← hf]; rfl

/-- Is there a grant there, that names the route's kind and space? -/
def letF (os : List AObj) (gs rs : ByteArray) : Bool := os.any fun o => o.from_.any fun s => decide (o.ref.kind = 7) && (decide (o.ref.space = gs) && (decide (s.kind = 6) && decide (s.space = rs)))

theorem wrong_none {os : List AObj} {q : AObj} {b : ABackend} (h : wrong os q b = ⟨#[]⟩) : (near b.ref q.ref.space).kind = 3 ∧ (∃ s, found os (near b.ref q.ref.space) = some s ∧ hasInt s.ports b.port = true) ∧
    (decide ((near b.ref q.ref.space).space = q.ref.space) || letF os (near b.ref q.ref.space).space q.ref.space) = true := by
  unfold wrong wrongAt at h
  generalize near b.ref q.ref.space = t at h ⊢
  by_cases h1 : t.kind = 3
  · rw [if_neg (by simpa using h1)] at h
    by_cases h2 : permits os 6 q.ref.space t = false
    · rw [if_pos h2] at h
      exact absurd h (by decide +kernel)
    · rw [if_neg h2] at h
      by_cases h3 : thereIs os t b.port = false
      · rw [if_pos h3] at h
        exact absurd h (by decide +kernel)
      · refine ⟨h1, ?_, ?_⟩
        · unfold thereIs at h3
          cases hf : found os t with
          | none => rw [hf] at h3; exact absurd rfl h3
          | some s =>
            rw [hf] at h3
            simp only [Bool.not_eq_false, Bool.and_eq_true] at h3
            exact ⟨s, rfl, h3.2⟩
        · simp only [Bool.not_eq_false, permits, Bool.or_eq_true, decide_eq_true_eq, List.any_eq_true] at h2
          rcases h2 with ⟨o, ho, hl⟩ | h2
          · simp only [lets, Bool.and_eq_true, decide_eq_true_eq, List.any_eq_true] at hl
            obtain ⟨⟨⟨⟨k1, k2⟩, _⟩, ⟨s, hs, k3⟩⟩, _⟩ := hl
            simp only [sideIs, Bool.and_eq_true, decide_eq_true_eq] at k3
            simp only [Bool.or_eq_true, letF, List.any_eq_true, Bool.and_eq_true, decide_eq_true_eq]
            exact .inr ⟨o, ho, s, hs, k1, k2, k3.1, k3.2⟩
          · simp [h2]
  · rw [if_pos (by simpa using h1)] at h
    exact absurd h (by decide +kernel)

theorem goal_ok {os : List AObj} {q : AObj} {i : Int} {g : AGoal} (hg : g ∈ goals os q i) (hb : g.bad = false) : g.ref.kind = 3 ∧ (∃ s, found os g.ref = some s ∧ hasInt s.ports g.port = true) ∧ (decide (g.ref.space = q.ref.space) || letF os g.ref.space q.ref.space) = true := by
  unfold goals at hg
  split at hg
  · split at hg
    · obtain ⟨b, _, rfl⟩ := List.mem_map.1 hg
      exact wrong_none (by simpa [goalOf] using hb)
    · cases hg
  · cases hg

theorem any_step {α : Type} {f : α → Bool} {l : List α} {i : Nat} {x : α} (h : l[i]? = some x) : (l.take (i + 1)).any f = ((l.take i).any f || f x) := by
  rw [take_at h, List.any_append]; simp

def sideOK (o : AObj) (gs rs : ByteArray) (s : ASide) : Bool := decide (o.ref.kind = 7) && (decide (o.ref.space = gs) && (decide (s.kind = 6) && decide (s.space = rs)))

theorem goals_len (os : List AObj) (q : AObj) (hq : q.ok) (i : Int) : (goals os q i).length ≤ 1000000 := by
  unfold goals
  split
  · split
    · rename_i x hx; simpa using (hq.rus x (List.mem_of_getElem? hx)).bl
    · simp
  · simp

abbrev AGoal.ds (g : AGoal) : List D := [int g.ref.kind, str g.ref.space, str g.ref.name, int g.port, int g.weight, bln g.bad]

set_option maxHeartbeats 4000000 in
theorem law_Lets (l : List AObj) (r : AObj) (i : Int) : Pure Tryz.prog 7 [.pd (.slice (rows AObj.pd l)), r.d, int i] (fun d => d = bln true) := by
  refine pure_of_run follows an_z179 Tryz.func7 rfl ok_z179 dst_z179 (by simp [Tryz.ntmps7]) ?_
  rw [run_start]
  simp only [ac_z179, go_sem, contS_seq, reduceIte, reduceCtorEq, Nat.reduceEqDiff, Nat.reduceAdd, Nat.reduceBEq, Nat.reduceBNe, Int.reduceLE, Int.reduceLT, Int.reduceToNat, Int.reduceEq, Nat.reduceLeDiff, Nat.reduceLT, Nat.reducePow, Nat.reduceDiv, Nat.reduceMod]
  refine (law11_Some l).callX (enters_of Tryz.func12 rfl rfl) _ rfl rfl ?_
  rintro _ rfl
  simp only [go_sem, contS_seq, reduceIte, reduceCtorEq, Nat.reduceEqDiff, Nat.reduceAdd, Nat.reduceBEq, Nat.reduceBNe, Int.reduceLE, Int.reduceLT, Int.reduceToNat, Int.reduceEq, Nat.reduceLeDiff, Nat.reduceLT, Nat.reducePow, Nat.reduceDiv, Nat.reduceMod]
  refine (law9_Few r).callX (enters_of Tryz.func13 rfl rfl) _ rfl rfl ?_
  rintro _ rfl
  have hos : (fewObjs l).length ≤ 1000 := Nat.le_trans (fewObjs_len l) (by omega)
  have ho := fewObjs_ok (l := l)
  have hq := fewObj_ok r
  generalize fewObjs l = os at hos ho ⊢
  generalize fewObj r = q at hq ⊢
  simp only [go_sem, contS_seq, reduceIte, reduceCtorEq, Nat.reduceEqDiff, Nat.reduceAdd, Nat.reduceBEq, Nat.reduceBNe, Int.reduceLE, Int.reduceLT, Int.reduceToNat, Int.reduceEq, Nat.reduceLeDiff, Nat.reduceLT, Nat.reducePow, Nat.reduceDiv, Nat.reduceMod]
  refine (back_Goals os (by omega) ho q hq i).callW (enters_of Tryz.func20 rfl rfl) _ rfl rfl ?_
  rintro _ rfl
  have hgl := goals_len os q hq i
  have hok := fun g => goal_ok (os := os) (q := q) (i := i) (g := g)
  generalize goals os q i = gs at hgl hok ⊢
  simp only [go_sem, contS_seq, reduceIte, reduceCtorEq, Nat.reduceEqDiff, Nat.reduceAdd, Nat.reduceBEq, Nat.reduceBNe, Int.reduceLE, Int.reduceLT, Int.reduceToNat, Int.reduceEq, Nat.reduceLeDiff, Nat.reduceLT, Nat.reducePow, Nat.reduceDiv, Nat.reduceMod]
  refine loopS (fun k st => ∃ i : Nat, k = gs.length - i ∧ i ≤ gs.length ∧
    st = ⟨[(0, .pd (.slice (rows AObj.pd os))), (4, .ptr 4 0), (7, .pd (.slice (rows AGoal.pd gs))), (8, int i)], [(4, q.ds)], [], .no⟩) gs.length _ ?_ ⟨0, rfl, by omega, rfl⟩ ?_
  · exact Weak.less (by simp [lessL, lk]) (by simp [lessL, lk]) (by simp [lessL, lk]) rfl
  rintro k st ⟨i, rfl, hi, rfl⟩
  have hw := i64_succ (show i < 1000000000 by omega)
  by_cases hlt : i < gs.length
  · obtain ⟨g, hg⟩ := at_lt hlt
    have h1 : ((i : Int) < (gs.length : Int)) = True := eq_true (by omega)
    simp only [go_sem, contS_seq, reduceIte, reduceCtorEq, Nat.reduceEqDiff, Nat.reduceAdd, Nat.reduceBEq, Nat.reduceBNe, Int.reduceLE, Int.reduceLT, Int.reduceToNat, Int.reduceEq, Nat.reduceLeDiff, Nat.reduceLT, Nat.reducePow, Nat.reduceDiv, Nat.reduceMod, rows_len, rows_get hg, h1]
    refine Gif.mk (fun hb => ?_) (fun hb => ?_)
    · simp only [hw]
      refine ⟨gs.length - (i + 1), _, by omega, ?_, i + 1, rfl, by omega, rfl⟩
      exact Weak.less (by simp [lessL, lk]) (by simp [lessL, lk]) (by simp [lessL, lk]) rfl
    obtain ⟨hk, ⟨s, hs, hp⟩, hlet⟩ := hok g (List.mem_of_getElem? hg) hb
    refine (ref11_Find os (by omega) g.ref).callW (enters_of Tryz.func21 rfl rfl) _ rfl rfl ?_
    rintro _ rfl
    rw [hs]
    simp only [foundD, go_sem, contS_seq, reduceIte, reduceCtorEq, Nat.reduceEqDiff, Nat.reduceAdd, Nat.reduceBEq, Nat.reduceBNe, Int.reduceLE, Int.reduceLT, Int.reduceToNat, Int.reduceEq, Nat.reduceLeDiff, Nat.reduceLT, Nat.reducePow, Nat.reduceDiv, Nat.reduceMod]
    have hso := ho s (found_mem hs)
    have hpl := hso.po
    have hpp : s.ports.any (fun p => decide (p = g.port)) = true := by
      rw [← hp]; unfold hasInt; congr 1; funext x; simp [eq_comm]
    refine loopS (fun k st => ∃ n : Nat, k = s.ports.length - n ∧ n ≤ s.ports.length ∧
      st = ⟨[(0, .pd (.slice (rows AObj.pd os))), (4, .ptr 4 0), (7, .pd (.slice (rows AGoal.pd gs))), (8, int i), (9, .ptr 9 0), (10, .ptr 10 0), (11, bln true), (12, bln ((s.ports.take n).any fun p => decide (p = g.port))), (13, int n)],
        [(4, q.ds), (9, AGoal.ds g), (10, s.ds)], [], .no⟩) s.ports.length _ ?_ ⟨0, rfl, by omega, rfl⟩ ?_
    · exact Weak.less (by simp [lessL, lk]) (by simp [lessL, lk]) (by simp [lessL, lk]) rfl
    rintro k st ⟨n, rfl, hn, rfl⟩
    have hwn := i64_succ (show n < 1000000000 by omega)
    by_cases hnl : n < s.ports.length
    · obtain ⟨p, hpn⟩ := at_lt hnl
      have h3 : ((n : Int) < (s.ports.length : Int)) = True := eq_true (by omega)
      have ha := any_step (f := fun p => decide (p = g.port)) hpn
      simp only [go_sem, contS_seq, reduceIte, reduceCtorEq, Nat.reduceEqDiff, Nat.reduceAdd, Nat.reduceBEq, Nat.reduceBNe, Int.reduceLE, Int.reduceLT, Int.reduceToNat, Int.reduceEq, Nat.reduceLeDiff, Nat.reduceLT, Nat.reducePow, Nat.reduceDiv, Nat.reduceMod, rows_len, rows_get hpn, h3, hwn]
      repeat' (first | refine GifP.mk (fun h => ?_) (fun h => ?_) | refine Gif.mk (fun h => ?_) (fun h => ?_))
      all_goals
        refine ⟨s.ports.length - (n + 1), _, by omega, ?_, n + 1, rfl, by omega, rfl⟩
        rw [ha]
        first
          | exact Weak.less (by simp [lessL, lk, h]) (by simp [lessL, lk]) (by simp [lessL, lk]) rfl
          | (rw [h, Bool.false_or]; exact Weak.less (by simp [lessL, lk]) (by simp [lessL, lk]) (by simp [lessL, lk]) rfl)
    have h3 : ((n : Int) < (s.ports.length : Int)) = False := eq_false (by omega)
    rw [List.take_of_length_le (by omega), hpp]
    simp only [go_sem, contS_seq, reduceIte, reduceCtorEq, Nat.reduceEqDiff, Nat.reduceAdd, Nat.reduceBEq, Nat.reduceBNe, Int.reduceLE, Int.reduceLT, Int.reduceToNat, Int.reduceEq, Nat.reduceLeDiff, Nat.reduceLT, Nat.reducePow, Nat.reduceDiv, Nat.reduceMod, rows_len, h3]
    obtain ⟨b0, hb0⟩ : ∃ b0, decide (g.ref.space = q.ref.space) = b0 := ⟨_, rfl⟩
    rw [hb0] at hlet ⊢
    refine loopS (fun k st => ∃ n : Nat, k = os.length - n ∧ n ≤ os.length ∧
      st = ⟨[(0, .pd (.slice (rows AObj.pd os))), (4, .ptr 4 0), (7, .pd (.slice (rows AGoal.pd gs))), (8, int i), (9, .ptr 9 0), (11, bln true), (12, bln true), (14, bln (b0 || letF (os.take n) g.ref.space q.ref.space)), (15, int n)],
        [(4, q.ds), (9, AGoal.ds g)], [], .no⟩) os.length _ ?_ ⟨0, rfl, by omega, rfl⟩ ?_
    · exact Weak.less (by simp [lessL, lk, letF]) (by simp [lessL, lk]) (by simp [lessL, lk]) rfl
    rintro k st ⟨n, rfl, hn, rfl⟩
    have hwn := i64_succ (show n < 1000000000 by omega)
    by_cases hnl : n < os.length
    · obtain ⟨o, hon⟩ := at_lt hnl
      have h3 : ((n : Int) < (os.length : Int)) = True := eq_true (by omega)
      have hfl := (ho o (List.mem_of_getElem? hon)).fr
      have hstep : letF (os.take (n + 1)) g.ref.space q.ref.space = (letF (os.take n) g.ref.space q.ref.space || o.from_.any (sideOK o g.ref.space q.ref.space)) := any_step hon
      obtain ⟨b1, hb1⟩ : ∃ b1, (b0 || letF (os.take n) g.ref.space q.ref.space) = b1 := ⟨_, rfl⟩
      rw [hb1]
      simp only [go_sem, contS_seq, reduceIte, reduceCtorEq, Nat.reduceEqDiff, Nat.reduceAdd, Nat.reduceBEq, Nat.reduceBNe, Int.reduceLE, Int.reduceLT, Int.reduceToNat, Int.reduceEq, Nat.reduceLeDiff, Nat.reduceLT, Nat.reducePow, Nat.reduceDiv, Nat.reduceMod, rows_len, rows_get hon, h3]
      refine loopS (fun k st => ∃ m : Nat, k = o.from_.length - m ∧ m ≤ o.from_.length ∧
        st = ⟨[(0, .pd (.slice (rows AObj.pd os))), (4, .ptr 4 0), (7, .pd (.slice (rows AGoal.pd gs))), (8, int i), (9, .ptr 9 0), (11, bln true), (12, bln true), (14, bln (b1 || (o.from_.take m).any (sideOK o g.ref.space q.ref.space))), (15, int n), (16, .ptr 16 0), (17, int m)],
          [(4, q.ds), (9, AGoal.ds g), (16, o.ds)], [], .no⟩) o.from_.length _ ?_ ⟨0, rfl, by omega, rfl⟩ ?_
      · exact Weak.less (by simp [lessL, lk]) (by simp [lessL, lk]) (by simp [lessL, lk]) rfl
      rintro k st ⟨m, rfl, hm, rfl⟩
      have hwm := i64_succ (show m < 1000000000 by omega)
      by_cases hml : m < o.from_.length
      · obtain ⟨d, hd⟩ := at_lt hml
        have h4 : ((m : Int) < (o.from_.length : Int)) = True := eq_true (by omega)
        have ha := any_step (f := sideOK o g.ref.space q.ref.space) hd
        simp only [go_sem, contS_seq, reduceIte, reduceCtorEq, Nat.reduceEqDiff, Nat.reduceAdd, Nat.reduceBEq, Nat.reduceBNe, Int.reduceLE, Int.reduceLT, Int.reduceToNat, Int.reduceEq, Nat.reduceLeDiff, Nat.reduceLT, Nat.reducePow, Nat.reduceDiv, Nat.reduceMod, rows_len, rows_get hd, h4, hwm]
        repeat' (first | refine GifP.mk (fun h => ?_) (fun h => ?_) | refine Gif.mk (fun h => ?_) (fun h => ?_))
        all_goals
          refine ⟨o.from_.length - (m + 1), _, by omega, ?_, m + 1, rfl, by omega, rfl⟩
          rw [ha, ← Bool.or_assoc]
          exact Weak.less (by simp [lessL, lk, sideOK, *]) (by simp [lessL, lk]) (by simp [lessL, lk]) rfl
      · have h4 : ((m : Int) < (o.from_.length : Int)) = False := eq_false (by omega)
        rw [List.take_of_length_le (by omega)]
        simp only [go_sem, contS_seq, reduceIte, reduceCtorEq, Nat.reduceEqDiff, Nat.reduceAdd, Nat.reduceBEq, Nat.reduceBNe, Int.reduceLE, Int.reduceLT, Int.reduceToNat, Int.reduceEq, Nat.reduceLeDiff, Nat.reduceLT, Nat.reducePow, Nat.reduceDiv, Nat.reduceMod, rows_len, h4, hwn]
        refine ⟨os.length - (n + 1), _, by omega, ?_, n + 1, rfl, by omega, rfl⟩
        rw [hstep, ← Bool.or_assoc, hb1]
        exact Weak.less (by simp [lessL, lk]) (by simp [lessL, lk]) (by simp [lessL, lk]) rfl
    have h3 : ((n : Int) < (os.length : Int)) = False := eq_false (by omega)
    rw [List.take_of_length_le (by omega), hlet]
    have hk' : (g.ref.kind = 3) = True := eq_true hk
    simp only [go_sem, contS_seq, reduceIte, reduceCtorEq, Nat.reduceEqDiff, Nat.reduceAdd, Nat.reduceBEq, Nat.reduceBNe, Int.reduceLE, Int.reduceLT, Int.reduceToNat, Int.reduceEq, Nat.reduceLeDiff, Nat.reduceLT, Nat.reducePow, Nat.reduceDiv, Nat.reduceMod, rows_len, h3, hk', hw]
    refine ⟨gs.length - (i + 1), _, by omega, ?_, i + 1, rfl, by omega, rfl⟩
    exact Weak.less (by simp [lessL, lk]) (by simp [lessL, lk]) (by simp [lessL, lk]) rfl
  · have h1 : ((i : Int) < (gs.length : Int)) = False := eq_false (by omega)
    simp only [go_sem, contS_seq, reduceIte, reduceCtorEq, Nat.reduceEqDiff, Nat.reduceAdd, Nat.reduceBEq, Nat.reduceBNe, Int.reduceLE, Int.reduceLT, Int.reduceToNat, Int.reduceEq, Nat.reduceLeDiff, Nat.reduceLT, Nat.reducePow, Nat.reduceDiv, Nat.reduceMod, rows_len, h1]
    refine awake14.callW (enters_of Tryz.func11 rfl rfl) _ rfl rfl ?_
    rintro _ rfl
    simp only [go_sem, contS_seq, reduceIte, reduceCtorEq, Nat.reduceEqDiff, Nat.reduceAdd, Nat.reduceBEq, Nat.reduceBNe, Int.reduceLE, Int.reduceLT, Int.reduceToNat, Int.reduceEq, Nat.reduceLeDiff, Nat.reduceLT, Nat.reducePow, Nat.reduceDiv, Nat.reduceMod]
    simp only [retK, fullK, iterK, resD, resA, AOp.ex, St.ev, Option.map_some, Option.bind_some, St.get, lk, reduceIte, Nat.reduceEqDiff, Option.getD_some, oneD, List.getElem?_cons_zero, List.getElem?_cons_succ, List.drop_zero, List.drop_succ_cons, List.take_succ_cons, List.take_zero, List.length_cons, List.length_nil, Nat.zero_add, Nat.reduceAdd, Nat.le_refl, Nat.reduceLeDiff, D.pub, D.pubs, Tryz.results7]
    exact ⟨_, rfl, rfl, rfl⟩

end Go.Proofs.YtbpgebfejebmlaaGreatDoor
