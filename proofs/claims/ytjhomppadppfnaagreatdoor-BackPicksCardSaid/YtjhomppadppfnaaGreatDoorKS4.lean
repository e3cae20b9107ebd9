/- Texts of the prover's, joined: E6 E7 E9 EB. -/
import Derived.Test.YtjhomppadppfnaaGreatDoorKS3

namespace Go.Proofs.YtjhomppadppfnaaGreatDoor
open Go Go.RowKit
set_option linter.unusedSimpArgs false
set_option linter.unusedVariables false
set_option maxRecDepth 100000

theorem pick_weight (g : AGoal) : Pure Tryz.prog 74 [g.d] (fun d => d = int g.weight) := by
  refine pure_of_run follows an_z10 Tryz.func74 rfl ok_z10 dst_z10 (by simp [Tryz.ntmps74]) ?_
  rw [run_start]
  simp only [ac_z10, go_sem, contS_seq, simprocAttr]
  simp only [retK, fullK, iterK, resD, resA, AOp.ex, St.ev, Option.map_some, Option.bind_some, St.get, lk, reduceIte, Nat.reduceEqDiff, Option.getD_some, oneD, List.getElem?_cons_zero, List.getElem?_cons_succ, List.drop_zero, List.drop_succ_cons, List.take_succ_cons, List.take_zero, List.length_cons, List.length_nil, Nat.zero_add, Nat.reduceAdd, Nat.le_refl, Nat.reduceLeDiff, D.pub, D.pubs, Tryz.results74]
  exact ⟨_, rfl, rfl, rfl⟩

theorem goal_heavy (g : AGoal) : PureB Tryz.prog 104 [g.d, .ptr 1000001 0] [(1000001, [.fn 74 []])] (fun d => d = .pd (.raw (.int .u64 (heavy g.weight)))) := by
  refine pureB_of_run follows an_z11 Tryz.func104 rfl ok_z11 dst_z11 (by simp [Tryz.ntmps104]) ?_
  rw [run_start]
  simp only [ac_z11, go_sem, contS_seq, simprocAttr]
  refine (pick_weight g).callW (enters_of Tryz.func74 rfl rfl) _ rfl rfl ?_
  rintro d rfl
  generalize g.weight = x
  simp only [go_sem, contS_seq, simprocAttr]
  simp only [retK, fullK, iterK, resD, resA, AOp.ex, St.ev, Option.map_some, Option.bind_some, St.get, lk, reduceIte, Nat.reduceEqDiff, Option.getD_some, oneD, List.getElem?_cons_zero, List.getElem?_cons_succ, List.drop_zero, List.drop_succ_cons, List.take_succ_cons, List.take_zero, List.length_cons, List.length_nil, Nat.zero_add, Nat.reduceAdd, Nat.le_refl, Nat.reduceLeDiff, D.pub, D.pubs, Tryz.results104]
  refine ⟨_, rfl, rfl, ?_⟩
  have e : (if (0 : Int) < if 1000 < x then 1000 else x then if 1000 < x then 1000 else x else 0) = heavy x := by
    unfold heavy
    split <;> split <;> omega
  have hr : 0 ≤ heavy x ∧ heavy x ≤ 1000 := by unfold heavy; omega
  simp only [D.pub, e, IntWalk.u64_in (heavy x) (by omega)]

set_option maxRecDepth 100000 in
theorem chosen_goal (gs : List AGoal) (n : Nat) (hn : n < 2 ^ 64) (hl : gs.length ≤ 8) (ws : List Int) (hws : ws = gs.map (·.weight)) : Pure Tryz.prog 73 [.pd (.slice (rows AGoal.pd gs)), u64 n, .fn 74 []]
    (fun d => d = if total ws = 0 then .tup [int 0, bln false] else match pos 0 ws (n % total ws) with | some i => .tup [int i, bln true] | none => .tup [int 0, bln false]) := by
  have hlw : ws.length = gs.length := by rw [hws]; simp
  refine pure_of_run follows an_z9 Tryz.func73 rfl ok_z9 dst_z9 (by simp [Tryz.ntmps73]) ?_
  rw [run_start]
  have hen : Enters Tryz.prog 104 := enters_of Tryz.func104 rfl rfl
  simp only [ac_z9, go_sem, contS_seq, simprocAttr, rows_len, ← hlw]
  refine loopS (fun k st => ∃ (i : Nat) (s : Int), k = ws.length - i ∧ i ≤ ws.length ∧ 0 ≤ s ∧ s + total (ws.drop i) = total ws ∧
    st = ⟨[(0, .pd (.slice (rows AGoal.pd gs))), (1, u64 n), (8, .fn 104 [(5, 0)]), (9, u64 s), (16, .pd (.slice (rows AGoal.pd gs))), (17, int ws.length), (18, int i)], [(5, [.fn 74 []])], [], .no⟩) ws.length _
    (Weak.refl _ _) ⟨0, 0, rfl, Nat.zero_le _, by omega, by simp, rfl⟩ ?_
  rintro k st ⟨i, s, rfl, hi, hs0, hs, rfl⟩
  by_cases hlt : i < ws.length
  · obtain ⟨gl, hg⟩ := at_lt (show i < gs.length by omega)
    obtain ⟨x, hxe⟩ : ∃ x, gl.weight = x := ⟨_, rfl⟩
    have hx : ws[i]? = some x := by rw [hws, List.getElem?_map, hg, ← hxe]; rfl
    have hlt' : (i : Int) < (ws.length : Int) := by omega
    simp only [go_sem, contS_seq, simprocAttr, rows_len, ← hlw, hlt', rows_get hg]
    refine (goal_heavy gl).callW hen _ [(5, 1000001)] rfl rfl rfl ?_
    rintro d rfl
    rw [hxe]
    simp only [go_sem, contS_seq, simprocAttr]
    have hi1 : IntKind.i64.wrap ((i : Int) + 1) = ((i + 1 : Nat) : Int) := by rw [IntWalk.i64_in _ (by omega)]; omega
    have hd := total_drop hx
    have hb := heavy_bd x
    have hb1 := total_bd (ws.drop (i + 1))
    have hb2 := total_bd ws
    have hsw : IntKind.u64.wrap (s + heavy x) = s + heavy x := IntWalk.u64_in _ (by omega)
    rw [hi1, hsw]
    refine ⟨ws.length - (i + 1), _, by omega, ?_, i + 1, s + heavy x, rfl, ?_, ?_, ?_, rfl⟩
    · exact Weak.less (by simp [lessL, lk]) (by simp [lessL, lk]) (by simp [lessL, lk]) rfl
    all_goals omega
  · have hiw : i = ws.length := by omega
    have hs2 : s = total ws := by rw [← hs, hiw]; simp [total]
    subst hs2
    have hlt' : ¬ (i : Int) < (ws.length : Int) := by omega
    simp only [go_sem, contS_seq, simprocAttr, rows_len, ← hlw, hlt']
    refine ⟨fun h0 => ?_, fun h0 => ?_⟩
    · simp only [retK, fullK, iterK, resD, resA, AOp.ex, St.ev, Option.map_some, Option.bind_some, St.get, lk, reduceIte, Nat.reduceEqDiff, Option.getD_some, oneD, List.getElem?_cons_zero, List.getElem?_cons_succ, List.drop_zero, List.drop_succ_cons, List.take_succ_cons, List.take_zero, List.length_cons, List.length_nil, Nat.zero_add, Nat.reduceAdd, Nat.le_refl, Nat.reduceLeDiff, D.pub, D.pubs, Tryz.results73]
      exact ⟨_, rfl, rfl, by rw [if_pos h0]; rfl⟩
    · have hm : (n : Int).tmod (total ws) = (n : Int) % total ws := Int.tmod_eq_emod_of_nonneg (by omega)
      simp only [go_sem, contS_seq, simprocAttr, rows_len, ← hlw, h0, hm]
      have htb := total_bd ws
      have hn0 : 0 ≤ (n : Int) % total ws := Int.emod_nonneg _ h0
      have hnm : (n : Int) % total ws < total ws := Int.emod_lt_of_pos _ (by omega)
      refine loopS (fun k st => ∃ (j : Nat) (m : Int), k = ws.length - j ∧ j ≤ ws.length ∧ 0 ≤ m ∧ m < 100000 ∧ pos j (ws.drop j) m = pos 0 ws ((n : Int) % total ws) ∧
        st = ⟨[(1, u64 m), (8, .fn 104 [(5, 0)]), (33, .pd (.slice (rows AGoal.pd gs))), (34, int ws.length), (35, int j)], [(5, [.fn 74 []])], [], .no⟩) ws.length _
        (Weak.refl _ _) ⟨0, _, rfl, Nat.zero_le _, hn0, by omega, by simp, rfl⟩ ?_
      rintro k st ⟨j, m, rfl, hj, hm0, hm1, hp, rfl⟩
      by_cases hjl : j < ws.length
      · obtain ⟨gl, hg⟩ := at_lt (show j < gs.length by omega)
        obtain ⟨x, hxe⟩ : ∃ x, gl.weight = x := ⟨_, rfl⟩
        have hx : ws[j]? = some x := by rw [hws, List.getElem?_map, hg, ← hxe]; rfl
        have hjl' : (j : Int) < (ws.length : Int) := by omega
        simp only [go_sem, contS_seq, simprocAttr, rows_len, ← hlw, hjl', rows_get hg]
        refine (goal_heavy gl).callW hen _ [(5, 1000001)] rfl rfl rfl ?_
        rintro d rfl
        rw [hxe]
        have hj1 : IntKind.i64.wrap ((j : Int) + 1) = ((j + 1 : Nat) : Int) := by rw [IntWalk.i64_in _ (by omega)]; omega
        have hb := heavy_bd x
        have hpd := pos_drop hx m
        rw [hp] at hpd
        simp only [go_sem, contS_seq, simprocAttr]
        refine ⟨fun h1 => ?_, fun h1 => ?_⟩
        · simp only [retK, fullK, iterK, resD, resA, AOp.ex, St.ev, Option.map_some, Option.bind_some, St.get, lk, reduceIte, Nat.reduceEqDiff, Option.getD_some, oneD, List.getElem?_cons_zero, List.getElem?_cons_succ, List.drop_zero, List.drop_succ_cons, List.take_succ_cons, List.take_zero, List.length_cons, List.length_nil, Nat.zero_add, Nat.reduceAdd, Nat.le_refl, Nat.reduceLeDiff, D.pub, D.pubs, Tryz.results73]
          rw [if_pos h1] at hpd
          refine ⟨_, rfl, rfl, ?_⟩
          rw [hpd]
          rfl
        · rw [if_neg h1] at hpd
          have hmw : IntKind.u64.wrap (m - heavy x) = m - heavy x := IntWalk.u64_in _ (by omega)
          rw [hj1, hmw]
          refine ⟨ws.length - (j + 1), _, by omega, ?_, j + 1, m - heavy x, rfl, ?_, ?_, ?_, hpd.symm, rfl⟩
          · exact Weak.less (by simp [lessL, lk]) (by simp [lessL, lk]) (by simp [lessL, lk]) rfl
          all_goals omega
      · have hjl' : ¬ (j : Int) < (ws.length : Int) := by omega
        simp only [go_sem, contS_seq, simprocAttr, rows_len, ← hlw, hjl']
        simp only [retK, fullK, iterK, resD, resA, AOp.ex, St.ev, Option.map_some, Option.bind_some, St.get, lk, reduceIte, Nat.reduceEqDiff, Option.getD_some, oneD, List.getElem?_cons_zero, List.getElem?_cons_succ, List.drop_zero, List.drop_succ_cons, List.take_succ_cons, List.take_zero, List.length_cons, List.length_nil, Nat.zero_add, Nat.reduceAdd, Nat.le_refl, Nat.reduceLeDiff, D.pub, D.pubs, Tryz.results73]
        refine ⟨_, rfl, rfl, ?_⟩
        have hnone : pos 0 ws ((n : Int) % total ws) = none := by rw [← hp, List.drop_eq_nil_of_le (by omega)]; rfl
        rw [hnone]
        rfl

/-- Which place is chosen. -/
def choose (ws : List Int) (n : Nat) : Option Nat := if total ws = 0 then none else pos 0 ws (n % total ws)

/-- A place, or none. -/
def placeD : Option Nat → D
  | some i => .tup [int i, bln true]
  | none => .tup [int 0, bln false]

theorem chosen_int' (ws : List Int) (n : Nat) (hn : n < 2 ^ 64) (hl : ws.length ≤ 8) : Pure Tryz.prog 105 [.pd (.slice (ints ws)), u64 n, .fn 106 []] (fun d => d = placeD (choose ws n)) :=
  (chosen_int ws n hn hl).mono fun d h => by
    rw [h]; unfold choose placeD
    split <;> rfl

theorem chosen_goal' (gs : List AGoal) (n : Nat) (hn : n < 2 ^ 64) (hl : gs.length ≤ 8) : Pure Tryz.prog 73 [.pd (.slice (rows AGoal.pd gs)), u64 n, .fn 74 []] (fun d => d = placeD (choose (gs.map (·.weight)) n)) :=
  (chosen_goal gs n hn hl _ rfl).mono fun d h => by
    rw [h]; unfold choose placeD
    split <;> rfl

/-- back.Choose. -/
theorem back_Choose (ws : List Int) (n : Nat) (hn : n < 2 ^ 64) (hl : ws.length ≤ 8) : Pure Tryz.prog 75 [.pd (.slice (ints ws)), u64 n] (fun d => d = placeD (choose ws n)) := by
  refine pure_of_run follows an_z0 Tryz.func75 rfl ok_z0 dst_z0 (by simp [Tryz.ntmps75]) ?_
  rw [run_start]
  simp only [ac_z0, go_sem, contS_seq, simprocAttr]
  refine (chosen_int' ws n hn hl).callW (enters_of Tryz.func105 rfl rfl) _ rfl rfl ?_
  rintro d rfl
  cases choose ws n <;> (simp only [go_sem, contS_seq, simprocAttr, placeD]; simp only [retK, fullK, iterK, resD, resA, AOp.ex, St.ev, Option.map_some, Option.bind_some, St.get, lk, reduceIte, Nat.reduceEqDiff, Option.getD_some, oneD, List.getElem?_cons_zero, List.getElem?_cons_succ, List.drop_zero, List.drop_succ_cons, List.take_succ_cons, List.take_zero, List.length_cons, List.length_nil, Nat.zero_add, Nat.reduceAdd, Nat.le_refl, Nat.reduceLeDiff, D.pub, D.pubs, Tryz.results75]; exact ⟨_, rfl, rfl, rfl⟩)

theorem pos_lt : ∀ {ws : List Int} {i j : Nat} {m : Int}, pos i ws m = some j → i ≤ j ∧ j < i + ws.length
  | [], _, _, _, h => by simp [pos] at h
  | w :: ws, i, j, m, h => by
    simp only [pos] at h
    split at h
    · cases h; simp
    · have := pos_lt h
      simp only [List.length_cons]; omega

theorem choose_lt {ws : List Int} {n i : Nat} (h : choose ws n = some i) : i < ws.length := by
  unfold choose at h
  split at h
  · cases h
  · have := pos_lt h; omega

def goal0 : AGoal := ⟨⟨0, ⟨#[]⟩, ⟨#[]⟩⟩, 0, 0, false⟩

/-- What is picked. -/
def pick (gs : List AGoal) (n : Nat) : AGoal × Bool := match choose (gs.map (·.weight)) n with
  | none => (goal0, false)
  | some i => match gs[i]? with
    | some g => if g.bad then (goal0, false) else (g, true)
    | none => (goal0, false)

set_option maxRecDepth 100000 in
theorem back_Pick (gs : List AGoal) (n : Nat) (hn : n < 2 ^ 64) (hl : gs.length ≤ 8) : Pure Tryz.prog 35 [.pd (.slice (rows AGoal.pd gs)), u64 n] (fun d => d = .tup [(pick gs n).1.d, bln (pick gs n).2]) := by
  refine pure_of_run follows an_z12 Tryz.func35 rfl ok_z12 dst_z12 (by simp [Tryz.ntmps35]) ?_
  rw [run_start]
  simp only [ac_z12, go_sem, contS_seq, simprocAttr]
  refine (chosen_goal' gs n hn hl).callW (enters_of Tryz.func73 rfl rfl) _ rfl rfl ?_
  rintro d rfl
  unfold pick
  cases hch : choose (gs.map (·.weight)) n with
  | none =>
    simp only [placeD, go_sem, contS_seq, simprocAttr]
    simp only [retK, fullK, iterK, resD, resA, AOp.ex, St.ev, Option.map_some, Option.bind_some, St.get, lk, reduceIte, Nat.reduceEqDiff, Option.getD_some, oneD, List.getElem?_cons_zero, List.getElem?_cons_succ, List.drop_zero, List.drop_succ_cons, List.take_succ_cons, List.take_zero, List.length_cons, List.length_nil, Nat.zero_add, Nat.reduceAdd, Nat.le_refl, Nat.reduceLeDiff, D.pub, D.pubs, ret_z12]
    exact ⟨_, rfl, rfl, rfl⟩
  | some i =>
    have hi := choose_lt hch
    rw [List.length_map] at hi
    obtain ⟨g, hg⟩ := at_lt hi
    simp only [placeD, go_sem, contS_seq, simprocAttr, rows_get hg]
    refine ⟨fun hb => ?_, fun hb => ?_⟩
    · simp only [retK, fullK, iterK, resD, resA, AOp.ex, St.ev, Option.map_some, Option.bind_some, St.get, lk, reduceIte, Nat.reduceEqDiff, Option.getD_some, oneD, List.getElem?_cons_zero, List.getElem?_cons_succ, List.drop_zero, List.drop_succ_cons, List.take_succ_cons, List.take_zero, List.length_cons, List.length_nil, Nat.zero_add, Nat.reduceAdd, Nat.le_refl, Nat.reduceLeDiff, D.pub, D.pubs, ret_z12, hg, hb]
      exact ⟨_, rfl, rfl, rfl⟩
    · simp only [retK, fullK, iterK, resD, resA, AOp.ex, St.ev, Option.map_some, Option.bind_some, St.get, lk, reduceIte, Nat.reduceEqDiff, Option.getD_some, oneD, List.getElem?_cons_zero, List.getElem?_cons_succ, List.drop_zero, List.drop_succ_cons, List.take_succ_cons, List.take_zero, List.length_cons, List.length_nil, Nat.zero_add, Nat.reduceAdd, Nat.le_refl, Nat.reduceLeDiff, D.pub, D.pubs, ret_z12, hg, hb]
      exact ⟨_, rfl, rfl, by simp [hb, D.pub, D.pubs]⟩


/-- A text no longer than is looked at. -/
def few (s : ByteArray) : ByteArray := if s.size ≤ 100 then s else s.extract 0 100

set_option maxRecDepth 100000 in
theorem law1_Few (s : ByteArray) : Pure Tryz.prog 22 [str s] (fun d => d = str (few s)) := by
  refine pure_of_run follows an_z15 Tryz.func22 rfl ok_z15 dst_z15 (by simp [Tryz.ntmps22]) ?_
  rw [run_start]
  by_cases h : 100 < s.size
  · have h1 : (100 : Int) < (s.size : Int) := by omega
    have h2 : 100 ≤ s.size := by omega
    simp only [ac_z15, go_sem, contS_seq, simprocAttr, h1, h2]
    simp only [retK, fullK, iterK, resD, resA, AOp.ex, St.ev, Option.map_some, Option.bind_some, St.get, lk, reduceIte, Nat.reduceEqDiff, Option.getD_some, oneD, List.getElem?_cons_zero, List.getElem?_cons_succ, List.drop_zero, List.drop_succ_cons, List.take_succ_cons, List.take_zero, List.length_cons, List.length_nil, Nat.zero_add, Nat.reduceAdd, Nat.le_refl, Nat.reduceLeDiff, D.pub, D.pubs, Tryz.results22]
    exact ⟨_, rfl, rfl, by simp [few, show ¬ s.size ≤ 100 by omega, D.pub]⟩
  · have h1 : ¬ (100 : Int) < (s.size : Int) := by omega
    simp only [ac_z15, go_sem, contS_seq, simprocAttr, h1]
    simp only [retK, fullK, iterK, resD, resA, AOp.ex, St.ev, Option.map_some, Option.bind_some, St.get, lk, reduceIte, Nat.reduceEqDiff, Option.getD_some, oneD, List.getElem?_cons_zero, List.getElem?_cons_succ, List.drop_zero, List.drop_succ_cons, List.take_succ_cons, List.take_zero, List.length_cons, List.length_nil, Nat.zero_add, Nat.reduceAdd, Nat.le_refl, Nat.reduceLeDiff, D.pub, D.pubs, Tryz.results22]
    exact ⟨_, rfl, rfl, by simp [few, show s.size ≤ 100 by omega, D.pub]⟩

def fewRef (r : ARef) : ARef := ⟨r.kind, few r.space, few r.name⟩

set_option maxRecDepth 100000 in
theorem law9_FewRef (r : ARef) : Pure Tryz.prog 21 [r.d] (fun d => d = (fewRef r).d) := by
  refine pure_of_run follows an_z14 Tryz.func21 rfl ok_z14 dst_z14 (by simp [Tryz.ntmps21]) ?_
  rw [run_start]
  simp only [ac_z14, go_sem, contS_seq, simprocAttr, go_sem]
  refine (law1_Few r.space).callX (enters_of Tryz.func22 rfl rfl) _ rfl rfl ?_
  rintro d rfl
  simp only [go_sem, contS_seq, simprocAttr, go_sem]
  refine (law1_Few r.name).callX (enters_of Tryz.func22 rfl rfl) _ rfl rfl ?_
  rintro d rfl
  simp only [go_sem, contS_seq, simprocAttr, go_sem]
  simp only [retK, fullK, iterK, resD, resA, AOp.ex, St.ev, Option.map_some, Option.bind_some, St.get, lk, reduceIte, Nat.reduceEqDiff, Option.getD_some, oneD, List.getElem?_cons_zero, List.getElem?_cons_succ, List.drop_zero, List.drop_succ_cons, List.take_succ_cons, List.take_zero, List.length_cons, List.length_nil, Nat.zero_add, Nat.reduceAdd, Nat.le_refl, Nat.reduceLeDiff, D.pub, D.pubs, ret_z14]
  exact ⟨_, rfl, rfl, rfl⟩

/-- Goals, no more than are looked at. -/
def fewGoal (g : AGoal) : AGoal := { g with ref := fewRef g.ref }
def fewGoals (gs : List AGoal) : List AGoal := (gs.take 6).map fewGoal

set_option maxRecDepth 100000 in
theorem law14_Few (gs : List AGoal) : Pure Tryz.prog 34 [.pd (.slice (rows AGoal.pd gs))] (fun d => d = .pd (.slice (rows AGoal.pd (fewGoals gs)))) := by
  refine pure_of_run follows an_z13 Tryz.func34 rfl ok_z13 dst_z13 (by simp [Tryz.ntmps34]) ?_
  rw [run_start]
  simp only [ac_z13, go_sem, contS_seq, simprocAttr, rows_len]
  have hpos : 0 < 6 := by omega
  refine loopS (fun k st => ∃ i : Nat, k = 6 - i ∧ i ≤ 6 ∧ i ≤ gs.length ∧
    st = ⟨[(0, .pd (.slice (rows AGoal.pd gs))), (3, .own 64 6 (rows AGoal.pd ((gs.take i).map fewGoal)) 27), (4, int i)], [], [], .no⟩) 6 _
    ?_ ⟨0, rfl, by omega, by omega, rfl⟩ ?_
  · exact Weak.own1 3 27 64 6 (by kernel_rfl) (by decide) rfl (by simp [lessL, lk, St.purge, St.put, D.purge, rows]) (by simp [lessL, lk, St.purge, D.purges, D.purge]) (by simp [lessL]) rfl
  rintro k st ⟨i, rfl, hi6, hi, rfl⟩
  have hi1 : IntKind.i64.wrap ((i : Int) + 1) = ((i + 1 : Nat) : Int) := by rw [IntWalk.i64_in _ (by omega)]; omega
  by_cases hlt : i < gs.length ∧ i < 6
  · obtain ⟨g, hg⟩ := at_lt hlt.1
    have h1 : (i : Int) < (gs.length : Int) := by omega
    have h2 : (i : Int) < 6 := by omega
    simp only [go_sem, contS_seq, simprocAttr, rows_len, rows_get hg, h1, h2]
    refine (law9_FewRef g.ref).callW (enters_of Tryz.func21 rfl rfl) _ rfl rfl ?_
    rintro d rfl
    simp only [go_sem, contS_seq, simprocAttr, rows_one, hi1]
    have e1 : rows AGoal.pd ((gs.take i).map fewGoal) ++ [[PD.raw (Value.int IntKind.i64 (fewRef g.ref).kind), PD.raw (Value.string (fewRef g.ref).space),
        PD.raw (Value.string (fewRef g.ref).name), pInt g.port, pInt g.weight, pBln g.bad]] = rows AGoal.pd ((gs.take (i + 1)).map fewGoal) := by
      rw [take_at hg, List.map_append]; exact rows_one _ (fewGoal g)
    have hl : (rows AGoal.pd ((gs.take i).map fewGoal)).length ≤ 6 := by simp [rows]; omega
    rw [e1]
    refine ⟨by simp, by unfold maxLen; omega, by omega, 6 - (i + 1), _, by omega, ?_, i + 1, rfl, by omega, by omega, rfl⟩
    exact Weak.less (by simp [lessL, lk]) (by simp [lessL, lk]) (by simp [lessL, lk]) rfl
  · have h3 : (gs.take i).map fewGoal = fewGoals gs := by
      unfold fewGoals
      rcases Nat.lt_or_ge i 6 with h6 | h6
      · rw [List.take_of_length_le (by omega), List.take_of_length_le (by omega)]
      · rw [show i = 6 by omega]
    rw [h3]
    by_cases h1 : i < gs.length
    · have h1' : (i : Int) < (gs.length : Int) := by omega
      have h2 : ¬ (i : Int) < 6 := by omega
      simp only [go_sem, contS_seq, simprocAttr, rows_len, h1', h2]
      simp only [retK, fullK, iterK, resD, resA, AOp.ex, St.ev, Option.map_some, Option.bind_some, St.get, lk, reduceIte, Nat.reduceEqDiff, Option.getD_some, oneD, List.getElem?_cons_zero, List.getElem?_cons_succ, List.drop_zero, List.drop_succ_cons, List.take_succ_cons, List.take_zero, List.length_cons, List.length_nil, Nat.zero_add, Nat.reduceAdd, Nat.le_refl, Nat.reduceLeDiff, D.pub, D.pubs, Tryz.results34]
      exact ⟨_, rfl, rfl, rfl⟩
    · have h1' : ¬ (i : Int) < (gs.length : Int) := by omega
      simp only [go_sem, contS_seq, simprocAttr, rows_len, h1']
      simp only [retK, fullK, iterK, resD, resA, AOp.ex, St.ev, Option.map_some, Option.bind_some, St.get, lk, reduceIte, Nat.reduceEqDiff, Option.getD_some, oneD, List.getElem?_cons_zero, List.getElem?_cons_succ, List.drop_zero, List.drop_succ_cons, List.take_succ_cons, List.take_zero, List.length_cons, List.length_nil, Nat.zero_add, Nat.reduceAdd, Nat.le_refl, Nat.reduceLeDiff, D.pub, D.pubs, Tryz.results34]
      exact ⟨_, rfl, rfl, rfl⟩


def wantAt (i : Nat) : Nat := if i = 0 ∨ i = 4 then 0 else 2

theorem choose_eg : ∀ i, i < 5 → choose [1, 0, 3] i = some (wantAt i) := by decide

theorem want_eg : ∀ i, i < 5 → ([[pInt 0], [pInt 2], [pInt 2], [pInt 2], [pInt 0]] : List (List PD))[i]? = some [pInt (wantAt i)] := by
  intro i hi
  match i, hi with
  | 0, _ => rfl
  | 1, _ => rfl
  | 2, _ => rfl
  | 3, _ => rfl
  | 4, _ => rfl

def aRoute : AObj := ⟨⟨6, ⟨#[119, 101, 98]⟩, ⟨#[114]⟩⟩, false, [], [], ⟨#[]⟩, [], [], [], [], [], []⟩

set_option maxRecDepth 100000 in
theorem awake14 : Pure Tryz.prog 36 [] (fun d => d = bln true) := by
  refine pure_of_run follows an_z16 Tryz.func36 rfl ok_z16 dst_z16 (by simp [Tryz.ntmps36]) ?_
  rw [run_start]
  simp only [ac_z16, go_sem, contS_seq, simprocAttr]
  refine loopS (fun k st => ∃ i : Nat, k = 5 - i ∧ i ≤ 5 ∧
    st = ⟨[(6, .own 3 1 [[pInt 0], [pInt 2], [pInt 2], [pInt 2], [pInt 0]] 6), (7, int 5), (8, int i)], [], [], .no⟩) 5 _
    ?_ ⟨0, rfl, by omega, rfl⟩ ?_
  · exact Weak.less (by simp [lessL, lk]) (by simp [lessL, lk]) (by simp [lessL, lk]) rfl
  rintro k st ⟨i, rfl, hi, rfl⟩
  have hi1 : IntKind.i64.wrap ((i : Int) + 1) = ((i + 1 : Nat) : Int) := by rw [IntWalk.i64_in _ (by omega)]; omega
  by_cases hlt : i < 5
  · have h1 : (i : Int) < 5 := by omega
    have hu : IntKind.u64.wrap (i : Int) = (i : Int) := IntWalk.u64_in _ (by omega)
    simp only [go_sem, contS_seq, simprocAttr, h1, hi1, hu, want_eg i hlt]
    refine (back_Choose [1, 0, 3] i (by omega) (by simp)).callW (enters_of Tryz.func75 rfl rfl) _ rfl rfl ?_
    rintro d rfl
    simp only [choose_eg i hlt, placeD, go_sem, contS_seq, simprocAttr, hi1]
    refine ⟨5 - (i + 1), _, by omega, ?_, i + 1, rfl, by omega, rfl⟩
    exact Weak.less (by simp [lessL, lk]) (by simp [lessL, lk]) (by simp [lessL, lk]) rfl
  · have h1 : ¬ (i : Int) < 5 := by omega
    simp only [go_sem, contS_seq, simprocAttr, h1]
    refine (wrong_nil aRoute ⟨⟨4, ⟨#[]⟩, ⟨#[115]⟩⟩, 0, 0⟩ ⟨4, ⟨#[119, 101, 98]⟩, ⟨#[115]⟩⟩ (by simp [near, aRoute]) (.inl (by decide))).callW (enters_of Tryz.func37 rfl rfl) _ rfl rfl ?_
    rintro d rfl
    simp only [go_sem, contS_seq, simprocAttr, badKind]
    trace_state
    refine (wrong_nil aRoute ⟨⟨3, ⟨#[97, 112, 112]⟩, ⟨#[115]⟩⟩, 0, 0⟩ ⟨3, ⟨#[97, 112, 112]⟩, ⟨#[115]⟩⟩ (by simp [near]) (.inr (by decide))).callW (enters_of Tryz.func37 rfl rfl) _ rfl rfl ?_
    rintro d rfl
    simp only [go_sem, contS_seq, simprocAttr, notLet]
    simp only [retK, fullK, iterK, resD, resA, AOp.ex, St.ev, Option.map_some, Option.bind_some, St.get, lk, reduceIte, Nat.reduceEqDiff, Option.getD_some, oneD, List.getElem?_cons_zero, List.getElem?_cons_succ, List.drop_zero, List.drop_succ_cons, List.take_succ_cons, List.take_zero, List.length_cons, List.length_nil, Nat.zero_add, Nat.reduceAdd, Nat.le_refl, Nat.reduceLeDiff, D.pub, D.pubs, Tryz.results36]
    exact ⟨_, rfl, rfl, rfl⟩

theorem beq_self_tt (b : Bool) : (b == b) = true := by cases b <;> rfl


def isHeavy (g : AGoal) : Bool := decide (0 < g.weight)
def sameGoal (a b : AGoal) : Bool := decide (a.ref.kind = b.ref.kind) && (decide (a.ref.space = b.ref.space) && (decide (a.ref.name = b.ref.name) && (decide (a.port = b.port) && (decide (a.weight = b.weight) && (a.bad == b.bad)))))

/-- The goal at a place among the shares. -/
def pickAt : List AGoal → Int → Option AGoal
  | [], _ => none
  | g :: gs, m => if m < heavy g.weight then some g else pickAt gs (m - heavy g.weight)

def pickV : Option AGoal → AGoal × Bool
  | none => (goal0, false)
  | some g => if g.bad then (goal0, false) else (g, true)

theorem pos_pickAt : ∀ (gs : List AGoal) (i : Nat) (m : Int), (pos i (gs.map (·.weight)) m).bind (fun j => gs[j - i]?) = pickAt gs m
  | [], i, m => rfl
  | g :: gs, i, m => by
    simp only [List.map_cons, pos, pickAt]
    split
    · simp
    · rw [← pos_pickAt gs (i + 1) (m - heavy g.weight)]
      cases hp : pos (i + 1) (gs.map (·.weight)) (m - heavy g.weight) with
      | none => rfl
      | some j =>
        have h1 := (pos_lt hp).1
        simp only [Option.bind_some]
        rw [show j - i = (j - (i + 1)) + 1 by omega, List.getElem?_cons_succ]

theorem pick_eq (gs : List AGoal) (n : Nat) : pick gs n = pickV (if total (gs.map (·.weight)) = 0 then none else pickAt gs ((n : Int) % total (gs.map (·.weight)))) := by
  unfold pick choose
  split
  · rename_i h
    split at h
    · rename_i h0; rw [if_pos h0]; rfl
    · rename_i h0
      rw [if_neg h0, ← pos_pickAt gs 0, h]
      rfl
  · rename_i i h
    split at h
    · cases h
    · rename_i h0
      rw [if_neg h0, ← pos_pickAt gs 0, h]
      simp only [Option.bind_some, Nat.sub_zero]
      cases gs[i]? <;> rfl

theorem heavy_zero {g : AGoal} (h : isHeavy g = false) : heavy g.weight = 0 := by
  unfold isHeavy at h
  simp only [decide_eq_false_iff_not] at h
  unfold heavy; omega

theorem total_filter : ∀ gs : List AGoal, total ((gs.filter isHeavy).map (·.weight)) = total (gs.map (·.weight))
  | [] => rfl
  | g :: gs => by
    cases h : isHeavy g with
    | true => rw [List.filter_cons_of_pos h]; simp only [List.map_cons, total, total_filter gs]
    | false => rw [List.filter_cons_of_neg (by simp [h])]; simp only [List.map_cons, total, total_filter gs, heavy_zero h, Int.zero_add]

theorem pickAt_filter : ∀ (gs : List AGoal) (m : Int), 0 ≤ m → pickAt (gs.filter isHeavy) m = pickAt gs m
  | [], _, _ => rfl
  | g :: gs, m, hm => by
    cases h : isHeavy g with
    | true =>
      rw [List.filter_cons_of_pos h]
      simp only [pickAt]
      split
      · rfl
      · exact pickAt_filter gs _ (by omega)
    | false =>
      rw [List.filter_cons_of_neg (by simp [h])]
      simp only [pickAt, heavy_zero h]
      rw [if_neg (by omega), pickAt_filter gs m hm, Int.sub_zero]

theorem pick_filter (gs : List AGoal) (n : Nat) : pick (gs.filter isHeavy) n = pick gs n := by
  rw [pick_eq, pick_eq, total_filter]
  split
  · rfl
  · rename_i h0
    rw [pickAt_filter gs _ (Int.emod_nonneg _ h0)]

theorem pickAt_mem : ∀ {gs : List AGoal} {m : Int} {g : AGoal}, 0 ≤ m → pickAt gs m = some g → g ∈ gs ∧ isHeavy g = true
  | [], _, _, _, h => by cases h
  | x :: gs, m, g, hm, h => by
    simp only [pickAt] at h
    split at h
    · rename_i h1
      cases h
      refine ⟨by simp, ?_⟩
      unfold isHeavy
      unfold heavy at h1
      simp only [decide_eq_true_eq]
      omega
    · have := pickAt_mem (by omega) h
      exact ⟨List.mem_cons_of_mem _ this.1, this.2⟩

theorem same_self (g : AGoal) : sameGoal g g = true := by
  unfold sameGoal
  simp

theorem pick_true {gs : List AGoal} {n : Nat} {g : AGoal} (h : pick gs n = (g, true)) : (gs.any fun x => isHeavy x && sameGoal x g) = true ∧ g.bad = false ∧ 0 < g.weight := by
  rw [pick_eq] at h
  split at h
  · cases h
  · rename_i h0
    cases hp : pickAt gs ((n : Int) % total (gs.map (·.weight))) with
    | none => rw [hp] at h; cases h
    | some x =>
      rw [hp] at h
      simp only [pickV] at h
      split at h
      · cases h
      · rename_i hb
        cases h
        have h1 := pickAt_mem (Int.emod_nonneg _ h0) hp
        refine ⟨List.any_eq_true.2 ⟨g, h1.1, by rw [h1.2, same_self]; rfl⟩, by simpa using hb, ?_⟩
        have := h1.2
        unfold isHeavy at this
        simpa using this

set_option maxRecDepth 100000 in
set_option maxHeartbeats 1000000 in
theorem law_Picks (gs : List AGoal) (n : Nat) (hn : n < 2 ^ 64) : Pure Tryz.prog 9 [.pd (.slice (rows AGoal.pd gs)), u64 n] (fun d => d = bln true) := by
  refine pure_of_run follows an_z17 Tryz.func9 rfl ok_z17 dst_z17 (by simp [Tryz.ntmps9]) ?_
  rw [run_start]
  obtain ⟨ls, hls⟩ : ∃ ls, fewGoals gs = ls := ⟨_, rfl⟩
  have hgl : ls.length ≤ 6 := by rw [← hls]; simp [fewGoals]; omega
  have c0 := law14_Few gs
  rw [hls] at c0
  have c3 := back_Pick ls n hn (by omega)
  obtain ⟨p, hp⟩ : ∃ p, pick ls n = p := ⟨_, rfl⟩
  rw [hp] at c3
  obtain ⟨gl, b2⟩ := p
  simp only [ac_z17, go_sem, contS_seq, simprocAttr]
  refine c0.callW (enters_of Tryz.func34 rfl rfl) _ rfl rfl ?_
  rintro d rfl
  simp only [go_sem, contS_seq, simprocAttr]
  refine c3.callW (enters_of Tryz.func35 rfl rfl) _ rfl rfl ?_
  rintro d rfl
  simp only [go_sem, contS_seq, simprocAttr]
  refine loopS (fun k st => ∃ i : Nat, k = ls.length - i ∧ i ≤ ls.length ∧
    st = ⟨[(0, .pd (.slice (rows AGoal.pd ls))), (1, u64 n), (5, .ptr 5 0), (6, bln b2), (7, .own 64 6 (rows AGoal.pd ((ls.take i).filter isHeavy)) 38), (8, bln ((ls.take i).any fun g => isHeavy g && sameGoal g gl)), (9, int i)], [(5, [int gl.ref.kind, str gl.ref.space, str gl.ref.name, int gl.port, int gl.weight, bln gl.bad])], [], .no⟩) ls.length _
    ?_ ⟨0, rfl, by omega, rfl⟩ ?_
  · exact Weak.own1 7 38 64 6 (by kernel_rfl) (by decide) rfl (by simp [lessL, lk, St.purge, St.put, D.purge, rows]) (by simp [lessL, lk, St.purge, D.purges, D.purge]) (by simp [lessL]) rfl
  rintro k st ⟨i, rfl, hi, rfl⟩
  have hi1 : IntKind.i64.wrap ((i : Int) + 1) = ((i + 1 : Nat) : Int) := by rw [IntWalk.i64_in _ (by omega)]; omega
  by_cases hlt : i < ls.length
  · obtain ⟨g, hg⟩ := at_lt hlt
    have h1 : (i : Int) < (ls.length : Int) := by omega
    have hany : ((ls.take (i + 1)).any fun g => isHeavy g && sameGoal g gl) = (((ls.take i).any fun g => isHeavy g && sameGoal g gl) || (isHeavy g && sameGoal g gl)) := by
      rw [take_at hg, List.any_append]; simp
    by_cases hw : 0 < g.weight
    · have hh : isHeavy g = true := by simp [isHeavy, hw]
      have hfl : (ls.take (i + 1)).filter isHeavy = (ls.take i).filter isHeavy ++ [g] := by
        rw [take_at hg, List.filter_append, List.filter_cons_of_pos hh]; rfl
      have hrl : ((ls.take i).filter isHeavy).length ≤ 6 := by
        have := List.length_filter_le isHeavy (ls.take i)
        simp at this ⊢; omega
      have e1 : rows AGoal.pd ((ls.take i).filter isHeavy) ++ [[pInt g.ref.kind, pStr g.ref.space, pStr g.ref.name, pInt g.port, pInt g.weight, pBln g.bad]] = rows AGoal.pd ((ls.take (i + 1)).filter isHeavy) := by
        rw [hfl]; exact rows_one _ g
      rw [hh, Bool.true_and] at hany
      cases hF : ((ls.take i).any fun g => isHeavy g && sameGoal g gl) with
      | true =>
        rw [hF, Bool.true_or] at hany
        simp only [go_sem, contS_seq, simprocAttr, go_sem, rows_len, rows_get hg, h1, hi1, hw]
        rw [e1]
        refine ⟨by simp, by unfold maxLen; omega, by omega, ls.length - (i + 1), _, by omega, ?_, i + 1, rfl, by omega, rfl⟩
        rw [hany]
        exact Weak.less (by simp [lessL, lk]) (by simp [lessL, lk]) (by simp [lessL, lk]) rfl
      | false =>
        rw [hF, Bool.false_or] at hany
        simp only [go_sem, contS_seq, simprocAttr, go_sem, rows_len, rows_get hg, h1, hi1, hw, eqVs, eqV]
        rw [e1]
        refine ⟨by simp, by unfold maxLen; omega, by omega, ls.length - (i + 1), _, by omega, ?_, i + 1, rfl, by omega, rfl⟩
        rw [hany]
        unfold sameGoal
        exact Weak.less (by simp [lessL, lk]) (by simp [lessL, lk]) (by simp [lessL, lk]) rfl
    · have hh : isHeavy g = false := by simp [isHeavy]; omega
      have hfl : (ls.take (i + 1)).filter isHeavy = (ls.take i).filter isHeavy := by
        rw [take_at hg, List.filter_append, List.filter_cons_of_neg (by simp [hh])]; simp
      rw [hh, Bool.false_and, Bool.or_false] at hany
      simp only [go_sem, contS_seq, simprocAttr, go_sem, rows_len, rows_get hg, h1, hi1, hw]
      refine ⟨ls.length - (i + 1), _, by omega, ?_, i + 1, rfl, by omega, rfl⟩
      rw [hfl, hany]
      exact Weak.less (by simp [lessL, lk]) (by simp [lessL, lk]) (by simp [lessL, lk]) rfl
  · have h1 : ¬ (i : Int) < (ls.length : Int) := by omega
    have c4 := back_Pick (ls.filter isHeavy) n hn (by have := List.length_filter_le isHeavy ls; omega)
    rw [pick_filter, hp] at c4
    rw [List.take_of_length_le (show ls.length ≤ i by omega)]
    simp only [go_sem, contS_seq, simprocAttr, rows_len, h1]
    refine c4.callW (enters_of Tryz.func35 rfl rfl) _ rfl rfl ?_
    rintro d rfl
    cases b2 with
    | false =>
      simp only [go_sem, contS_seq, simprocAttr, eqVs, eqV, beq_self_tt]
      trace_state
      refine awake14.callW (enters_of Tryz.func36 rfl rfl) _ rfl rfl ?_
      rintro d rfl
      simp only [go_sem, contS_seq, simprocAttr]
      simp only [retK, fullK, iterK, resD, resA, AOp.ex, St.ev, Option.map_some, Option.bind_some, St.get, lk, reduceIte, Nat.reduceEqDiff, Option.getD_some, oneD, List.getElem?_cons_zero, List.getElem?_cons_succ, List.drop_zero, List.drop_succ_cons, List.take_succ_cons, List.take_zero, List.length_cons, List.length_nil, Nat.zero_add, Nat.reduceAdd, Nat.le_refl, Nat.reduceLeDiff, D.pub, D.pubs, Tryz.results9]
      exact ⟨_, rfl, rfl, rfl⟩
    | true =>
      obtain ⟨q1, q2, q3⟩ := pick_true hp
      simp only [go_sem, contS_seq, simprocAttr, eqVs, eqV, beq_self_tt, q1, q2, q3]
      refine awake14.callW (enters_of Tryz.func36 rfl rfl) _ rfl rfl ?_
      rintro d rfl
      simp only [go_sem, contS_seq, simprocAttr]
      simp only [retK, fullK, iterK, resD, resA, AOp.ex, St.ev, Option.map_some, Option.bind_some, St.get, lk, reduceIte, Nat.reduceEqDiff, Option.getD_some, oneD, List.getElem?_cons_zero, List.getElem?_cons_succ, List.drop_zero, List.drop_succ_cons, List.take_succ_cons, List.take_zero, List.length_cons, List.length_nil, Nat.zero_add, Nat.reduceAdd, Nat.le_refl, Nat.reduceLeDiff, D.pub, D.pubs, Tryz.results9]
      exact ⟨_, rfl, rfl, rfl⟩

end Go.Proofs.YtjhomppadppfnaaGreatDoor
