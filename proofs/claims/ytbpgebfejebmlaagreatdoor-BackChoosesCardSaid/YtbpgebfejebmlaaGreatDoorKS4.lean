/- Texts of the prover's, joined: E6 E7 E8 E9 EA. -/
import Derived.Test.YtbpgebfejebmlaaGreatDoorKS3

namespace Go.Proofs.YtbpgebfejebmlaaGreatDoor
open Go Go.RowKit
set_option linter.unusedSimpArgs false
set_option linter.unusedVariables false
set_option maxRecDepth 100000

theorem pick_weight (g : AGoal) : Pure Tryz.prog 41 [g.d] (fun d => d = int g.weight) := by
  refine pure_of_run follows an_z11 Tryz.func41 rfl ok_z11 dst_z11 (by simp [Tryz.ntmps41]) ?_
  rw [run_start]
  simp only [ac_z11, go_sem, contS_seq, reduceIte, reduceCtorEq, Nat.reduceEqDiff, Nat.reduceAdd, Nat.reduceBEq, Nat.reduceBNe, Int.reduceLE, Int.reduceLT, Int.reduceToNat, Int.reduceEq, Nat.reduceLeDiff, Nat.reduceLT, Nat.reducePow, Nat.reduceDiv, Nat.reduceMod]
  simp only [retK, fullK, iterK, resD, resA, AOp.ex, St.ev, Option.map_some, Option.bind_some, St.get, lk, reduceIte, Nat.reduceEqDiff, Option.getD_some, oneD, List.getElem?_cons_zero, List.getElem?_cons_succ, List.drop_zero, List.drop_succ_cons, List.take_succ_cons, List.take_zero, List.length_cons, List.length_nil, Nat.zero_add, Nat.reduceAdd, Nat.le_refl, Nat.reduceLeDiff, D.pub, D.pubs, Tryz.results41]
  exact ⟨_, rfl, rfl, rfl⟩

theorem goal_heavy (g : AGoal) : PureB Tryz.prog 60 [g.d, .ptr 1000001 0] [(1000001, [.fn 41 []])] (fun d => d = .pd (.raw (.int .u64 (heavy g.weight)))) := by
  refine pureB_of_run follows an_z12 Tryz.func60 rfl ok_z12 dst_z12 (by simp [Tryz.ntmps60]) ?_
  rw [run_start]
  simp only [ac_z12, go_sem, contS_seq, reduceIte, reduceCtorEq, Nat.reduceEqDiff, Nat.reduceAdd, Nat.reduceBEq, Nat.reduceBNe, Int.reduceLE, Int.reduceLT, Int.reduceToNat, Int.reduceEq, Nat.reduceLeDiff, Nat.reduceLT, Nat.reducePow, Nat.reduceDiv, Nat.reduceMod]
  refine (pick_weight g).callW (enters_of Tryz.func41 rfl rfl) _ rfl rfl ?_
  rintro d rfl
  generalize g.weight = x
  simp only [go_sem, contS_seq, reduceIte, reduceCtorEq, Nat.reduceEqDiff, Nat.reduceAdd, Nat.reduceBEq, Nat.reduceBNe, Int.reduceLE, Int.reduceLT, Int.reduceToNat, Int.reduceEq, Nat.reduceLeDiff, Nat.reduceLT, Nat.reducePow, Nat.reduceDiv, Nat.reduceMod]
  simp only [retK, fullK, iterK, resD, resA, AOp.ex, St.ev, Option.map_some, Option.bind_some, St.get, lk, reduceIte, Nat.reduceEqDiff, Option.getD_some, oneD, List.getElem?_cons_zero, List.getElem?_cons_succ, List.drop_zero, List.drop_succ_cons, List.take_succ_cons, List.take_zero, List.length_cons, List.length_nil, Nat.zero_add, Nat.reduceAdd, Nat.le_refl, Nat.reduceLeDiff, D.pub, D.pubs, Tryz.results60]
  refine ⟨_, rfl, rfl, ?_⟩
  have e : (if (0 : Int) < if 1000 < x then 1000 else x then if 1000 < x then 1000 else x else 0) = heavy x := by
    unfold heavy
    split <;> split <;> omega
  have hr : 0 ≤ heavy x ∧ heavy x ≤ 1000 := by unfold heavy; omega
  simp only [D.pub, e, IntWalk.u64_in (heavy x) (by omega)]

set_option maxRecDepth 100000 in
theorem chosen_goal (gs : List AGoal) (n : Nat) (hn : n < 2 ^ 64) (hl : gs.length ≤ 8) (ws : List Int) (hws : ws = gs.map (·.weight)) : Pure Tryz.prog 40 [.pd (.slice (rows AGoal.pd gs)), u64 n, .fn 41 []]
    (fun d => d = if total ws = 0 then .tup [int 0, bln false] else match pos 0 ws (n % total ws) with | some i => .tup [int i, bln true] | none => .tup [int 0, bln false]) := by
  have hlw : ws.length = gs.length := by rw [hws]; simp
  refine pure_of_run follows an_z10 Tryz.func40 rfl ok_z10 dst_z10 (by simp [Tryz.ntmps40]) ?_
  rw [run_start]
  have hen : Enters Tryz.prog 60 := enters_of Tryz.func60 rfl rfl
  simp only [ac_z10, go_sem, contS_seq, reduceIte, reduceCtorEq, Nat.reduceEqDiff, Nat.reduceAdd, Nat.reduceBEq, Nat.reduceBNe, Int.reduceLE, Int.reduceLT, Int.reduceToNat, Int.reduceEq, Nat.reduceLeDiff, Nat.reduceLT, Nat.reducePow, Nat.reduceDiv, Nat.reduceMod, rows_len, ← hlw]
  refine loopS (fun k st => ∃ (i : Nat) (s : Int), k = ws.length - i ∧ i ≤ ws.length ∧ 0 ≤ s ∧ s + total (ws.drop i) = total ws ∧
    st = ⟨[(0, .pd (.slice (rows AGoal.pd gs))), (1, u64 n), (8, .fn 60 [(5, 0)]), (9, u64 s), (16, .pd (.slice (rows AGoal.pd gs))), (17, int ws.length), (18, int i)], [(5, [.fn 41 []])], [], .no⟩) ws.length _
    (Weak.refl _ _) ⟨0, 0, rfl, Nat.zero_le _, by omega, by simp, rfl⟩ ?_
  rintro k st ⟨i, s, rfl, hi, hs0, hs, rfl⟩
  by_cases hlt : i < ws.length
  · obtain ⟨gl, hg⟩ := at_lt (show i < gs.length by omega)
    obtain ⟨x, hxe⟩ : ∃ x, gl.weight = x := ⟨_, rfl⟩
    have hx : ws[i]? = some x := by rw [hws, List.getElem?_map, hg, ← hxe]; rfl
    have hlt' : (i : Int) < (ws.length : Int) := by omega
    simp only [go_sem, contS_seq, reduceIte, reduceCtorEq, Nat.reduceEqDiff, Nat.reduceAdd, Nat.reduceBEq, Nat.reduceBNe, Int.reduceLE, Int.reduceLT, Int.reduceToNat, Int.reduceEq, Nat.reduceLeDiff, Nat.reduceLT, Nat.reducePow, Nat.reduceDiv, Nat.reduceMod, rows_len, ← hlw, hlt', rows_get hg]
    refine (goal_heavy gl).callW hen _ [(5, 1000001)] rfl rfl rfl ?_
    rintro d rfl
    rw [hxe]
    simp only [go_sem, contS_seq, reduceIte, reduceCtorEq, Nat.reduceEqDiff, Nat.reduceAdd, Nat.reduceBEq, Nat.reduceBNe, Int.reduceLE, Int.reduceLT, Int.reduceToNat, Int.reduceEq, Nat.reduceLeDiff, Nat.reduceLT, Nat.reducePow, Nat.reduceDiv, Nat.reduceMod]
    have hi1 : IntKind.i64.wrap ((i : Int) + 1) = ((i + 1 : Nat) : Int) := by rw [IntWalk.i64_in _ (by omega)]; omega
    have hd := total_drop hx
    have hb := heavy_bd x
    have hb1 := total_bd (ws.drop (i + 1))
    have hb2 := total_bd ws
    have hsw : IntKind.u64.wrap (s + heavy x) = s + heavy x := IntWalk.u64_in _ (by omega)
    rw [hi1, hsw]
    refine ⟨ws.length - (i + 1), _, by omega, ?_, i + 1, s + heavy x, rfl, ?_, ?_, ?_, rfl⟩
    · exact Weak.less (by simp [lessL, lk]) (by simp [lessL, lk]) (by simp [lessL, lk]) rfl
    all_goals omega
  · have hiw : i = ws.length := by omega
    have hs2 : s = total ws := by rw [← hs, hiw]; simp [total]
    subst hs2
    have hlt' : ¬ (i : Int) < (ws.length : Int) := by omega
    simp only [go_sem, contS_seq, reduceIte, reduceCtorEq, Nat.reduceEqDiff, Nat.reduceAdd, Nat.reduceBEq, Nat.reduceBNe, Int.reduceLE, Int.reduceLT, Int.reduceToNat, Int.reduceEq, Nat.reduceLeDiff, Nat.reduceLT, Nat.reducePow, Nat.reduceDiv, Nat.reduceMod, rows_len, ← hlw, hlt']
    refine ⟨fun h0 => ?_, fun h0 => ?_⟩
    · simp only [retK, fullK, iterK, resD, resA, AOp.ex, St.ev, Option.map_some, Option.bind_some, St.get, lk, reduceIte, Nat.reduceEqDiff, Option.getD_some, oneD, List.getElem?_cons_zero, List.getElem?_cons_succ, List.drop_zero, List.drop_succ_cons, List.take_succ_cons, List.take_zero, List.length_cons, List.length_nil, Nat.zero_add, Nat.reduceAdd, Nat.le_refl, Nat.reduceLeDiff, D.pub, D.pubs, Tryz.results40]
      exact ⟨_, rfl, rfl, by rw [if_pos h0]; rfl⟩
    · have hm : (n : Int).tmod (total ws) = (n : Int) % total ws := Int.tmod_eq_emod_of_nonneg (by omega)
      simp only [go_sem, contS_seq, reduceIte, reduceCtorEq, Nat.reduceEqDiff, Nat.reduceAdd, Nat.reduceBEq, Nat.reduceBNe, Int.reduceLE, Int.reduceLT, Int.reduceToNat, Int.reduceEq, Nat.reduceLeDiff, Nat.reduceLT, Nat.reducePow, Nat.reduceDiv, Nat.reduceMod, rows_len, ← hlw, h0, hm]
      have htb := total_bd ws
      have hn0 : 0 ≤ (n : Int) % total ws := Int.emod_nonneg _ h0
      have hnm : (n : Int) % total ws < total ws := Int.emod_lt_of_pos _ (by omega)
      refine loopS (fun k st => ∃ (j : Nat) (m : Int), k = ws.length - j ∧ j ≤ ws.length ∧ 0 ≤ m ∧ m < 100000 ∧ pos j (ws.drop j) m = pos 0 ws ((n : Int) % total ws) ∧
        st = ⟨[(1, u64 m), (8, .fn 60 [(5, 0)]), (33, .pd (.slice (rows AGoal.pd gs))), (34, int ws.length), (35, int j)], [(5, [.fn 41 []])], [], .no⟩) ws.length _
        (Weak.refl _ _) ⟨0, _, rfl, Nat.zero_le _, hn0, by omega, by simp, rfl⟩ ?_
      rintro k st ⟨j, m, rfl, hj, hm0, hm1, hp, rfl⟩
      by_cases hjl : j < ws.length
      · obtain ⟨gl, hg⟩ := at_lt (show j < gs.length by omega)
        obtain ⟨x, hxe⟩ : ∃ x, gl.weight = x := ⟨_, rfl⟩
        have hx : ws[j]? = some x := by rw [hws, List.getElem?_map, hg, ← hxe]; rfl
        have hjl' : (j : Int) < (ws.length : Int) := by omega
        simp only [go_sem, contS_seq, reduceIte, reduceCtorEq, Nat.reduceEqDiff, Nat.reduceAdd, Nat.reduceBEq, Nat.reduceBNe, Int.reduceLE, Int.reduceLT, Int.reduceToNat, Int.reduceEq, Nat.reduceLeDiff, Nat.reduceLT, Nat.reducePow, Nat.reduceDiv, Nat.reduceMod, rows_len, ← hlw, hjl', rows_get hg]
        refine (goal_heavy gl).callW hen _ [(5, 1000001)] rfl rfl rfl ?_
        rintro d rfl
        rw [hxe]
        have hj1 : IntKind.i64.wrap ((j : Int) + 1) = ((j + 1 : Nat) : Int) := by rw [IntWalk.i64_in _ (by omega)]; omega
        have hb := heavy_bd x
        have hpd := pos_drop hx m
        rw [hp] at hpd
        simp only [go_sem, contS_seq, reduceIte, reduceCtorEq, Nat.reduceEqDiff, Nat.reduceAdd, Nat.reduceBEq, Nat.reduceBNe, Int.reduceLE, Int.reduceLT, Int.reduceToNat, Int.reduceEq, Nat.reduceLeDiff, Nat.reduceLT, Nat.reducePow, Nat.reduceDiv, Nat.reduceMod]
        refine ⟨fun h1 => ?_, fun h1 => ?_⟩
        · simp only [retK, fullK, iterK, resD, resA, AOp.ex, St.ev, Option.map_some, Option.bind_some, St.get, lk, reduceIte, Nat.reduceEqDiff, Option.getD_some, oneD, List.getElem?_cons_zero, List.getElem?_cons_succ, List.drop_zero, List.drop_succ_cons, List.take_succ_cons, List.take_zero, List.length_cons, List.length_nil, Nat.zero_add, Nat.reduceAdd, Nat.le_refl, Nat.reduceLeDiff, D.pub, D.pubs, Tryz.results40]
          rw [if_pos h1] at hpd
          refine ⟨_, rfl, rfl, ?_⟩
          rw [hpd]
          rfl
        · rw [if_neg h1] at hpd
          have hmw : IntKind.u64.wrap (m - heavy x) = m - heavy x := IntWalk.u64_in _ (by omega)
          rw [hj1, hmw]
          refine ⟨ws.length - (j + 1), _, by omega, ?_, j + 1, m - heavy x, rfl, ?_, ?_, ?_, hpd.symm, rfl⟩
          · exact Weak.less (by simp [lessL, lk]) (by simp [lessL, lk]) (by simp [lessL, lk]) rfl
          all_goals omega
      · have hjl' : ¬ (j : Int) < (ws.length : Int) := by omega
        simp only [go_sem, contS_seq, reduceIte, reduceCtorEq, Nat.reduceEqDiff, Nat.reduceAdd, Nat.reduceBEq, Nat.reduceBNe, Int.reduceLE, Int.reduceLT, Int.reduceToNat, Int.reduceEq, Nat.reduceLeDiff, Nat.reduceLT, Nat.reducePow, Nat.reduceDiv, Nat.reduceMod, rows_len, ← hlw, hjl']
        simp only [retK, fullK, iterK, resD, resA, AOp.ex, St.ev, Option.map_some, Option.bind_some, St.get, lk, reduceIte, Nat.reduceEqDiff, Option.getD_some, oneD, List.getElem?_cons_zero, List.getElem?_cons_succ, List.drop_zero, List.drop_succ_cons, List.take_succ_cons, List.take_zero, List.length_cons, List.length_nil, Nat.zero_add, Nat.reduceAdd, Nat.le_refl, Nat.reduceLeDiff, D.pub, D.pubs, Tryz.results40]
        refine ⟨_, rfl, rfl, ?_⟩
        have hnone : pos 0 ws ((n : Int) % total ws) = none := by rw [← hp, List.drop_eq_nil_of_le (by omega)]; rfl
        rw [hnone]
        rfl

/-- Which place is chosen. -/
def choose (ws : List Int) (n : Nat) : Option Nat := if total ws = 0 then none else pos 0 ws (n % total ws)

/-- A place, or none. -/
def placeD : Option Nat → D
  | some i => .tup [int i, bln true]
  | none => .tup [int 0, bln false]

theorem chosen_int' (ws : List Int) (n : Nat) (hn : n < 2 ^ 64) (hl : ws.length ≤ 8) : Pure Tryz.prog 27 [.pd (.slice (ints ws)), u64 n, .fn 28 []] (fun d => d = placeD (choose ws n)) :=
  (chosen_int ws n hn hl).mono fun d h => by
    rw [h]; unfold choose placeD
    split <;> rfl

theorem chosen_goal' (gs : List AGoal) (n : Nat) (hn : n < 2 ^ 64) (hl : gs.length ≤ 8) : Pure Tryz.prog 40 [.pd (.slice (rows AGoal.pd gs)), u64 n, .fn 41 []] (fun d => d = placeD (choose (gs.map (·.weight)) n)) :=
  (chosen_goal gs n hn hl _ rfl).mono fun d h => by
    rw [h]; unfold choose placeD
    split <;> rfl

/-- back.Choose. -/
theorem back_Choose (ws : List Int) (n : Nat) (hn : n < 2 ^ 64) (hl : ws.length ≤ 8) : Pure Tryz.prog 10 [.pd (.slice (ints ws)), u64 n] (fun d => d = placeD (choose ws n)) := by
  refine pure_of_run follows an_z1 Tryz.func10 rfl ok_z1 dst_z1 (by simp [Tryz.ntmps10]) ?_
  rw [run_start]
  simp only [ac_z1, go_sem, contS_seq, reduceIte, reduceCtorEq, Nat.reduceEqDiff, Nat.reduceAdd, Nat.reduceBEq, Nat.reduceBNe, Int.reduceLE, Int.reduceLT, Int.reduceToNat, Int.reduceEq, Nat.reduceLeDiff, Nat.reduceLT, Nat.reducePow, Nat.reduceDiv, Nat.reduceMod]
  refine (chosen_int' ws n hn hl).callW (enters_of Tryz.func27 rfl rfl) _ rfl rfl ?_
  rintro d rfl
  cases choose ws n <;> (simp only [go_sem, contS_seq, reduceIte, reduceCtorEq, Nat.reduceEqDiff, Nat.reduceAdd, Nat.reduceBEq, Nat.reduceBNe, Int.reduceLE, Int.reduceLT, Int.reduceToNat, Int.reduceEq, Nat.reduceLeDiff, Nat.reduceLT, Nat.reducePow, Nat.reduceDiv, Nat.reduceMod, placeD]; simp only [retK, fullK, iterK, resD, resA, AOp.ex, St.ev, Option.map_some, Option.bind_some, St.get, lk, reduceIte, Nat.reduceEqDiff, Option.getD_some, oneD, List.getElem?_cons_zero, List.getElem?_cons_succ, List.drop_zero, List.drop_succ_cons, List.take_succ_cons, List.take_zero, List.length_cons, List.length_nil, Nat.zero_add, Nat.reduceAdd, Nat.le_refl, Nat.reduceLeDiff, D.pub, D.pubs, Tryz.results10]; exact ⟨_, rfl, rfl, rfl⟩)

theorem pos_lt : ∀ {ws : List Int} {i j : Nat} {m : Int}, pos i ws m = some j → i ≤ j ∧ j < i + ws.length
  | [], _, _, _, h => by simp [pos] at h
  | w :: ws, i, j, m, h => by
    simp only [pos] at h
    split at h
    · cases h; simp
    · have := pos_lt h
      simp only [List.length_cons]; omega

theorem choose_lt {ws : List Int} {n i : Nat} (h : choose ws n = some i) : i < ws.length := by
  unfold choose at h
  split at h
  · cases h
  · have := pos_lt h; omega

def goal0 : AGoal := ⟨⟨0, ⟨#[]⟩, ⟨#[]⟩⟩, 0, 0, false⟩

/-- What is picked. -/
def pick (gs : List AGoal) (n : Nat) : AGoal × Bool := match choose (gs.map (·.weight)) n with
  | none => (goal0, false)
  | some i => match gs[i]? with
    | some g => if g.bad then (goal0, false) else (g, true)
    | none => (goal0, false)

set_option maxRecDepth 100000 in
theorem back_Pick (gs : List AGoal) (n : Nat) (hn : n < 2 ^ 64) (hl : gs.length ≤ 8) : Pure Tryz.prog 18 [.pd (.slice (rows AGoal.pd gs)), u64 n] (fun d => d = .tup [(pick gs n).1.d, bln (pick gs n).2]) := by
  refine pure_of_run follows an_z13 Tryz.func18 rfl ok_z13 dst_z13 (by simp [Tryz.ntmps18]) ?_
  rw [run_start]
  simp only [ac_z13, go_sem, contS_seq, reduceIte, reduceCtorEq, Nat.reduceEqDiff, Nat.reduceAdd, Nat.reduceBEq, Nat.reduceBNe, Int.reduceLE, Int.reduceLT, Int.reduceToNat, Int.reduceEq, Nat.reduceLeDiff, Nat.reduceLT, Nat.reducePow, Nat.reduceDiv, Nat.reduceMod]
  refine (chosen_goal' gs n hn hl).callW (enters_of Tryz.func40 rfl rfl) _ rfl rfl ?_
  rintro d rfl
  unfold pick
  cases hch : choose (gs.map (·.weight)) n with
  | none =>
    simp only [placeD, go_sem, contS_seq, reduceIte, reduceCtorEq, Nat.reduceEqDiff, Nat.reduceAdd, Nat.reduceBEq, Nat.reduceBNe, Int.reduceLE, Int.reduceLT, Int.reduceToNat, Int.reduceEq, Nat.reduceLeDiff, Nat.reduceLT, Nat.reducePow, Nat.reduceDiv, Nat.reduceMod]
    simp only [retK, fullK, iterK, resD, resA, AOp.ex, St.ev, Option.map_some, Option.bind_some, St.get, lk, reduceIte, Nat.reduceEqDiff, Option.getD_some, oneD, List.getElem?_cons_zero, List.getElem?_cons_succ, List.drop_zero, List.drop_succ_cons, List.take_succ_cons, List.take_zero, List.length_cons, List.length_nil, Nat.zero_add, Nat.reduceAdd, Nat.le_refl, Nat.reduceLeDiff, D.pub, D.pubs, ret_z13]
    exact ⟨_, rfl, rfl, rfl⟩
  | some i =>
    have hi := choose_lt hch
    rw [List.length_map] at hi
    obtain ⟨g, hg⟩ := at_lt hi
    simp only [placeD, go_sem, contS_seq, reduceIte, reduceCtorEq, Nat.reduceEqDiff, Nat.reduceAdd, Nat.reduceBEq, Nat.reduceBNe, Int.reduceLE, Int.reduceLT, Int.reduceToNat, Int.reduceEq, Nat.reduceLeDiff, Nat.reduceLT, Nat.reducePow, Nat.reduceDiv, Nat.reduceMod, rows_get hg]
    refine ⟨fun hb => ?_, fun hb => ?_⟩
    · simp only [retK, fullK, iterK, resD, resA, AOp.ex, St.ev, Option.map_some, Option.bind_some, St.get, lk, reduceIte, Nat.reduceEqDiff, Option.getD_some, oneD, List.getElem?_cons_zero, List.getElem?_cons_succ, List.drop_zero, List.drop_succ_cons, List.take_succ_cons, List.take_zero, List.length_cons, List.length_nil, Nat.zero_add, Nat.reduceAdd, Nat.le_refl, Nat.reduceLeDiff, D.pub, D.pubs, ret_z13, hg, hb]
      exact ⟨_, rfl, rfl, rfl⟩
    · simp only [retK, fullK, iterK, resD, resA, AOp.ex, St.ev, Option.map_some, Option.bind_some, St.get, lk, reduceIte, Nat.reduceEqDiff, Option.getD_some, oneD, List.getElem?_cons_zero, List.getElem?_cons_succ, List.drop_zero, List.drop_succ_cons, List.take_succ_cons, List.take_zero, List.length_cons, List.length_nil, Nat.zero_add, Nat.reduceAdd, Nat.le_refl, Nat.reduceLeDiff, D.pub, D.pubs, ret_z13, hg, hb]
      exact ⟨_, rfl, rfl, by simp [hb, D.pub, D.pubs]⟩


/-- A text no longer than is looked at. -/
def few (s : ByteArray) : ByteArray := if s.size ≤ 100 then s else s.extract 0 100

set_option maxRecDepth 100000 in
theorem law1_Few (s : ByteArray) : Pure Tryz.prog 30 [str s] (fun d => d = str (few s)) := by
  refine pure_of_run follows an_z17 Tryz.func30 rfl ok_z17 dst_z17 (by simp [Tryz.ntmps30]) ?_
  rw [run_start]
  by_cases h : 100 < s.size
  · have h1 : (100 : Int) < (s.size : Int) := by omega
    have h2 : 100 ≤ s.size := by omega
    simp only [ac_z17, go_sem, contS_seq, reduceIte, reduceCtorEq, Nat.reduceEqDiff, Nat.reduceAdd, Nat.reduceBEq, Nat.reduceBNe, Int.reduceLE, Int.reduceLT, Int.reduceToNat, Int.reduceEq, Nat.reduceLeDiff, Nat.reduceLT, Nat.reducePow, Nat.reduceDiv, Nat.reduceMod, h1, h2]
    simp only [retK, fullK, iterK, resD, resA, AOp.ex, St.ev, Option.map_some, Option.bind_some, St.get, lk, reduceIte, Nat.reduceEqDiff, Option.getD_some, oneD, List.getElem?_cons_zero, List.getElem?_cons_succ, List.drop_zero, List.drop_succ_cons, List.take_succ_cons, List.take_zero, List.length_cons, List.length_nil, Nat.zero_add, Nat.reduceAdd, Nat.le_refl, Nat.reduceLeDiff, D.pub, D.pubs, Tryz.results30]
    exact ⟨_, rfl, rfl, by simp [few, show ¬ s.size ≤ 100 by omega, D.pub]⟩
  · have h1 : ¬ (100 : Int) < (s.size : Int) := by omega
    simp only [ac_z17, go_sem, contS_seq, reduceIte, reduceCtorEq, Nat.reduceEqDiff, Nat.reduceAdd, Nat.reduceBEq, Nat.reduceBNe, Int.reduceLE, Int.reduceLT, Int.reduceToNat, Int.reduceEq, Nat.reduceLeDiff, Nat.reduceLT, Nat.reducePow, Nat.reduceDiv, Nat.reduceMod, h1]
    simp only [retK, fullK, iterK, resD, resA, AOp.ex, St.ev, Option.map_some, Option.bind_some, St.get, lk, reduceIte, Nat.reduceEqDiff, Option.getD_some, oneD, List.getElem?_cons_zero, List.getElem?_cons_succ, List.drop_zero, List.drop_succ_cons, List.take_succ_cons, List.take_zero, List.length_cons, List.length_nil, Nat.zero_add, Nat.reduceAdd, Nat.le_refl, Nat.reduceLeDiff, D.pub, D.pubs, Tryz.results30]
    exact ⟨_, rfl, rfl, by simp [few, show s.size ≤ 100 by omega, D.pub]⟩

def fewRef (r : ARef) : ARef := ⟨r.kind, few r.space, few r.name⟩

set_option maxRecDepth 100000 in
theorem law9_FewRef (r : ARef) : Pure Tryz.prog 14 [r.d] (fun d => d = (fewRef r).d) := by
  refine pure_of_run follows an_z16 Tryz.func14 rfl ok_z16 dst_z16 (by simp [Tryz.ntmps14]) ?_
  rw [run_start]
  simp only [ac_z16, go_sem, contS_seq, reduceIte, reduceCtorEq, Nat.reduceEqDiff, Nat.reduceAdd, Nat.reduceBEq, Nat.reduceBNe, Int.reduceLE, Int.reduceLT, Int.reduceToNat, Int.reduceEq, Nat.reduceLeDiff, Nat.reduceLT, Nat.reducePow, Nat.reduceDiv, Nat.reduceMod, go_sem]
  refine (law1_Few r.space).callX (enters_of Tryz.func30 rfl rfl) _ rfl rfl ?_
  rintro d rfl
  simp only [go_sem, contS_seq, reduceIte, reduceCtorEq, Nat.reduceEqDiff, Nat.reduceAdd, Nat.reduceBEq, Nat.reduceBNe, Int.reduceLE, Int.reduceLT, Int.reduceToNat, Int.reduceEq, Nat.reduceLeDiff, Nat.reduceLT, Nat.reducePow, Nat.reduceDiv, Nat.reduceMod, go_sem]
  refine (law1_Few r.name).callX (enters_of Tryz.func30 rfl rfl) _ rfl rfl ?_
  rintro d rfl
  simp only [go_sem, contS_seq, reduceIte, reduceCtorEq, Nat.reduceEqDiff, Nat.reduceAdd, Nat.reduceBEq, Nat.reduceBNe, Int.reduceLE, Int.reduceLT, Int.reduceToNat, Int.reduceEq, Nat.reduceLeDiff, Nat.reduceLT, Nat.reducePow, Nat.reduceDiv, Nat.reduceMod, go_sem]
  simp only [retK, fullK, iterK, resD, resA, AOp.ex, St.ev, Option.map_some, Option.bind_some, St.get, lk, reduceIte, Nat.reduceEqDiff, Option.getD_some, oneD, List.getElem?_cons_zero, List.getElem?_cons_succ, List.drop_zero, List.drop_succ_cons, List.take_succ_cons, List.take_zero, List.length_cons, List.length_nil, Nat.zero_add, Nat.reduceAdd, Nat.le_refl, Nat.reduceLeDiff, D.pub, D.pubs, ret_z16]
  exact ⟨_, rfl, rfl, rfl⟩

/-- Goals, no more than are looked at. -/
def fewGoal (g : AGoal) : AGoal := { g with ref := fewRef g.ref }
def fewGoals (gs : List AGoal) : List AGoal := (gs.take 6).map fewGoal

set_option maxRecDepth 100000 in
theorem law14_Few (gs : List AGoal) : Pure Tryz.prog 16 [.pd (.slice (rows AGoal.pd gs))] (fun d => d = .pd (.slice (rows AGoal.pd (fewGoals gs)))) := by
  refine pure_of_run follows an_z15 Tryz.func16 rfl ok_z15 dst_z15 (by simp [Tryz.ntmps16]) ?_
  rw [run_start]
  simp only [ac_z15, go_sem, contS_seq, reduceIte, reduceCtorEq, Nat.reduceEqDiff, Nat.reduceAdd, Nat.reduceBEq, Nat.reduceBNe, Int.reduceLE, Int.reduceLT, Int.reduceToNat, Int.reduceEq, Nat.reduceLeDiff, Nat.reduceLT, Nat.reducePow, Nat.reduceDiv, Nat.reduceMod, rows_len]
  have hpos : 0 < 6 := by omega
  refine loopS (fun k st => ∃ i : Nat, k = 6 - i ∧ i ≤ 6 ∧ i ≤ gs.length ∧
    st = ⟨[(0, .pd (.slice (rows AGoal.pd gs))), (3, .own 52 6 (rows AGoal.pd ((gs.take i).map fewGoal)) 27), (4, int i)], [], [], .no⟩) 6 _
    ?_ ⟨0, rfl, by omega, by omega, rfl⟩ ?_
  · exact Weak.own1 3 27 52 6 (by kernel_rfl) (by decide) rfl (by simp [lessL, lk, St.purge, St.put, D.purge, rows]) (by simp [lessL, lk, St.purge, D.purges, D.purge]) (by simp [lessL]) rfl
  rintro k st ⟨i, rfl, hi6, hi, rfl⟩
  have hi1 : IntKind.i64.wrap ((i : Int) + 1) = ((i + 1 : Nat) : Int) := by rw [IntWalk.i64_in _ (by omega)]; omega
  by_cases hlt : i < gs.length ∧ i < 6
  · obtain ⟨g, hg⟩ := at_lt hlt.1
    have h1 : (i : Int) < (gs.length : Int) := by omega
    have h2 : (i : Int) < 6 := by omega
    simp only [go_sem, contS_seq, reduceIte, reduceCtorEq, Nat.reduceEqDiff, Nat.reduceAdd, Nat.reduceBEq, Nat.reduceBNe, Int.reduceLE, Int.reduceLT, Int.reduceToNat, Int.reduceEq, Nat.reduceLeDiff, Nat.reduceLT, Nat.reducePow, Nat.reduceDiv, Nat.reduceMod, rows_len, rows_get hg, h1, h2]
    refine (law9_FewRef g.ref).callW (enters_of Tryz.func14 rfl rfl) _ rfl rfl ?_
    rintro d rfl
    simp only [go_sem, contS_seq, reduceIte, reduceCtorEq, Nat.reduceEqDiff, Nat.reduceAdd, Nat.reduceBEq, Nat.reduceBNe, Int.reduceLE, Int.reduceLT, Int.reduceToNat, Int.reduceEq, Nat.reduceLeDiff, Nat.reduceLT, Nat.reducePow, Nat.reduceDiv, Nat.reduceMod, rows_one, hi1]
    have e1 : rows AGoal.pd ((gs.take i).map fewGoal) ++ [[PD.raw (Value.int IntKind.i64 (fewRef g.ref).kind), PD.raw (Value.string (fewRef g.ref).space),
        PD.raw (Value.string (fewRef g.ref).name), pInt g.port, pInt g.weight, pBln g.bad]] = rows AGoal.pd ((gs.take (i + 1)).map fewGoal) := by
      rw [take_at hg, List.map_append]; exact rows_one _ (fewGoal g)
    have hl : (rows AGoal.pd ((gs.take i).map fewGoal)).length ≤ 6 := by simp [rows]; omega
    rw [e1]
    refine ⟨by simp, by unfold maxLen; omega, by omega, 6 - (i + 1), _, by omega, ?_, i + 1, rfl, by omega, by omega, rfl⟩
    exact Weak.less (by simp [lessL, lk]) (by simp [lessL, lk]) (by simp [lessL, lk]) rfl
  · have h3 : (gs.take i).map fewGoal = fewGoals gs := by
      unfold fewGoals
      rcases Nat.lt_or_ge i 6 with h6 | h6
      · rw [List.take_of_length_le (by omega), List.take_of_length_le (by omega)]
      · rw [show i = 6 by omega]
    rw [h3]
    by_cases h1 : i < gs.length
    · have h1' : (i : Int) < (gs.length : Int) := by omega
      have h2 : ¬ (i : Int) < 6 := by omega
      simp only [go_sem, contS_seq, reduceIte, reduceCtorEq, Nat.reduceEqDiff, Nat.reduceAdd, Nat.reduceBEq, Nat.reduceBNe, Int.reduceLE, Int.reduceLT, Int.reduceToNat, Int.reduceEq, Nat.reduceLeDiff, Nat.reduceLT, Nat.reducePow, Nat.reduceDiv, Nat.reduceMod, rows_len, h1', h2]
      simp only [retK, fullK, iterK, resD, resA, AOp.ex, St.ev, Option.map_some, Option.bind_some, St.get, lk, reduceIte, Nat.reduceEqDiff, Option.getD_some, oneD, List.getElem?_cons_zero, List.getElem?_cons_succ, List.drop_zero, List.drop_succ_cons, List.take_succ_cons, List.take_zero, List.length_cons, List.length_nil, Nat.zero_add, Nat.reduceAdd, Nat.le_refl, Nat.reduceLeDiff, D.pub, D.pubs, Tryz.results16]
      exact ⟨_, rfl, rfl, rfl⟩
    · have h1' : ¬ (i : Int) < (gs.length : Int) := by omega
      simp only [go_sem, contS_seq, reduceIte, reduceCtorEq, Nat.reduceEqDiff, Nat.reduceAdd, Nat.reduceBEq, Nat.reduceBNe, Int.reduceLE, Int.reduceLT, Int.reduceToNat, Int.reduceEq, Nat.reduceLeDiff, Nat.reduceLT, Nat.reducePow, Nat.reduceDiv, Nat.reduceMod, rows_len, h1']
      simp only [retK, fullK, iterK, resD, resA, AOp.ex, St.ev, Option.map_some, Option.bind_some, St.get, lk, reduceIte, Nat.reduceEqDiff, Option.getD_some, oneD, List.getElem?_cons_zero, List.getElem?_cons_succ, List.drop_zero, List.drop_succ_cons, List.take_succ_cons, List.take_zero, List.length_cons, List.length_nil, Nat.zero_add, Nat.reduceAdd, Nat.le_refl, Nat.reduceLeDiff, D.pub, D.pubs, Tryz.results16]
      exact ⟨_, rfl, rfl, rfl⟩

/-- What the document picks. -/
def refChoose (ws : List Int) (n : Nat) : D := if (chs 0 ws).length = 0 then .tup [int 0, bln false] else .tup [int ((chs 0 ws).getD (n % (chs 0 ws).length) 0), bln true]

theorem ref_Choose' (ws : List Int) (n : Nat) (hn : n < 2 ^ 64) (hl : ws.length ≤ 8) : Pure Tryz.prog 17 [.pd (.slice (ints ws)), u64 n] (fun d => d = refChoose ws n) := ref_Choose ws n hn hl


theorem heavy_nat (x : Int) : heavy x = ((min 1000 x.toNat : Nat) : Int) := by unfold heavy; omega

theorem chs_total : ∀ (i : Nat) (ws : List Int), ((chs i ws).length : Int) = total ws
  | _, [] => rfl
  | i, w :: ws => by
    have := chs_total (i + 1) ws
    simp only [chs, total, List.length_append, List.length_replicate, heavy_nat]
    omega

theorem pos_chs : ∀ (i : Nat) (ws : List Int) (m : Nat), (m : Int) < total ws → ∃ j : Nat, pos i ws m = some j ∧ (chs i ws)[m]? = some (j : Int)
  | _, [], m, h => by simp [total] at h; omega
  | i, w :: ws, m, h => by
    simp only [total, heavy_nat] at h
    simp only [pos, chs, heavy_nat]
    by_cases hm : m < min 1000 w.toNat
    · refine ⟨i, if_pos (by omega), ?_⟩
      rw [List.getElem?_append_left (by rw [List.length_replicate]; exact hm), List.getElem?_replicate, if_pos hm]
    · obtain ⟨j, h1, h2⟩ := pos_chs (i + 1) ws (m - min 1000 w.toNat) (by omega)
      refine ⟨j, ?_, ?_⟩
      · rw [if_neg (by omega), ← h1]
        congr 1
        omega
      · rw [List.getElem?_append_right (by rw [List.length_replicate]; omega), List.length_replicate]
        exact h2

theorem refChoose_eq (ws : List Int) (n : Nat) : refChoose ws n = placeD (choose ws n) := by
  unfold refChoose choose
  have ht := chs_total 0 ws
  by_cases h0 : (chs 0 ws).length = 0
  · rw [if_pos h0, if_pos (by omega)]; rfl
  · rw [if_neg h0, if_neg (by omega)]
    have hm : n % (chs 0 ws).length < (chs 0 ws).length := Nat.mod_lt _ (by omega)
    have e : (n : Int) % total ws = ((n % (chs 0 ws).length : Nat) : Int) := by rw [← ht]; simp
    obtain ⟨j, h1, h2⟩ := pos_chs 0 ws (n % (chs 0 ws).length) (by omega)
    rw [e, h1, List.getD_eq_getElem?_getD, h2]
    rfl

theorem ref_Choose2 (ws : List Int) (n : Nat) (hn : n < 2 ^ 64) (hl : ws.length ≤ 8) : Pure Tryz.prog 17 [.pd (.slice (ints ws)), u64 n] (fun d => d = placeD (choose ws n)) :=
  (ref_Choose' ws n hn hl).mono fun d h => by rw [h, refChoose_eq]

set_option maxRecDepth 100000 in
theorem ref_Pick (gs : List AGoal) (n : Nat) (hn : n < 2 ^ 64) (hl : gs.length ≤ 8) : Pure Tryz.prog 19 [.pd (.slice (rows AGoal.pd gs)), u64 n] (fun d => d = .tup [(pick gs n).1.d, bln (pick gs n).2]) := by
  refine pure_of_run follows an_z14 Tryz.func19 rfl ok_z14 dst_z14 (by simp [Tryz.ntmps19]) ?_
  rw [run_start]
  simp only [ac_z14, go_sem, contS_seq, reduceIte, reduceCtorEq, Nat.reduceEqDiff, Nat.reduceAdd, Nat.reduceBEq, Nat.reduceBNe, Int.reduceLE, Int.reduceLT, Int.reduceToNat, Int.reduceEq, Nat.reduceLeDiff, Nat.reduceLT, Nat.reducePow, Nat.reduceDiv, Nat.reduceMod]
  refine loopS (fun k st => ∃ i : Nat, k = gs.length - i ∧ i ≤ gs.length ∧
    st = ⟨[(0, .pd (.slice (rows AGoal.pd gs))), (1, u64 n), (4, .ptr 4 0), (6, .own 3 1 (ints ((gs.take i).map (·.weight))) 23), (7, int i)], [(4, [int 0, str ⟨#[]⟩, str ⟨#[]⟩, int 0, int 0, bln false])], [], .no⟩) gs.length _
    ?_ ⟨0, rfl, by omega, rfl⟩ ?_
  · exact Weak.own1 6 23 3 1 (by kernel_rfl) (by decide) rfl (by simp [lessL, lk, St.purge, St.put, D.purge, rows]) (by simp [lessL, lk, St.purge, D.purges, D.purge]) (by simp [lessL]) rfl
  rintro k st ⟨i, rfl, hi, rfl⟩
  have hi1 : IntKind.i64.wrap ((i : Int) + 1) = ((i + 1 : Nat) : Int) := by rw [IntWalk.i64_in _ (by omega)]; omega
  by_cases hlt : i < gs.length
  · obtain ⟨g, hg⟩ := at_lt hlt
    have h1 : (i : Int) < (gs.length : Int) := by omega
    simp only [go_sem, contS_seq, reduceIte, reduceCtorEq, Nat.reduceEqDiff, Nat.reduceAdd, Nat.reduceBEq, Nat.reduceBNe, Int.reduceLE, Int.reduceLT, Int.reduceToNat, Int.reduceEq, Nat.reduceLeDiff, Nat.reduceLT, Nat.reducePow, Nat.reduceDiv, Nat.reduceMod, rows_len, rows_get hg, h1, hi1]
    have e1 : ints ((gs.take i).map (·.weight)) ++ [[pInt g.weight]] = ints ((gs.take (i + 1)).map (·.weight)) := by
      rw [take_at hg, List.map_append]; exact ints_one _ _
    rw [e1]
    refine ⟨by simp, by unfold maxLen; simp; omega, by simp; omega, gs.length - (i + 1), _, by omega, ?_, i + 1, rfl, by omega, rfl⟩
    exact Weak.less (by simp [lessL, lk]) (by simp [lessL, lk]) (by simp [lessL, lk]) rfl
  · have h1 : ¬ (i : Int) < (gs.length : Int) := by omega
    simp only [go_sem, contS_seq, reduceIte, reduceCtorEq, Nat.reduceEqDiff, Nat.reduceAdd, Nat.reduceBEq, Nat.reduceBNe, Int.reduceLE, Int.reduceLT, Int.reduceToNat, Int.reduceEq, Nat.reduceLeDiff, Nat.reduceLT, Nat.reducePow, Nat.reduceDiv, Nat.reduceMod, rows_len, h1, List.take_of_length_le (show gs.length ≤ i by omega)]
    refine (ref_Choose2 (gs.map (·.weight)) n hn (by simpa using hl)).callW (enters_of Tryz.func17 rfl rfl) _ rfl rfl ?_
    rintro d rfl
    unfold pick
    cases hch : choose (gs.map (·.weight)) n with
    | none =>
      simp only [placeD, go_sem, contS_seq, reduceIte, reduceCtorEq, Nat.reduceEqDiff, Nat.reduceAdd, Nat.reduceBEq, Nat.reduceBNe, Int.reduceLE, Int.reduceLT, Int.reduceToNat, Int.reduceEq, Nat.reduceLeDiff, Nat.reduceLT, Nat.reducePow, Nat.reduceDiv, Nat.reduceMod]
      simp only [retK, fullK, iterK, resD, resA, AOp.ex, St.ev, Option.map_some, Option.bind_some, St.get, lk, reduceIte, Nat.reduceEqDiff, Option.getD_some, oneD, List.getElem?_cons_zero, List.getElem?_cons_succ, List.drop_zero, List.drop_succ_cons, List.take_succ_cons, List.take_zero, List.length_cons, List.length_nil, Nat.zero_add, Nat.reduceAdd, Nat.le_refl, Nat.reduceLeDiff, D.pub, D.pubs, ret_z14]
      exact ⟨_, rfl, rfl, rfl⟩
    | some i =>
      have hi := choose_lt hch
      rw [List.length_map] at hi
      obtain ⟨g, hg⟩ := at_lt hi
      simp only [placeD, go_sem, contS_seq, reduceIte, reduceCtorEq, Nat.reduceEqDiff, Nat.reduceAdd, Nat.reduceBEq, Nat.reduceBNe, Int.reduceLE, Int.reduceLT, Int.reduceToNat, Int.reduceEq, Nat.reduceLeDiff, Nat.reduceLT, Nat.reducePow, Nat.reduceDiv, Nat.reduceMod, rows_get hg]
      refine ⟨fun hb => ?_, fun hb => ?_⟩
      · simp only [retK, fullK, iterK, resD, resA, AOp.ex, St.ev, Option.map_some, Option.bind_some, St.get, lk, reduceIte, Nat.reduceEqDiff, Option.getD_some, oneD, List.getElem?_cons_zero, List.getElem?_cons_succ, List.drop_zero, List.drop_succ_cons, List.take_succ_cons, List.take_zero, List.length_cons, List.length_nil, Nat.zero_add, Nat.reduceAdd, Nat.le_refl, Nat.reduceLeDiff, D.pub, D.pubs, ret_z14, hg, hb]
        exact ⟨_, rfl, rfl, rfl⟩
      · simp only [retK, fullK, iterK, resD, resA, AOp.ex, St.ev, Option.map_some, Option.bind_some, St.get, lk, reduceIte, Nat.reduceEqDiff, Option.getD_some, oneD, List.getElem?_cons_zero, List.getElem?_cons_succ, List.drop_zero, List.drop_succ_cons, List.take_succ_cons, List.take_zero, List.length_cons, List.length_nil, Nat.zero_add, Nat.reduceAdd, Nat.le_refl, Nat.reduceLeDiff, D.pub, D.pubs, ret_z14, hg, hb]
        exact ⟨_, rfl, rfl, by simp [hb, D.pub, D.pubs]⟩


def wantAt (i : Nat) : Nat := if i = 0 ∨ i = 4 then 0 else 2

theorem choose_eg : ∀ i, i < 5 → choose [1, 0, 3] i = some (wantAt i) := by decide

theorem want_eg : ∀ i, i < 5 → ([[pInt 0], [pInt 2], [pInt 2], [pInt 2], [pInt 0]] : List (List PD))[i]? = some [pInt (wantAt i)] := by
  intro i hi
  match i, hi with
  | 0, _ => rfl
  | 1, _ => rfl
  | 2, _ => rfl
  | 3, _ => rfl
  | 4, _ => rfl

def aRoute : AObj := ⟨⟨6, ⟨#[119, 101, 98]⟩, ⟨#[114]⟩⟩, false, [], [], ⟨#[]⟩, [], [], [], [], [], []⟩

set_option maxRecDepth 100000 in
theorem awake14 : Pure Tryz.prog 11 [] (fun d => d = bln true) := by
  refine pure_of_run follows an_z18 Tryz.func11 rfl ok_z18 dst_z18 (by simp [Tryz.ntmps11]) ?_
  rw [run_start]
  simp only [ac_z18, go_sem, contS_seq, reduceIte, reduceCtorEq, Nat.reduceEqDiff, Nat.reduceAdd, Nat.reduceBEq, Nat.reduceBNe, Int.reduceLE, Int.reduceLT, Int.reduceToNat, Int.reduceEq, Nat.reduceLeDiff, Nat.reduceLT, Nat.reducePow, Nat.reduceDiv, Nat.reduceMod]
  refine loopS (fun k st => ∃ i : Nat, k = 5 - i ∧ i ≤ 5 ∧
    st = ⟨[(6, .own 3 1 [[pInt 0], [pInt 2], [pInt 2], [pInt 2], [pInt 0]] 6), (7, int 5), (8, int i)], [], [], .no⟩) 5 _
    ?_ ⟨0, rfl, by omega, rfl⟩ ?_
  · exact Weak.less (by simp [lessL, lk]) (by simp [lessL, lk]) (by simp [lessL, lk]) rfl
  rintro k st ⟨i, rfl, hi, rfl⟩
  have hi1 : IntKind.i64.wrap ((i : Int) + 1) = ((i + 1 : Nat) : Int) := by rw [IntWalk.i64_in _ (by omega)]; omega
  by_cases hlt : i < 5
  · have h1 : (i : Int) < 5 := by omega
    have hu : IntKind.u64.wrap (i : Int) = (i : Int) := IntWalk.u64_in _ (by omega)
    simp only [go_sem, contS_seq, reduceIte, reduceCtorEq, Nat.reduceEqDiff, Nat.reduceAdd, Nat.reduceBEq, Nat.reduceBNe, Int.reduceLE, Int.reduceLT, Int.reduceToNat, Int.reduceEq, Nat.reduceLeDiff, Nat.reduceLT, Nat.reducePow, Nat.reduceDiv, Nat.reduceMod, h1, hi1, hu, want_eg i hlt]
    refine (back_Choose [1, 0, 3] i (by omega) (by simp)).callW (enters_of Tryz.func10 rfl rfl) _ rfl rfl ?_
    rintro d rfl
    simp only [choose_eg i hlt, placeD, go_sem, contS_seq, reduceIte, reduceCtorEq, Nat.reduceEqDiff, Nat.reduceAdd, Nat.reduceBEq, Nat.reduceBNe, Int.reduceLE, Int.reduceLT, Int.reduceToNat, Int.reduceEq, Nat.reduceLeDiff, Nat.reduceLT, Nat.reducePow, Nat.reduceDiv, Nat.reduceMod, hi1]
    refine ⟨5 - (i + 1), _, by omega, ?_, i + 1, rfl, by omega, rfl⟩
    exact Weak.less (by simp [lessL, lk]) (by simp [lessL, lk]) (by simp [lessL, lk]) rfl
  · have h1 : ¬ (i : Int) < 5 := by omega
    simp only [go_sem, contS_seq, reduceIte, reduceCtorEq, Nat.reduceEqDiff, Nat.reduceAdd, Nat.reduceBEq, Nat.reduceBNe, Int.reduceLE, Int.reduceLT, Int.reduceToNat, Int.reduceEq, Nat.reduceLeDiff, Nat.reduceLT, Nat.reducePow, Nat.reduceDiv, Nat.reduceMod, h1]
    refine (wrong_nil aRoute ⟨⟨4, ⟨#[]⟩, ⟨#[115]⟩⟩, 0, 0⟩ ⟨4, ⟨#[119, 101, 98]⟩, ⟨#[115]⟩⟩ (by simp [near, aRoute]) (.inl (by decide))).callW (enters_of Tryz.func15 rfl rfl) _ rfl rfl ?_
    rintro d rfl
    simp only [go_sem, contS_seq, reduceIte, reduceCtorEq, Nat.reduceEqDiff, Nat.reduceAdd, Nat.reduceBEq, Nat.reduceBNe, Int.reduceLE, Int.reduceLT, Int.reduceToNat, Int.reduceEq, Nat.reduceLeDiff, Nat.reduceLT, Nat.reducePow, Nat.reduceDiv, Nat.reduceMod, badKind]
    trace_state
    refine (wrong_nil aRoute ⟨⟨3, ⟨#[97, 112, 112]⟩, ⟨#[115]⟩⟩, 0, 0⟩ ⟨3, ⟨#[97, 112, 112]⟩, ⟨#[115]⟩⟩ (by simp [near]) (.inr (by decide))).callW (enters_of Tryz.func15 rfl rfl) _ rfl rfl ?_
    rintro d rfl
    simp only [go_sem, contS_seq, reduceIte, reduceCtorEq, Nat.reduceEqDiff, Nat.reduceAdd, Nat.reduceBEq, Nat.reduceBNe, Int.reduceLE, Int.reduceLT, Int.reduceToNat, Int.reduceEq, Nat.reduceLeDiff, Nat.reduceLT, Nat.reducePow, Nat.reduceDiv, Nat.reduceMod, notLet]
    simp only [retK, fullK, iterK, resD, resA, AOp.ex, St.ev, Option.map_some, Option.bind_some, St.get, lk, reduceIte, Nat.reduceEqDiff, Option.getD_some, oneD, List.getElem?_cons_zero, List.getElem?_cons_succ, List.drop_zero, List.drop_succ_cons, List.take_succ_cons, List.take_zero, List.length_cons, List.length_nil, Nat.zero_add, Nat.reduceAdd, Nat.le_refl, Nat.reduceLeDiff, D.pub, D.pubs, Tryz.results11]
    exact ⟨_, rfl, rfl, rfl⟩


theorem ints_take (ws : List Int) : (ints ws).take 8 = ints (ws.take 8) := by simp [List.map_take]

theorem beq_self_tt (b : Bool) : (b == b) = true := by cases b <;> rfl

theorem placeD_tup (o : Option Nat) : ∃ (x : Int) (b : Bool), placeD o = .tup [int x, bln b] := by cases o <;> exact ⟨_, _, rfl⟩

set_option maxRecDepth 100000 in
set_option maxHeartbeats 1000000 in
theorem law_Chooses (ws : List Int) (gs : List AGoal) (n : Nat) (hn : n < 2 ^ 64) : Pure Tryz.prog 5 [.pd (.slice (ints ws)), .pd (.slice (rows AGoal.pd gs)), u64 n] (fun d => d = bln true) := by
  refine pure_of_run follows an_z19 Tryz.func5 rfl ok_z19 dst_z19 (by simp [Tryz.ntmps5]) ?_
  rw [run_start]
  obtain ⟨us, hus⟩ : ∃ us, us = ws.take 8 := ⟨_, rfl⟩
  have hul : us.length ≤ 8 := by rw [hus, List.length_take]; omega
  have hgl : (fewGoals gs).length ≤ 8 := by simp [fewGoals]; omega
  obtain ⟨x, b, hxb⟩ := placeD_tup (choose us n)
  have c1 := back_Choose us n hn hul
  have c2 := ref_Choose2 us n hn hul
  have c3 := back_Pick (fewGoals gs) n hn hgl
  have c4 := ref_Pick (fewGoals gs) n hn hgl
  rw [hxb] at c1 c2
  obtain ⟨p, hp⟩ : ∃ p, pick (fewGoals gs) n = p := ⟨_, rfl⟩
  rw [hp] at c3 c4
  obtain ⟨gl, b2⟩ := p
  simp only [ac_z19, go_sem, reduceIte, reduceCtorEq, Nat.reduceEqDiff, Nat.reduceAdd, Nat.reduceBEq, Nat.reduceBNe, Int.reduceLE, Int.reduceLT, Int.reduceToNat, Int.reduceEq, Nat.reduceLeDiff, Nat.reduceLT, Nat.reducePow, Nat.reduceDiv, Nat.reduceMod]
  rw [contS_seq]
  by_cases hw : 8 < ws.length
  focus
    have h1 : (8 : Int) < (ws.length : Int) := by omega
    have h2 : 8 ≤ ws.length := by omega
    simp only [go_sem, reduceIte, reduceCtorEq, Nat.reduceEqDiff, Nat.reduceAdd, Nat.reduceBEq, Nat.reduceBNe, Int.reduceLE, Int.reduceLT, Int.reduceToNat, Int.reduceEq, Nat.reduceLeDiff, Nat.reduceLT, Nat.reducePow, Nat.reduceDiv, Nat.reduceMod, rows_len, h1]
    rw [contS_seq]
    simp only [go_sem, reduceIte, reduceCtorEq, Nat.reduceEqDiff, Nat.reduceAdd, Nat.reduceBEq, Nat.reduceBNe, Int.reduceLE, Int.reduceLT, Int.reduceToNat, Int.reduceEq, Nat.reduceLeDiff, Nat.reduceLT, Nat.reducePow, Nat.reduceDiv, Nat.reduceMod, rows_len, h1, h2, rowsOK_rows (f := cInt) (n := 1) (fun _ => rfl), ints_take ws, ← hus]
  rotate_left
  focus
    have h1 : ¬ (8 : Int) < (ws.length : Int) := by omega
    have hws : us = ws := by rw [hus, List.take_of_length_le (by omega)]
    simp only [go_sem, reduceIte, reduceCtorEq, Nat.reduceEqDiff, Nat.reduceAdd, Nat.reduceBEq, Nat.reduceBNe, Int.reduceLE, Int.reduceLT, Int.reduceToNat, Int.reduceEq, Nat.reduceLeDiff, Nat.reduceLT, Nat.reducePow, Nat.reduceDiv, Nat.reduceMod, rows_len, h1]
    rw [contS_seq]
    simp only [go_sem, reduceIte, reduceCtorEq, Nat.reduceEqDiff, Nat.reduceAdd, Nat.reduceBEq, Nat.reduceBNe, Int.reduceLE, Int.reduceLT, Int.reduceToNat, Int.reduceEq, Nat.reduceLeDiff, Nat.reduceLT, Nat.reducePow, Nat.reduceDiv, Nat.reduceMod, rows_len, h1]
    rw [← hws]
  all_goals
    rw [contS_seq]
    simp only [go_sem, reduceIte, reduceCtorEq, Nat.reduceEqDiff, Nat.reduceAdd, Nat.reduceBEq, Nat.reduceBNe, Int.reduceLE, Int.reduceLT, Int.reduceToNat, Int.reduceEq, Nat.reduceLeDiff, Nat.reduceLT, Nat.reducePow, Nat.reduceDiv, Nat.reduceMod]
    refine (law14_Few gs).callW (enters_of Tryz.func16 rfl rfl) _ rfl rfl ?_
    rintro d rfl
    simp only [go_sem, reduceIte, reduceCtorEq, Nat.reduceEqDiff, Nat.reduceAdd, Nat.reduceBEq, Nat.reduceBNe, Int.reduceLE, Int.reduceLT, Int.reduceToNat, Int.reduceEq, Nat.reduceLeDiff, Nat.reduceLT, Nat.reducePow, Nat.reduceDiv, Nat.reduceMod]
    rw [contS_seq]
    simp only [go_sem, reduceIte, reduceCtorEq, Nat.reduceEqDiff, Nat.reduceAdd, Nat.reduceBEq, Nat.reduceBNe, Int.reduceLE, Int.reduceLT, Int.reduceToNat, Int.reduceEq, Nat.reduceLeDiff, Nat.reduceLT, Nat.reducePow, Nat.reduceDiv, Nat.reduceMod]
    refine c1.callW (enters_of Tryz.func10 rfl rfl) _ rfl rfl ?_
    rintro d rfl
    simp only [go_sem, reduceIte, reduceCtorEq, Nat.reduceEqDiff, Nat.reduceAdd, Nat.reduceBEq, Nat.reduceBNe, Int.reduceLE, Int.reduceLT, Int.reduceToNat, Int.reduceEq, Nat.reduceLeDiff, Nat.reduceLT, Nat.reducePow, Nat.reduceDiv, Nat.reduceMod]
    rw [contS_seq]
    simp only [go_sem, reduceIte, reduceCtorEq, Nat.reduceEqDiff, Nat.reduceAdd, Nat.reduceBEq, Nat.reduceBNe, Int.reduceLE, Int.reduceLT, Int.reduceToNat, Int.reduceEq, Nat.reduceLeDiff, Nat.reduceLT, Nat.reducePow, Nat.reduceDiv, Nat.reduceMod]
    refine c2.callW (enters_of Tryz.func17 rfl rfl) _ rfl rfl ?_
    rintro d rfl
    simp only [go_sem, reduceIte, reduceCtorEq, Nat.reduceEqDiff, Nat.reduceAdd, Nat.reduceBEq, Nat.reduceBNe, Int.reduceLE, Int.reduceLT, Int.reduceToNat, Int.reduceEq, Nat.reduceLeDiff, Nat.reduceLT, Nat.reducePow, Nat.reduceDiv, Nat.reduceMod]
    rw [contS_seq]
    simp only [go_sem, reduceIte, reduceCtorEq, Nat.reduceEqDiff, Nat.reduceAdd, Nat.reduceBEq, Nat.reduceBNe, Int.reduceLE, Int.reduceLT, Int.reduceToNat, Int.reduceEq, Nat.reduceLeDiff, Nat.reduceLT, Nat.reducePow, Nat.reduceDiv, Nat.reduceMod]
    refine c3.callW (enters_of Tryz.func18 rfl rfl) _ rfl rfl ?_
    rintro d rfl
    simp only [go_sem, reduceIte, reduceCtorEq, Nat.reduceEqDiff, Nat.reduceAdd, Nat.reduceBEq, Nat.reduceBNe, Int.reduceLE, Int.reduceLT, Int.reduceToNat, Int.reduceEq, Nat.reduceLeDiff, Nat.reduceLT, Nat.reducePow, Nat.reduceDiv, Nat.reduceMod]
    rw [contS_seq]
    simp only [go_sem, reduceIte, reduceCtorEq, Nat.reduceEqDiff, Nat.reduceAdd, Nat.reduceBEq, Nat.reduceBNe, Int.reduceLE, Int.reduceLT, Int.reduceToNat, Int.reduceEq, Nat.reduceLeDiff, Nat.reduceLT, Nat.reducePow, Nat.reduceDiv, Nat.reduceMod]
    refine c4.callW (enters_of Tryz.func19 rfl rfl) _ rfl rfl ?_
    rintro d rfl
    simp only [go_sem, reduceIte, reduceCtorEq, Nat.reduceEqDiff, Nat.reduceAdd, Nat.reduceBEq, Nat.reduceBNe, Int.reduceLE, Int.reduceLT, Int.reduceToNat, Int.reduceEq, Nat.reduceLeDiff, Nat.reduceLT, Nat.reducePow, Nat.reduceDiv, Nat.reduceMod]
    rw [contS_seq]
    simp only [go_sem, reduceIte, reduceCtorEq, Nat.reduceEqDiff, Nat.reduceAdd, Nat.reduceBEq, Nat.reduceBNe, Int.reduceLE, Int.reduceLT, Int.reduceToNat, Int.reduceEq, Nat.reduceLeDiff, Nat.reduceLT, Nat.reducePow, Nat.reduceDiv, Nat.reduceMod, beq_self_tt, eqVs, eqV, eq_self]
    refine awake14.callW (enters_of Tryz.func11 rfl rfl) _ rfl rfl ?_
    rintro d rfl
    simp only [go_sem, contS_seq, reduceIte, reduceCtorEq, Nat.reduceEqDiff, Nat.reduceAdd, Nat.reduceBEq, Nat.reduceBNe, Int.reduceLE, Int.reduceLT, Int.reduceToNat, Int.reduceEq, Nat.reduceLeDiff, Nat.reduceLT, Nat.reducePow, Nat.reduceDiv, Nat.reduceMod]
    simp only [retK, fullK, iterK, resD, resA, AOp.ex, St.ev, Option.map_some, Option.bind_some, St.get, lk, reduceIte, Nat.reduceEqDiff, Option.getD_some, oneD, List.getElem?_cons_zero, List.getElem?_cons_succ, List.drop_zero, List.drop_succ_cons, List.take_succ_cons, List.take_zero, List.length_cons, List.length_nil, Nat.zero_add, Nat.reduceAdd, Nat.le_refl, Nat.reduceLeDiff, D.pub, D.pubs, Tryz.results5]
    exact ⟨_, rfl, rfl, rfl⟩

end Go.Proofs.YtbpgebfejebmlaaGreatDoor
