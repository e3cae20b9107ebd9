/- Texts of the prover's, joined: E6 E7 E8 E9 D7 EG. -/
import Derived.Test.YtbpgebfejebmlaaGreatDoorKS3
import Derived.Test.YtbpgebfejebmlaaGreatDoorProg
import Derived.KernelRfl

namespace Go.Proofs.YtbpgebfejebmlaaGreatDoor
open Go Go.RowKit
set_option linter.unusedSimpArgs false
set_option linter.unusedVariables false
set_option maxRecDepth 100000

theorem pick_weight (g : AGoal) : Pure Tryz.prog 41 [g.d] (fun d => d = int g.weight) := by
  refine pure_of_run follows an_z11 Tryz.func41 rfl ok_z11 dst_z11 (by simp [Tryz.ntmps41]) ?_
  rw [run_start]
  simp only [ac_z11, go_sem, contS_seq, reduceIte, reduceCtorEq, Nat.reduceEqDiff, Nat.reduceAdd, Nat.reduceBEq, Nat.reduceBNe, Int.reduceLE, Int.reduceLT, Int.reduceToNat, Int.reduceEq, Nat.reduceLeDiff, Nat.reduceLT, Nat.reducePow, Nat.reduceDiv, Nat.reduceMod]
  simp only [retK, fullK, iterK, resD, resA, AOp.ex, St.ev, Option.map_some, Option.bind_some, St.get, lk, reduceIte, Nat.reduceEqDiff, Option.getD_some, oneD, List.getElem?_cons_zero, List.getElem?_cons_succ, List.drop_zero, List.drop_succ_cons, List.take_succ_cons, List.take_zero, List.length_cons, List.length_nil, Nat.zero_add, Nat.reduceAdd, Nat.le_refl, Nat.reduceLeDiff, D.pub, D.pubs, Tryz.results41]
  exact ⟨_, rfl, rfl, rfl⟩

theorem goal_heavy (g : AGoal) : PureB Tryz.prog 60 [g.d, .ptr 1000001 0] [(1000001, [.fn 41 []])] (fun d => d = .pd (.raw (.int .u64 (heavy g.weight)))) := by
  refine pureB_of_run follows an_z12 Tryz.func60 rfl ok_z12 dst_z12 (by simp [Tryz.ntmps60]) ?_
  rw [run_start]
  simp only [ac_z12, go_sem, contS_seq, reduceIte, reduceCtorEq, Nat.reduceEqDiff, Nat.reduceAdd, Nat.reduceBEq, Nat.reduceBNe, Int.reduceLE, Int.reduceLT, Int.reduceToNat, Int.reduceEq, Nat.reduceLeDiff, Nat.reduceLT, Nat.reducePow, Nat.reduceDiv, Nat.reduceMod]
  refine (pick_weight g).callW (enters_of Tryz.func41 rfl rfl) _ rfl rfl ?_
  rintro d rfl
  generalize g.weight = x
  simp only [go_sem, contS_seq, reduceIte, reduceCtorEq, Nat.reduceEqDiff, Nat.reduceAdd, Nat.reduceBEq, Nat.reduceBNe, Int.reduceLE, Int.reduceLT, Int.reduceToNat, Int.reduceEq, Nat.reduceLeDiff, Nat.reduceLT, Nat.reducePow, Nat.reduceDiv, Nat.reduceMod]
  simp only [retK, fullK, iterK, resD, resA, AOp.ex, St.ev, Option.map_some, Option.bind_some, St.get, lk, reduceIte, Nat.reduceEqDiff, Option.getD_some, oneD, List.getElem?_cons_zero, List.getElem?_cons_succ, List.drop_zero, List.drop_succ_cons, List.take_succ_cons, List.take_zero, List.length_cons, List.length_nil, Nat.zero_add, Nat.reduceAdd, Nat.le_refl, Nat.reduceLeDiff, D.pub, D.pubs, Tryz.results60]
  refine ⟨_, rfl, rfl, ?_⟩
  have e : (if (0 : Int) < if 1000 < x then 1000 else x then if 1000 < x then 1000 else x else 0) = heavy x := by
    unfold heavy
    split <;> split <;> omega
  have hr : 0 ≤ heavy x ∧ heavy x ≤ 1000 := by unfold heavy; omega
  simp only [D.pub, e, IntWalk.u64_in (heavy x) (by omega)]

set_option maxRecDepth 100000 in
theorem chosen_goal (gs : List AGoal) (n : Nat) (hn : n < 2 ^ 64) (hl : gs.length ≤ 8) (ws : List Int) (hws : ws = gs.map (·.weight)) : Pure Tryz.prog 40 [.pd (.slice (rows AGoal.pd gs)), u64 n, .fn 41 []]
    (fun d => d = if total ws = 0 then .tup [int 0, bln false] else match pos 0 ws (n % total ws) with | some i => .tup [int i, bln true] | none => .tup [int 0, bln false]) := by
  have hlw : ws.length = gs.length := by rw [hws]; simp
  refine pure_of_run follows an_z10 Tryz.func40 rfl ok_z10 dst_z10 (by simp [Tryz.ntmps40]) ?_
  rw [run_start]
  have hen : Enters Tryz.prog 60 := enters_of Tryz.func60 rfl rfl
  simp only [ac_z10, go_sem, contS_seq, reduceIte, reduceCtorEq, Nat.reduceEqDiff, Nat.reduceAdd, Nat.reduceBEq, Nat.reduceBNe, Int.reduceLE, Int.reduceLT, Int.reduceToNat, Int.reduceEq, Nat.reduceLeDiff, Nat.reduceLT, Nat.reducePow, Nat.reduceDiv, Nat.reduceMod, rows_len, ← hlw]
  refine loopS (fun k st => ∃ (i : Nat) (s : Int), k = ws.length - i ∧ i ≤ ws.length ∧ 0 ≤ s ∧ s + total (ws.drop i) = total ws ∧
    st = ⟨[(0, .pd (.slice (rows AGoal.pd gs))), (1, u64 n), (8, .fn 60 [(5, 0)]), (9, u64 s), (16, .pd (.slice (rows AGoal.pd gs))), (17, int ws.length), (18, int i)], [(5, [.fn 41 []])], [], .no⟩) ws.length _
    (Weak.refl _ _) ⟨0, 0, rfl, Nat.zero_le _, by omega, by simp, rfl⟩ ?_
  rintro k st ⟨i, s, rfl, hi, hs0, hs, rfl⟩
  by_cases hlt : i < ws.length
  · obtain ⟨gl, hg⟩ := at_lt (show i < gs.length by omega)
    obtain ⟨x, hxe⟩ : ∃ x, gl.weight = x := ⟨_, rfl⟩
    have hx : ws[i]? = some x := by rw [hws, List.getElem?_map, hg, ← hxe]; rfl
    have hlt' : (i : Int) < (ws.length : Int) := by omega
    simp only [go_sem, contS_seq, reduceIte, reduceCtorEq, Nat.reduceEqDiff, Nat.reduceAdd, Nat.reduceBEq, Nat.reduceBNe, Int.reduceLE, Int.reduceLT, Int.reduceToNat, Int.reduceEq, Nat.reduceLeDiff, Nat.reduceLT, Nat.reducePow, Nat.reduceDiv, Nat.reduceMod, rows_len, ← hlw, hlt', rows_get hg]
    refine (goal_heavy gl).callW hen _ [(5, 1000001)] rfl rfl rfl ?_
    rintro d rfl
    rw [hxe]
    simp only [go_sem, contS_seq, reduceIte, reduceCtorEq, Nat.reduceEqDiff, Nat.reduceAdd, Nat.reduceBEq, Nat.reduceBNe, Int.reduceLE, Int.reduceLT, Int.reduceToNat, Int.reduceEq, Nat.reduceLeDiff, Nat.reduceLT, Nat.reducePow, Nat.reduceDiv, Nat.reduceMod]
    have hi1 : IntKind.i64.wrap ((i : Int) + 1) = ((i + 1 : Nat) : Int) := by rw [IntWalk.i64_in _ (by omega)]; omega
    have hd := total_drop hx
    have hb := heavy_bd x
    have hb1 := total_bd (ws.drop (i + 1))
    have hb2 := total_bd ws
    have hsw : IntKind.u64.wrap (s + heavy x) = s + heavy x := IntWalk.u64_in _ (by omega)
    rw [hi1, hsw]
    refine ⟨ws.length - (i + 1), _, by omega, ?_, i + 1, s + heavy x, rfl, ?_, ?_, ?_, rfl⟩
    · exact Weak.less (by simp [lessL, lk]) (by simp [lessL, lk]) (by simp [lessL, lk]) rfl
    all_goals omega
  · have hiw : i = ws.length := by omega
    have hs2 : s = total ws := by rw [← hs, hiw]; simp [total]
    subst hs2
    have hlt' : ¬ (i : Int) < (ws.length : Int) := by omega
    simp only [go_sem, contS_seq, reduceIte, reduceCtorEq, Nat.reduceEqDiff, Nat.reduceAdd, Nat.reduceBEq, Nat.reduceBNe, Int.reduceLE, Int.reduceLT, Int.reduceToNat, Int.reduceEq, Nat.reduceLeDiff, Nat.reduceLT, Nat.reducePow, Nat.reduceDiv, Nat.reduceMod, rows_len, ← hlw, hlt']
    refine ⟨fun h0 => ?_, fun h0 => ?_⟩
    · simp only [retK, fullK, iterK, resD, resA, AOp.ex, St.ev, Option.map_some, Option.bind_some, St.get, lk, reduceIte, Nat.reduceEqDiff, Option.getD_some, oneD, List.getElem?_cons_zero, List.getElem?_cons_succ, List.drop_zero, List.drop_succ_cons, List.take_succ_cons, List.take_zero, List.length_cons, List.length_nil, Nat.zero_add, Nat.reduceAdd, Nat.le_refl, Nat.reduceLeDiff, D.pub, D.pubs, Tryz.results40]
      exact ⟨_, rfl, rfl, by rw [if_pos h0]; rfl⟩
    · have hm : (n : Int).tmod (total ws) = (n : Int) % total ws := Int.tmod_eq_emod_of_nonneg (by omega)
      simp only [go_sem, contS_seq, reduceIte, reduceCtorEq, Nat.reduceEqDiff, Nat.reduceAdd, Nat.reduceBEq, Nat.reduceBNe, Int.reduceLE, Int.reduceLT, Int.reduceToNat, Int.reduceEq, Nat.reduceLeDiff, Nat.reduceLT, Nat.reducePow, Nat.reduceDiv, Nat.reduceMod, rows_len, ← hlw, h0, hm]
      have htb := total_bd ws
      have hn0 : 0 ≤ (n : Int) % total ws := Int.emod_nonneg _ h0
      have hnm : (n : Int) % total ws < total ws := Int.emod_lt_of_pos _ (by omega)
      refine loopS (fun k st => ∃ (j : Nat) (m : Int), k = ws.length - j ∧ j ≤ ws.length ∧ 0 ≤ m ∧ m < 100000 ∧ pos j (ws.drop j) m = pos 0 ws ((n : Int) % total ws) ∧
        st = ⟨[(1, u64 m), (8, .fn 60 [(5, 0)]), (33, .pd (.slice (rows AGoal.pd gs))), (34, int ws.length), (35, int j)], [(5, [.fn 41 []])], [], .no⟩) ws.length _
        (Weak.refl _ _) ⟨0, _, rfl, Nat.zero_le _, hn0, by omega, by simp, rfl⟩ ?_
      rintro k st ⟨j, m, rfl, hj, hm0, hm1, hp, rfl⟩
      by_cases hjl : j < ws.length
      · obtain ⟨gl, hg⟩ := at_lt (show j < gs.length by omega)
        obtain ⟨x, hxe⟩ : ∃ x, gl.weight = x := ⟨_, rfl⟩
        have hx : ws[j]? = some x := by rw [hws, List.getElem?_map, hg, ← hxe]; rfl
        have hjl' : (j : Int) < (ws.length : Int) := by omega
        simp only [go_sem, contS_seq, reduceIte, reduceCtorEq, Nat.reduceEqDiff, Nat.reduceAdd, Nat.reduceBEq, Nat.reduceBNe, Int.reduceLE, Int.reduceLT, Int.reduceToNat, Int.reduceEq, Nat.reduceLeDiff, Nat.reduceLT, Nat.reducePow, Nat.reduceDiv, Nat.reduceMod, rows_len, ← hlw, hjl', rows_get hg]
        refine (goal_heavy gl).callW hen _ [(5, 1000001)] rfl rfl rfl ?_
        rintro d rfl
        rw [hxe]
        have hj1 : IntKind.i64.wrap ((j : Int) + 1) = ((j + 1 : Nat) : Int) := by rw [IntWalk.i64_in _ (by omega)]; omega
        have hb := heavy_bd x
        have hpd := pos_drop hx m
        rw [hp] at hpd
        simp only [go_sem, contS_seq, reduceIte, reduceCtorEq, Nat.reduceEqDiff, Nat.reduceAdd, Nat.reduceBEq, Nat.reduceBNe, Int.reduceLE, Int.reduceLT, Int.reduceToNat, Int.reduceEq, Nat.reduceLeDiff, Nat.reduceLT, Nat.reducePow, Nat.reduceDiv, Nat.reduceMod]
        refine ⟨fun h1 => ?_, fun h1 => ?_⟩
        · simp only [retK, fullK, iterK, resD, resA, AOp.ex, St.ev, Option.map_some, Option.bind_some, St.get, lk, reduceIte, Nat.reduceEqDiff, Option.getD_some, oneD, List.getElem?_cons_zero, List.getElem?_cons_succ, List.drop_zero, List.drop_succ_cons, List.take_succ_cons, List.take_zero, List.length_cons, List.length_nil, Nat.zero_add, Nat.reduceAdd, Nat.le_refl, Nat.reduceLeDiff, D.pub, D.pubs, Tryz.results40]
          rw [if_pos h1] at hpd
          refine ⟨_, rfl, rfl, ?_⟩
          rw [hpd]
          rfl
        · rw [if_neg h1] at hpd
          have hmw : IntKind.u64.wrap (m - heavy x) = m - heavy x := IntWalk.u64_in _ (by omega)
          rw [hj1, hmw]
          refine ⟨ws.length - (j + 1), _, by omega, ?_, j + 1, m - heavy x, rfl, ?_, ?_, ?_, hpd.symm, rfl⟩
          · exact Weak.less (by simp [lessL, lk]) (by simp [lessL, lk]) (by simp [lessL, lk]) rfl
          all_goals omega
      · have hjl' : ¬ (j : Int) < (ws.length : Int) := by omega
        simp only [go_sem, contS_seq, reduceIte, reduceCtorEq, Nat.reduceEqDiff, Nat.reduceAdd, Nat.reduceBEq, Nat.reduceBNe, Int.reduceLE, Int.reduceLT, Int.reduceToNat, Int.reduceEq, Nat.reduceLeDiff, Nat.reduceLT, Nat.reducePow, Nat.reduceDiv, Nat.reduceMod, rows_len, ← hlw, hjl']
        simp only [retK, fullK, iterK, resD, resA, AOp.ex, St.ev, Option.map_some, Option.bind_some, St.get, lk, reduceIte, Nat.reduceEqDiff, Option.getD_some, oneD, List.getElem?_cons_zero, List.getElem?_cons_succ, List.drop_zero, List.drop_succ_cons, List.take_succ_cons, List.take_zero, List.length_cons, List.length_nil, Nat.zero_add, Nat.reduceAdd, Nat.le_refl, Nat.reduceLeDiff, D.pub, D.pubs, Tryz.results40]
        refine ⟨_, rfl, rfl, ?_⟩
        have hnone : pos 0 ws ((n : Int) % total ws) = none := by rw [← hp, List.drop_eq_nil_of_le (by omega)]; rfl
        rw [hnone]
        rfl

/-- Which place is chosen. -/
def choose (ws : List Int) (n : Nat) : Option Nat := if total ws = 0 then none else pos 0 ws (n % total ws)

/-- A place, or none. -/
def placeD : Option Nat → D
  | some i => .tup [int i, bln true]
  | none => .tup [int 0, bln false]

theorem chosen_int' (ws : List Int) (n : Nat) (hn : n < 2 ^ 64) (hl : ws.length ≤ 8) : Pure Tryz.prog 27 [.pd (.slice (ints ws)), u64 n, .fn 28 []] (fun d => d = placeD (choose ws n)) :=
  (chosen_int ws n hn hl).mono fun d h => by
    rw [h]; unfold choose placeD
    split <;> rfl

theorem chosen_goal' (gs : List AGoal) (n : Nat) (hn : n < 2 ^ 64) (hl : gs.length ≤ 8) : Pure Tryz.prog 40 [.pd (.slice (rows AGoal.pd gs)), u64 n, .fn 41 []] (fun d => d = placeD (choose (gs.map (·.weight)) n)) :=
  (chosen_goal gs n hn hl _ rfl).mono fun d h => by
    rw [h]; unfold choose placeD
    split <;> rfl

/-- back.Choose. -/
theorem back_Choose (ws : List Int) (n : Nat) (hn : n < 2 ^ 64) (hl : ws.length ≤ 8) : Pure Tryz.prog 10 [.pd (.slice (ints ws)), u64 n] (fun d => d = placeD (choose ws n)) := by
  refine pure_of_run follows an_z1 Tryz.func10 rfl ok_z1 dst_z1 (by simp [Tryz.ntmps10]) ?_
  rw [run_start]
  simp only [ac_z1, go_sem, contS_seq, reduceIte, reduceCtorEq, Nat.reduceEqDiff, Nat.reduceAdd, Nat.reduceBEq, Nat.reduceBNe, Int.reduceLE, Int.reduceLT, Int.reduceToNat, Int.reduceEq, Nat.reduceLeDiff, Nat.reduceLT, Nat.reducePow, Nat.reduceDiv, Nat.reduceMod]
  refine (chosen_int' ws n hn hl).callW (enters_of Tryz.func27 rfl rfl) _ rfl rfl ?_
  rintro d rfl
  cases choose ws n <;> (simp only [go_sem, contS_seq, reduceIte, reduceCtorEq, Nat.reduceEqDiff, Nat.reduceAdd, Nat.reduceBEq, Nat.reduceBNe, Int.reduceLE, Int.reduceLT, Int.reduceToNat, Int.reduceEq, Nat.reduceLeDiff, Nat.reduceLT, Nat.reducePow, Nat.reduceDiv, Nat.reduceMod, placeD]; simp only [retK, fullK, iterK, resD, resA, AOp.ex, St.ev, Option.map_some, Option.bind_some, St.get, lk, reduceIte, Nat.reduceEqDiff, Option.getD_some, oneD, List.getElem?_cons_zero, List.getElem?_cons_succ, List.drop_zero, List.drop_succ_cons, List.take_succ_cons, List.take_zero, List.length_cons, List.length_nil, Nat.zero_add, Nat.reduceAdd, Nat.le_refl, Nat.reduceLeDiff, D.pub, D.pubs, Tryz.results10]; exact ⟨_, rfl, rfl, rfl⟩)

theorem pos_lt : ∀ {ws : List Int} {i j : Nat} {m : Int}, pos i ws m = some j → i ≤ j ∧ j < i + ws.length
  | [], _, _, _, h => by simp [pos] at h
  | w :: ws, i, j, m, h => by
    simp only [pos] at h
    split at h
    · cases h; simp
    · have := pos_lt h
      simp only [List.length_cons]; omega

theorem choose_lt {ws : List Int} {n i : Nat} (h : choose ws n = some i) : i < ws.length := by
  unfold choose at h
  split at h
  · cases h
  · have := pos_lt h; omega

def goal0 : AGoal := ⟨⟨0, ⟨#[]⟩, ⟨#[]⟩⟩, 0, 0, false⟩

/-- What is picked. -/
def pick (gs : List AGoal) (n : Nat) : AGoal × Bool := match choose (gs.map (·.weight)) n with
  | none => (goal0, false)
  | some i => match gs[i]? with
    | some g => if g.bad then (goal0, false) else (g, true)
    | none => (goal0, false)

set_option maxRecDepth 100000 in
theorem back_Pick (gs : List AGoal) (n : Nat) (hn : n < 2 ^ 64) (hl : gs.length ≤ 8) : Pure Tryz.prog 18 [.pd (.slice (rows AGoal.pd gs)), u64 n] (fun d => d = .tup [(pick gs n).1.d, bln (pick gs n).2]) := by
  refine pure_of_run follows an_z13 Tryz.func18 rfl ok_z13 dst_z13 (by simp [Tryz.ntmps18]) ?_
  rw [run_start]
  simp only [ac_z13, go_sem, contS_seq, reduceIte, reduceCtorEq, Nat.reduceEqDiff, Nat.reduceAdd, Nat.reduceBEq, Nat.reduceBNe, Int.reduceLE, Int.reduceLT, Int.reduceToNat, Int.reduceEq, Nat.reduceLeDiff, Nat.reduceLT, Nat.reducePow, Nat.reduceDiv, Nat.reduceMod]
  refine (chosen_goal' gs n hn hl).callW (enters_of Tryz.func40 rfl rfl) _ rfl rfl ?_
  rintro d rfl
  unfold pick
  cases hch : choose (gs.map (·.weight)) n with
  | none =>
    simp only [placeD, go_sem, contS_seq, reduceIte, reduceCtorEq, Nat.reduceEqDiff, Nat.reduceAdd, Nat.reduceBEq, Nat.reduceBNe, Int.reduceLE, Int.reduceLT, Int.reduceToNat, Int.reduceEq, Nat.reduceLeDiff, Nat.reduceLT, Nat.reducePow, Nat.reduceDiv, Nat.reduceMod]
    simp only [retK, fullK, iterK, resD, resA, AOp.ex, St.ev, Option.map_some, Option.bind_some, St.get, lk, reduceIte, Nat.reduceEqDiff, Option.getD_some, oneD, List.getElem?_cons_zero, List.getElem?_cons_succ, List.drop_zero, List.drop_succ_cons, List.take_succ_cons, List.take_zero, List.length_cons, List.length_nil, Nat.zero_add, Nat.reduceAdd, Nat.le_refl, Nat.reduceLeDiff, D.pub, D.pubs, ret_z13]
    exact ⟨_, rfl, rfl, rfl⟩
  | some i =>
    have hi := choose_lt hch
    rw [List.length_map] at hi
    obtain ⟨g, hg⟩ := at_lt hi
    simp only [placeD, go_sem, contS_seq, reduceIte, reduceCtorEq, Nat.reduceEqDiff, Nat.reduceAdd, Nat.reduceBEq, Nat.reduceBNe, Int.reduceLE, Int.reduceLT, Int.reduceToNat, Int.reduceEq, Nat.reduceLeDiff, Nat.reduceLT, Nat.reducePow, Nat.reduceDiv, Nat.reduceMod, rows_get hg]
    refine ⟨fun hb => ?_, fun hb => ?_⟩
    · simp only [retK, fullK, iterK, resD, resA, AOp.ex, St.ev, Option.map_some, Option.bind_some, St.get, lk, reduceIte, Nat.reduceEqDiff, Option.getD_some, oneD, List.getElem?_cons_zero, List.getElem?_cons_succ, List.drop_zero, List.drop_succ_cons, List.take_succ_cons, List.take_zero, List.length_cons, List.length_nil, Nat.zero_add, Nat.reduceAdd, Nat.le_refl, Nat.reduceLeDiff, D.pub, D.pubs, ret_z13, hg, hb]
      exact ⟨_, rfl, rfl, rfl⟩
    · simp only [retK, fullK, iterK, resD, resA, AOp.ex, St.ev, Option.map_some, Option.bind_some, St.get, lk, reduceIte, Nat.reduceEqDiff, Option.getD_some, oneD, List.getElem?_cons_zero, List.getElem?_cons_succ, List.drop_zero, List.drop_succ_cons, List.take_succ_cons, List.take_zero, List.length_cons, List.length_nil, Nat.zero_add, Nat.reduceAdd, Nat.le_refl, Nat.reduceLeDiff, D.pub, D.pubs, ret_z13, hg, hb]
      exact ⟨_, rfl, rfl, by simp [hb, D.pub, D.pubs]⟩


/-- A text no longer than is looked at. -/
def few (s : ByteArray) : ByteArray := if s.size ≤ 100 then s else s.extract 0 100

set_option maxRecDepth 100000 in
theorem law1_Few (s : ByteArray) : Pure Tryz.prog 30 [str s] (fun d => d = str (few s)) := by
  refine pure_of_run follows an_z17 Tryz.func30 rfl ok_z17 dst_z17 (by simp [Tryz.ntmps30]) ?_
  rw [run_start]
  by_cases h : 100 < s.size
  · have h1 : (100 : Int) < (s.size : Int) := by omega
    have h2 : 100 ≤ s.size := by omega
    simp only [ac_z17, go_sem, contS_seq, reduceIte, reduceCtorEq, Nat.reduceEqDiff, Nat.reduceAdd, Nat.reduceBEq, Nat.reduceBNe, Int.reduceLE, Int.reduceLT, Int.reduceToNat, Int.reduceEq, Nat.reduceLeDiff, Nat.reduceLT, Nat.reducePow, Nat.reduceDiv, Nat.reduceMod, h1, h2]
    simp only [retK, fullK, iterK, resD, resA, AOp.ex, St.ev, Option.map_some, Option.bind_some, St.get, lk, reduceIte, Nat.reduceEqDiff, Option.getD_some, oneD, List.getElem?_cons_zero, List.getElem?_cons_succ, List.drop_zero, List.drop_succ_cons, List.take_succ_cons, List.take_zero, List.length_cons, List.length_nil, Nat.zero_add, Nat.reduceAdd, Nat.le_refl, Nat.reduceLeDiff, D.pub, D.pubs, Tryz.results30]
    exact ⟨_, rfl, rfl, by simp [few, show ¬ s.size ≤ 100 by omega, D.pub]⟩
  · have h1 : ¬ (100 : Int) < (s.size : Int) := by omega
    simp only [ac_z17, go_sem, contS_seq, reduceIte, reduceCtorEq, Nat.reduceEqDiff, Nat.reduceAdd, Nat.reduceBEq, Nat.reduceBNe, Int.reduceLE, Int.reduceLT, Int.reduceToNat, Int.reduceEq, Nat.reduceLeDiff, Nat.reduceLT, Nat.reducePow, Nat.reduceDiv, Nat.reduceMod, h1]
    simp only [retK, fullK, iterK, resD, resA, AOp.ex, St.ev, Option.map_some, Option.bind_some, St.get, lk, reduceIte, Nat.reduceEqDiff, Option.getD_some, oneD, List.getElem?_cons_zero, List.getElem?_cons_succ, List.drop_zero, List.drop_succ_cons, List.take_succ_cons, List.take_zero, List.length_cons, List.length_nil, Nat.zero_add, Nat.reduceAdd, Nat.le_refl, Nat.reduceLeDiff, D.pub, D.pubs, Tryz.results30]
    exact ⟨_, rfl, rfl, by simp [few, show s.size ≤ 100 by omega, D.pub]⟩

def fewRef (r : ARef) : ARef := ⟨r.kind, few r.space, few r.name⟩

set_option maxRecDepth 100000 in
theorem law9_FewRef (r : ARef) : Pure Tryz.prog 14 [r.d] (fun d => d = (fewRef r).d) := by
  refine pure_of_run follows an_z16 Tryz.func14 rfl ok_z16 dst_z16 (by simp [Tryz.ntmps14]) ?_
  rw [run_start]
  simp only [ac_z16, go_sem, contS_seq, reduceIte, reduceCtorEq, Nat.reduceEqDiff, Nat.reduceAdd, Nat.reduceBEq, Nat.reduceBNe, Int.reduceLE, Int.reduceLT, Int.reduceToNat, Int.reduceEq, Nat.reduceLeDiff, Nat.reduceLT, Nat.reducePow, Nat.reduceDiv, Nat.reduceMod, go_sem]
  refine (law1_Few r.space).callX (enters_of Tryz.func30 rfl rfl) _ rfl rfl ?_
  rintro d rfl
  simp only [go_sem, contS_seq, reduceIte, reduceCtorEq, Nat.reduceEqDiff, Nat.reduceAdd, Nat.reduceBEq, Nat.reduceBNe, Int.reduceLE, Int.reduceLT, Int.reduceToNat, Int.reduceEq, Nat.reduceLeDiff, Nat.reduceLT, Nat.reducePow, Nat.reduceDiv, Nat.reduceMod, go_sem]
  refine (law1_Few r.name).callX (enters_of Tryz.func30 rfl rfl) _ rfl rfl ?_
  rintro d rfl
  simp only [go_sem, contS_seq, reduceIte, reduceCtorEq, Nat.reduceEqDiff, Nat.reduceAdd, Nat.reduceBEq, Nat.reduceBNe, Int.reduceLE, Int.reduceLT, Int.reduceToNat, Int.reduceEq, Nat.reduceLeDiff, Nat.reduceLT, Nat.reducePow, Nat.reduceDiv, Nat.reduceMod, go_sem]
  simp only [retK, fullK, iterK, resD, resA, AOp.ex, St.ev, Option.map_some, Option.bind_some, St.get, lk, reduceIte, Nat.reduceEqDiff, Option.getD_some, oneD, List.getElem?_cons_zero, List.getElem?_cons_succ, List.drop_zero, List.drop_succ_cons, List.take_succ_cons, List.take_zero, List.length_cons, List.length_nil, Nat.zero_add, Nat.reduceAdd, Nat.le_refl, Nat.reduceLeDiff, D.pub, D.pubs, ret_z16]
  exact ⟨_, rfl, rfl, rfl⟩

/-- Goals, no more than are looked at. -/
def fewGoal (g : AGoal) : AGoal := { g with ref := fewRef g.ref }
def fewGoals (gs : List AGoal) : List AGoal := (gs.take 6).map fewGoal

set_option maxRecDepth 100000 in
theorem law14_Few (gs : List AGoal) : Pure Tryz.prog 16 [.pd (.slice (rows AGoal.pd gs))] (fun d => d = .pd (.slice (rows AGoal.pd (fewGoals gs)))) := by
  refine pure_of_run follows an_z15 Tryz.func16 rfl ok_z15 dst_z15 (by simp [Tryz.ntmps16]) ?_
  rw [run_start]
  simp only [ac_z15, go_sem, contS_seq, reduceIte, reduceCtorEq, Nat.reduceEqDiff, Nat.reduceAdd, Nat.reduceBEq, Nat.reduceBNe, Int.reduceLE, Int.reduceLT, Int.reduceToNat, Int.reduceEq, Nat.reduceLeDiff, Nat.reduceLT, Nat.reducePow, Nat.reduceDiv, Nat.reduceMod, rows_len]
  have hpos : 0 < 6 := by omega
  refine loopS (fun k st => ∃ i : Nat, k = 6 - i ∧ i ≤ 6 ∧ i ≤ gs.length ∧
    st = ⟨[(0, .pd (.slice (rows AGoal.pd gs))), (3, .own 52 6 (rows AGoal.pd ((gs.take i).map fewGoal)) 27), (4, int i)], [], [], .no⟩) 6 _
    ?_ ⟨0, rfl, by omega, by omega, rfl⟩ ?_
  · exact Weak.own1 3 27 52 6 (by kernel_rfl) (by decide) rfl (by simp [lessL, lk, St.purge, St.put, D.purge, rows]) (by simp [lessL, lk, St.purge, D.purges, D.purge]) (by simp [lessL]) rfl
  rintro k st ⟨i, rfl, hi6, hi, rfl⟩
  have hi1 : IntKind.i64.wrap ((i : Int) + 1) = ((i + 1 : Nat) : Int) := by rw [IntWalk.i64_in _ (by omega)]; omega
  by_cases hlt : i < gs.length ∧ i < 6
  · obtain ⟨g, hg⟩ := at_lt hlt.1
    have h1 : (i : Int) < (gs.length : Int) := by omega
    have h2 : (i : Int) < 6 := by omega
    simp only [go_sem, contS_seq, reduceIte, reduceCtorEq, Nat.reduceEqDiff, Nat.reduceAdd, Nat.reduceBEq, Nat.reduceBNe, Int.reduceLE, Int.reduceLT, Int.reduceToNat, Int.reduceEq, Nat.reduceLeDiff, Nat.reduceLT, Nat.reducePow, Nat.reduceDiv, Nat.reduceMod, rows_len, rows_get hg, h1, h2]
    refine (law9_FewRef g.ref).callW (enters_of Tryz.func14 rfl rfl) _ rfl rfl ?_
    rintro d rfl
    simp only [go_sem, contS_seq, reduceIte, reduceCtorEq, Nat.reduceEqDiff, Nat.reduceAdd, Nat.reduceBEq, Nat.reduceBNe, Int.reduceLE, Int.reduceLT, Int.reduceToNat, Int.reduceEq, Nat.reduceLeDiff, Nat.reduceLT, Nat.reducePow, Nat.reduceDiv, Nat.reduceMod, rows_one, hi1]
    have e1 : rows AGoal.pd ((gs.take i).map fewGoal) ++ [[PD.raw (Value.int IntKind.i64 (fewRef g.ref).kind), PD.raw (Value.string (fewRef g.ref).space),
        PD.raw (Value.string (fewRef g.ref).name), pInt g.port, pInt g.weight, pBln g.bad]] = rows AGoal.pd ((gs.take (i + 1)).map fewGoal) := by
      rw [take_at hg, List.map_append]; exact rows_one _ (fewGoal g)
    have hl : (rows AGoal.pd ((gs.take i).map fewGoal)).length ≤ 6 := by simp [rows]; omega
    rw [e1]
    refine ⟨by simp, by unfold maxLen; omega, by omega, 6 - (i + 1), _, by omega, ?_, i + 1, rfl, by omega, by omega, rfl⟩
    exact Weak.less (by simp [lessL, lk]) (by simp [lessL, lk]) (by simp [lessL, lk]) rfl
  · have h3 : (gs.take i).map fewGoal = fewGoals gs := by
      unfold fewGoals
      rcases Nat.lt_or_ge i 6 with h6 | h6
      · rw [List.take_of_length_le (by omega), List.take_of_length_le (by omega)]
      · rw [show i = 6 by omega]
    rw [h3]
    by_cases h1 : i < gs.length
    · have h1' : (i : Int) < (gs.length : Int) := by omega
      have h2 : ¬ (i : Int) < 6 := by omega
      simp only [go_sem, contS_seq, reduceIte, reduceCtorEq, Nat.reduceEqDiff, Nat.reduceAdd, Nat.reduceBEq, Nat.reduceBNe, Int.reduceLE, Int.reduceLT, Int.reduceToNat, Int.reduceEq, Nat.reduceLeDiff, Nat.reduceLT, Nat.reducePow, Nat.reduceDiv, Nat.reduceMod, rows_len, h1', h2]
      simp only [retK, fullK, iterK, resD, resA, AOp.ex, St.ev, Option.map_some, Option.bind_some, St.get, lk, reduceIte, Nat.reduceEqDiff, Option.getD_some, oneD, List.getElem?_cons_zero, List.getElem?_cons_succ, List.drop_zero, List.drop_succ_cons, List.take_succ_cons, List.take_zero, List.length_cons, List.length_nil, Nat.zero_add, Nat.reduceAdd, Nat.le_refl, Nat.reduceLeDiff, D.pub, D.pubs, Tryz.results16]
      exact ⟨_, rfl, rfl, rfl⟩
    · have h1' : ¬ (i : Int) < (gs.length : Int) := by omega
      simp only [go_sem, contS_seq, reduceIte, reduceCtorEq, Nat.reduceEqDiff, Nat.reduceAdd, Nat.reduceBEq, Nat.reduceBNe, Int.reduceLE, Int.reduceLT, Int.reduceToNat, Int.reduceEq, Nat.reduceLeDiff, Nat.reduceLT, Nat.reducePow, Nat.reduceDiv, Nat.reduceMod, rows_len, h1']
      simp only [retK, fullK, iterK, resD, resA, AOp.ex, St.ev, Option.map_some, Option.bind_some, St.get, lk, reduceIte, Nat.reduceEqDiff, Option.getD_some, oneD, List.getElem?_cons_zero, List.getElem?_cons_succ, List.drop_zero, List.drop_succ_cons, List.take_succ_cons, List.take_zero, List.length_cons, List.length_nil, Nat.zero_add, Nat.reduceAdd, Nat.le_refl, Nat.reduceLeDiff, D.pub, D.pubs, Tryz.results16]
      exact ⟨_, rfl, rfl, rfl⟩

/-- What the document picks. -/
def refChoose (ws : List Int) (n : Nat) : D := if (chs 0 ws).length = 0 then .tup [int 0, bln false] else .tup [int ((chs 0 ws).getD (n % (chs 0 ws).length) 0), bln true]

theorem ref_Choose' (ws : List Int) (n : Nat) (hn : n < 2 ^ 64) (hl : ws.length ≤ 8) : Pure Tryz.prog 17 [.pd (.slice (ints ws)), u64 n] (fun d => d = refChoose ws n) := ref_Choose ws n hn hl


theorem heavy_nat (x : Int) : heavy x = ((min 1000 x.toNat : Nat) : Int) := by unfold heavy; omega

theorem chs_total : ∀ (i : Nat) (ws : List Int), ((chs i ws).length : Int) = total ws
  | _, [] => rfl
  | i, w :: ws => by
    have := chs_total (i + 1) ws
    simp only [chs, total, List.length_append, List.length_replicate, heavy_nat]
    omega

theorem pos_chs : ∀ (i : Nat) (ws : List Int) (m : Nat), (m : Int) < total ws → ∃ j : Nat, pos i ws m = some j ∧ (chs i ws)[m]? = some (j : Int)
  | _, [], m, h => by simp [total] at h; omega
  | i, w :: ws, m, h => by
    simp only [total, heavy_nat] at h
    simp only [pos, chs, heavy_nat]
    by_cases hm : m < min 1000 w.toNat
    · refine ⟨i, if_pos (by omega), ?_⟩
      rw [List.getElem?_append_left (by rw [List.length_replicate]; exact hm), List.getElem?_replicate, if_pos hm]
    · obtain ⟨j, h1, h2⟩ := pos_chs (i + 1) ws (m - min 1000 w.toNat) (by omega)
      refine ⟨j, ?_, ?_⟩
      · rw [if_neg (by omega), ← h1]
        congr 1
        omega
      · rw [List.getElem?_append_right (by rw [List.length_replicate]; omega), List.length_replicate]
        exact h2

theorem refChoose_eq (ws : List Int) (n : Nat) : refChoose ws n = placeD (choose ws n) := by
  unfold refChoose choose
  have ht := chs_total 0 ws
  by_cases h0 : (chs 0 ws).length = 0
  · rw [if_pos h0, if_pos (by omega)]; rfl
  · rw [if_neg h0, if_neg (by omega)]
    have hm : n % (chs 0 ws).length < (chs 0 ws).length := Nat.mod_lt _ (by omega)
    have e : (n : Int) % total ws = ((n % (chs 0 ws).length : Nat) : Int) := by rw [← ht]; simp
    obtain ⟨j, h1, h2⟩ := pos_chs 0 ws (n % (chs 0 ws).length) (by omega)
    rw [e, h1, List.getD_eq_getElem?_getD, h2]
    rfl

theorem ref_Choose2 (ws : List Int) (n : Nat) (hn : n < 2 ^ 64) (hl : ws.length ≤ 8) : Pure Tryz.prog 17 [.pd (.slice (ints ws)), u64 n] (fun d => d = placeD (choose ws n)) :=
  (ref_Choose' ws n hn hl).mono fun d h => by rw [h, refChoose_eq]

set_option maxRecDepth 100000 in
theorem ref_Pick (gs : List AGoal) (n : Nat) (hn : n < 2 ^ 64) (hl : gs.length ≤ 8) : Pure Tryz.prog 19 [.pd (.slice (rows AGoal.pd gs)), u64 n] (fun d => d = .tup [(pick gs n).1.d, bln (pick gs n).2]) := by
  refine pure_of_run follows an_z14 Tryz.func19 rfl ok_z14 dst_z14 (by simp [Tryz.ntmps19]) ?_
  rw [run_start]
  simp only [ac_z14, go_sem, contS_seq, reduceIte, reduceCtorEq, Nat.reduceEqDiff, Nat.reduceAdd, Nat.reduceBEq, Nat.reduceBNe, Int.reduceLE, Int.reduceLT, Int.reduceToNat, Int.reduceEq, Nat.reduceLeDiff, Nat.reduceLT, Nat.reducePow, Nat.reduceDiv, Nat.reduceMod]
  refine loopS (fun k st => ∃ i : Nat, k = gs.length - i ∧ i ≤ gs.length ∧
    st = ⟨[(0, .pd (.slice (rows AGoal.pd gs))), (1, u64 n), (4, .ptr 4 0), (6, .own 3 1 (ints ((gs.take i).map (·.weight))) 23), (7, int i)], [(4, [int 0, str ⟨#[]⟩, str ⟨#[]⟩, int 0, int 0, bln false])], [], .no⟩) gs.length _
    ?_ ⟨0, rfl, by omega, rfl⟩ ?_
  · exact Weak.own1 6 23 3 1 (by kernel_rfl) (by decide) rfl (by simp [lessL, lk, St.purge, St.put, D.purge, rows]) (by simp [lessL, lk, St.purge, D.purges, D.purge]) (by simp [lessL]) rfl
  rintro k st ⟨i, rfl, hi, rfl⟩
  have hi1 : IntKind.i64.wrap ((i : Int) + 1) = ((i + 1 : Nat) : Int) := by rw [IntWalk.i64_in _ (by omega)]; omega
  by_cases hlt : i < gs.length
  · obtain ⟨g, hg⟩ := at_lt hlt
    have h1 : (i : Int) < (gs.length : Int) := by omega
    simp only [go_sem, contS_seq, reduceIte, reduceCtorEq, Nat.reduceEqDiff, Nat.reduceAdd, Nat.reduceBEq, Nat.reduceBNe, Int.reduceLE, Int.reduceLT, Int.reduceToNat, Int.reduceEq, Nat.reduceLeDiff, Nat.reduceLT, Nat.reducePow, Nat.reduceDiv, Nat.reduceMod, rows_len, rows_get hg, h1, hi1]
    have e1 : ints ((gs.take i).map (·.weight)) ++ [[pInt g.weight]] = ints ((gs.take (i + 1)).map (·.weight)) := by
      rw [take_at hg, List.map_append]; exact ints_one _ _
    rw [e1]
    refine ⟨by simp, by unfold maxLen; simp; omega, by simp; omega, gs.length - (i + 1), _, by omega, ?_, i + 1, rfl, by omega, rfl⟩
    exact Weak.less (by simp [lessL, lk]) (by simp [lessL, lk]) (by simp [lessL, lk]) rfl
  · have h1 : ¬ (i : Int) < (gs.length : Int) := by omega
    simp only [go_sem, contS_seq, reduceIte, reduceCtorEq, Nat.reduceEqDiff, Nat.reduceAdd, Nat.reduceBEq, Nat.reduceBNe, Int.reduceLE, Int.reduceLT, Int.reduceToNat, Int.reduceEq, Nat.reduceLeDiff, Nat.reduceLT, Nat.reducePow, Nat.reduceDiv, Nat.reduceMod, rows_len, h1, List.take_of_length_le (show gs.length ≤ i by omega)]
    refine (ref_Choose2 (gs.map (·.weight)) n hn (by simpa using hl)).callW (enters_of Tryz.func17 rfl rfl) _ rfl rfl ?_
    rintro d rfl
    unfold pick
    cases hch : choose (gs.map (·.weight)) n with
    | none =>
      simp only [placeD, go_sem, contS_seq, reduceIte, reduceCtorEq, Nat.reduceEqDiff, Nat.reduceAdd, Nat.reduceBEq, Nat.reduceBNe, Int.reduceLE, Int.reduceLT, Int.reduceToNat, Int.reduceEq, Nat.reduceLeDiff, Nat.reduceLT, Nat.reducePow, Nat.reduceDiv, Nat.reduceMod]
      simp only [retK, fullK, iterK, resD, resA, AOp.ex, St.ev, Option.map_some, Option.bind_some, St.get, lk, reduceIte, Nat.reduceEqDiff, Option.getD_some, oneD, List.getElem?_cons_zero, List.getElem?_cons_succ, List.drop_zero, List.drop_succ_cons, List.take_succ_cons, List.take_zero, List.length_cons, List.length_nil, Nat.zero_add, Nat.reduceAdd, Nat.le_refl, Nat.reduceLeDiff, D.pub, D.pubs, ret_z14]
      exact ⟨_, rfl, rfl, rfl⟩
    | some i =>
      have hi := choose_lt hch
      rw [List.length_map] at hi
      obtain ⟨g, hg⟩ := at_lt hi
      simp only [placeD, go_sem, contS_seq, reduceIte, reduceCtorEq, Nat.reduceEqDiff, Nat.reduceAdd, Nat.reduceBEq, Nat.reduceBNe, Int.reduceLE, Int.reduceLT, Int.reduceToNat, Int.reduceEq, Nat.reduceLeDiff, Nat.reduceLT, Nat.reducePow, Nat.reduceDiv, Nat.reduceMod, rows_get hg]
      refine ⟨fun hb => ?_, fun hb => ?_⟩
      · simp only [retK, fullK, iterK, resD, resA, AOp.ex, St.ev, Option.map_some, Option.bind_some, St.get, lk, reduceIte, Nat.reduceEqDiff, Option.getD_some, oneD, List.getElem?_cons_zero, List.getElem?_cons_succ, List.drop_zero, List.drop_succ_cons, List.take_succ_cons, List.take_zero, List.length_cons, List.length_nil, Nat.zero_add, Nat.reduceAdd, Nat.le_refl, Nat.reduceLeDiff, D.pub, D.pubs, ret_z14, hg, hb]
        exact ⟨_, rfl, rfl, rfl⟩
      · simp only [retK, fullK, iterK, resD, resA, AOp.ex, St.ev, Option.map_some, Option.bind_some, St.get, lk, reduceIte, Nat.reduceEqDiff, Option.getD_some, oneD, List.getElem?_cons_zero, List.getElem?_cons_succ, List.drop_zero, List.drop_succ_cons, List.take_succ_cons, List.take_zero, List.length_cons, List.length_nil, Nat.zero_add, Nat.reduceAdd, Nat.le_refl, Nat.reduceLeDiff, D.pub, D.pubs, ret_z14, hg, hb]
        exact ⟨_, rfl, rfl, by simp [hb, D.pub, D.pubs]⟩


def wantAt (i : Nat) : Nat := if i = 0 ∨ i = 4 then 0 else 2

theorem choose_eg : ∀ i, i < 5 → choose [1, 0, 3] i = some (wantAt i) := by decide

theorem want_eg : ∀ i, i < 5 → ([[pInt 0], [pInt 2], [pInt 2], [pInt 2], [pInt 0]] : List (List PD))[i]? = some [pInt (wantAt i)] := by
  intro i hi
  match i, hi with
  | 0, _ => rfl
  | 1, _ => rfl
  | 2, _ => rfl
  | 3, _ => rfl
  | 4, _ => rfl

def aRoute : AObj := ⟨⟨6, ⟨#[119, 101, 98]⟩, ⟨#[114]⟩⟩, false, [], [], ⟨#[]⟩, [], [], [], [], [], []⟩

set_option maxRecDepth 100000 in
theorem awake14 : Pure Tryz.prog 11 [] (fun d => d = bln true) := by
  refine pure_of_run follows an_z18 Tryz.func11 rfl ok_z18 dst_z18 (by simp [Tryz.ntmps11]) ?_
  rw [run_start]
  simp only [ac_z18, go_sem, contS_seq, reduceIte, reduceCtorEq, Nat.reduceEqDiff, Nat.reduceAdd, Nat.reduceBEq, Nat.reduceBNe, Int.reduceLE, Int.reduceLT, Int.reduceToNat, Int.reduceEq, Nat.reduceLeDiff, Nat.reduceLT, Nat.reducePow, Nat.reduceDiv, Nat.reduceMod]
  refine loopS (fun k st => ∃ i : Nat, k = 5 - i ∧ i ≤ 5 ∧
    st = ⟨[(6, .own 3 1 [[pInt 0], [pInt 2], [pInt 2], [pInt 2], [pInt 0]] 6), (7, int 5), (8, int i)], [], [], .no⟩) 5 _
    ?_ ⟨0, rfl, by omega, rfl⟩ ?_
  · exact Weak.less (by simp [lessL, lk]) (by simp [lessL, lk]) (by simp [lessL, lk]) rfl
  rintro k st ⟨i, rfl, hi, rfl⟩
  have hi1 : IntKind.i64.wrap ((i : Int) + 1) = ((i + 1 : Nat) : Int) := by rw [IntWalk.i64_in _ (by omega)]; omega
  by_cases hlt : i < 5
  · have h1 : (i : Int) < 5 := by omega
    have hu : IntKind.u64.wrap (i : Int) = (i : Int) := IntWalk.u64_in _ (by omega)
    simp only [go_sem, contS_seq, reduceIte, reduceCtorEq, Nat.reduceEqDiff, Nat.reduceAdd, Nat.reduceBEq, Nat.reduceBNe, Int.reduceLE, Int.reduceLT, Int.reduceToNat, Int.reduceEq, Nat.reduceLeDiff, Nat.reduceLT, Nat.reducePow, Nat.reduceDiv, Nat.reduceMod, h1, hi1, hu, want_eg i hlt]
    refine (back_Choose [1, 0, 3] i (by omega) (by simp)).callW (enters_of Tryz.func10 rfl rfl) _ rfl rfl ?_
    rintro d rfl
    simp only [choose_eg i hlt, placeD, go_sem, contS_seq, reduceIte, reduceCtorEq, Nat.reduceEqDiff, Nat.reduceAdd, Nat.reduceBEq, Nat.reduceBNe, Int.reduceLE, Int.reduceLT, Int.reduceToNat, Int.reduceEq, Nat.reduceLeDiff, Nat.reduceLT, Nat.reducePow, Nat.reduceDiv, Nat.reduceMod, hi1]
    refine ⟨5 - (i + 1), _, by omega, ?_, i + 1, rfl, by omega, rfl⟩
    exact Weak.less (by simp [lessL, lk]) (by simp [lessL, lk]) (by simp [lessL, lk]) rfl
  · have h1 : ¬ (i : Int) < 5 := by omega
    simp only [go_sem, contS_seq, reduceIte, reduceCtorEq, Nat.reduceEqDiff, Nat.reduceAdd, Nat.reduceBEq, Nat.reduceBNe, Int.reduceLE, Int.reduceLT, Int.reduceToNat, Int.reduceEq, Nat.reduceLeDiff, Nat.reduceLT, Nat.reducePow, Nat.reduceDiv, Nat.reduceMod, h1]
    refine (wrong_nil aRoute ⟨⟨4, ⟨#[]⟩, ⟨#[115]⟩⟩, 0, 0⟩ ⟨4, ⟨#[119, 101, 98]⟩, ⟨#[115]⟩⟩ (by simp [near, aRoute]) (.inl (by decide))).callW (enters_of Tryz.func15 rfl rfl) _ rfl rfl ?_
    rintro d rfl
    simp only [go_sem, contS_seq, reduceIte, reduceCtorEq, Nat.reduceEqDiff, Nat.reduceAdd, Nat.reduceBEq, Nat.reduceBNe, Int.reduceLE, Int.reduceLT, Int.reduceToNat, Int.reduceEq, Nat.reduceLeDiff, Nat.reduceLT, Nat.reducePow, Nat.reduceDiv, Nat.reduceMod, badKind]
    trace_state
    refine (wrong_nil aRoute ⟨⟨3, ⟨#[97, 112, 112]⟩, ⟨#[115]⟩⟩, 0, 0⟩ ⟨3, ⟨#[97, 112, 112]⟩, ⟨#[115]⟩⟩ (by simp [near]) (.inr (by decide))).callW (enters_of Tryz.func15 rfl rfl) _ rfl rfl ?_
    rintro d rfl
    simp only [go_sem, contS_seq, reduceIte, reduceCtorEq, Nat.reduceEqDiff, Nat.reduceAdd, Nat.reduceBEq, Nat.reduceBNe, Int.reduceLE, Int.reduceLT, Int.reduceToNat, Int.reduceEq, Nat.reduceLeDiff, Nat.reduceLT, Nat.reducePow, Nat.reduceDiv, Nat.reduceMod, notLet]
    simp only [retK, fullK, iterK, resD, resA, AOp.ex, St.ev, Option.map_some, Option.bind_some, St.get, lk, reduceIte, Nat.reduceEqDiff, Option.getD_some, oneD, List.getElem?_cons_zero, List.getElem?_cons_succ, List.drop_zero, List.drop_succ_cons, List.take_succ_cons, List.take_zero, List.length_cons, List.length_nil, Nat.zero_add, Nat.reduceAdd, Nat.le_refl, Nat.reduceLeDiff, D.pub, D.pubs, Tryz.results11]
    exact ⟨_, rfl, rfl, rfl⟩

end Go.Proofs.YtbpgebfejebmlaaGreatDoor

namespace Go.Proofs.YtbpgebfejebmlaaGreatDoor
open Go

/-- toll/tolllaw14.BackShares -/
def an_z21 : Ann := ⟨[(0, [0, 1]), (1, [0, 1, 5]), (2, [0, 1, 5, 6]), (3, [0, 1, 5, 6, 7]), (4, [0, 1, 5, 6, 7, 22]), (5, [0, 1, 5, 6, 7]), (6, [0, 1, 5, 6, 7]), (7, [0, 1, 5, 6, 7]), (8, [1, 5, 6, 43]), (9, [9]), (10, [4]), (11, [1, 5, 6, 10]), (12, [1, 5, 6, 10, 11]), (13, [1, 5, 6, 10, 11, 59]), (14, [1, 5, 6, 10, 11]), (15, [1, 5, 6, 10, 11, 12, 13]), (16, [1, 5, 6, 10, 11, 12, 73]), (17, [4]), (18, [1, 5, 6, 10, 11]), (19, [5, 10, 14]), (20, [5, 10, 14, 81]), (21, [5, 10, 14]), (22, [5, 10, 14, 91]), (23, [4]), (24, [4])], [(22, ([0, 0, 3, 0, 0, 24, 56, 127], .take 0 (.take 1 (.take 2 (.take 3 (.take 4 (.take 5 (.take 6 (.take 7 (.done))))))))))], []⟩
def ac_z21 : AC := (.seq (.region [.mk none (some 4) (.mv (.const (.bool false)))] (some [0, 1])) (.seq (.region [.mk none (some 5) (.mv (.const (.slice none 0 0)))] (some [0, 1, 5])) (.seq (.region [.mk none (some 6) (.mv (.const (.int .i64 0)))] (some [0, 1, 5, 6])) (.seq (.seq (.region [.mk none (some 7) (.mv (.const (.int .i64 0)))] (some [0, 1, 5, 6, 7])) (.block 0 (.loop (.seq (.seq (.region [.mk none (some 15) (.mv (.tmp 7)), .mk none (some 16) (.mv (.tmp 0)), .mk none (some 17) (.len (.tmp 16) false), .mk none (some 18) (.bin .lss (.tmp 15) (.tmp 17)), .mk none (some 19) (.mv (.tmp 18)), .mk (some (19, true)) (some 20) (.mv (.tmp 7)), .mk (some (19, true)) (some 21) (.bin .lss (.tmp 20) (.const (.int .i64 6))), .mk none (some 22) (.pick (.tmp 19) (.tmp 21) (.const (.bool false)))] (some [0, 1, 5, 6, 7, 22])) (.cond (.tmp 22) .skip (.exit 0))) (.seq (.block 1 (.seq (.region [.mk none (some 25) (.mv (.tmp 5)), .mk none (some 26) (.mv (.tmp 0)), .mk none (some 27) (.mv (.tmp 7)), .mk none (some 28) (.idxA 1 (.tmp 26) (.tmp 27)), .mk none (some 29) (.load none (.tmp 28)), .mk none (some 30) (.bin .rem (.tmp 29) (.const (.int .u8 20))), .mk none (some 31) (.conv .i64 (.tmp 30)), .mk none (some 32) (.bslice 3 1 [.tmp 31]), .mk none (some 33) (.append 3 1 8 (.tmp 25) (.tmp 32)), .mk none (some 5) (.mv (.tmp 33))] (some [0, 1, 5, 6, 7])) (.region [.mk none (some 34) (.mv (.tmp 6)), .mk none (some 35) (.mv (.tmp 0)), .mk none (some 36) (.mv (.tmp 7)), .mk none (some 37) (.idxA 1 (.tmp 35) (.tmp 36)), .mk none (some 38) (.load none (.tmp 37)), .mk none (some 39) (.bin .rem (.tmp 38) (.const (.int .u8 20))), .mk none (some 40) (.conv .i64 (.tmp 39)), .mk none (some 41) (.bin .add (.tmp 34) (.tmp 40)), .mk none (some 6) (.mv (.tmp 41))] (some [0, 1, 5, 6, 7])))) (.region [.mk none (some 23) (.mv (.tmp 7)), .mk none (some 24) (.bin .add (.tmp 23) (.const (.int .i64 1))), .mk none (some 7) (.mv (.tmp 24))] (some [0, 1, 5, 6, 7]))))))) (.seq (.seq (.region [.mk none (some 42) (.mv (.tmp 6)), .mk none (some 43) (.bin .eql (.tmp 42) (.const (.int .i64 0)))] (some [1, 5, 6, 43])) (.cond (.tmp 43) (.seq (.region [.mk none (some 45) (.mv (.tmp 5)), .mk none (some 46) (.mv (.tmp 1)), .mk none (some 47) (.conv .u64 (.tmp 46)), .mk none (some 48) (.call 10 [.tmp 45, .tmp 47]), .mk none (some 44) (.mv (.tmp 48)), .mk none (some 49) (.extract (.tmp 44) 0), .mk none (some 50) (.extract (.tmp 44) 1), .mk none (some 8) (.mv (.tmp 49)), .mk none (some 9) (.mv (.tmp 50))] (some [9])) (.seq (.region [.mk none (some 51) (.mv (.tmp 9)), .mk none (some 52) (.un .not (.tmp 51)), .mk none (some 53) (.mv (.tmp 52)), .mk (some (53, true)) (some 54) (.call 11 []), .mk none (some 55) (.pick (.tmp 53) (.tmp 54) (.const (.bool false))), .mk none (some 4) (.mv (.tmp 55))] (some [4])) .ret)) .skip)) (.seq (.region [.mk none (some 56) .mkmap, .mk none (some 10) (.mv (.tmp 56))] (some [1, 5, 6, 10])) (.seq (.seq (.region [.mk none (some 11) (.mv (.const (.int .i64 0)))] (some [1, 5, 6, 10, 11])) (.block 2 (.loop (.seq (.seq (.region [.mk none (some 57) (.mv (.tmp 11)), .mk none (some 58) (.mv (.tmp 6)), .mk none (some 59) (.bin .lss (.tmp 57) (.tmp 58))] (some [1, 5, 6, 10, 11, 59])) (.cond (.tmp 59) .skip (.exit 2))) (.seq (.block 3 (.seq (.region [.mk none (some 63) (.mv (.tmp 5)), .mk none (some 64) (.mv (.tmp 1)), .mk none (some 65) (.conv .u64 (.tmp 64)), .mk none (some 66) (.mv (.tmp 11)), .mk none (some 67) (.conv .u64 (.tmp 66)), .mk none (some 68) (.bin .add (.tmp 65) (.tmp 67)), .mk none (some 69) (.call 10 [.tmp 63, .tmp 68]), .mk none (some 62) (.mv (.tmp 69)), .mk none (some 70) (.extract (.tmp 62) 0), .mk none (some 71) (.extract (.tmp 62) 1), .mk none (some 12) (.mv (.tmp 70)), .mk none (some 13) (.mv (.tmp 71))] (some [1, 5, 6, 10, 11, 12, 13])) (.seq (.seq (.region [.mk none (some 72) (.mv (.tmp 13)), .mk none (some 73) (.un .not (.tmp 72))] (some [1, 5, 6, 10, 11, 12, 73])) (.cond (.tmp 73) (.seq (.region [.mk none (some 4) (.mv (.const (.bool false)))] (some [4])) .ret) .skip)) (.region [.mk none (some 74) (.mv (.tmp 10)), .mk none (some 75) (.mv (.tmp 12)), .mk none (some 76) (.mget (.int .i64 0) (.tmp 74) (.tmp 75)), .mk none (some 77) (.bin .add (.tmp 76) (.const (.int .i64 1))), .mk none none (.mset (.tmp 74) (.tmp 75) (.tmp 77))] (some [1, 5, 6, 10, 11]))))) (.region [.mk none (some 60) (.mv (.tmp 11)), .mk none (some 61) (.bin .add (.tmp 60) (.const (.int .i64 1))), .mk none (some 11) (.mv (.tmp 61))] (some [1, 5, 6, 10, 11]))))))) (.seq (.seq (.region [.mk none (some 14) (.mv (.const (.int .i64 0)))] (some [5, 10, 14])) (.block 4 (.loop (.seq (.seq (.region [.mk none (some 78) (.mv (.tmp 14)), .mk none (some 79) (.mv (.tmp 5)), .mk none (some 80) (.len (.tmp 79) false), .mk none (some 81) (.bin .lss (.tmp 78) (.tmp 80))] (some [5, 10, 14, 81])) (.cond (.tmp 81) .skip (.exit 4))) (.seq (.block 5 (.seq (.draw [.mk none (some 84) (.mv (.tmp 10)), .mk none (some 85) (.mv (.tmp 14)), .mk none (some 86) (.mget (.int .i64 0) (.tmp 84) (.tmp 85)), .mk none (some 87) (.mv (.tmp 5)), .mk none (some 88) (.mv (.tmp 14)), .mk none (some 89) (.idxA 1 (.tmp 87) (.tmp 88)), .mk none (some 90) (.load none (.tmp 89)), .mk none (some 91) (.bin .neq (.tmp 86) (.tmp 90))] [0, 0, 3, 0, 0, 24, 56, 127] (.take 0 (.take 1 (.take 2 (.take 3 (.take 4 (.take 5 (.take 6 (.take 7 .done)))))))) (some [5, 10, 14, 91])) (.cond (.tmp 91) (.seq (.region [.mk none (some 4) (.mv (.const (.bool false)))] (some [4])) .ret) .skip))) (.region [.mk none (some 82) (.mv (.tmp 14)), .mk none (some 83) (.bin .add (.tmp 82) (.const (.int .i64 1))), .mk none (some 14) (.mv (.tmp 83))] (some [5, 10, 14]))))))) (.seq (.region [.mk none (some 92) (.call 11 []), .mk none (some 4) (.mv (.tmp 92))] (some [4])) .ret)))))))))
theorem ok_z21 : compC Tryz.prog an_z21 (Tryz.f3.body.getD .skip) = some ac_z21 := by kernel_rfl
theorem dst_z21 : ac_z21.dstOK Tryz.f3.ntmps (fun i => decide (i < Tryz.f3.ntmps)) = true := by kernel_rfl

end Go.Proofs.YtbpgebfejebmlaaGreatDoor

namespace Go.Proofs.YtbpgebfejebmlaaGreatDoor
open Go Go.RowKit
set_option linter.unusedSimpArgs false
set_option linter.unusedVariables false
set_option maxRecDepth 100000

/-- How many of `n` numbers, from `a` on, are so. -/
def cnt (p : Nat → Bool) (a : Nat) : Nat → Nat
  | 0 => 0
  | n + 1 => cnt p a n + (if p (a + n) = true then 1 else 0)

theorem cnt_shift (p : Nat → Bool) (a : Nat) : ∀ n, cnt p (a + 1) n + (if p a = true then 1 else 0) = cnt p a (n + 1)
  | 0 => by simp [cnt]
  | n + 1 => by
    have ih := cnt_shift p a n
    rw [cnt, cnt, ← ih, show a + 1 + n = a + (n + 1) by omega]
    omega

theorem cnt_add (p : Nat → Bool) (a n : Nat) : ∀ m, cnt p a (n + m) = cnt p a n + cnt p (a + n) m
  | 0 => by simp [cnt]
  | m + 1 => by
    have ih := cnt_add p a n m
    rw [show n + (m + 1) = n + m + 1 by omega, cnt, cnt, ih, show a + (n + m) = a + n + m by omega]
    omega

theorem cnt_congr {p q : Nat → Bool} {a b : Nat} : ∀ {n : Nat}, (∀ m, m < n → p (a + m) = q (b + m)) → cnt p a n = cnt q b n
  | 0, _ => rfl
  | n + 1, h => by rw [cnt, cnt, cnt_congr (fun m hm => h m (by omega)), h n (by omega)]

theorem cnt_const {p : Nat → Bool} {a : Nat} {c : Bool} : ∀ {n : Nat}, (∀ m, m < n → p (a + m) = c) → cnt p a n = if c = true then n else 0
  | 0, _ => by simp [cnt]
  | n + 1, h => by
    rw [cnt, cnt_const (fun m hm => h m (by omega)), h n (by omega)]
    cases c <;> simp

theorem cnt_le (p : Nat → Bool) (a : Nat) : ∀ n, cnt p a n ≤ n
  | 0 => Nat.le_refl _
  | n + 1 => by
    have := cnt_le p a n
    rw [cnt]
    split <;> omega

theorem cnt_period {p : Nat → Bool} {T : Nat} (h : ∀ x, p (x + T) = p x) : ∀ a, cnt p a T = cnt p 0 T
  | 0 => rfl
  | a + 1 => by
    have h1 := cnt_shift p a T
    rw [cnt, h a] at h1
    rw [← cnt_period h a]
    omega

theorem pos_cnt (j : Nat) : ∀ (ws : List Int) (i : Nat), cnt (fun r => pos i ws (r : Int) == some j) 0 (total ws).toNat = if i ≤ j then (heavy (ws[j - i]?.getD 0)).toNat else 0
  | [], i => by
    have h0 : (heavy 0).toNat = 0 := rfl
    simp [total, cnt, h0]
  | w :: ws, i => by
    have h1 := heavy_bd w
    have h2 := total_bd ws
    have ih := pos_cnt j ws (i + 1)
    have e : (total (w :: ws)).toNat = (heavy w).toNat + (total ws).toNat := by simp only [total]; omega
    rw [e, cnt_add]
    have a1 : cnt (fun r => pos i (w :: ws) (r : Int) == some j) 0 (heavy w).toNat = if (some i == some j) = true then (heavy w).toNat else 0 := by
      refine cnt_const fun m hm => ?_
      simp only [pos, Nat.zero_add]
      rw [if_pos (by omega)]
    have a2 : cnt (fun r => pos i (w :: ws) (r : Int) == some j) (0 + (heavy w).toNat) (total ws).toNat = cnt (fun r => pos (i + 1) ws (r : Int) == some j) 0 (total ws).toNat := by
      refine cnt_congr fun m _ => ?_
      simp only [pos, Nat.zero_add]
      rw [if_neg (by omega), show (((heavy w).toNat + m : Nat) : Int) - heavy w = (m : Int) by omega]
    rw [a1, a2, ih]
    by_cases hij : i = j
    · subst hij
      rw [if_neg (show ¬ i + 1 ≤ i by omega)]
      simp
    · by_cases hlt : i < j
      · rw [if_neg (by simpa using hij), if_pos (by omega), if_pos (by omega), show j - i = (j - (i + 1)) + 1 by omega, List.getElem?_cons_succ, Nat.zero_add]
      · rw [if_neg (by simpa using hij), if_neg (by omega), if_neg (by omega)]

theorem pos_some : ∀ (ws : List Int) (i : Nat) (m : Int), 0 ≤ m → m < total ws → ∃ j, pos i ws m = some j
  | [], i, m, h0, h => by simp only [total] at h; omega
  | w :: ws, i, m, h0, h => by
    simp only [pos]
    split
    · exact ⟨i, rfl⟩
    · exact pos_some ws (i + 1) _ (by omega) (by simp only [total] at h; omega)

theorem choose_some (ws : List Int) (n : Nat) (h : total ws ≠ 0) : ∃ j, choose ws n = some j := by
  have hb := total_bd ws
  simp only [choose, if_neg h]
  exact pos_some ws 0 _ (Int.emod_nonneg _ h) (Int.emod_lt_of_pos _ (by omega))

/-- Each its share. -/
theorem shares (ws : List Int) (a j : Nat) (h : total ws ≠ 0) : cnt (fun n => choose ws n == some j) a (total ws).toNat = (heavy (ws[j]?.getD 0)).toNat := by
  have hb := total_bd ws
  have hp : ∀ x : Nat, (choose ws (x + (total ws).toNat) == some j) = (choose ws x == some j) := fun x => by
    simp only [choose, if_neg h]
    rw [show (((x + (total ws).toNat : Nat) : Int)) = (x : Int) + total ws by omega, Int.add_emod_right]
  rw [cnt_period hp a]
  have := pos_cnt j ws 0
  rw [if_pos (Nat.zero_le j), Nat.sub_zero] at this
  rw [← this]
  refine cnt_congr fun m hm => ?_
  simp only [choose, if_neg h, Nat.zero_add]
  rw [Int.emod_eq_of_lt (by omega) (by omega)]

/-! The map. -/

def ent (l : List (Int × Int)) : List (Value × Value) := l.map fun p => (.int .i64 p.1, .int .i64 p.2)

def atM (k : Int) : List (Int × Int) → Nat → Option (Nat × Int)
  | [], _ => none
  | (a, v) :: r, i => if k = a then some (i, v) else atM k r (i + 1)

theorem findM_ent (k : Int) : ∀ (l : List (Int × Int)) (i : Nat), findM .i64 k (ent l) i = some ((atM k l i).map fun p => (p.1, Value.int .i64 p.2))
  | [], _ => rfl
  | (a, v) :: r, i => by
    have ih := findM_ent k r (i + 1)
    simp only [ent, List.map_cons] at ih ⊢
    simp only [findM, atM, if_true]
    split
    · rfl
    · exact ih

def look (k : Int) (l : List (Int × Int)) : Int := match atM k l 0 with
  | some p => p.2
  | none => 0

def bump (k : Int) (l : List (Int × Int)) : List (Int × Int) := match atM k l 0 with
  | some p => l.set p.1 (k, p.2 + 1)
  | none => l ++ [(k, 1)]

theorem atM_from (k : Int) : ∀ (l : List (Int × Int)) (i : Nat), atM k l (i + 1) = (atM k l i).map fun p => (p.1 + 1, p.2)
  | [], _ => rfl
  | (a, v) :: r, i => by
    simp only [atM]
    split
    · rfl
    · exact atM_from k r (i + 1)

theorem look_cons (k a v : Int) (r : List (Int × Int)) : look k ((a, v) :: r) = if k = a then v else look k r := by
  unfold look
  simp only [atM]
  by_cases h : k = a
  · simp only [if_pos h]
  · simp only [if_neg h, atM_from]
    cases atM k r 0 <;> rfl

theorem bump_cons (k a v : Int) (r : List (Int × Int)) : bump k ((a, v) :: r) = if k = a then (k, v + 1) :: r else (a, v) :: bump k r := by
  unfold bump
  simp only [atM]
  by_cases h : k = a
  · simp only [if_pos h, List.set_cons_zero]
  · simp only [if_neg h, atM_from]
    cases atM k r 0 <;> rfl

theorem look_bump (k j : Int) : ∀ l : List (Int × Int), look j (bump k l) = look j l + if j = k then 1 else 0
  | [] => by
    show look j ([] ++ [(k, 1)]) = _
    rw [List.nil_append, look_cons]
    split <;> rfl
  | (a, v) :: r => by
    rw [bump_cons, look_cons]
    by_cases h : k = a
    · rw [if_pos h, look_cons]
      subst h
      by_cases hj : j = k <;> simp [hj]
    · rw [if_neg h, look_cons, look_bump k j r]
      by_cases hj : j = a
      · subst hj
        simp [show ¬ j = k from fun e => h e.symm]
      · simp [hj]

theorem bump_ent (k : Int) (l : List (Int × Int)) : putM (.int .i64 k) (.int .i64 (look k l + 1)) ((atM k l 0).map fun p => (p.1, Value.int .i64 p.2)) (ent l) = ent (bump k l) := by
  unfold look bump
  cases atM k l 0 with
  | none => simp [putM, ent]
  | some p => simp [putM, ent, List.map_set]

/-! The walk. -/

theorem succ64 {i : Nat} (h : i < 1000000000) : IntKind.i64.wrap ((i : Int) + 1) = ((i + 1 : Nat) : Int) := by rw [IntWalk.i64_in _ (by omega)]; omega
theorem map_step {α β : Type} {f : β → List PD} {g : α → β} {l : List α} {i : Nat} {x : α} (h : l[i]? = some x) : rows f ((l.take i).map g) ++ [f (g x)] = rows f ((l.take (i + 1)).map g) := by
  rw [take_at h, List.map_append]; exact rows_one _ (g x)
theorem map_end {α β : Type} {g : α → β} {l : List α} {i n : Nat} (h : i ≤ n) (hl : i ≤ l.length) (he : ¬ (i < l.length ∧ i < n)) : (l.take i).map g = (l.take n).map g := by
  rcases Nat.lt_or_ge i n with h6 | h6
  · rw [List.take_of_length_le (by omega), List.take_of_length_le (by omega)]
  · rw [show i = n by omega]

abbrev cU8 (n : Int) : List PD := [.raw (.int .u8 n)]
def share (x : Int) : Int := x % 20
def shrs (l : List Int) : List Int := (l.take 6).map share
def sumL : List Int → Int
  | [] => 0
  | x :: l => x + sumL l

theorem sumL_append (l m : List Int) : sumL (l ++ m) = sumL l + sumL m := by
  induction l with
  | nil => simp [sumL]
  | cons x l ih => simp only [List.cons_append, sumL, ih]; omega

theorem share_bd (x : Int) : 0 ≤ share x ∧ share x < 20 := by unfold share; omega

theorem sum_total : ∀ l : List Int, sumL (l.map share) = total (l.map share)
  | [] => rfl
  | x :: l => by
    have := share_bd x
    simp only [List.map_cons, sumL, total, sum_total l, heavy]
    omega

set_option maxHeartbeats 1000000 in
theorem law_Shares (l : List Int) (hl : ∀ x ∈ l, 0 ≤ x ∧ x < 256) (f : Nat) (hf : f < 2 ^ 32) : Pure Tryz.prog 3 [.pd (.slice (rows cU8 l)), .pd (.raw (.int .u32 f))] (fun d => d = bln true) := by
  refine pure_of_run follows an_z21 Tryz.func3 rfl ok_z21 dst_z21 (by simp [Tryz.ntmps3]) ?_
  rw [run_start]
  simp only [ac_z21, go_sem, contS_seq, reduceIte, reduceCtorEq, Nat.reduceEqDiff, Nat.reduceAdd, Nat.reduceBEq, Nat.reduceBNe, Int.reduceLE, Int.reduceLT, Int.reduceToNat, Int.reduceEq, Nat.reduceLeDiff, Nat.reduceLT, Nat.reducePow, Nat.reduceDiv, Nat.reduceMod, rows_len]
  refine loopS (fun k st => ∃ i : Nat, k = 6 - i ∧ i ≤ 6 ∧ i ≤ l.length ∧
    st = ⟨[(0, .pd (.slice (rows cU8 l))), (1, .pd (.raw (.int .u32 f))), (5, .own 3 1 (ints ((l.take i).map share)) 33), (6, int (sumL ((l.take i).map share))), (7, int i)], [], [], .no⟩) 6 _
    ?_ ⟨0, rfl, by omega, by omega, rfl⟩ ?_
  · exact Weak.own1 5 33 3 1 (by kernel_rfl) (by decide) rfl (by simp [lessL, lk, St.purge, St.put, D.purge, rows, sumL]) (by simp [lessL, lk, St.purge, D.purges, D.purge]) (by simp [lessL]) rfl
  rintro k st ⟨i, rfl, hi6, hi, rfl⟩
  have hw := succ64 (show i < 1000000000 by omega)
  by_cases hlt : i < l.length ∧ i < 6
  · obtain ⟨x, hx⟩ := at_lt hlt.1
    have h1 : ((i : Int) < (l.length : Int)) = True := eq_true (by omega)
    have h2 : ((i : Int) < 6) = True := eq_true (by omega)
    simp only [go_sem, contS_seq, reduceIte, reduceCtorEq, Nat.reduceEqDiff, Nat.reduceAdd, Nat.reduceBEq, Nat.reduceBNe, Int.reduceLE, Int.reduceLT, Int.reduceToNat, Int.reduceEq, Nat.reduceLeDiff, Nat.reduceLT, Nat.reducePow, Nat.reduceDiv, Nat.reduceMod, rows_len, rows_get hx, h1, h2]
    obtain ⟨hx0, hx1⟩ := hl x (List.mem_of_getElem? hx)
    have hs : IntKind.i64.wrap (x.tmod 20) = share x := by
      have := share_bd x
      rw [Int.tmod_eq_emod_of_nonneg hx0]
      exact IntWalk.i64_in (share x) (by omega)
    have hmap : (l.take (i + 1)).map share = (l.take i).map share ++ [share x] := by rw [take_at hx, List.map_append]; rfl
    have hsum : sumL ((l.take (i + 1)).map share) = sumL ((l.take i).map share) + share x := by rw [hmap, sumL_append]; simp [sumL]
    have hb := total_bd ((l.take i).map share)
    rw [← sum_total] at hb
    have hl' : ((l.take i).map share).length ≤ i := by simp; omega
    have hws : IntKind.i64.wrap (sumL ((l.take i).map share) + share x) = sumL ((l.take (i + 1)).map share) := by
      have := share_bd x
      rw [hsum]; exact IntWalk.i64_in _ (by omega)
    have e1 : ints ((l.take i).map share) ++ [[PD.raw (Value.int IntKind.i64 (share x))]] = ints ((l.take (i + 1)).map share) := map_step hx
    simp only [hs, hws, hw, e1]
    refine ⟨by simp, by unfold maxLen; omega, by omega, 6 - (i + 1), _, by omega, ?_, i + 1, rfl, by omega, by omega, rfl⟩
    exact Weak.less (by simp [lessL, lk]) (by simp [lessL, lk]) (by simp [lessL, lk]) rfl
  have h3 := map_end (g := share) hi6 hi hlt
  rw [h3]
  have hcond : (i < l.length ∧ ((i : Int) < (l.length : Int)) = True ∧ ((i : Int) < 6) = False) ∨ ((i : Int) < (l.length : Int)) = False := by
    by_cases h : i < l.length
    · exact .inl ⟨h, eq_true (by omega), eq_false (by omega)⟩
    · exact .inr (eq_false (by omega))
  obtain ⟨ws, hws⟩ : ∃ ws, (l.take 6).map share = ws := ⟨_, rfl⟩
  have hlen : ws.length ≤ 6 := by rw [← hws]; simp; omega
  have htot : sumL ws = total ws := by rw [← hws]; exact sum_total _
  have hb := total_bd ws
  have hhv : ∀ (j : Nat) (x : Int), ws[j]? = some x → heavy x = x ∧ 0 ≤ x := fun j x hx => by
    rw [← hws, List.getElem?_map] at hx
    obtain ⟨y, _, rfl⟩ := Option.map_eq_some_iff.1 hx
    have := share_bd y
    exact ⟨by unfold heavy; omega, this.1⟩
  have hfu : IntKind.u64.wrap (f : Int) = f := IntWalk.u64_in _ (by omega)
  rw [hws, htot]
  rcases hcond with ⟨_, h1, h2⟩ | h1
  all_goals
    first | simp only [go_sem, contS_seq, reduceIte, reduceCtorEq, Nat.reduceEqDiff, Nat.reduceAdd, Nat.reduceBEq, Nat.reduceBNe, Int.reduceLE, Int.reduceLT, Int.reduceToNat, Int.reduceEq, Nat.reduceLeDiff, Nat.reduceLT, Nat.reducePow, Nat.reduceDiv, Nat.reduceMod, rows_len, h1, h2] | simp only [go_sem, contS_seq, reduceIte, reduceCtorEq, Nat.reduceEqDiff, Nat.reduceAdd, Nat.reduceBEq, Nat.reduceBNe, Int.reduceLE, Int.reduceLT, Int.reduceToNat, Int.reduceEq, Nat.reduceLeDiff, Nat.reduceLT, Nat.reducePow, Nat.reduceDiv, Nat.reduceMod, rows_len, h1]
    refine GifP.mk (fun h0 => ?_) (fun h0 => ?_)
    · rw [hfu]
      refine (back_Choose ws f (by omega) (by omega)).callW (enters_of Tryz.func10 rfl rfl) _ rfl rfl ?_
      rintro _ rfl
      rw [show choose ws f = none by simp only [choose, if_pos h0]]
      simp only [placeD, go_sem, contS_seq, reduceIte, reduceCtorEq, Nat.reduceEqDiff, Nat.reduceAdd, Nat.reduceBEq, Nat.reduceBNe, Int.reduceLE, Int.reduceLT, Int.reduceToNat, Int.reduceEq, Nat.reduceLeDiff, Nat.reduceLT, Nat.reducePow, Nat.reduceDiv, Nat.reduceMod]
      refine awake14.callW (enters_of Tryz.func11 rfl rfl) _ rfl rfl ?_
      rintro _ rfl
      simp only [go_sem, contS_seq, reduceIte, reduceCtorEq, Nat.reduceEqDiff, Nat.reduceAdd, Nat.reduceBEq, Nat.reduceBNe, Int.reduceLE, Int.reduceLT, Int.reduceToNat, Int.reduceEq, Nat.reduceLeDiff, Nat.reduceLT, Nat.reducePow, Nat.reduceDiv, Nat.reduceMod]
      simp only [retK, fullK, iterK, resD, resA, AOp.ex, St.ev, Option.map_some, Option.bind_some, St.get, lk, reduceIte, Nat.reduceEqDiff, Option.getD_some, oneD, List.getElem?_cons_zero, List.getElem?_cons_succ, List.drop_zero, List.drop_succ_cons, List.take_succ_cons, List.take_zero, List.length_cons, List.length_nil, Nat.zero_add, Nat.reduceAdd, Nat.le_refl, Nat.reduceLeDiff, D.pub, D.pubs, Tryz.results3]
      exact ⟨_, rfl, rfl, rfl⟩
    refine loopS (fun k st => ∃ (n : Nat) (es : List (Int × Int)), k = (total ws).toNat - n ∧ n ≤ (total ws).toNat ∧ (∀ j : Nat, look j es = cnt (fun m => choose ws m == some j) f n) ∧
      st = ⟨[(1, .pd (.raw (.int .u32 f))), (5, .own 3 1 (ints ws) 33), (6, int (total ws)), (10, .mp 56), (11, int n)], [], [(56, .map (ent es))], .no⟩) (total ws).toNat _
      ?_ ⟨0, [], rfl, by omega, fun _ => rfl, rfl⟩ ?_
    · exact Weak.less (by simp [lessL, lk]) (by simp [lessL, lk]) (by simp [lessL, lk, ent]) rfl
    rintro k st ⟨n, es, rfl, hn, hes, rfl⟩
    by_cases hlt : n < (total ws).toNat
    · have h3 : ((n : Int) < total ws) = True := eq_true (by omega)
      have hwn := succ64 (show n < 1000000000 by omega)
      have hnu : IntKind.u64.wrap (n : Int) = n := IntWalk.u64_in _ (by omega)
      have hfn : IntKind.u64.wrap ((f : Int) + n) = ((f + n : Nat) : Int) := by rw [IntWalk.u64_in _ (by omega)]; omega
      simp only [go_sem, contS_seq, reduceIte, reduceCtorEq, Nat.reduceEqDiff, Nat.reduceAdd, Nat.reduceBEq, Nat.reduceBNe, Int.reduceLE, Int.reduceLT, Int.reduceToNat, Int.reduceEq, Nat.reduceLeDiff, Nat.reduceLT, Nat.reducePow, Nat.reduceDiv, Nat.reduceMod, h3]
      rw [hfu, hnu, hfn]
      refine (back_Choose ws (f + n) (by omega) (by omega)).callW (enters_of Tryz.func10 rfl rfl) _ rfl rfl ?_
      rintro _ rfl
      obtain ⟨j, hj⟩ := choose_some ws (f + n) h0
      rw [hj]
      have hes' : ∀ i : Nat, look i (bump j es) = cnt (fun m => choose ws m == some i) f (n + 1) := fun i => by
        rw [look_bump, hes i, cnt, hj]
        by_cases hij : j = i
        · subst hij; simp
        · rw [if_neg (by omega), if_neg (by simpa using hij)]; simp
      have hlk := hes j
      have hcl : cnt (fun m => choose ws m == some j) f n ≤ n := cnt_le _ _ _
      have hw1 : IntKind.i64.wrap (0 + 1) = 1 := rfl
      have hw1' : IntKind.i64.wrap 1 = 1 := rfl
      rcases hat : atM (j : Int) es 0 with _ | ⟨q, v⟩
      · have hbm : ent (bump j es) = ent es ++ [(.int .i64 j, .int .i64 1)] := by simp [bump, hat, ent]
        simp only [placeD, go_sem, contS_seq, reduceIte, reduceCtorEq, Nat.reduceEqDiff, Nat.reduceAdd, Nat.reduceBEq, Nat.reduceBNe, Int.reduceLE, Int.reduceLT, Int.reduceToNat, Int.reduceEq, Nat.reduceLeDiff, Nat.reduceLT, Nat.reducePow, Nat.reduceDiv, Nat.reduceMod, findM_ent, hat, hw1, hw1', hwn]
        refine ⟨(total ws).toNat - (n + 1), _, by omega, ?_, n + 1, bump j es, rfl, by omega, hes', rfl⟩
        rw [hbm]
        exact Weak.less (by simp [lessL, lk]) (by simp [lessL, lk]) (by simp [lessL, lk]) rfl
      · have hbm : ent (bump j es) = (ent es).set q (.int .i64 j, .int .i64 (v + 1)) := by simp [bump, hat, ent, List.map_set]
        have hv : look j es = v := by simp [look, hat]
        have hwv : IntKind.i64.wrap (v + 1) = v + 1 := IntWalk.i64_in _ (by omega)
        simp only [placeD, go_sem, contS_seq, reduceIte, reduceCtorEq, Nat.reduceEqDiff, Nat.reduceAdd, Nat.reduceBEq, Nat.reduceBNe, Int.reduceLE, Int.reduceLT, Int.reduceToNat, Int.reduceEq, Nat.reduceLeDiff, Nat.reduceLT, Nat.reducePow, Nat.reduceDiv, Nat.reduceMod, findM_ent, hat, hwv, hwn]
        refine ⟨(total ws).toNat - (n + 1), _, by omega, ?_, n + 1, bump j es, rfl, by omega, hes', rfl⟩
        rw [hbm]
        exact Weak.less (by simp [lessL, lk]) (by simp [lessL, lk]) (by simp [lessL, lk]) rfl
    have h3 : ((n : Int) < total ws) = False := eq_false (by omega)
    have hall : ∀ (i : Nat) (x : Int), ws[i]? = some x → look i es = x := fun i x hx => by
      obtain ⟨h5, h6⟩ := hhv i x hx
      rw [hes i, show n = (total ws).toNat by omega, shares ws f i h0, hx]
      simp only [Option.getD_some, h5]
      omega
    simp only [go_sem, contS_seq, reduceIte, reduceCtorEq, Nat.reduceEqDiff, Nat.reduceAdd, Nat.reduceBEq, Nat.reduceBNe, Int.reduceLE, Int.reduceLT, Int.reduceToNat, Int.reduceEq, Nat.reduceLeDiff, Nat.reduceLT, Nat.reducePow, Nat.reduceDiv, Nat.reduceMod, h3, rows_len]
    refine loopS (fun k st => ∃ i : Nat, k = ws.length - i ∧ i ≤ ws.length ∧
      st = ⟨[(5, .own 3 1 (ints ws) 33), (10, .mp 56), (14, int i)], [], [(56, .map (ent es))], .no⟩) ws.length _
      ?_ ⟨0, rfl, by omega, rfl⟩ ?_
    · exact Weak.less (by simp [lessL, lk]) (by simp [lessL, lk]) (by simp [lessL, lk]) rfl
    rintro k st ⟨i, rfl, hi, rfl⟩
    by_cases hlt : i < ws.length
    · obtain ⟨x, hx⟩ := at_lt hlt
      have h4 : ((i : Int) < (ws.length : Int)) = True := eq_true (by omega)
      have hwi := succ64 (show i < 1000000000 by omega)
      have hlx := hall i x hx
      rcases hat : atM (i : Int) es 0 with _ | ⟨q, v⟩
      · have hv : look i es = 0 := by simp [look, hat]
        obtain rfl : x = 0 := by omega
        simp only [go_sem, contS_seq, reduceIte, reduceCtorEq, Nat.reduceEqDiff, Nat.reduceAdd, Nat.reduceBEq, Nat.reduceBNe, Int.reduceLE, Int.reduceLT, Int.reduceToNat, Int.reduceEq, Nat.reduceLeDiff, Nat.reduceLT, Nat.reducePow, Nat.reduceDiv, Nat.reduceMod, h4, rows_len, ints_get hx, findM_ent, hat, hwi]
        refine ⟨ws.length - (i + 1), _, by omega, ?_, i + 1, rfl, by omega, rfl⟩
        exact Weak.less (by simp [lessL, lk]) (by simp [lessL, lk]) (by simp [lessL, lk]) rfl
      · have hv : look i es = v := by simp [look, hat]
        obtain rfl : x = v := by omega
        simp only [go_sem, contS_seq, reduceIte, reduceCtorEq, Nat.reduceEqDiff, Nat.reduceAdd, Nat.reduceBEq, Nat.reduceBNe, Int.reduceLE, Int.reduceLT, Int.reduceToNat, Int.reduceEq, Nat.reduceLeDiff, Nat.reduceLT, Nat.reducePow, Nat.reduceDiv, Nat.reduceMod, h4, rows_len, ints_get hx, findM_ent, hat, hwi]
        refine ⟨ws.length - (i + 1), _, by omega, ?_, i + 1, rfl, by omega, rfl⟩
        exact Weak.less (by simp [lessL, lk]) (by simp [lessL, lk]) (by simp [lessL, lk]) rfl
    · have h4 : ((i : Int) < (ws.length : Int)) = False := eq_false (by omega)
      simp only [go_sem, contS_seq, reduceIte, reduceCtorEq, Nat.reduceEqDiff, Nat.reduceAdd, Nat.reduceBEq, Nat.reduceBNe, Int.reduceLE, Int.reduceLT, Int.reduceToNat, Int.reduceEq, Nat.reduceLeDiff, Nat.reduceLT, Nat.reducePow, Nat.reduceDiv, Nat.reduceMod, h4, rows_len]
      refine awake14.callW (enters_of Tryz.func11 rfl rfl) _ rfl rfl ?_
      rintro _ rfl
      simp only [go_sem, contS_seq, reduceIte, reduceCtorEq, Nat.reduceEqDiff, Nat.reduceAdd, Nat.reduceBEq, Nat.reduceBNe, Int.reduceLE, Int.reduceLT, Int.reduceToNat, Int.reduceEq, Nat.reduceLeDiff, Nat.reduceLT, Nat.reducePow, Nat.reduceDiv, Nat.reduceMod]
      simp only [retK, fullK, iterK, resD, resA, AOp.ex, St.ev, Option.map_some, Option.bind_some, St.get, lk, reduceIte, Nat.reduceEqDiff, Option.getD_some, oneD, List.getElem?_cons_zero, List.getElem?_cons_succ, List.drop_zero, List.drop_succ_cons, List.take_succ_cons, List.take_zero, List.length_cons, List.length_nil, Nat.zero_add, Nat.reduceAdd, Nat.le_refl, Nat.reduceLeDiff, D.pub, D.pubs, Tryz.results3]
      exact ⟨_, rfl, rfl, rfl⟩

end Go.Proofs.YtbpgebfejebmlaaGreatDoor
