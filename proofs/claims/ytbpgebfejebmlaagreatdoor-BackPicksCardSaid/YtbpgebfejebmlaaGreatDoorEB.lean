/- BackPicks: the law's walk. -/
import Derived.Test.YtbpgebfejebmlaaGreatDoorEA
namespace Go.Proofs.YtbpgebfejebmlaaGreatDoor
open Go Go.RowKit
set_option linter.unusedSimpArgs false
set_option linter.unusedVariables false

def isHeavy (g : AGoal) : Bool := decide (0 < g.weight)
def sameGoal (a b : AGoal) : Bool := decide (a.ref.kind = b.ref.kind) && (decide (a.ref.space = b.ref.space) && (decide (a.ref.name = b.ref.name) && (decide (a.port = b.port) && (decide (a.weight = b.weight) && (a.bad == b.bad)))))

/-- The goal at a place among the shares. -/
def pickAt : List AGoal → Int → Option AGoal
  | [], _ => none
  | g :: gs, m => if m < heavy g.weight then some g else pickAt gs (m - heavy g.weight)

def pickV : Option AGoal → AGoal × Bool
  | none => (goal0, false)
  | some g => if g.bad then (goal0, false) else (g, true)

theorem pos_pickAt : ∀ (gs : List AGoal) (i : Nat) (m : Int), (pos i (gs.map (·.weight)) m).bind (fun j => gs[j - i]?) = pickAt gs m
  | [], i, m => rfl
  | g :: gs, i, m => by
    simp only [List.map_cons, pos, pickAt]
    split
    · simp
    · rw [← pos_pickAt gs (i + 1) (m - heavy g.weight)]
      cases hp : pos (i + 1) (gs.map (·.weight)) (m - heavy g.weight) with
      | none => rfl
      | some j =>
        have h1 := (pos_lt hp).1
        simp only [Option.bind_some]
        rw [show j - i = (j - (i + 1)) + 1 by omega, List.getElem?_cons_succ]

theorem pick_eq (gs : List AGoal) (n : Nat) : pick gs n = pickV (if total (gs.map (·.weight)) = 0 then none else pickAt gs ((n : Int) % total (gs.map (·.weight)))) := by
  unfold pick choose
  split
  · rename_i h
    split at h
    · rename_i h0; rw [if_pos h0]; rfl
    · rename_i h0
      rw [if_neg h0, ← pos_pickAt gs 0, h]
      rfl
  · rename_i i h
    split at h
    · cases h
    · rename_i h0
      rw [if_neg h0, ← pos_pickAt gs 0, h]
      simp only [Option.bind_some, Nat.sub_zero]
      cases gs[i]? <;> rfl

theorem heavy_zero {g : AGoal} (h : isHeavy g = false) : heavy g.weight = 0 := by
  unfold isHeavy at h
  simp only [decide_eq_false_iff_not] at h
  unfold heavy; omega

theorem total_filter : ∀ gs : List AGoal, total ((gs.filter isHeavy).map (·.weight)) = total (gs.map (·.weight))
  | [] => rfl
  | g :: gs => by
    cases h : isHeavy g with
    | true => rw [List.filter_cons_of_pos h]; simp only [List.map_cons, total, total_filter gs]
    | false => rw [List.filter_cons_of_neg (by simp [h])]; simp only [List.map_cons, total, total_filter gs, heavy_zero h, Int.zero_add]

theorem pickAt_filter : ∀ (gs : List AGoal) (m : Int), 0 ≤ m → pickAt (gs.filter isHeavy) m = pickAt gs m
  | [], _, _ => rfl
  | g :: gs, m, hm => by
    cases h : isHeavy g with
    | true =>
      rw [List.filter_cons_of_pos h]
      simp only [pickAt]
      split
      · rfl
      · exact pickAt_filter gs _ (by omega)
    | false =>
      rw [List.filter_cons_of_neg (by simp [h])]
      simp only [pickAt, heavy_zero h]
      rw [if_neg (by omega), pickAt_filter gs m hm, Int.sub_zero]

theorem pick_filter (gs : List AGoal) (n : Nat) : pick (gs.filter isHeavy) n = pick gs n := by
  rw [pick_eq, pick_eq, total_filter]
  split
  · rfl
  · rename_i h0
    rw [pickAt_filter gs _ (Int.emod_nonneg _ h0)]

theorem pickAt_mem : ∀ {gs : List AGoal} {m : Int} {g : AGoal}, 0 ≤ m → pickAt gs m = some g → g ∈ gs ∧ isHeavy g = true
  | [], _, _, _, h => by cases h
  | x :: gs, m, g, hm, h => by
    simp only [pickAt] at h
    split at h
    · rename_i h1
      cases h
      refine ⟨by simp, ?_⟩
      unfold isHeavy
      unfold heavy at h1
      simp only [decide_eq_true_eq]
      omega
    · have := pickAt_mem (by omega) h
      exact ⟨List.mem_cons_of_mem _ this.1, this.2⟩

theorem same_self (g : AGoal) : sameGoal g g = true := by
  unfold sameGoal
  simp

theorem pick_true {gs : List AGoal} {n : Nat} {g : AGoal} (h : pick gs n = (g, true)) : (gs.any fun x => isHeavy x && sameGoal x g) = true ∧ g.bad = false ∧ 0 < g.weight := by
  rw [pick_eq] at h
  split at h
  · cases h
  · rename_i h0
    cases hp : pickAt gs ((n : Int) % total (gs.map (·.weight))) with
    | none => rw [hp] at h; cases h
    | some x =>
      rw [hp] at h
      simp only [pickV] at h
      split at h
      · cases h
      · rename_i hb
        cases h
        have h1 := pickAt_mem (Int.emod_nonneg _ h0) hp
        refine ⟨List.any_eq_true.2 ⟨g, h1.1, by rw [h1.2, same_self]; rfl⟩, by simpa using hb, ?_⟩
        have := h1.2
        unfold isHeavy at this
        simpa using this

set_option maxRecDepth 100000 in
set_option maxHeartbeats 1000000 in
theorem law_Picks (gs : List AGoal) (n : Nat) (hn : n < 2 ^ 64) : Pure Tryz.prog 6 [.pd (.slice (rows AGoal.pd gs)), u64 n] (fun d => d = bln true) := by
  refine pure_of_run follows an_tolllaw14_BackPicks Tryz.func6 rfl ok_tolllaw14_BackPicks dst_tolllaw14_BackPicks (by simp [Tryz.ntmps6]) ?_
  rw [run_start]
  obtain ⟨ls, hls⟩ : ∃ ls, fewGoals gs = ls := ⟨_, rfl⟩
  have hgl : ls.length ≤ 6 := by rw [← hls]; simp [fewGoals]; omega
  have c0 := law14_Few gs
  rw [hls] at c0
  have c3 := back_Pick ls n hn (by omega)
  obtain ⟨p, hp⟩ : ∃ p, pick ls n = p := ⟨_, rfl⟩
  rw [hp] at c3
  obtain ⟨gl, b2⟩ := p
  simp only [ac_tolllaw14_BackPicks, run_seq, run_block, run_region, run_skip, run_exit, run_ret, run_cond, run_draw, aops_nil, aops_none, aops_yes, aops_no, ↓gif_true, ↓gif_false, ↓gifP_true, ↓gifP_false, gif_not, gif_dec, gifP_not, eq_self, aopsK_eq, putK_eq, y_callv, astep, AOp.ex, St.ev, St.get, lk, St.puto, St.put, St.know, D.els, cD, cD0, binD, binV, unD, reduceIte, Option.getD_some, Option.getD_none, Option.map_some, Option.map_none, Option.bind_some, Option.bind_none, List.length_cons, List.length_nil, reduceCtorEq, Nat.reduceEqDiff, St.init, frOf, nextS_eq, y_mv, y_pick, y_alloc, y_box, y_build, y_bslice, y_load, y_store, y_ncheck, y_bin, y_binB, y_eqs, y_un, y_conv, y_fieldA, y_field, y_idxA, y_idxS, y_extract, y_mkfn, y_mkif, y_len, y_append, y_minmax, y_slcS, y_slcL, boundD, y_call, contS_nil, contS_seq, contS_seq_ret, contS_seq_exit, contS_block, contS_block_ret, contS_block_exit, contS_round, contS_round_ret, contS_round_exit, St.keep, List.map_cons, List.map_nil, Nat.zero_add, Nat.reduceAdd, decide_eq_true_eq, decide_eq_false_iff_not, true_and, and_true, forall_const, false_implies, true_implies, Bool.not_true, Bool.not_false, Int.natCast_nonneg, Int.toNat_natCast, St.purge, D.purge, D.purges, ne_eq, not_false_eq_true, not_true_eq_false, rowsD, D.toPDs, D.toPD, D.cells, List.any_nil, List.any_cons, List.filter_nil, List.filter_cons, Nat.reduceBEq, Nat.reduceBNe, Bool.false_eq_true, Bool.or_false, Bool.false_or, Bool.or_self, D.fixed, D.sc, D.caps, List.nil_append, List.cons_append, List.getElem?_cons_zero, List.getElem?_cons_succ, List.getElem?_nil, List.drop_zero, List.drop_succ_cons, List.take_succ_cons, List.take_zero, D.drop, D.drops, St.drop, fillD, D.ren, D.rens, backN, St.merge, renBs, seeCaps, lostN, lostT, wrN, D.sel, D.sels, List.append_nil, List.nil_append, List.cons_append, cutFr, D.cut, D.cuts, bsOf, St.after, roundK, List.contains_cons, List.contains_nil, Option.isSome_some, Option.isSome_none, Bool.or_true, Bool.true_or, valsD, valD, D.raws, Int.reduceLE, Int.reduceLT, Int.reduceToNat, Int.reduceEq, Nat.zero_le, Nat.le_refl, Nat.reduceLeDiff, Nat.reduceLT, List.all_cons, List.all_nil, Bool.and_true, Bool.true_and, Bool.and_self, Bool.not_eq_true', Bool.not_eq_false', decide_true, decide_false]
  refine c0.callW (enters_of Tryz.func16 rfl rfl) _ rfl rfl ?_
  rintro d rfl
  simp only [run_seq, run_block, run_region, run_skip, run_exit, run_ret, run_cond, run_draw, aops_nil, aops_none, aops_yes, aops_no, ↓gif_true, ↓gif_false, ↓gifP_true, ↓gifP_false, gif_not, gif_dec, gifP_not, eq_self, aopsK_eq, putK_eq, y_callv, astep, AOp.ex, St.ev, St.get, lk, St.puto, St.put, St.know, D.els, cD, cD0, binD, binV, unD, reduceIte, Option.getD_some, Option.getD_none, Option.map_some, Option.map_none, Option.bind_some, Option.bind_none, List.length_cons, List.length_nil, reduceCtorEq, Nat.reduceEqDiff, St.init, frOf, nextS_eq, y_mv, y_pick, y_alloc, y_box, y_build, y_bslice, y_load, y_store, y_ncheck, y_bin, y_binB, y_eqs, y_un, y_conv, y_fieldA, y_field, y_idxA, y_idxS, y_extract, y_mkfn, y_mkif, y_len, y_append, y_minmax, y_slcS, y_slcL, boundD, y_call, contS_nil, contS_seq, contS_seq_ret, contS_seq_exit, contS_block, contS_block_ret, contS_block_exit, contS_round, contS_round_ret, contS_round_exit, St.keep, List.map_cons, List.map_nil, Nat.zero_add, Nat.reduceAdd, decide_eq_true_eq, decide_eq_false_iff_not, true_and, and_true, forall_const, false_implies, true_implies, Bool.not_true, Bool.not_false, Int.natCast_nonneg, Int.toNat_natCast, St.purge, D.purge, D.purges, ne_eq, not_false_eq_true, not_true_eq_false, rowsD, D.toPDs, D.toPD, D.cells, List.any_nil, List.any_cons, List.filter_nil, List.filter_cons, Nat.reduceBEq, Nat.reduceBNe, Bool.false_eq_true, Bool.or_false, Bool.false_or, Bool.or_self, D.fixed, D.sc, D.caps, List.nil_append, List.cons_append, List.getElem?_cons_zero, List.getElem?_cons_succ, List.getElem?_nil, List.drop_zero, List.drop_succ_cons, List.take_succ_cons, List.take_zero, D.drop, D.drops, St.drop, fillD, D.ren, D.rens, backN, St.merge, renBs, seeCaps, lostN, lostT, wrN, D.sel, D.sels, List.append_nil, List.nil_append, List.cons_append, cutFr, D.cut, D.cuts, bsOf, St.after, roundK, List.contains_cons, List.contains_nil, Option.isSome_some, Option.isSome_none, Bool.or_true, Bool.true_or, valsD, valD, D.raws, Int.reduceLE, Int.reduceLT, Int.reduceToNat, Int.reduceEq, Nat.zero_le, Nat.le_refl, Nat.reduceLeDiff, Nat.reduceLT, List.all_cons, List.all_nil, Bool.and_true, Bool.true_and, Bool.and_self, Bool.not_eq_true', Bool.not_eq_false', decide_true, decide_false]
  refine c3.callW (enters_of Tryz.func18 rfl rfl) _ rfl rfl ?_
  rintro d rfl
  simp only [run_seq, run_block, run_region, run_skip, run_exit, run_ret, run_cond, run_draw, aops_nil, aops_none, aops_yes, aops_no, ↓gif_true, ↓gif_false, ↓gifP_true, ↓gifP_false, gif_not, gif_dec, gifP_not, eq_self, aopsK_eq, putK_eq, y_callv, astep, AOp.ex, St.ev, St.get, lk, St.puto, St.put, St.know, D.els, cD, cD0, binD, binV, unD, reduceIte, Option.getD_some, Option.getD_none, Option.map_some, Option.map_none, Option.bind_some, Option.bind_none, List.length_cons, List.length_nil, reduceCtorEq, Nat.reduceEqDiff, St.init, frOf, nextS_eq, y_mv, y_pick, y_alloc, y_box, y_build, y_bslice, y_load, y_store, y_ncheck, y_bin, y_binB, y_eqs, y_un, y_conv, y_fieldA, y_field, y_idxA, y_idxS, y_extract, y_mkfn, y_mkif, y_len, y_append, y_minmax, y_slcS, y_slcL, boundD, y_call, contS_nil, contS_seq, contS_seq_ret, contS_seq_exit, contS_block, contS_block_ret, contS_block_exit, contS_round, contS_round_ret, contS_round_exit, St.keep, List.map_cons, List.map_nil, Nat.zero_add, Nat.reduceAdd, decide_eq_true_eq, decide_eq_false_iff_not, true_and, and_true, forall_const, false_implies, true_implies, Bool.not_true, Bool.not_false, Int.natCast_nonneg, Int.toNat_natCast, St.purge, D.purge, D.purges, ne_eq, not_false_eq_true, not_true_eq_false, rowsD, D.toPDs, D.toPD, D.cells, List.any_nil, List.any_cons, List.filter_nil, List.filter_cons, Nat.reduceBEq, Nat.reduceBNe, Bool.false_eq_true, Bool.or_false, Bool.false_or, Bool.or_self, D.fixed, D.sc, D.caps, List.nil_append, List.cons_append, List.getElem?_cons_zero, List.getElem?_cons_succ, List.getElem?_nil, List.drop_zero, List.drop_succ_cons, List.take_succ_cons, List.take_zero, D.drop, D.drops, St.drop, fillD, D.ren, D.rens, backN, St.merge, renBs, seeCaps, lostN, lostT, wrN, D.sel, D.sels, List.append_nil, List.nil_append, List.cons_append, cutFr, D.cut, D.cuts, bsOf, St.after, roundK, List.contains_cons, List.contains_nil, Option.isSome_some, Option.isSome_none, Bool.or_true, Bool.true_or, valsD, valD, D.raws, Int.reduceLE, Int.reduceLT, Int.reduceToNat, Int.reduceEq, Nat.zero_le, Nat.le_refl, Nat.reduceLeDiff, Nat.reduceLT, List.all_cons, List.all_nil, Bool.and_true, Bool.true_and, Bool.and_self, Bool.not_eq_true', Bool.not_eq_false', decide_true, decide_false]
  refine loopS (fun k st => ∃ i : Nat, k = ls.length - i ∧ i ≤ ls.length ∧
    st = ⟨[(0, .pd (.slice (rows AGoal.pd ls))), (1, u64 n), (5, .ptr 5 0), (6, bln b2), (7, .own 52 6 (rows AGoal.pd ((ls.take i).filter isHeavy)) 38), (8, bln ((ls.take i).any fun g => isHeavy g && sameGoal g gl)), (9, int i)], [(5, [int gl.ref.kind, str gl.ref.space, str gl.ref.name, int gl.port, int gl.weight, bln gl.bad])], [], .no⟩) ls.length _
    ?_ ⟨0, rfl, by omega, rfl⟩ ?_
  · exact Weak.own1 7 38 52 6 (by kernel_rfl) (by decide) rfl (by simp [lessL, lk, St.purge, St.put, D.purge, rows]) (by simp [lessL, lk, St.purge, D.purges, D.purge]) (by simp [lessL]) rfl
  rintro k st ⟨i, rfl, hi, rfl⟩
  have hi1 : IntKind.i64.wrap ((i : Int) + 1) = ((i + 1 : Nat) : Int) := by rw [IntWalk.i64_in _ (by omega)]; omega
  by_cases hlt : i < ls.length
  · obtain ⟨g, hg⟩ := at_lt hlt
    have h1 : (i : Int) < (ls.length : Int) := by omega
    have hany : ((ls.take (i + 1)).any fun g => isHeavy g && sameGoal g gl) = (((ls.take i).any fun g => isHeavy g && sameGoal g gl) || (isHeavy g && sameGoal g gl)) := by
      rw [take_at hg, List.any_append]; simp
    by_cases hw : 0 < g.weight
    · have hh : isHeavy g = true := by simp [isHeavy, hw]
      have hfl : (ls.take (i + 1)).filter isHeavy = (ls.take i).filter isHeavy ++ [g] := by
        rw [take_at hg, List.filter_append, List.filter_cons_of_pos hh]; rfl
      have hrl : ((ls.take i).filter isHeavy).length ≤ 6 := by
        have := List.length_filter_le isHeavy (ls.take i)
        simp at this ⊢; omega
      have e1 : rows AGoal.pd ((ls.take i).filter isHeavy) ++ [[pInt g.ref.kind, pStr g.ref.space, pStr g.ref.name, pInt g.port, pInt g.weight, pBln g.bad]] = rows AGoal.pd ((ls.take (i + 1)).filter isHeavy) := by
        rw [hfl]; exact rows_one _ g
      rw [hh, Bool.true_and] at hany
      cases hF : ((ls.take i).any fun g => isHeavy g && sameGoal g gl) with
      | true =>
        rw [hF, Bool.true_or] at hany
        simp only [run_seq, run_block, run_region, run_skip, run_exit, run_ret, run_cond, run_draw, aops_nil, aops_none, aops_yes, aops_no, ↓gif_true, ↓gif_false, ↓gifP_true, ↓gifP_false, gif_not, gif_dec, gifP_not, eq_self, aopsK_eq, putK_eq, y_callv, astep, AOp.ex, St.ev, St.get, lk, St.puto, St.put, St.know, D.els, cD, cD0, binD, binV, unD, reduceIte, Option.getD_some, Option.getD_none, Option.map_some, Option.map_none, Option.bind_some, Option.bind_none, List.length_cons, List.length_nil, reduceCtorEq, Nat.reduceEqDiff, St.init, frOf, nextS_eq, y_mv, y_pick, y_alloc, y_box, y_build, y_bslice, y_load, y_store, y_ncheck, y_bin, y_binB, y_eqs, y_un, y_conv, y_fieldA, y_field, y_idxA, y_idxS, y_extract, y_mkfn, y_mkif, y_len, y_append, y_minmax, y_slcS, y_slcL, boundD, y_call, contS_nil, contS_seq, contS_seq_ret, contS_seq_exit, contS_block, contS_block_ret, contS_block_exit, contS_round, contS_round_ret, contS_round_exit, St.keep, List.map_cons, List.map_nil, Nat.zero_add, Nat.reduceAdd, decide_eq_true_eq, decide_eq_false_iff_not, true_and, and_true, forall_const, false_implies, true_implies, Bool.not_true, Bool.not_false, Int.natCast_nonneg, Int.toNat_natCast, St.purge, D.purge, D.purges, ne_eq, not_false_eq_true, not_true_eq_false, rowsD, D.toPDs, D.toPD, D.cells, List.any_nil, List.any_cons, List.filter_nil, List.filter_cons, Nat.reduceBEq, Nat.reduceBNe, Bool.false_eq_true, Bool.or_false, Bool.false_or, Bool.or_self, D.fixed, D.sc, D.caps, List.nil_append, List.cons_append, List.getElem?_cons_zero, List.getElem?_cons_succ, List.getElem?_nil, List.drop_zero, List.drop_succ_cons, List.take_succ_cons, List.take_zero, D.drop, D.drops, St.drop, fillD, D.ren, D.rens, backN, St.merge, renBs, seeCaps, lostN, lostT, wrN, D.sel, D.sels, List.append_nil, List.nil_append, List.cons_append, cutFr, D.cut, D.cuts, bsOf, St.after, roundK, List.contains_cons, List.contains_nil, Option.isSome_some, Option.isSome_none, Bool.or_true, Bool.true_or, valsD, valD, D.raws, Int.reduceLE, Int.reduceLT, Int.reduceToNat, Int.reduceEq, Nat.zero_le, Nat.le_refl, Nat.reduceLeDiff, Nat.reduceLT, List.all_cons, List.all_nil, Bool.and_true, Bool.true_and, Bool.and_self, Bool.not_eq_true', Bool.not_eq_false', decide_true, decide_false, dtK_eq, drK_eq, putN_eq, d_done, d_take, d_alts, d_nil, d_cons, g_none, g_yes, g_no, clear_none, clear_some, pendTo_none, pendTo_some, waits, List.getD_cons_zero, List.getD_cons_succ, List.getD_nil, x_call, x_callv, x_mv, x_build, x_load, x_ncheck, x_bin, x_binB, x_eqs, x_un, x_conv, x_fieldA, x_field, x_idxA, x_idxS, x_extract, x_mkfn, x_mkif, x_len, x_minmax, x_slcS, x_slcL, x_pick, x_alloc, x_box, x_bslice, x_store, x_append, t_mv, t_build, t_load, t_ncheck, t_bin, t_binB, t_eqs, t_un, t_conv, t_fieldA, t_field, t_idxA, t_idxS, t_extract, t_mkfn, t_mkif, t_len, t_minmax, t_slcS, t_slcL, t_pick, rows_len, rows_get hg, h1, hi1, hw]
        rw [e1]
        refine ⟨by simp, by unfold maxLen; omega, by omega, ls.length - (i + 1), _, by omega, ?_, i + 1, rfl, by omega, rfl⟩
        rw [hany]
        exact Weak.less (by simp [lessL, lk]) (by simp [lessL, lk]) (by simp [lessL]) rfl
      | false =>
        rw [hF, Bool.false_or] at hany
        simp only [run_seq, run_block, run_region, run_skip, run_exit, run_ret, run_cond, run_draw, aops_nil, aops_none, aops_yes, aops_no, ↓gif_true, ↓gif_false, ↓gifP_true, ↓gifP_false, gif_not, gif_dec, gifP_not, eq_self, aopsK_eq, putK_eq, y_callv, astep, AOp.ex, St.ev, St.get, lk, St.puto, St.put, St.know, D.els, cD, cD0, binD, binV, unD, reduceIte, Option.getD_some, Option.getD_none, Option.map_some, Option.map_none, Option.bind_some, Option.bind_none, List.length_cons, List.length_nil, reduceCtorEq, Nat.reduceEqDiff, St.init, frOf, nextS_eq, y_mv, y_pick, y_alloc, y_box, y_build, y_bslice, y_load, y_store, y_ncheck, y_bin, y_binB, y_eqs, y_un, y_conv, y_fieldA, y_field, y_idxA, y_idxS, y_extract, y_mkfn, y_mkif, y_len, y_append, y_minmax, y_slcS, y_slcL, boundD, y_call, contS_nil, contS_seq, contS_seq_ret, contS_seq_exit, contS_block, contS_block_ret, contS_block_exit, contS_round, contS_round_ret, contS_round_exit, St.keep, List.map_cons, List.map_nil, Nat.zero_add, Nat.reduceAdd, decide_eq_true_eq, decide_eq_false_iff_not, true_and, and_true, forall_const, false_implies, true_implies, Bool.not_true, Bool.not_false, Int.natCast_nonneg, Int.toNat_natCast, St.purge, D.purge, D.purges, ne_eq, not_false_eq_true, not_true_eq_false, rowsD, D.toPDs, D.toPD, D.cells, List.any_nil, List.any_cons, List.filter_nil, List.filter_cons, Nat.reduceBEq, Nat.reduceBNe, Bool.false_eq_true, Bool.or_false, Bool.false_or, Bool.or_self, D.fixed, D.sc, D.caps, List.nil_append, List.cons_append, List.getElem?_cons_zero, List.getElem?_cons_succ, List.getElem?_nil, List.drop_zero, List.drop_succ_cons, List.take_succ_cons, List.take_zero, D.drop, D.drops, St.drop, fillD, D.ren, D.rens, backN, St.merge, renBs, seeCaps, lostN, lostT, wrN, D.sel, D.sels, List.append_nil, List.nil_append, List.cons_append, cutFr, D.cut, D.cuts, bsOf, St.after, roundK, List.contains_cons, List.contains_nil, Option.isSome_some, Option.isSome_none, Bool.or_true, Bool.true_or, valsD, valD, D.raws, Int.reduceLE, Int.reduceLT, Int.reduceToNat, Int.reduceEq, Nat.zero_le, Nat.le_refl, Nat.reduceLeDiff, Nat.reduceLT, List.all_cons, List.all_nil, Bool.and_true, Bool.true_and, Bool.and_self, Bool.not_eq_true', Bool.not_eq_false', decide_true, decide_false, dtK_eq, drK_eq, putN_eq, d_done, d_take, d_alts, d_nil, d_cons, g_none, g_yes, g_no, clear_none, clear_some, pendTo_none, pendTo_some, waits, List.getD_cons_zero, List.getD_cons_succ, List.getD_nil, x_call, x_callv, x_mv, x_build, x_load, x_ncheck, x_bin, x_binB, x_eqs, x_un, x_conv, x_fieldA, x_field, x_idxA, x_idxS, x_extract, x_mkfn, x_mkif, x_len, x_minmax, x_slcS, x_slcL, x_pick, x_alloc, x_box, x_bslice, x_store, x_append, t_mv, t_build, t_load, t_ncheck, t_bin, t_binB, t_eqs, t_un, t_conv, t_fieldA, t_field, t_idxA, t_idxS, t_extract, t_mkfn, t_mkif, t_len, t_minmax, t_slcS, t_slcL, t_pick, rows_len, rows_get hg, h1, hi1, hw, eqVs, eqV]
        rw [e1]
        refine ⟨by simp, by unfold maxLen; omega, by omega, ls.length - (i + 1), _, by omega, ?_, i + 1, rfl, by omega, rfl⟩
        rw [hany]
        unfold sameGoal
        exact Weak.less (by simp [lessL, lk]) (by simp [lessL, lk]) (by simp [lessL]) rfl
    · have hh : isHeavy g = false := by simp [isHeavy]; omega
      have hfl : (ls.take (i + 1)).filter isHeavy = (ls.take i).filter isHeavy := by
        rw [take_at hg, List.filter_append, List.filter_cons_of_neg (by simp [hh])]; simp
      rw [hh, Bool.false_and, Bool.or_false] at hany
      simp only [run_seq, run_block, run_region, run_skip, run_exit, run_ret, run_cond, run_draw, aops_nil, aops_none, aops_yes, aops_no, ↓gif_true, ↓gif_false, ↓gifP_true, ↓gifP_false, gif_not, gif_dec, gifP_not, eq_self, aopsK_eq, putK_eq, y_callv, astep, AOp.ex, St.ev, St.get, lk, St.puto, St.put, St.know, D.els, cD, cD0, binD, binV, unD, reduceIte, Option.getD_some, Option.getD_none, Option.map_some, Option.map_none, Option.bind_some, Option.bind_none, List.length_cons, List.length_nil, reduceCtorEq, Nat.reduceEqDiff, St.init, frOf, nextS_eq, y_mv, y_pick, y_alloc, y_box, y_build, y_bslice, y_load, y_store, y_ncheck, y_bin, y_binB, y_eqs, y_un, y_conv, y_fieldA, y_field, y_idxA, y_idxS, y_extract, y_mkfn, y_mkif, y_len, y_append, y_minmax, y_slcS, y_slcL, boundD, y_call, contS_nil, contS_seq, contS_seq_ret, contS_seq_exit, contS_block, contS_block_ret, contS_block_exit, contS_round, contS_round_ret, contS_round_exit, St.keep, List.map_cons, List.map_nil, Nat.zero_add, Nat.reduceAdd, decide_eq_true_eq, decide_eq_false_iff_not, true_and, and_true, forall_const, false_implies, true_implies, Bool.not_true, Bool.not_false, Int.natCast_nonneg, Int.toNat_natCast, St.purge, D.purge, D.purges, ne_eq, not_false_eq_true, not_true_eq_false, rowsD, D.toPDs, D.toPD, D.cells, List.any_nil, List.any_cons, List.filter_nil, List.filter_cons, Nat.reduceBEq, Nat.reduceBNe, Bool.false_eq_true, Bool.or_false, Bool.false_or, Bool.or_self, D.fixed, D.sc, D.caps, List.nil_append, List.cons_append, List.getElem?_cons_zero, List.getElem?_cons_succ, List.getElem?_nil, List.drop_zero, List.drop_succ_cons, List.take_succ_cons, List.take_zero, D.drop, D.drops, St.drop, fillD, D.ren, D.rens, backN, St.merge, renBs, seeCaps, lostN, lostT, wrN, D.sel, D.sels, List.append_nil, List.nil_append, List.cons_append, cutFr, D.cut, D.cuts, bsOf, St.after, roundK, List.contains_cons, List.contains_nil, Option.isSome_some, Option.isSome_none, Bool.or_true, Bool.true_or, valsD, valD, D.raws, Int.reduceLE, Int.reduceLT, Int.reduceToNat, Int.reduceEq, Nat.zero_le, Nat.le_refl, Nat.reduceLeDiff, Nat.reduceLT, List.all_cons, List.all_nil, Bool.and_true, Bool.true_and, Bool.and_self, Bool.not_eq_true', Bool.not_eq_false', decide_true, decide_false, dtK_eq, drK_eq, putN_eq, d_done, d_take, d_alts, d_nil, d_cons, g_none, g_yes, g_no, clear_none, clear_some, pendTo_none, pendTo_some, waits, List.getD_cons_zero, List.getD_cons_succ, List.getD_nil, x_call, x_callv, x_mv, x_build, x_load, x_ncheck, x_bin, x_binB, x_eqs, x_un, x_conv, x_fieldA, x_field, x_idxA, x_idxS, x_extract, x_mkfn, x_mkif, x_len, x_minmax, x_slcS, x_slcL, x_pick, x_alloc, x_box, x_bslice, x_store, x_append, t_mv, t_build, t_load, t_ncheck, t_bin, t_binB, t_eqs, t_un, t_conv, t_fieldA, t_field, t_idxA, t_idxS, t_extract, t_mkfn, t_mkif, t_len, t_minmax, t_slcS, t_slcL, t_pick, rows_len, rows_get hg, h1, hi1, hw]
      refine ⟨ls.length - (i + 1), _, by omega, ?_, i + 1, rfl, by omega, rfl⟩
      rw [hfl, hany]
      exact Weak.less (by simp [lessL, lk]) (by simp [lessL, lk]) (by simp [lessL]) rfl
  · have h1 : ¬ (i : Int) < (ls.length : Int) := by omega
    have c4 := back_Pick (ls.filter isHeavy) n hn (by have := List.length_filter_le isHeavy ls; omega)
    rw [pick_filter, hp] at c4
    rw [List.take_of_length_le (show ls.length ≤ i by omega)]
    simp only [run_seq, run_block, run_region, run_skip, run_exit, run_ret, run_cond, run_draw, aops_nil, aops_none, aops_yes, aops_no, ↓gif_true, ↓gif_false, ↓gifP_true, ↓gifP_false, gif_not, gif_dec, gifP_not, eq_self, aopsK_eq, putK_eq, y_callv, astep, AOp.ex, St.ev, St.get, lk, St.puto, St.put, St.know, D.els, cD, cD0, binD, binV, unD, reduceIte, Option.getD_some, Option.getD_none, Option.map_some, Option.map_none, Option.bind_some, Option.bind_none, List.length_cons, List.length_nil, reduceCtorEq, Nat.reduceEqDiff, St.init, frOf, nextS_eq, y_mv, y_pick, y_alloc, y_box, y_build, y_bslice, y_load, y_store, y_ncheck, y_bin, y_binB, y_eqs, y_un, y_conv, y_fieldA, y_field, y_idxA, y_idxS, y_extract, y_mkfn, y_mkif, y_len, y_append, y_minmax, y_slcS, y_slcL, boundD, y_call, contS_nil, contS_seq, contS_seq_ret, contS_seq_exit, contS_block, contS_block_ret, contS_block_exit, contS_round, contS_round_ret, contS_round_exit, St.keep, List.map_cons, List.map_nil, Nat.zero_add, Nat.reduceAdd, decide_eq_true_eq, decide_eq_false_iff_not, true_and, and_true, forall_const, false_implies, true_implies, Bool.not_true, Bool.not_false, Int.natCast_nonneg, Int.toNat_natCast, St.purge, D.purge, D.purges, ne_eq, not_false_eq_true, not_true_eq_false, rowsD, D.toPDs, D.toPD, D.cells, List.any_nil, List.any_cons, List.filter_nil, List.filter_cons, Nat.reduceBEq, Nat.reduceBNe, Bool.false_eq_true, Bool.or_false, Bool.false_or, Bool.or_self, D.fixed, D.sc, D.caps, List.nil_append, List.cons_append, List.getElem?_cons_zero, List.getElem?_cons_succ, List.getElem?_nil, List.drop_zero, List.drop_succ_cons, List.take_succ_cons, List.take_zero, D.drop, D.drops, St.drop, fillD, D.ren, D.rens, backN, St.merge, renBs, seeCaps, lostN, lostT, wrN, D.sel, D.sels, List.append_nil, List.nil_append, List.cons_append, cutFr, D.cut, D.cuts, bsOf, St.after, roundK, List.contains_cons, List.contains_nil, Option.isSome_some, Option.isSome_none, Bool.or_true, Bool.true_or, valsD, valD, D.raws, Int.reduceLE, Int.reduceLT, Int.reduceToNat, Int.reduceEq, Nat.zero_le, Nat.le_refl, Nat.reduceLeDiff, Nat.reduceLT, List.all_cons, List.all_nil, Bool.and_true, Bool.true_and, Bool.and_self, Bool.not_eq_true', Bool.not_eq_false', decide_true, decide_false, rows_len, h1]
    refine c4.callW (enters_of Tryz.func18 rfl rfl) _ rfl rfl ?_
    rintro d rfl
    cases b2 with
    | false =>
      simp only [run_seq, run_block, run_region, run_skip, run_exit, run_ret, run_cond, run_draw, aops_nil, aops_none, aops_yes, aops_no, ↓gif_true, ↓gif_false, ↓gifP_true, ↓gifP_false, gif_not, gif_dec, gifP_not, eq_self, aopsK_eq, putK_eq, y_callv, astep, AOp.ex, St.ev, St.get, lk, St.puto, St.put, St.know, D.els, cD, cD0, binD, binV, unD, reduceIte, Option.getD_some, Option.getD_none, Option.map_some, Option.map_none, Option.bind_some, Option.bind_none, List.length_cons, List.length_nil, reduceCtorEq, Nat.reduceEqDiff, St.init, frOf, nextS_eq, y_mv, y_pick, y_alloc, y_box, y_build, y_bslice, y_load, y_store, y_ncheck, y_bin, y_binB, y_eqs, y_un, y_conv, y_fieldA, y_field, y_idxA, y_idxS, y_extract, y_mkfn, y_mkif, y_len, y_append, y_minmax, y_slcS, y_slcL, boundD, y_call, contS_nil, contS_seq, contS_seq_ret, contS_seq_exit, contS_block, contS_block_ret, contS_block_exit, contS_round, contS_round_ret, contS_round_exit, St.keep, List.map_cons, List.map_nil, Nat.zero_add, Nat.reduceAdd, decide_eq_true_eq, decide_eq_false_iff_not, true_and, and_true, forall_const, false_implies, true_implies, Bool.not_true, Bool.not_false, Int.natCast_nonneg, Int.toNat_natCast, St.purge, D.purge, D.purges, ne_eq, not_false_eq_true, not_true_eq_false, rowsD, D.toPDs, D.toPD, D.cells, List.any_nil, List.any_cons, List.filter_nil, List.filter_cons, Nat.reduceBEq, Nat.reduceBNe, Bool.false_eq_true, Bool.or_false, Bool.false_or, Bool.or_self, D.fixed, D.sc, D.caps, List.nil_append, List.cons_append, List.getElem?_cons_zero, List.getElem?_cons_succ, List.getElem?_nil, List.drop_zero, List.drop_succ_cons, List.take_succ_cons, List.take_zero, D.drop, D.drops, St.drop, fillD, D.ren, D.rens, backN, St.merge, renBs, seeCaps, lostN, lostT, wrN, D.sel, D.sels, List.append_nil, List.nil_append, List.cons_append, cutFr, D.cut, D.cuts, bsOf, St.after, roundK, List.contains_cons, List.contains_nil, Option.isSome_some, Option.isSome_none, Bool.or_true, Bool.true_or, valsD, valD, D.raws, Int.reduceLE, Int.reduceLT, Int.reduceToNat, Int.reduceEq, Nat.zero_le, Nat.le_refl, Nat.reduceLeDiff, Nat.reduceLT, List.all_cons, List.all_nil, Bool.and_true, Bool.true_and, Bool.and_self, Bool.not_eq_true', Bool.not_eq_false', decide_true, decide_false, eqVs, eqV, beq_self_tt]
      trace_state
      refine awake14.callW (enters_of Tryz.func11 rfl rfl) _ rfl rfl ?_
      rintro d rfl
      simp only [run_seq, run_block, run_region, run_skip, run_exit, run_ret, run_cond, run_draw, aops_nil, aops_none, aops_yes, aops_no, ↓gif_true, ↓gif_false, ↓gifP_true, ↓gifP_false, gif_not, gif_dec, gifP_not, eq_self, aopsK_eq, putK_eq, y_callv, astep, AOp.ex, St.ev, St.get, lk, St.puto, St.put, St.know, D.els, cD, cD0, binD, binV, unD, reduceIte, Option.getD_some, Option.getD_none, Option.map_some, Option.map_none, Option.bind_some, Option.bind_none, List.length_cons, List.length_nil, reduceCtorEq, Nat.reduceEqDiff, St.init, frOf, nextS_eq, y_mv, y_pick, y_alloc, y_box, y_build, y_bslice, y_load, y_store, y_ncheck, y_bin, y_binB, y_eqs, y_un, y_conv, y_fieldA, y_field, y_idxA, y_idxS, y_extract, y_mkfn, y_mkif, y_len, y_append, y_minmax, y_slcS, y_slcL, boundD, y_call, contS_nil, contS_seq, contS_seq_ret, contS_seq_exit, contS_block, contS_block_ret, contS_block_exit, contS_round, contS_round_ret, contS_round_exit, St.keep, List.map_cons, List.map_nil, Nat.zero_add, Nat.reduceAdd, decide_eq_true_eq, decide_eq_false_iff_not, true_and, and_true, forall_const, false_implies, true_implies, Bool.not_true, Bool.not_false, Int.natCast_nonneg, Int.toNat_natCast, St.purge, D.purge, D.purges, ne_eq, not_false_eq_true, not_true_eq_false, rowsD, D.toPDs, D.toPD, D.cells, List.any_nil, List.any_cons, List.filter_nil, List.filter_cons, Nat.reduceBEq, Nat.reduceBNe, Bool.false_eq_true, Bool.or_false, Bool.false_or, Bool.or_self, D.fixed, D.sc, D.caps, List.nil_append, List.cons_append, List.getElem?_cons_zero, List.getElem?_cons_succ, List.getElem?_nil, List.drop_zero, List.drop_succ_cons, List.take_succ_cons, List.take_zero, D.drop, D.drops, St.drop, fillD, D.ren, D.rens, backN, St.merge, renBs, seeCaps, lostN, lostT, wrN, D.sel, D.sels, List.append_nil, List.nil_append, List.cons_append, cutFr, D.cut, D.cuts, bsOf, St.after, roundK, List.contains_cons, List.contains_nil, Option.isSome_some, Option.isSome_none, Bool.or_true, Bool.true_or, valsD, valD, D.raws, Int.reduceLE, Int.reduceLT, Int.reduceToNat, Int.reduceEq, Nat.zero_le, Nat.le_refl, Nat.reduceLeDiff, Nat.reduceLT, List.all_cons, List.all_nil, Bool.and_true, Bool.true_and, Bool.and_self, Bool.not_eq_true', Bool.not_eq_false', decide_true, decide_false]
      simp only [retK, fullK, iterK, resD, resA, AOp.ex, St.ev, Option.map_some, Option.bind_some, St.get, lk, reduceIte, Nat.reduceEqDiff, Option.getD_some, oneD, List.getElem?_cons_zero, List.getElem?_cons_succ, List.drop_zero, List.drop_succ_cons, List.take_succ_cons, List.take_zero, List.length_cons, List.length_nil, Nat.zero_add, Nat.reduceAdd, Nat.le_refl, Nat.reduceLeDiff, D.pub, D.pubs, Tryz.results6]
      exact ⟨_, rfl, rfl, rfl⟩
    | true =>
      obtain ⟨q1, q2, q3⟩ := pick_true hp
      simp only [run_seq, run_block, run_region, run_skip, run_exit, run_ret, run_cond, run_draw, aops_nil, aops_none, aops_yes, aops_no, ↓gif_true, ↓gif_false, ↓gifP_true, ↓gifP_false, gif_not, gif_dec, gifP_not, eq_self, aopsK_eq, putK_eq, y_callv, astep, AOp.ex, St.ev, St.get, lk, St.puto, St.put, St.know, D.els, cD, cD0, binD, binV, unD, reduceIte, Option.getD_some, Option.getD_none, Option.map_some, Option.map_none, Option.bind_some, Option.bind_none, List.length_cons, List.length_nil, reduceCtorEq, Nat.reduceEqDiff, St.init, frOf, nextS_eq, y_mv, y_pick, y_alloc, y_box, y_build, y_bslice, y_load, y_store, y_ncheck, y_bin, y_binB, y_eqs, y_un, y_conv, y_fieldA, y_field, y_idxA, y_idxS, y_extract, y_mkfn, y_mkif, y_len, y_append, y_minmax, y_slcS, y_slcL, boundD, y_call, contS_nil, contS_seq, contS_seq_ret, contS_seq_exit, contS_block, contS_block_ret, contS_block_exit, contS_round, contS_round_ret, contS_round_exit, St.keep, List.map_cons, List.map_nil, Nat.zero_add, Nat.reduceAdd, decide_eq_true_eq, decide_eq_false_iff_not, true_and, and_true, forall_const, false_implies, true_implies, Bool.not_true, Bool.not_false, Int.natCast_nonneg, Int.toNat_natCast, St.purge, D.purge, D.purges, ne_eq, not_false_eq_true, not_true_eq_false, rowsD, D.toPDs, D.toPD, D.cells, List.any_nil, List.any_cons, List.filter_nil, List.filter_cons, Nat.reduceBEq, Nat.reduceBNe, Bool.false_eq_true, Bool.or_false, Bool.false_or, Bool.or_self, D.fixed, D.sc, D.caps, List.nil_append, List.cons_append, List.getElem?_cons_zero, List.getElem?_cons_succ, List.getElem?_nil, List.drop_zero, List.drop_succ_cons, List.take_succ_cons, List.take_zero, D.drop, D.drops, St.drop, fillD, D.ren, D.rens, backN, St.merge, renBs, seeCaps, lostN, lostT, wrN, D.sel, D.sels, List.append_nil, List.nil_append, List.cons_append, cutFr, D.cut, D.cuts, bsOf, St.after, roundK, List.contains_cons, List.contains_nil, Option.isSome_some, Option.isSome_none, Bool.or_true, Bool.true_or, valsD, valD, D.raws, Int.reduceLE, Int.reduceLT, Int.reduceToNat, Int.reduceEq, Nat.zero_le, Nat.le_refl, Nat.reduceLeDiff, Nat.reduceLT, List.all_cons, List.all_nil, Bool.and_true, Bool.true_and, Bool.and_self, Bool.not_eq_true', Bool.not_eq_false', decide_true, decide_false, eqVs, eqV, beq_self_tt, q1, q2, q3]
      refine awake14.callW (enters_of Tryz.func11 rfl rfl) _ rfl rfl ?_
      rintro d rfl
      simp only [run_seq, run_block, run_region, run_skip, run_exit, run_ret, run_cond, run_draw, aops_nil, aops_none, aops_yes, aops_no, ↓gif_true, ↓gif_false, ↓gifP_true, ↓gifP_false, gif_not, gif_dec, gifP_not, eq_self, aopsK_eq, putK_eq, y_callv, astep, AOp.ex, St.ev, St.get, lk, St.puto, St.put, St.know, D.els, cD, cD0, binD, binV, unD, reduceIte, Option.getD_some, Option.getD_none, Option.map_some, Option.map_none, Option.bind_some, Option.bind_none, List.length_cons, List.length_nil, reduceCtorEq, Nat.reduceEqDiff, St.init, frOf, nextS_eq, y_mv, y_pick, y_alloc, y_box, y_build, y_bslice, y_load, y_store, y_ncheck, y_bin, y_binB, y_eqs, y_un, y_conv, y_fieldA, y_field, y_idxA, y_idxS, y_extract, y_mkfn, y_mkif, y_len, y_append, y_minmax, y_slcS, y_slcL, boundD, y_call, contS_nil, contS_seq, contS_seq_ret, contS_seq_exit, contS_block, contS_block_ret, contS_block_exit, contS_round, contS_round_ret, contS_round_exit, St.keep, List.map_cons, List.map_nil, Nat.zero_add, Nat.reduceAdd, decide_eq_true_eq, decide_eq_false_iff_not, true_and, and_true, forall_const, false_implies, true_implies, Bool.not_true, Bool.not_false, Int.natCast_nonneg, Int.toNat_natCast, St.purge, D.purge, D.purges, ne_eq, not_false_eq_true, not_true_eq_false, rowsD, D.toPDs, D.toPD, D.cells, List.any_nil, List.any_cons, List.filter_nil, List.filter_cons, Nat.reduceBEq, Nat.reduceBNe, Bool.false_eq_true, Bool.or_false, Bool.false_or, Bool.or_self, D.fixed, D.sc, D.caps, List.nil_append, List.cons_append, List.getElem?_cons_zero, List.getElem?_cons_succ, List.getElem?_nil, List.drop_zero, List.drop_succ_cons, List.take_succ_cons, List.take_zero, D.drop, D.drops, St.drop, fillD, D.ren, D.rens, backN, St.merge, renBs, seeCaps, lostN, lostT, wrN, D.sel, D.sels, List.append_nil, List.nil_append, List.cons_append, cutFr, D.cut, D.cuts, bsOf, St.after, roundK, List.contains_cons, List.contains_nil, Option.isSome_some, Option.isSome_none, Bool.or_true, Bool.true_or, valsD, valD, D.raws, Int.reduceLE, Int.reduceLT, Int.reduceToNat, Int.reduceEq, Nat.zero_le, Nat.le_refl, Nat.reduceLeDiff, Nat.reduceLT, List.all_cons, List.all_nil, Bool.and_true, Bool.true_and, Bool.and_self, Bool.not_eq_true', Bool.not_eq_false', decide_true, decide_false]
      simp only [retK, fullK, iterK, resD, resA, AOp.ex, St.ev, Option.map_some, Option.bind_some, St.get, lk, reduceIte, Nat.reduceEqDiff, Option.getD_some, oneD, List.getElem?_cons_zero, List.getElem?_cons_succ, List.drop_zero, List.drop_succ_cons, List.take_succ_cons, List.take_zero, List.length_cons, List.length_nil, Nat.zero_add, Nat.reduceAdd, Nat.le_refl, Nat.reduceLeDiff, D.pub, D.pubs, Tryz.results6]
      exact ⟨_, rfl, rfl, rfl⟩

end Go.Proofs.YtbpgebfejebmlaaGreatDoor
