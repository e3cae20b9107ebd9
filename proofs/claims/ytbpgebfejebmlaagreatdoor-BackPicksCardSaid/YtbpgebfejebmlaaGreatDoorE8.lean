/- The document's choice is the program's; the document's Pick. -/
import Derived.Test.YtbpgebfejebmlaaGreatDoorE7
namespace Go.Proofs.YtbpgebfejebmlaaGreatDoor
open Go Go.RowKit
set_option linter.unusedSimpArgs false
set_option linter.unusedVariables false

theorem heavy_nat (x : Int) : heavy x = ((min 1000 x.toNat : Nat) : Int) := by unfold heavy; omega

theorem chs_total : ∀ (i : Nat) (ws : List Int), ((chs i ws).length : Int) = total ws
  | _, [] => rfl
  | i, w :: ws => by
    have := chs_total (i + 1) ws
    simp only [chs, total, List.length_append, List.length_replicate, heavy_nat]
    omega

theorem pos_chs : ∀ (i : Nat) (ws : List Int) (m : Nat), (m : Int) < total ws → ∃ j : Nat, pos i ws m = some j ∧ (chs i ws)[m]? = some (j : Int)
  | _, [], m, h => by simp [total] at h; omega
  | i, w :: ws, m, h => by
    simp only [total, heavy_nat] at h
    simp only [pos, chs, heavy_nat]
    by_cases hm : m < min 1000 w.toNat
    · refine ⟨i, if_pos (by omega), ?_⟩
      rw [List.getElem?_append_left (by rw [List.length_replicate]; exact hm), List.getElem?_replicate, if_pos hm]
    · obtain ⟨j, h1, h2⟩ := pos_chs (i + 1) ws (m - min 1000 w.toNat) (by omega)
      refine ⟨j, ?_, ?_⟩
      · rw [if_neg (by omega), ← h1]
        congr 1
        omega
      · rw [List.getElem?_append_right (by rw [List.length_replicate]; omega), List.length_replicate]
        exact h2

theorem refChoose_eq (ws : List Int) (n : Nat) : refChoose ws n = placeD (choose ws n) := by
  unfold refChoose choose
  have ht := chs_total 0 ws
  by_cases h0 : (chs 0 ws).length = 0
  · rw [if_pos h0, if_pos (by omega)]; rfl
  · rw [if_neg h0, if_neg (by omega)]
    have hm : n % (chs 0 ws).length < (chs 0 ws).length := Nat.mod_lt _ (by omega)
    have e : (n : Int) % total ws = ((n % (chs 0 ws).length : Nat) : Int) := by rw [← ht]; simp
    obtain ⟨j, h1, h2⟩ := pos_chs 0 ws (n % (chs 0 ws).length) (by omega)
    rw [e, h1, List.getD_eq_getElem?_getD, h2]
    rfl

theorem ref_Choose2 (ws : List Int) (n : Nat) (hn : n < 2 ^ 64) (hl : ws.length ≤ 8) : Pure Tryz.prog 17 [.pd (.slice (ints ws)), u64 n] (fun d => d = placeD (choose ws n)) :=
  (ref_Choose' ws n hn hl).mono fun d h => by rw [h, refChoose_eq]

set_option maxRecDepth 100000 in
theorem ref_Pick (gs : List AGoal) (n : Nat) (hn : n < 2 ^ 64) (hl : gs.length ≤ 8) : Pure Tryz.prog 19 [.pd (.slice (rows AGoal.pd gs)), u64 n] (fun d => d = .tup [(pick gs n).1.d, bln (pick gs n).2]) := by
  refine pure_of_run follows an_tollref14_Pick Tryz.func19 rfl ok_tollref14_Pick dst_tollref14_Pick (by simp [Tryz.ntmps19]) ?_
  rw [run_start]
  simp only [ac_tollref14_Pick, run_seq, run_block, run_region, run_skip, run_exit, run_ret, run_cond, run_draw, aops_nil, aops_none, aops_yes, aops_no, ↓gif_true, ↓gif_false, ↓gifP_true, ↓gifP_false, gif_not, gif_dec, gifP_not, eq_self, aopsK_eq, putK_eq, y_callv, astep, AOp.ex, St.ev, St.get, lk, St.puto, St.put, St.know, D.els, cD, cD0, binD, binV, unD, reduceIte, Option.getD_some, Option.getD_none, Option.map_some, Option.map_none, Option.bind_some, Option.bind_none, List.length_cons, List.length_nil, reduceCtorEq, Nat.reduceEqDiff, St.init, frOf, nextS_eq, y_mv, y_pick, y_alloc, y_box, y_build, y_bslice, y_load, y_store, y_ncheck, y_bin, y_binB, y_eqs, y_un, y_conv, y_fieldA, y_field, y_idxA, y_idxS, y_extract, y_mkfn, y_mkif, y_len, y_append, y_minmax, y_slcS, y_slcL, boundD, y_call, contS_nil, contS_seq, contS_seq_ret, contS_seq_exit, contS_block, contS_block_ret, contS_block_exit, contS_round, contS_round_ret, contS_round_exit, St.keep, List.map_cons, List.map_nil, Nat.zero_add, Nat.reduceAdd, decide_eq_true_eq, decide_eq_false_iff_not, true_and, and_true, forall_const, false_implies, true_implies, Bool.not_true, Bool.not_false, Int.natCast_nonneg, Int.toNat_natCast, St.purge, D.purge, D.purges, ne_eq, not_false_eq_true, not_true_eq_false, rowsD, D.toPDs, D.toPD, D.cells, List.any_nil, List.any_cons, List.filter_nil, List.filter_cons, Nat.reduceBEq, Nat.reduceBNe, Bool.false_eq_true, Bool.or_false, Bool.false_or, Bool.or_self, D.fixed, D.sc, D.caps, List.nil_append, List.cons_append, List.getElem?_cons_zero, List.getElem?_cons_succ, List.getElem?_nil, List.drop_zero, List.drop_succ_cons, List.take_succ_cons, List.take_zero, D.drop, D.drops, St.drop, fillD, D.ren, D.rens, backN, St.merge, renBs, seeCaps, lostN, lostT, wrN, D.sel, D.sels, List.append_nil, List.nil_append, List.cons_append, cutFr, D.cut, D.cuts, bsOf, St.after, roundK, List.contains_cons, List.contains_nil, Option.isSome_some, Option.isSome_none, Bool.or_true, Bool.true_or, valsD, valD, D.raws, Int.reduceLE, Int.reduceLT, Int.reduceToNat, Int.reduceEq, Nat.zero_le, Nat.le_refl, Nat.reduceLeDiff, Nat.reduceLT, List.all_cons, List.all_nil, Bool.and_true, Bool.true_and, Bool.and_self, Bool.not_eq_true', Bool.not_eq_false', decide_true, decide_false]
  refine loopS (fun k st => ∃ i : Nat, k = gs.length - i ∧ i ≤ gs.length ∧
    st = ⟨[(0, .pd (.slice (rows AGoal.pd gs))), (1, u64 n), (4, .ptr 4 0), (6, .own 3 1 (ints ((gs.take i).map (·.weight))) 23), (7, int i)], [(4, [int 0, str ⟨#[]⟩, str ⟨#[]⟩, int 0, int 0, bln false])], [], .no⟩) gs.length _
    ?_ ⟨0, rfl, by omega, rfl⟩ ?_
  · exact Weak.own1 6 23 3 1 (by kernel_rfl) (by decide) rfl (by simp [lessL, lk, St.purge, St.put, D.purge, rows]) (by simp [lessL, lk, St.purge, D.purges, D.purge]) (by simp [lessL]) rfl
  rintro k st ⟨i, rfl, hi, rfl⟩
  have hi1 : IntKind.i64.wrap ((i : Int) + 1) = ((i + 1 : Nat) : Int) := by rw [IntWalk.i64_in _ (by omega)]; omega
  by_cases hlt : i < gs.length
  · obtain ⟨g, hg⟩ := at_lt hlt
    have h1 : (i : Int) < (gs.length : Int) := by omega
    simp only [run_seq, run_block, run_region, run_skip, run_exit, run_ret, run_cond, run_draw, aops_nil, aops_none, aops_yes, aops_no, ↓gif_true, ↓gif_false, ↓gifP_true, ↓gifP_false, gif_not, gif_dec, gifP_not, eq_self, aopsK_eq, putK_eq, y_callv, astep, AOp.ex, St.ev, St.get, lk, St.puto, St.put, St.know, D.els, cD, cD0, binD, binV, unD, reduceIte, Option.getD_some, Option.getD_none, Option.map_some, Option.map_none, Option.bind_some, Option.bind_none, List.length_cons, List.length_nil, reduceCtorEq, Nat.reduceEqDiff, St.init, frOf, nextS_eq, y_mv, y_pick, y_alloc, y_box, y_build, y_bslice, y_load, y_store, y_ncheck, y_bin, y_binB, y_eqs, y_un, y_conv, y_fieldA, y_field, y_idxA, y_idxS, y_extract, y_mkfn, y_mkif, y_len, y_append, y_minmax, y_slcS, y_slcL, boundD, y_call, contS_nil, contS_seq, contS_seq_ret, contS_seq_exit, contS_block, contS_block_ret, contS_block_exit, contS_round, contS_round_ret, contS_round_exit, St.keep, List.map_cons, List.map_nil, Nat.zero_add, Nat.reduceAdd, decide_eq_true_eq, decide_eq_false_iff_not, true_and, and_true, forall_const, false_implies, true_implies, Bool.not_true, Bool.not_false, Int.natCast_nonneg, Int.toNat_natCast, St.purge, D.purge, D.purges, ne_eq, not_false_eq_true, not_true_eq_false, rowsD, D.toPDs, D.toPD, D.cells, List.any_nil, List.any_cons, List.filter_nil, List.filter_cons, Nat.reduceBEq, Nat.reduceBNe, Bool.false_eq_true, Bool.or_false, Bool.false_or, Bool.or_self, D.fixed, D.sc, D.caps, List.nil_append, List.cons_append, List.getElem?_cons_zero, List.getElem?_cons_succ, List.getElem?_nil, List.drop_zero, List.drop_succ_cons, List.take_succ_cons, List.take_zero, D.drop, D.drops, St.drop, fillD, D.ren, D.rens, backN, St.merge, renBs, seeCaps, lostN, lostT, wrN, D.sel, D.sels, List.append_nil, List.nil_append, List.cons_append, cutFr, D.cut, D.cuts, bsOf, St.after, roundK, List.contains_cons, List.contains_nil, Option.isSome_some, Option.isSome_none, Bool.or_true, Bool.true_or, valsD, valD, D.raws, Int.reduceLE, Int.reduceLT, Int.reduceToNat, Int.reduceEq, Nat.zero_le, Nat.le_refl, Nat.reduceLeDiff, Nat.reduceLT, List.all_cons, List.all_nil, Bool.and_true, Bool.true_and, Bool.and_self, Bool.not_eq_true', Bool.not_eq_false', decide_true, decide_false, rows_len, rows_get hg, h1, hi1]
    have e1 : ints ((gs.take i).map (·.weight)) ++ [[pInt g.weight]] = ints ((gs.take (i + 1)).map (·.weight)) := by
      rw [take_at hg, List.map_append]; exact ints_one _ _
    rw [e1]
    refine ⟨by simp, by unfold maxLen; simp; omega, by simp; omega, gs.length - (i + 1), _, by omega, ?_, i + 1, rfl, by omega, rfl⟩
    exact Weak.less (by simp [lessL, lk]) (by simp [lessL, lk]) (by simp [lessL]) rfl
  · have h1 : ¬ (i : Int) < (gs.length : Int) := by omega
    simp only [run_seq, run_block, run_region, run_skip, run_exit, run_ret, run_cond, run_draw, aops_nil, aops_none, aops_yes, aops_no, ↓gif_true, ↓gif_false, ↓gifP_true, ↓gifP_false, gif_not, gif_dec, gifP_not, eq_self, aopsK_eq, putK_eq, y_callv, astep, AOp.ex, St.ev, St.get, lk, St.puto, St.put, St.know, D.els, cD, cD0, binD, binV, unD, reduceIte, Option.getD_some, Option.getD_none, Option.map_some, Option.map_none, Option.bind_some, Option.bind_none, List.length_cons, List.length_nil, reduceCtorEq, Nat.reduceEqDiff, St.init, frOf, nextS_eq, y_mv, y_pick, y_alloc, y_box, y_build, y_bslice, y_load, y_store, y_ncheck, y_bin, y_binB, y_eqs, y_un, y_conv, y_fieldA, y_field, y_idxA, y_idxS, y_extract, y_mkfn, y_mkif, y_len, y_append, y_minmax, y_slcS, y_slcL, boundD, y_call, contS_nil, contS_seq, contS_seq_ret, contS_seq_exit, contS_block, contS_block_ret, contS_block_exit, contS_round, contS_round_ret, contS_round_exit, St.keep, List.map_cons, List.map_nil, Nat.zero_add, Nat.reduceAdd, decide_eq_true_eq, decide_eq_false_iff_not, true_and, and_true, forall_const, false_implies, true_implies, Bool.not_true, Bool.not_false, Int.natCast_nonneg, Int.toNat_natCast, St.purge, D.purge, D.purges, ne_eq, not_false_eq_true, not_true_eq_false, rowsD, D.toPDs, D.toPD, D.cells, List.any_nil, List.any_cons, List.filter_nil, List.filter_cons, Nat.reduceBEq, Nat.reduceBNe, Bool.false_eq_true, Bool.or_false, Bool.false_or, Bool.or_self, D.fixed, D.sc, D.caps, List.nil_append, List.cons_append, List.getElem?_cons_zero, List.getElem?_cons_succ, List.getElem?_nil, List.drop_zero, List.drop_succ_cons, List.take_succ_cons, List.take_zero, D.drop, D.drops, St.drop, fillD, D.ren, D.rens, backN, St.merge, renBs, seeCaps, lostN, lostT, wrN, D.sel, D.sels, List.append_nil, List.nil_append, List.cons_append, cutFr, D.cut, D.cuts, bsOf, St.after, roundK, List.contains_cons, List.contains_nil, Option.isSome_some, Option.isSome_none, Bool.or_true, Bool.true_or, valsD, valD, D.raws, Int.reduceLE, Int.reduceLT, Int.reduceToNat, Int.reduceEq, Nat.zero_le, Nat.le_refl, Nat.reduceLeDiff, Nat.reduceLT, List.all_cons, List.all_nil, Bool.and_true, Bool.true_and, Bool.and_self, Bool.not_eq_true', Bool.not_eq_false', decide_true, decide_false, rows_len, h1, List.take_of_length_le (show gs.length ≤ i by omega)]
    refine (ref_Choose2 (gs.map (·.weight)) n hn (by simpa using hl)).callW (enters_of Tryz.func17 rfl rfl) _ rfl rfl ?_
    rintro d rfl
    unfold pick
    cases hch : choose (gs.map (·.weight)) n with
    | none =>
      simp only [placeD, run_seq, run_block, run_region, run_skip, run_exit, run_ret, run_cond, run_draw, aops_nil, aops_none, aops_yes, aops_no, ↓gif_true, ↓gif_false, ↓gifP_true, ↓gifP_false, gif_not, gif_dec, gifP_not, eq_self, aopsK_eq, putK_eq, y_callv, astep, AOp.ex, St.ev, St.get, lk, St.puto, St.put, St.know, D.els, cD, cD0, binD, binV, unD, reduceIte, Option.getD_some, Option.getD_none, Option.map_some, Option.map_none, Option.bind_some, Option.bind_none, List.length_cons, List.length_nil, reduceCtorEq, Nat.reduceEqDiff, St.init, frOf, nextS_eq, y_mv, y_pick, y_alloc, y_box, y_build, y_bslice, y_load, y_store, y_ncheck, y_bin, y_binB, y_eqs, y_un, y_conv, y_fieldA, y_field, y_idxA, y_idxS, y_extract, y_mkfn, y_mkif, y_len, y_append, y_minmax, y_slcS, y_slcL, boundD, y_call, contS_nil, contS_seq, contS_seq_ret, contS_seq_exit, contS_block, contS_block_ret, contS_block_exit, contS_round, contS_round_ret, contS_round_exit, St.keep, List.map_cons, List.map_nil, Nat.zero_add, Nat.reduceAdd, decide_eq_true_eq, decide_eq_false_iff_not, true_and, and_true, forall_const, false_implies, true_implies, Bool.not_true, Bool.not_false, Int.natCast_nonneg, Int.toNat_natCast, St.purge, D.purge, D.purges, ne_eq, not_false_eq_true, not_true_eq_false, rowsD, D.toPDs, D.toPD, D.cells, List.any_nil, List.any_cons, List.filter_nil, List.filter_cons, Nat.reduceBEq, Nat.reduceBNe, Bool.false_eq_true, Bool.or_false, Bool.false_or, Bool.or_self, D.fixed, D.sc, D.caps, List.nil_append, List.cons_append, List.getElem?_cons_zero, List.getElem?_cons_succ, List.getElem?_nil, List.drop_zero, List.drop_succ_cons, List.take_succ_cons, List.take_zero, D.drop, D.drops, St.drop, fillD, D.ren, D.rens, backN, St.merge, renBs, seeCaps, lostN, lostT, wrN, D.sel, D.sels, List.append_nil, List.nil_append, List.cons_append, cutFr, D.cut, D.cuts, bsOf, St.after, roundK, List.contains_cons, List.contains_nil, Option.isSome_some, Option.isSome_none, Bool.or_true, Bool.true_or, valsD, valD, D.raws, Int.reduceLE, Int.reduceLT, Int.reduceToNat, Int.reduceEq, Nat.zero_le, Nat.le_refl, Nat.reduceLeDiff, Nat.reduceLT, List.all_cons, List.all_nil, Bool.and_true, Bool.true_and, Bool.and_self, Bool.not_eq_true', Bool.not_eq_false', decide_true, decide_false]
      simp only [retK, fullK, iterK, resD, resA, AOp.ex, St.ev, Option.map_some, Option.bind_some, St.get, lk, reduceIte, Nat.reduceEqDiff, Option.getD_some, oneD, List.getElem?_cons_zero, List.getElem?_cons_succ, List.drop_zero, List.drop_succ_cons, List.take_succ_cons, List.take_zero, List.length_cons, List.length_nil, Nat.zero_add, Nat.reduceAdd, Nat.le_refl, Nat.reduceLeDiff, D.pub, D.pubs, ret_tollref14_Pick]
      exact ⟨_, rfl, rfl, rfl⟩
    | some i =>
      have hi := choose_lt hch
      rw [List.length_map] at hi
      obtain ⟨g, hg⟩ := at_lt hi
      simp only [placeD, run_seq, run_block, run_region, run_skip, run_exit, run_ret, run_cond, run_draw, aops_nil, aops_none, aops_yes, aops_no, ↓gif_true, ↓gif_false, ↓gifP_true, ↓gifP_false, gif_not, gif_dec, gifP_not, eq_self, aopsK_eq, putK_eq, y_callv, astep, AOp.ex, St.ev, St.get, lk, St.puto, St.put, St.know, D.els, cD, cD0, binD, binV, unD, reduceIte, Option.getD_some, Option.getD_none, Option.map_some, Option.map_none, Option.bind_some, Option.bind_none, List.length_cons, List.length_nil, reduceCtorEq, Nat.reduceEqDiff, St.init, frOf, nextS_eq, y_mv, y_pick, y_alloc, y_box, y_build, y_bslice, y_load, y_store, y_ncheck, y_bin, y_binB, y_eqs, y_un, y_conv, y_fieldA, y_field, y_idxA, y_idxS, y_extract, y_mkfn, y_mkif, y_len, y_append, y_minmax, y_slcS, y_slcL, boundD, y_call, contS_nil, contS_seq, contS_seq_ret, contS_seq_exit, contS_block, contS_block_ret, contS_block_exit, contS_round, contS_round_ret, contS_round_exit, St.keep, List.map_cons, List.map_nil, Nat.zero_add, Nat.reduceAdd, decide_eq_true_eq, decide_eq_false_iff_not, true_and, and_true, forall_const, false_implies, true_implies, Bool.not_true, Bool.not_false, Int.natCast_nonneg, Int.toNat_natCast, St.purge, D.purge, D.purges, ne_eq, not_false_eq_true, not_true_eq_false, rowsD, D.toPDs, D.toPD, D.cells, List.any_nil, List.any_cons, List.filter_nil, List.filter_cons, Nat.reduceBEq, Nat.reduceBNe, Bool.false_eq_true, Bool.or_false, Bool.false_or, Bool.or_self, D.fixed, D.sc, D.caps, List.nil_append, List.cons_append, List.getElem?_cons_zero, List.getElem?_cons_succ, List.getElem?_nil, List.drop_zero, List.drop_succ_cons, List.take_succ_cons, List.take_zero, D.drop, D.drops, St.drop, fillD, D.ren, D.rens, backN, St.merge, renBs, seeCaps, lostN, lostT, wrN, D.sel, D.sels, List.append_nil, List.nil_append, List.cons_append, cutFr, D.cut, D.cuts, bsOf, St.after, roundK, List.contains_cons, List.contains_nil, Option.isSome_some, Option.isSome_none, Bool.or_true, Bool.true_or, valsD, valD, D.raws, Int.reduceLE, Int.reduceLT, Int.reduceToNat, Int.reduceEq, Nat.zero_le, Nat.le_refl, Nat.reduceLeDiff, Nat.reduceLT, List.all_cons, List.all_nil, Bool.and_true, Bool.true_and, Bool.and_self, Bool.not_eq_true', Bool.not_eq_false', decide_true, decide_false, rows_get hg]
      refine ⟨fun hb => ?_, fun hb => ?_⟩
      · simp only [retK, fullK, iterK, resD, resA, AOp.ex, St.ev, Option.map_some, Option.bind_some, St.get, lk, reduceIte, Nat.reduceEqDiff, Option.getD_some, oneD, List.getElem?_cons_zero, List.getElem?_cons_succ, List.drop_zero, List.drop_succ_cons, List.take_succ_cons, List.take_zero, List.length_cons, List.length_nil, Nat.zero_add, Nat.reduceAdd, Nat.le_refl, Nat.reduceLeDiff, D.pub, D.pubs, ret_tollref14_Pick, hg, hb]
        exact ⟨_, rfl, rfl, rfl⟩
      · simp only [retK, fullK, iterK, resD, resA, AOp.ex, St.ev, Option.map_some, Option.bind_some, St.get, lk, reduceIte, Nat.reduceEqDiff, Option.getD_some, oneD, List.getElem?_cons_zero, List.getElem?_cons_succ, List.drop_zero, List.drop_succ_cons, List.take_succ_cons, List.take_zero, List.length_cons, List.length_nil, Nat.zero_add, Nat.reduceAdd, Nat.le_refl, Nat.reduceLeDiff, D.pub, D.pubs, ret_tollref14_Pick, hg, hb]
        exact ⟨_, rfl, rfl, by simp [hb, D.pub, D.pubs]⟩

end Go.Proofs.YtbpgebfejebmlaaGreatDoor
