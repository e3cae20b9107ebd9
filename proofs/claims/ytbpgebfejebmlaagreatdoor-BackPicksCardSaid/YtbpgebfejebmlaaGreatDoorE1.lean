/- The document's Choose (tollref14): its contract. -/
import Derived.Test.YtbpgebfejebmlaaGreatDoorT0
import Derived.Test.YtbpgebfejebmlaaGreatDoorD1
namespace Go.Proofs.YtbpgebfejebmlaaGreatDoor
open Go Go.RowKit
set_option linter.unusedSimpArgs false
set_option linter.unusedVariables false

def chs : Nat → List Int → List Int
  | _, [] => []
  | i, w :: ws => List.replicate (min 1000 w.toNat) (i : Int) ++ chs (i + 1) ws

theorem chs_len : ∀ (i : Nat) (ws : List Int), (chs i ws).length ≤ 1000 * ws.length
  | _, [] => by simp [chs]
  | i, w :: ws => by
    have := chs_len (i + 1) ws
    simp only [chs, List.length_append, List.length_replicate, List.length_cons]
    omega

theorem chs_drop {ws : List Int} {i : Nat} {x : Int} (h : ws[i]? = some x) : chs i (ws.drop i) = List.replicate (min 1000 x.toNat) (i : Int) ++ chs (i + 1) (ws.drop (i + 1)) := by
  obtain ⟨hi, hx⟩ := List.getElem?_eq_some_iff.1 h
  rw [List.drop_eq_getElem_cons hi, hx, chs]

set_option maxRecDepth 100000 in
theorem ref_Choose (ws : List Int) (n : Nat) (hn : n < 2 ^ 64) (hl : ws.length ≤ 8) : Pure Tryz.prog 17 [.pd (.slice (ints ws)), u64 n]
    (fun d => d = if (chs 0 ws).length = 0 then .tup [int 0, bln false] else .tup [int ((chs 0 ws).getD (n % (chs 0 ws).length) 0), bln true]) := by
  refine pure_of_run follows an_tollref14_Choose Tryz.func17 rfl ok_tollref14_Choose dst_tollref14_Choose (by simp [Tryz.ntmps17]) ?_
  rw [run_start]
  simp only [ac_tollref14_Choose, run_seq, run_block, run_region, run_skip, run_exit, run_ret, run_cond, run_draw, aops_nil, aops_none, aops_yes, aops_no, ↓gif_true, ↓gif_false, ↓gifP_true, ↓gifP_false, gif_not, gif_dec, gifP_not, eq_self, aopsK_eq, putK_eq, y_callv, astep, AOp.ex, St.ev, St.get, lk, St.puto, St.put, St.know, D.els, cD, cD0, binD, binV, unD, reduceIte, Option.getD_some, Option.getD_none, Option.map_some, Option.map_none, Option.bind_some, Option.bind_none, List.length_cons, List.length_nil, reduceCtorEq, Nat.reduceEqDiff, St.init, frOf, nextS_eq, y_mv, y_pick, y_alloc, y_box, y_build, y_bslice, y_load, y_store, y_ncheck, y_bin, y_binB, y_eqs, y_un, y_conv, y_fieldA, y_field, y_idxA, y_idxS, y_extract, y_mkfn, y_mkif, y_len, y_append, y_minmax, y_slcS, y_slcL, boundD, y_call, contS_nil, contS_seq, contS_seq_ret, contS_seq_exit, contS_block, contS_block_ret, contS_block_exit, contS_round, contS_round_ret, contS_round_exit, St.keep, List.map_cons, List.map_nil, Nat.zero_add, Nat.reduceAdd, decide_eq_true_eq, decide_eq_false_iff_not, true_and, and_true, forall_const, false_implies, true_implies, Bool.not_true, Bool.not_false, Int.natCast_nonneg, Int.toNat_natCast, St.purge, D.purge, D.purges, ne_eq, not_false_eq_true, not_true_eq_false, rowsD, D.toPDs, D.toPD, D.cells, List.any_nil, List.any_cons, List.filter_nil, List.filter_cons, Nat.reduceBEq, Nat.reduceBNe, Bool.false_eq_true, Bool.or_false, Bool.false_or, Bool.or_self, D.fixed, D.sc, D.caps, List.nil_append, List.cons_append, List.getElem?_cons_zero, List.getElem?_cons_succ, List.getElem?_nil, List.drop_zero, List.drop_succ_cons, List.take_succ_cons, List.take_zero, D.drop, D.drops, St.drop, fillD, D.ren, D.rens, backN, St.merge, renBs, seeCaps, lostN, lostT, wrN, D.sel, D.sels, List.append_nil, List.nil_append, List.cons_append, cutFr, D.cut, D.cuts, bsOf, St.after, roundK, List.contains_cons, List.contains_nil, Option.isSome_some, Option.isSome_none, Bool.or_true, Bool.true_or, valsD, valD, D.raws, Int.reduceLE, Int.reduceLT, Int.reduceToNat, Int.reduceEq, Nat.zero_le, Nat.le_refl, Nat.reduceLeDiff, Nat.reduceLT, List.all_cons, List.all_nil, Bool.and_true, Bool.true_and, Bool.and_self, Bool.not_eq_true', Bool.not_eq_false', decide_true, decide_false]
  refine loopS (fun k st => ∃ (i : Nat) (out : List Int), k = ws.length - i ∧ i ≤ ws.length ∧ out ++ chs i (ws.drop i) = chs 0 ws ∧
    st = ⟨[(0, .pd (.slice (ints ws))), (1, u64 n), (6, .own 3 1 (ints out) 30), (7, int i)], [], [], .no⟩) ws.length _
    ((Weak.own0 6 30 3 (ti := (Tryz.prog.info? 3).get!) rfl (by decide) rfl).trans (Weak.less (st' := ⟨[(0, .pd (.slice (ints ws))), (1, u64 n), (6, .own 3 1 (ints []) 30), (7, int 0)], [], [], .no⟩) ⟨rfl, rfl, rfl, rfl, trivial⟩ trivial trivial rfl))
    ⟨0, [], rfl, Nat.zero_le _, rfl, rfl⟩ ?_
  rintro k st ⟨i, out, rfl, hi, hout, rfl⟩
  have hol : out.length ≤ 8000 := by
    have h1 := congrArg List.length hout
    have h2 := chs_len 0 ws
    rw [List.length_append] at h1
    omega
  simp only [run_seq, run_block, run_region, run_skip, run_exit, run_ret, run_cond, run_draw, aops_nil, aops_none, aops_yes, aops_no, ↓gif_true, ↓gif_false, ↓gifP_true, ↓gifP_false, gif_not, gif_dec, gifP_not, eq_self, aopsK_eq, putK_eq, y_callv, astep, AOp.ex, St.ev, St.get, lk, St.puto, St.put, St.know, D.els, cD, cD0, binD, binV, unD, reduceIte, Option.getD_some, Option.getD_none, Option.map_some, Option.map_none, Option.bind_some, Option.bind_none, List.length_cons, List.length_nil, reduceCtorEq, Nat.reduceEqDiff, St.init, frOf, nextS_eq, y_mv, y_pick, y_alloc, y_box, y_build, y_bslice, y_load, y_store, y_ncheck, y_bin, y_binB, y_eqs, y_un, y_conv, y_fieldA, y_field, y_idxA, y_idxS, y_extract, y_mkfn, y_mkif, y_len, y_append, y_minmax, y_slcS, y_slcL, boundD, y_call, contS_nil, contS_seq, contS_seq_ret, contS_seq_exit, contS_block, contS_block_ret, contS_block_exit, contS_round, contS_round_ret, contS_round_exit, St.keep, List.map_cons, List.map_nil, Nat.zero_add, Nat.reduceAdd, decide_eq_true_eq, decide_eq_false_iff_not, true_and, and_true, forall_const, false_implies, true_implies, Bool.not_true, Bool.not_false, Int.natCast_nonneg, Int.toNat_natCast, St.purge, D.purge, D.purges, ne_eq, not_false_eq_true, not_true_eq_false, rowsD, D.toPDs, D.toPD, D.cells, List.any_nil, List.any_cons, List.filter_nil, List.filter_cons, Nat.reduceBEq, Nat.reduceBNe, Bool.false_eq_true, Bool.or_false, Bool.false_or, Bool.or_self, D.fixed, D.sc, D.caps, List.nil_append, List.cons_append, List.getElem?_cons_zero, List.getElem?_cons_succ, List.getElem?_nil, List.drop_zero, List.drop_succ_cons, List.take_succ_cons, List.take_zero, D.drop, D.drops, St.drop, fillD, D.ren, D.rens, backN, St.merge, renBs, seeCaps, lostN, lostT, wrN, D.sel, D.sels, List.append_nil, List.nil_append, List.cons_append, cutFr, D.cut, D.cuts, bsOf, St.after, roundK, List.contains_cons, List.contains_nil, Option.isSome_some, Option.isSome_none, Bool.or_true, Bool.true_or, valsD, valD, D.raws, Int.reduceLE, Int.reduceLT, Int.reduceToNat, Int.reduceEq, Nat.zero_le, Nat.le_refl, Nat.reduceLeDiff, Nat.reduceLT, List.all_cons, List.all_nil, Bool.and_true, Bool.true_and, Bool.and_self, Bool.not_eq_true', Bool.not_eq_false', decide_true, decide_false, ints_len]
  refine ⟨fun hlt => ?_, fun hge => ?_⟩
  · obtain ⟨x, hx⟩ : ∃ x, ws[i]? = some x := ⟨_, List.getElem?_eq_getElem (by omega)⟩
    have hd := chs_drop hx
    refine loopS (fun k st => ∃ (j : Nat), k = 1000 - j ∧ j ≤ min 1000 x.toNat ∧
      st = ⟨[(0, .pd (.slice (ints ws))), (1, u64 n), (6, .own 3 1 (ints (out ++ List.replicate j (i : Int))) 30), (7, int i), (8, int j)], [], [], .no⟩) 1000 _
      (Weak.refl _ _) ⟨0, rfl, by omega, by simp⟩ ?_
    rintro k st ⟨j, rfl, hj, rfl⟩
    have hi1 : IntKind.i64.wrap ((i : Int) + 1) = ((i + 1 : Nat) : Int) := by rw [IntWalk.i64_in _ (by omega)]; omega
    have hj1 : IntKind.i64.wrap ((j : Int) + 1) = ((j + 1 : Nat) : Int) := by rw [IntWalk.i64_in _ (by omega)]; omega
    simp only [run_seq, run_block, run_region, run_skip, run_exit, run_ret, run_cond, run_draw, aops_nil, aops_none, aops_yes, aops_no, ↓gif_true, ↓gif_false, ↓gifP_true, ↓gifP_false, gif_not, gif_dec, gifP_not, eq_self, aopsK_eq, putK_eq, y_callv, astep, AOp.ex, St.ev, St.get, lk, St.puto, St.put, St.know, D.els, cD, cD0, binD, binV, unD, reduceIte, Option.getD_some, Option.getD_none, Option.map_some, Option.map_none, Option.bind_some, Option.bind_none, List.length_cons, List.length_nil, reduceCtorEq, Nat.reduceEqDiff, St.init, frOf, nextS_eq, y_mv, y_pick, y_alloc, y_box, y_build, y_bslice, y_load, y_store, y_ncheck, y_bin, y_binB, y_eqs, y_un, y_conv, y_fieldA, y_field, y_idxA, y_idxS, y_extract, y_mkfn, y_mkif, y_len, y_append, y_minmax, y_slcS, y_slcL, boundD, y_call, contS_nil, contS_seq, contS_seq_ret, contS_seq_exit, contS_block, contS_block_ret, contS_block_exit, contS_round, contS_round_ret, contS_round_exit, St.keep, List.map_cons, List.map_nil, Nat.zero_add, Nat.reduceAdd, decide_eq_true_eq, decide_eq_false_iff_not, true_and, and_true, forall_const, false_implies, true_implies, Bool.not_true, Bool.not_false, Int.natCast_nonneg, Int.toNat_natCast, St.purge, D.purge, D.purges, ne_eq, not_false_eq_true, not_true_eq_false, rowsD, D.toPDs, D.toPD, D.cells, List.any_nil, List.any_cons, List.filter_nil, List.filter_cons, Nat.reduceBEq, Nat.reduceBNe, Bool.false_eq_true, Bool.or_false, Bool.false_or, Bool.or_self, D.fixed, D.sc, D.caps, List.nil_append, List.cons_append, List.getElem?_cons_zero, List.getElem?_cons_succ, List.getElem?_nil, List.drop_zero, List.drop_succ_cons, List.take_succ_cons, List.take_zero, D.drop, D.drops, St.drop, fillD, D.ren, D.rens, backN, St.merge, renBs, seeCaps, lostN, lostT, wrN, D.sel, D.sels, List.append_nil, List.nil_append, List.cons_append, cutFr, D.cut, D.cuts, bsOf, St.after, roundK, List.contains_cons, List.contains_nil, Option.isSome_some, Option.isSome_none, Bool.or_true, Bool.true_or, valsD, valD, D.raws, Int.reduceLE, Int.reduceLT, Int.reduceToNat, Int.reduceEq, Nat.zero_le, Nat.le_refl, Nat.reduceLeDiff, Nat.reduceLT, List.all_cons, List.all_nil, Bool.and_true, Bool.true_and, Bool.and_self, Bool.not_eq_true', Bool.not_eq_false', decide_true, decide_false, ints_len, ints_get hx, ints_one, hi1, hj1]
    have hol2 : (out ++ List.replicate j (i : Int)).length ≤ 9000 := by rw [List.length_append, List.length_replicate]; omega
    have next : ¬ ((j : Int) < x ∧ (j : Int) < 1000) → out ++ List.replicate j (i : Int) ++ chs (i + 1) (ws.drop (i + 1)) = chs 0 ws := fun h => by
      rw [← hout, hd, show j = min 1000 x.toNat by omega, List.append_assoc]
    refine ⟨fun h1 => ⟨fun h2 => ⟨by simp, by unfold maxLen; omega, by omega, ⟨1000 - (j + 1), _, by omega, Weak.refl _ _, j + 1, rfl, by omega, ?_⟩⟩, fun h2 => ⟨ws.length - (i + 1), _, by omega, Weak.refl _ _, i + 1, _, rfl, by omega, next (by omega), rfl⟩⟩,
      fun h1 => ⟨ws.length - (i + 1), _, by omega, Weak.refl _ _, i + 1, _, rfl, by omega, next (by omega), rfl⟩⟩
    rw [List.append_assoc, List.replicate_succ']
  · have hiw : i = ws.length := by omega
    have hout : out = chs 0 ws := by rw [← hout, hiw]; simp [chs]
    subst hout
    refine ⟨fun h0 => ?_, fun h0 => ?_⟩
    · have h0 : (chs 0 ws).length = 0 := by omega
      simp only [retK, resD, Tryz.results17, Option.map_some, St.get, lk, reduceIte, Nat.reduceEqDiff, Option.getD_some, oneD, h0]
      exact ⟨_, rfl, rfl, rfl⟩
    · have hu : IntKind.u64.wrap (((chs 0 ws).length : Nat) : Int) = ((chs 0 ws).length : Nat) := IntWalk.u64_in _ (by omega)
      have ht : (n : Int).tmod ((chs 0 ws).length : Nat) = ((n % (chs 0 ws).length : Nat) : Int) := by rw [Int.tmod_eq_emod_of_nonneg (by omega)]; simp
      have hlt : n % (chs 0 ws).length < (chs 0 ws).length := Nat.mod_lt _ (by omega)
      have hg := ints_get (List.getElem?_eq_getElem hlt)
      simp only [run_seq, run_block, run_region, run_skip, run_exit, run_ret, run_cond, run_draw, aops_nil, aops_none, aops_yes, aops_no, ↓gif_true, ↓gif_false, ↓gifP_true, ↓gifP_false, gif_not, gif_dec, gifP_not, eq_self, aopsK_eq, putK_eq, y_callv, astep, AOp.ex, St.ev, St.get, lk, St.puto, St.put, St.know, D.els, cD, cD0, binD, binV, unD, reduceIte, Option.getD_some, Option.getD_none, Option.map_some, Option.map_none, Option.bind_some, Option.bind_none, List.length_cons, List.length_nil, reduceCtorEq, Nat.reduceEqDiff, St.init, frOf, nextS_eq, y_mv, y_pick, y_alloc, y_box, y_build, y_bslice, y_load, y_store, y_ncheck, y_bin, y_binB, y_eqs, y_un, y_conv, y_fieldA, y_field, y_idxA, y_idxS, y_extract, y_mkfn, y_mkif, y_len, y_append, y_minmax, y_slcS, y_slcL, boundD, y_call, contS_nil, contS_seq, contS_seq_ret, contS_seq_exit, contS_block, contS_block_ret, contS_block_exit, contS_round, contS_round_ret, contS_round_exit, St.keep, List.map_cons, List.map_nil, Nat.zero_add, Nat.reduceAdd, decide_eq_true_eq, decide_eq_false_iff_not, true_and, and_true, forall_const, false_implies, true_implies, Bool.not_true, Bool.not_false, Int.natCast_nonneg, Int.toNat_natCast, St.purge, D.purge, D.purges, ne_eq, not_false_eq_true, not_true_eq_false, rowsD, D.toPDs, D.toPD, D.cells, List.any_nil, List.any_cons, List.filter_nil, List.filter_cons, Nat.reduceBEq, Nat.reduceBNe, Bool.false_eq_true, Bool.or_false, Bool.false_or, Bool.or_self, D.fixed, D.sc, D.caps, List.nil_append, List.cons_append, List.getElem?_cons_zero, List.getElem?_cons_succ, List.getElem?_nil, List.drop_zero, List.drop_succ_cons, List.take_succ_cons, List.take_zero, D.drop, D.drops, St.drop, fillD, D.ren, D.rens, backN, St.merge, renBs, seeCaps, lostN, lostT, wrN, D.sel, D.sels, List.append_nil, List.nil_append, List.cons_append, cutFr, D.cut, D.cuts, bsOf, St.after, roundK, List.contains_cons, List.contains_nil, Option.isSome_some, Option.isSome_none, Bool.or_true, Bool.true_or, valsD, valD, D.raws, Int.reduceLE, Int.reduceLT, Int.reduceToNat, Int.reduceEq, Nat.zero_le, Nat.le_refl, Nat.reduceLeDiff, Nat.reduceLT, List.all_cons, List.all_nil, Bool.and_true, Bool.true_and, Bool.and_self, Bool.not_eq_true', Bool.not_eq_false', decide_true, decide_false, hu, ht, h0, hg]
      simp only [retK, resD, Tryz.results17, Option.map_some, St.get, lk, reduceIte, Nat.reduceEqDiff, Option.getD_some, oneD]
      refine ⟨_, rfl, rfl, ?_⟩
      rw [if_neg (by omega)]
      simp [D.pub, D.pubs, hlt]
end Go.Proofs.YtbpgebfejebmlaaGreatDoor
