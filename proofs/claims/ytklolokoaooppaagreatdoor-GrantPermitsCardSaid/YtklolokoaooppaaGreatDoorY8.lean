/- Texts of the prover's, joined: J1 J5 J6 FK E2 E3 E6 E5 FE FJ D8 EF J7 L3 H7. -/
import Derived.Test.YtklolokoaooppaaGreatDoorY7
import Derived.Test.YtklolokoaooppaaGreatDoorProg
import Derived.KernelRfl

namespace Go.Proofs.YtklolokoaooppaaGreatDoor
open Go Go.RowKit
set_option linter.unusedSimpArgs false
set_option linter.unusedVariables false
set_option maxRecDepth 100000

theorem res_no {p : Prop} [Decidable p] (h : ¬p) : bln false = bln (decide p) := by rw [decide_eq_false h]
theorem res_yes {p : Prop} [Decidable p] (h : p) : bln true = bln (decide p) := by rw [decide_eq_true h]
theorem take_step {α : Type} {l m : List α} {i : Nat} {x y : α} (h : l.take i = m.take i) (hx : l[i]? = some x) (hy : m[i]? = some y) (e : x = y) : l.take (i + 1) = m.take (i + 1) := by
  rw [take_at hx, take_at hy, h, e]
theorem take_end {α : Type} {l m : List α} {i : Nat} (h : l.take i = m.take i) (hl : l.length = m.length) (hi : ¬ i < l.length) : l = m := by
  rwa [List.take_of_length_le (by omega), List.take_of_length_le (by omega)] at h

set_option maxHeartbeats 2000000 in
theorem ref1_Same (a b : List ByteArray) (ha : a.length ≤ 1000000) : Pure Tryz.prog 66 [.pd (.slice (rows cStr a)), .pd (.slice (rows cStr b))] (fun d => d = bln (decide (a = b))) := by
  refine pure_of_run follows an_zjxe8 Tryz.func66 rfl ok_zjxe8.1 ok_zjxe8.2 (by simp [Tryz.ntmps66]) ?_
  rw [run_start]
  simp only [ac_zjxe8, oo, og, tp, ci, cq, mq, lq, fi, sr, go_sem, contS_seq, simprocAttr, rows_len]
  refine GifP.mk (fun hl => ?_) (fun hl => ?_)
  rotate_left
  · simp only [retK, resD, St.get, lk, oneD, D.pub, D.pubs, retL, reduceIte, Nat.reduceEqDiff, Nat.reduceAdd, Nat.reduceLeDiff, Tryz.results66]
    exact ⟨_, rfl, rfl, res_no (fun e => hl (by rw [e]))⟩
  have hL : a.length = b.length := by omega
  refine loopS (fun k st => ∃ i : Nat, k = a.length - i ∧ i ≤ a.length ∧ a.take i = b.take i ∧ st = ⟨[(0, .pd (.slice (rows cStr a))), (1, .pd (.slice (rows cStr b))), (5, int i)], [], [], .no⟩) a.length _ ?_ ⟨0, rfl, by omega, rfl, rfl⟩ ?_
  · exact lessA
  rintro k st ⟨i, rfl, hi, hT, rfl⟩
  have hw := i64_succ (show i < 1000000000 by omega)
  by_cases hlt : i < a.length
  · obtain ⟨x, hx⟩ := at_lt hlt
    obtain ⟨y, hy⟩ := at_lt (show i < b.length by omega)
    have h1 : ((i : Int) < (a.length : Int)) = True := eq_true (by omega)
    simp only [go_sem, contS_seq, simprocAttr, rows_len, rows_get hx, rows_get hy, h1, hw]
    · repeat' (first | refine GifP.mk (fun _ => ?_) (fun _ => ?_) | refine Gif.mk (fun _ => ?_) (fun _ => ?_) | refine And.intro ?_ ?_)
      all_goals first
        | (refine ⟨a.length - (i + 1), _, by omega, ?_, i + 1, rfl, by omega, take_step hT hx hy (by first | assumption | (cases x; cases y; simp_all)), rfl⟩; exact lessA)
        | (simp only [retK, resD, St.get, lk, oneD, D.pub, D.pubs, retL, reduceIte, Nat.reduceEqDiff, Nat.reduceAdd, Nat.reduceLeDiff, Tryz.results66]; exact ⟨_, rfl, rfl, res_no (fun e => by subst e; have hxy := Option.some.inj (hx.symm.trans hy); subst hxy; first | contradiction | simp_all)⟩)
  have h1 : ((i : Int) < (a.length : Int)) = False := eq_false (by omega)
  have hE := take_end hT (by omega) hlt
  clear hT hi hw
  simp only [go_sem, contS_seq, simprocAttr, rows_len, h1]
  clear h1 hlt i
  simp only [retK, resD, St.get, lk, oneD, D.pub, D.pubs, retL, reduceIte, Nat.reduceEqDiff, Nat.reduceAdd, Nat.reduceLeDiff, Tryz.results66]
  exact ⟨_, rfl, rfl, res_yes hE⟩

set_option maxHeartbeats 2000000 in
theorem ref4_Same (a b : List APair) (ha : a.length ≤ 1000000) : Pure Tryz.prog 65 [.pd (.slice (rows APair.pd a)), .pd (.slice (rows APair.pd b))] (fun d => d = bln (decide (a = b))) := by
  refine pure_of_run follows an_zk76r Tryz.func65 rfl ok_zk76r.1 ok_zk76r.2 (by simp [Tryz.ntmps65]) ?_
  rw [run_start]
  simp only [ac_zk76r, oo, og, tp, ci, cq, mq, lq, fi, sr, go_sem, contS_seq, simprocAttr, rows_len]
  refine GifP.mk (fun hl => ?_) (fun hl => ?_)
  rotate_left
  · simp only [retK, resD, St.get, lk, oneD, D.pub, D.pubs, retL, reduceIte, Nat.reduceEqDiff, Nat.reduceAdd, Nat.reduceLeDiff, Tryz.results65]
    exact ⟨_, rfl, rfl, res_no (fun e => hl (by rw [e]))⟩
  have hL : a.length = b.length := by omega
  refine loopS (fun k st => ∃ i : Nat, k = a.length - i ∧ i ≤ a.length ∧ a.take i = b.take i ∧ st = ⟨[(0, .pd (.slice (rows APair.pd a))), (1, .pd (.slice (rows APair.pd b))), (5, int i)], [], [], .no⟩) a.length _ ?_ ⟨0, rfl, by omega, rfl, rfl⟩ ?_
  · exact lessA
  rintro k st ⟨i, rfl, hi, hT, rfl⟩
  have hw := i64_succ (show i < 1000000000 by omega)
  by_cases hlt : i < a.length
  · obtain ⟨x, hx⟩ := at_lt hlt
    obtain ⟨y, hy⟩ := at_lt (show i < b.length by omega)
    have h1 : ((i : Int) < (a.length : Int)) = True := eq_true (by omega)
    simp only [go_sem, contS_seq, simprocAttr, rows_len, rows_get hx, rows_get hy, h1, hw, eqVs, eqV, eq_Pair]
    · repeat' (first | refine GifP.mk (fun _ => ?_) (fun _ => ?_) | refine Gif.mk (fun _ => ?_) (fun _ => ?_) | refine And.intro ?_ ?_)
      all_goals first
        | (refine ⟨a.length - (i + 1), _, by omega, ?_, i + 1, rfl, by omega, take_step hT hx hy (by first | assumption | (cases x; cases y; simp_all)), rfl⟩; exact lessA)
        | (simp only [retK, resD, St.get, lk, oneD, D.pub, D.pubs, retL, reduceIte, Nat.reduceEqDiff, Nat.reduceAdd, Nat.reduceLeDiff, Tryz.results65]; exact ⟨_, rfl, rfl, res_no (fun e => by subst e; have hxy := Option.some.inj (hx.symm.trans hy); subst hxy; first | contradiction | simp_all)⟩)
  have h1 : ((i : Int) < (a.length : Int)) = False := eq_false (by omega)
  have hE := take_end hT (by omega) hlt
  clear hT hi hw
  simp only [go_sem, contS_seq, simprocAttr, rows_len, h1]
  clear h1 hlt i
  simp only [retK, resD, St.get, lk, oneD, D.pub, D.pubs, retL, reduceIte, Nat.reduceEqDiff, Nat.reduceAdd, Nat.reduceLeDiff, Tryz.results65]
  exact ⟨_, rfl, rfl, res_yes hE⟩

set_option maxHeartbeats 2000000 in
theorem ref8_Same (a b : List ANeed) (ha : a.length ≤ 1000000) (hb : ∀ x ∈ a, x.vals.length ≤ 1000000) : Pure Tryz.prog 67 [.pd (.slice (rows ANeed.pd a)), .pd (.slice (rows ANeed.pd b))] (fun d => d = bln (decide (a = b))) := by
  refine pure_of_run follows an_zgrh4 Tryz.func67 rfl ok_zgrh4.1 ok_zgrh4.2 (by simp [Tryz.ntmps67]) ?_
  rw [run_start]
  simp only [ac_zgrh4, oo, og, tp, ci, cq, mq, lq, fi, sr, go_sem, contS_seq, simprocAttr, rows_len]
  refine GifP.mk (fun hl => ?_) (fun hl => ?_)
  rotate_left
  · simp only [retK, resD, St.get, lk, oneD, D.pub, D.pubs, retL, reduceIte, Nat.reduceEqDiff, Nat.reduceAdd, Nat.reduceLeDiff, Tryz.results67]
    exact ⟨_, rfl, rfl, res_no (fun e => hl (by rw [e]))⟩
  have hL : a.length = b.length := by omega
  refine loopS (fun k st => ∃ i : Nat, k = a.length - i ∧ i ≤ a.length ∧ a.take i = b.take i ∧ st = ⟨[(0, .pd (.slice (rows ANeed.pd a))), (1, .pd (.slice (rows ANeed.pd b))), (5, int i)], [], [], .no⟩) a.length _ ?_ ⟨0, rfl, by omega, rfl, rfl⟩ ?_
  · exact lessA
  rintro k st ⟨i, rfl, hi, hT, rfl⟩
  have hw := i64_succ (show i < 1000000000 by omega)
  by_cases hlt : i < a.length
  · obtain ⟨x, hx⟩ := at_lt hlt
    obtain ⟨y, hy⟩ := at_lt (show i < b.length by omega)
    have h1 : ((i : Int) < (a.length : Int)) = True := eq_true (by omega)
    simp only [go_sem, contS_seq, simprocAttr, rows_len, rows_get hx, rows_get hy, h1, hw]
    · repeat' (first | refine GifP.mk (fun _ => ?_) (fun _ => ?_) | refine Gif.mk (fun _ => ?_) (fun _ => ?_) | (refine (ref1_Same x.vals y.vals (hb x (List.mem_of_getElem? hx))).callX (enters_of Tryz.func66 rfl rfl) _ rfl rfl ?_; rintro _ rfl; simp only [go_sem, contS_seq, simprocAttr, rows_len, rows_get hx, rows_get hy, hw]) | refine And.intro ?_ ?_)
      all_goals first
        | (refine ⟨a.length - (i + 1), _, by omega, ?_, i + 1, rfl, by omega, take_step hT hx hy (by first | assumption | (cases x; cases y; simp_all)), rfl⟩; exact lessA)
        | (simp only [retK, resD, St.get, lk, oneD, D.pub, D.pubs, retL, reduceIte, Nat.reduceEqDiff, Nat.reduceAdd, Nat.reduceLeDiff, Tryz.results67]; exact ⟨_, rfl, rfl, res_no (fun e => by subst e; have hxy := Option.some.inj (hx.symm.trans hy); subst hxy; first | contradiction | simp_all)⟩)
  have h1 : ((i : Int) < (a.length : Int)) = False := eq_false (by omega)
  have hE := take_end hT (by omega) hlt
  clear hT hi hw
  simp only [go_sem, contS_seq, simprocAttr, rows_len, h1]
  clear h1 hlt i
  simp only [retK, resD, St.get, lk, oneD, D.pub, D.pubs, retL, reduceIte, Nat.reduceEqDiff, Nat.reduceAdd, Nat.reduceLeDiff, Tryz.results67]
  exact ⟨_, rfl, rfl, res_yes hE⟩

theorem ref6_Same (a b : AMatch) (h1 : a.head.length ≤ 1000000) (h2 : a.query.length ≤ 1000000) : Pure Tryz.prog 98 [.agg [int a.pkind, str a.pval, str a.method, .pd (.slice (rows APair.pd a.head)), .pd (.slice (rows APair.pd a.query))], .agg [int b.pkind, str b.pval, str b.method, .pd (.slice (rows APair.pd b.head)), .pd (.slice (rows APair.pd b.query))]] (fun d => d = bln (decide (a = b))) := by
  refine pure_of_run follows an_zlug8 Tryz.func98 rfl ok_zlug8.1 ok_zlug8.2 (by simp [Tryz.ntmps98]) ?_
  rw [run_start]
  simp only [ac_zlug8, oo, og, tp, ci, cq, mq, lq, fi, sr, go_sem, contS_seq, simprocAttr, eqVs, eqV]
  (repeat' (first | (refine GifP.mk (fun _ => ?_) (fun _ => ?_)) | (refine Gif.mk (fun _ => ?_) (fun _ => ?_)) | ((first | refine (ref4_Same a.head b.head h1).callW (enters_of Tryz.func65 rfl rfl) _ rfl rfl ?_ | refine (ref4_Same a.query b.query h2).callW (enters_of Tryz.func65 rfl rfl) _ rfl rfl ?_); rintro _ rfl; try simp only [go_sem, contS_seq, simprocAttr, eqVs, eqV]))) <;> (simp only [retK, resD, St.get, lk, oneD, D.pub, D.pubs, retL, reduceIte, Nat.reduceEqDiff, Nat.reduceAdd, Nat.reduceLeDiff, Tryz.results98]; exact ⟨_, rfl, rfl, congrArg bln (by cases a; cases b; rw [Bool.eq_iff_iff]; simp_all)⟩)

set_option maxHeartbeats 2000000 in
theorem ref9_SameRule (a b : ARule) (h1 : a.matches_.length ≤ 1000000) (h2 : a.filters.length ≤ 1000000) (h3 : a.backends.length ≤ 1000000) (h4 : ∀ m ∈ a.matches_, m.head.length ≤ 1000000 ∧ m.query.length ≤ 1000000) :
    Pure Tryz.prog 68 [.agg [.pd (.slice (rows AMatch.pd a.matches_)), .pd (.slice (rows AFilter.pd a.filters)), .pd (.slice (rows ABackend.pd a.backends))], .agg [.pd (.slice (rows AMatch.pd b.matches_)), .pd (.slice (rows AFilter.pd b.filters)), .pd (.slice (rows ABackend.pd b.backends))]] (fun d => d = bln (decide (a = b))) := by
  refine pure_of_run follows an_zt6t3 Tryz.func68 rfl ok_zt6t3.1 ok_zt6t3.2 (by simp [Tryz.ntmps68]) ?_
  rw [run_start]
  simp only [ac_zt6t3, oo, og, tp, ci, cq, mq, lq, fi, sr, go_sem, contS_seq, simprocAttr, rows_len]
  repeat' (refine GifP.mk (fun _ => ?_) (fun _ => ?_))
  all_goals first
    | (simp only [retK, resD, St.get, lk, oneD, D.pub, D.pubs, retL, reduceIte, Nat.reduceEqDiff, Nat.reduceAdd, Nat.reduceLeDiff, Tryz.results68]; exact ⟨_, rfl, rfl, res_no (fun e => by subst e; contradiction)⟩)
    | skip
  refine loopS (fun k st => ∃ i : Nat, k = a.matches_.length - i ∧ i ≤ a.matches_.length ∧ a.matches_.take i = b.matches_.take i ∧ st = ⟨[(2, .ptr 2 0), (3, .ptr 3 0), (5, int i)], [(2, [.pd (.slice (rows AMatch.pd a.matches_)), .pd (.slice (rows AFilter.pd a.filters)), .pd (.slice (rows ABackend.pd a.backends))]), (3, [.pd (.slice (rows AMatch.pd b.matches_)), .pd (.slice (rows AFilter.pd b.filters)), .pd (.slice (rows ABackend.pd b.backends))])], [], .no⟩) a.matches_.length _ ?_ ⟨0, rfl, by omega, rfl, rfl⟩ ?_
  · exact lessA
  rintro k st ⟨i, rfl, hi, hT, rfl⟩
  have hw := i64_succ (show i < 1000000000 by omega)
  by_cases hlt : i < a.matches_.length
  · obtain ⟨x, hx⟩ := at_lt hlt
    obtain ⟨y, hy⟩ := at_lt (show i < b.matches_.length by omega)
    have h1 : ((i : Int) < (a.matches_.length : Int)) = True := eq_true (by omega)
    simp only [go_sem, contS_seq, simprocAttr, rows_len, rows_get hx, rows_get hy, h1, hw]
    · repeat' (first | refine GifP.mk (fun _ => ?_) (fun _ => ?_) | refine Gif.mk (fun _ => ?_) (fun _ => ?_) | (refine (ref6_Same x y (h4 x (List.mem_of_getElem? hx)).1 (h4 x (List.mem_of_getElem? hx)).2).callX (enters_of Tryz.func98 rfl rfl) _ rfl rfl ?_; rintro _ rfl; simp only [go_sem, contS_seq, simprocAttr, rows_len, rows_get hx, rows_get hy, hw]) | refine And.intro ?_ ?_)
      all_goals first
        | (refine ⟨a.matches_.length - (i + 1), _, by omega, ?_, i + 1, rfl, by omega, take_step hT hx hy (by first | assumption | (cases x; cases y; simp_all)), rfl⟩; exact lessA)
        | (simp only [retK, resD, St.get, lk, oneD, D.pub, D.pubs, retL, reduceIte, Nat.reduceEqDiff, Nat.reduceAdd, Nat.reduceLeDiff, Tryz.results68]; exact ⟨_, rfl, rfl, res_no (fun e => by subst e; have hxy := Option.some.inj (hx.symm.trans hy); subst hxy; first | contradiction | simp_all)⟩)
  have h1 : ((i : Int) < (a.matches_.length : Int)) = False := eq_false (by omega)
  have hM := take_end hT (by omega) hlt
  clear hT hi hw
  simp only [go_sem, contS_seq, simprocAttr, rows_len, h1]
  clear h1 hlt i
  refine loopS (fun k st => ∃ i : Nat, k = a.filters.length - i ∧ i ≤ a.filters.length ∧ a.filters.take i = b.filters.take i ∧ st = ⟨[(2, .ptr 2 0), (3, .ptr 3 0), (6, int i)], [(2, [.pd (.slice (rows AMatch.pd a.matches_)), .pd (.slice (rows AFilter.pd a.filters)), .pd (.slice (rows ABackend.pd a.backends))]), (3, [.pd (.slice (rows AMatch.pd b.matches_)), .pd (.slice (rows AFilter.pd b.filters)), .pd (.slice (rows ABackend.pd b.backends))])], [], .no⟩) a.filters.length _ ?_ ⟨0, rfl, by omega, rfl, rfl⟩ ?_
  · exact lessA
  rintro k st ⟨i, rfl, hi, hT, rfl⟩
  have hw := i64_succ (show i < 1000000000 by omega)
  by_cases hlt : i < a.filters.length
  · obtain ⟨x, hx⟩ := at_lt hlt
    obtain ⟨y, hy⟩ := at_lt (show i < b.filters.length by omega)
    have h1 : ((i : Int) < (a.filters.length : Int)) = True := eq_true (by omega)
    simp only [go_sem, contS_seq, simprocAttr, rows_len, rows_get hx, rows_get hy, h1, hw, eqVs, eqV, eq_Filter]
    · repeat' (first | refine GifP.mk (fun _ => ?_) (fun _ => ?_) | refine Gif.mk (fun _ => ?_) (fun _ => ?_) | refine And.intro ?_ ?_)
      all_goals first
        | (refine ⟨a.filters.length - (i + 1), _, by omega, ?_, i + 1, rfl, by omega, take_step hT hx hy (by first | assumption | (cases x; cases y; simp_all)), rfl⟩; exact lessA)
        | (simp only [retK, resD, St.get, lk, oneD, D.pub, D.pubs, retL, reduceIte, Nat.reduceEqDiff, Nat.reduceAdd, Nat.reduceLeDiff, Tryz.results68]; exact ⟨_, rfl, rfl, res_no (fun e => by subst e; have hxy := Option.some.inj (hx.symm.trans hy); subst hxy; first | contradiction | simp_all)⟩)
  have h1 : ((i : Int) < (a.filters.length : Int)) = False := eq_false (by omega)
  have hF := take_end hT (by omega) hlt
  clear hT hi hw
  simp only [go_sem, contS_seq, simprocAttr, rows_len, h1]
  clear h1 hlt i
  refine loopS (fun k st => ∃ i : Nat, k = a.backends.length - i ∧ i ≤ a.backends.length ∧ a.backends.take i = b.backends.take i ∧ st = ⟨[(2, .ptr 2 0), (3, .ptr 3 0), (7, int i)], [(2, [.pd (.slice (rows AMatch.pd a.matches_)), .pd (.slice (rows AFilter.pd a.filters)), .pd (.slice (rows ABackend.pd a.backends))]), (3, [.pd (.slice (rows AMatch.pd b.matches_)), .pd (.slice (rows AFilter.pd b.filters)), .pd (.slice (rows ABackend.pd b.backends))])], [], .no⟩) a.backends.length _ ?_ ⟨0, rfl, by omega, rfl, rfl⟩ ?_
  · exact lessA
  rintro k st ⟨i, rfl, hi, hT, rfl⟩
  have hw := i64_succ (show i < 1000000000 by omega)
  by_cases hlt : i < a.backends.length
  · obtain ⟨x, hx⟩ := at_lt hlt
    obtain ⟨y, hy⟩ := at_lt (show i < b.backends.length by omega)
    have h1 : ((i : Int) < (a.backends.length : Int)) = True := eq_true (by omega)
    simp only [go_sem, contS_seq, simprocAttr, rows_len, rows_get hx, rows_get hy, h1, hw, eqVs, eqV, eq_Backend]
    · repeat' (first | refine GifP.mk (fun _ => ?_) (fun _ => ?_) | refine Gif.mk (fun _ => ?_) (fun _ => ?_) | refine And.intro ?_ ?_)
      all_goals first
        | (refine ⟨a.backends.length - (i + 1), _, by omega, ?_, i + 1, rfl, by omega, take_step hT hx hy (by first | assumption | (cases x; cases y; simp_all)), rfl⟩; exact lessA)
        | (simp only [retK, resD, St.get, lk, oneD, D.pub, D.pubs, retL, reduceIte, Nat.reduceEqDiff, Nat.reduceAdd, Nat.reduceLeDiff, Tryz.results68]; exact ⟨_, rfl, rfl, res_no (fun e => by subst e; have hxy := Option.some.inj (hx.symm.trans hy); subst hxy; first | contradiction | simp_all)⟩)
  have h1 : ((i : Int) < (a.backends.length : Int)) = False := eq_false (by omega)
  have hB := take_end hT (by omega) hlt
  clear hT hi hw
  simp only [go_sem, contS_seq, simprocAttr, rows_len, h1]
  clear h1 hlt i
  simp only [retK, resD, St.get, lk, oneD, D.pub, D.pubs, retL, reduceIte, Nat.reduceEqDiff, Nat.reduceAdd, Nat.reduceLeDiff, Tryz.results68]
  exact ⟨_, rfl, rfl, res_yes (by cases a; cases b; simp_all)⟩

set_option maxHeartbeats 8000000 in
theorem ref9_Same (a b : AObj) (ha : a.ok) : Pure Tryz.prog 19 [a.d, b.d] (fun d => d = bln (decide (a = b))) := by
  have hla := ha.la
  have hpo := ha.po
  have hli := ha.li
  have hpa := ha.pa
  have hho := ha.ho
  have hru := ha.ru
  have hfr := ha.fr
  have hto := ha.to
  refine pure_of_run follows an_zwcd Tryz.func19 rfl ok_zwcd.1 ok_zwcd.2 (by simp [Tryz.ntmps19]) ?_
  rw [run_start]
  simp only [ac_zwcd, oo, og, tp, ci, cq, mq, lq, fi, sr, go_sem, contS_seq, simprocAttr, rows_len, eqVs, eqV, eq_Ref]
  repeat' (first | refine GifP.mk (fun _ => ?_) (fun _ => ?_) | refine Gif.mk (fun _ => ?_) (fun _ => ?_) | (refine (ref4_Same a.labels b.labels hla).callW (enters_of Tryz.func65 rfl rfl) _ rfl rfl ?_; rintro _ rfl; simp only [go_sem, contS_seq, simprocAttr, rows_len]) | (refine (ref1_Same a.hosts b.hosts hho).callW (enters_of Tryz.func66 rfl rfl) _ rfl rfl ?_; rintro _ rfl; simp only [go_sem, contS_seq, simprocAttr, rows_len]))
  all_goals first
    | (simp only [retK, resD, St.get, lk, oneD, D.pub, D.pubs, retL, reduceIte, Nat.reduceEqDiff, Nat.reduceAdd, Nat.reduceLeDiff, Tryz.results19]; exact ⟨_, rfl, rfl, res_no (fun e => by subst e; first | contradiction | simp_all)⟩)
    | skip
  refine loopS (fun k st => ∃ i : Nat, k = a.ports.length - i ∧ i ≤ a.ports.length ∧ a.ports.take i = b.ports.take i ∧ st = ⟨[(2, .ptr 2 0), (3, .ptr 3 0), (5, int i)], [(2, a.ds), (3, b.ds)], [], .no⟩) a.ports.length _ ?_ ⟨0, rfl, by omega, rfl, rfl⟩ ?_
  · exact lessA
  rintro k st ⟨i, rfl, hi, hT, rfl⟩
  have hw := i64_succ (show i < 1000000000 by omega)
  by_cases hlt : i < a.ports.length
  · obtain ⟨x, hx⟩ := at_lt hlt
    obtain ⟨y, hy⟩ := at_lt (show i < b.ports.length by omega)
    have h1 : ((i : Int) < (a.ports.length : Int)) = True := eq_true (by omega)
    simp only [go_sem, contS_seq, simprocAttr, rows_len, rows_get hx, rows_get hy, h1, hw]
    · repeat' (first | refine GifP.mk (fun _ => ?_) (fun _ => ?_) | refine Gif.mk (fun _ => ?_) (fun _ => ?_) | refine And.intro ?_ ?_)
      all_goals first
        | (refine ⟨a.ports.length - (i + 1), _, by omega, ?_, i + 1, rfl, by omega, take_step hT hx hy (by first | assumption | (cases x; cases y; simp_all)), rfl⟩; exact lessA)
        | (simp only [retK, resD, St.get, lk, oneD, D.pub, D.pubs, retL, reduceIte, Nat.reduceEqDiff, Nat.reduceAdd, Nat.reduceLeDiff, Tryz.results19]; exact ⟨_, rfl, rfl, res_no (fun e => by subst e; have hxy := Option.some.inj (hx.symm.trans hy); subst hxy; first | contradiction | simp_all)⟩)
  have h1 : ((i : Int) < (a.ports.length : Int)) = False := eq_false (by omega)
  have hE1 := take_end hT (by omega) hlt
  clear hT hi hw
  simp only [go_sem, contS_seq, simprocAttr, rows_len, h1]
  clear h1 hlt i
  refine loopS (fun k st => ∃ i : Nat, k = a.listeners.length - i ∧ i ≤ a.listeners.length ∧ a.listeners.take i = b.listeners.take i ∧ st = ⟨[(2, .ptr 2 0), (3, .ptr 3 0), (6, int i)], [(2, a.ds), (3, b.ds)], [], .no⟩) a.listeners.length _ ?_ ⟨0, rfl, by omega, rfl, rfl⟩ ?_
  · exact lessA
  rintro k st ⟨i, rfl, hi, hT, rfl⟩
  have hw := i64_succ (show i < 1000000000 by omega)
  by_cases hlt : i < a.listeners.length
  · obtain ⟨x, hx⟩ := at_lt hlt
    obtain ⟨y, hy⟩ := at_lt (show i < b.listeners.length by omega)
    have h1 : ((i : Int) < (a.listeners.length : Int)) = True := eq_true (by omega)
    simp only [go_sem, contS_seq, simprocAttr, rows_len, rows_get hx, rows_get hy, h1, hw, eqVs, eqV, eq_Ref]
    · repeat' (first | refine GifP.mk (fun _ => ?_) (fun _ => ?_) | refine Gif.mk (fun _ => ?_) (fun _ => ?_) | (refine (ref8_Same x.needs y.needs (ha.lis x (List.mem_of_getElem? hx)).nl (fun n hn => ((ha.lis x (List.mem_of_getElem? hx)).n n hn))).callW (enters_of Tryz.func67 rfl rfl) _ rfl rfl ?_; rintro _ rfl; simp only [go_sem, contS_seq, simprocAttr, rows_len, rows_get hx, rows_get hy, hw, eqVs, eqV, eq_Ref]) | refine And.intro ?_ ?_)
      all_goals first
        | (refine ⟨a.listeners.length - (i + 1), _, by omega, ?_, i + 1, rfl, by omega, take_step hT hx hy (by first | assumption | (cases x; cases y; simp_all)), rfl⟩; exact lessA)
        | (simp only [retK, resD, St.get, lk, oneD, D.pub, D.pubs, retL, reduceIte, Nat.reduceEqDiff, Nat.reduceAdd, Nat.reduceLeDiff, Tryz.results19]; exact ⟨_, rfl, rfl, res_no (fun e => by subst e; have hxy := Option.some.inj (hx.symm.trans hy); subst hxy; first | contradiction | simp_all)⟩)
  have h1 : ((i : Int) < (a.listeners.length : Int)) = False := eq_false (by omega)
  have hE2 := take_end hT (by omega) hlt
  clear hT hi hw
  simp only [go_sem, contS_seq, simprocAttr, rows_len, h1]
  clear h1 hlt i
  refine loopS (fun k st => ∃ i : Nat, k = a.parents.length - i ∧ i ≤ a.parents.length ∧ a.parents.take i = b.parents.take i ∧ st = ⟨[(2, .ptr 2 0), (3, .ptr 3 0), (9, int i)], [(2, a.ds), (3, b.ds)], [], .no⟩) a.parents.length _ ?_ ⟨0, rfl, by omega, rfl, rfl⟩ ?_
  · exact lessA
  rintro k st ⟨i, rfl, hi, hT, rfl⟩
  have hw := i64_succ (show i < 1000000000 by omega)
  by_cases hlt : i < a.parents.length
  · obtain ⟨x, hx⟩ := at_lt hlt
    obtain ⟨y, hy⟩ := at_lt (show i < b.parents.length by omega)
    have h1 : ((i : Int) < (a.parents.length : Int)) = True := eq_true (by omega)
    simp only [go_sem, contS_seq, simprocAttr, rows_len, rows_get hx, rows_get hy, h1, hw, eqVs, eqV, eq_Parent]
    · repeat' (first | refine GifP.mk (fun _ => ?_) (fun _ => ?_) | refine Gif.mk (fun _ => ?_) (fun _ => ?_) | refine And.intro ?_ ?_)
      all_goals first
        | (refine ⟨a.parents.length - (i + 1), _, by omega, ?_, i + 1, rfl, by omega, take_step hT hx hy (by first | assumption | (cases x; cases y; simp_all)), rfl⟩; exact lessA)
        | (simp only [retK, resD, St.get, lk, oneD, D.pub, D.pubs, retL, reduceIte, Nat.reduceEqDiff, Nat.reduceAdd, Nat.reduceLeDiff, Tryz.results19]; exact ⟨_, rfl, rfl, res_no (fun e => by subst e; have hxy := Option.some.inj (hx.symm.trans hy); subst hxy; first | contradiction | simp_all)⟩)
  have h1 : ((i : Int) < (a.parents.length : Int)) = False := eq_false (by omega)
  have hE3 := take_end hT (by omega) hlt
  clear hT hi hw
  simp only [go_sem, contS_seq, simprocAttr, rows_len, h1]
  clear h1 hlt i
  refine loopS (fun k st => ∃ i : Nat, k = a.from_.length - i ∧ i ≤ a.from_.length ∧ a.from_.take i = b.from_.take i ∧ st = ⟨[(2, .ptr 2 0), (3, .ptr 3 0), (10, int i)], [(2, a.ds), (3, b.ds)], [], .no⟩) a.from_.length _ ?_ ⟨0, rfl, by omega, rfl, rfl⟩ ?_
  · exact lessA
  rintro k st ⟨i, rfl, hi, hT, rfl⟩
  have hw := i64_succ (show i < 1000000000 by omega)
  by_cases hlt : i < a.from_.length
  · obtain ⟨x, hx⟩ := at_lt hlt
    obtain ⟨y, hy⟩ := at_lt (show i < b.from_.length by omega)
    have h1 : ((i : Int) < (a.from_.length : Int)) = True := eq_true (by omega)
    simp only [go_sem, contS_seq, simprocAttr, rows_len, rows_get hx, rows_get hy, h1, hw, eqVs, eqV, eq_Side]
    · repeat' (first | refine GifP.mk (fun _ => ?_) (fun _ => ?_) | refine Gif.mk (fun _ => ?_) (fun _ => ?_) | refine And.intro ?_ ?_)
      all_goals first
        | (refine ⟨a.from_.length - (i + 1), _, by omega, ?_, i + 1, rfl, by omega, take_step hT hx hy (by first | assumption | (cases x; cases y; simp_all)), rfl⟩; exact lessA)
        | (simp only [retK, resD, St.get, lk, oneD, D.pub, D.pubs, retL, reduceIte, Nat.reduceEqDiff, Nat.reduceAdd, Nat.reduceLeDiff, Tryz.results19]; exact ⟨_, rfl, rfl, res_no (fun e => by subst e; have hxy := Option.some.inj (hx.symm.trans hy); subst hxy; first | contradiction | simp_all)⟩)
  have h1 : ((i : Int) < (a.from_.length : Int)) = False := eq_false (by omega)
  have hE4 := take_end hT (by omega) hlt
  clear hT hi hw
  simp only [go_sem, contS_seq, simprocAttr, rows_len, h1]
  clear h1 hlt i
  refine loopS (fun k st => ∃ i : Nat, k = a.to_.length - i ∧ i ≤ a.to_.length ∧ a.to_.take i = b.to_.take i ∧ st = ⟨[(2, .ptr 2 0), (3, .ptr 3 0), (11, int i)], [(2, a.ds), (3, b.ds)], [], .no⟩) a.to_.length _ ?_ ⟨0, rfl, by omega, rfl, rfl⟩ ?_
  · exact lessA
  rintro k st ⟨i, rfl, hi, hT, rfl⟩
  have hw := i64_succ (show i < 1000000000 by omega)
  by_cases hlt : i < a.to_.length
  · obtain ⟨x, hx⟩ := at_lt hlt
    obtain ⟨y, hy⟩ := at_lt (show i < b.to_.length by omega)
    have h1 : ((i : Int) < (a.to_.length : Int)) = True := eq_true (by omega)
    simp only [go_sem, contS_seq, simprocAttr, rows_len, rows_get hx, rows_get hy, h1, hw, eqVs, eqV, eq_Side]
    · repeat' (first | refine GifP.mk (fun _ => ?_) (fun _ => ?_) | refine Gif.mk (fun _ => ?_) (fun _ => ?_) | refine And.intro ?_ ?_)
      all_goals first
        | (refine ⟨a.to_.length - (i + 1), _, by omega, ?_, i + 1, rfl, by omega, take_step hT hx hy (by first | assumption | (cases x; cases y; simp_all)), rfl⟩; exact lessA)
        | (simp only [retK, resD, St.get, lk, oneD, D.pub, D.pubs, retL, reduceIte, Nat.reduceEqDiff, Nat.reduceAdd, Nat.reduceLeDiff, Tryz.results19]; exact ⟨_, rfl, rfl, res_no (fun e => by subst e; have hxy := Option.some.inj (hx.symm.trans hy); subst hxy; first | contradiction | simp_all)⟩)
  have h1 : ((i : Int) < (a.to_.length : Int)) = False := eq_false (by omega)
  have hE5 := take_end hT (by omega) hlt
  clear hT hi hw
  simp only [go_sem, contS_seq, simprocAttr, rows_len, h1]
  clear h1 hlt i
  refine loopS (fun k st => ∃ i : Nat, k = a.rules.length - i ∧ i ≤ a.rules.length ∧ a.rules.take i = b.rules.take i ∧ st = ⟨[(2, .ptr 2 0), (3, .ptr 3 0), (12, int i)], [(2, a.ds), (3, b.ds)], [], .no⟩) a.rules.length _ ?_ ⟨0, rfl, by omega, rfl, rfl⟩ ?_
  · exact lessA
  rintro k st ⟨i, rfl, hi, hT, rfl⟩
  have hw := i64_succ (show i < 1000000000 by omega)
  by_cases hlt : i < a.rules.length
  · obtain ⟨x, hx⟩ := at_lt hlt
    obtain ⟨y, hy⟩ := at_lt (show i < b.rules.length by omega)
    have h1 : ((i : Int) < (a.rules.length : Int)) = True := eq_true (by omega)
    simp only [go_sem, contS_seq, simprocAttr, rows_len, rows_get hx, rows_get hy, h1, hw]
    · repeat' (first | refine GifP.mk (fun _ => ?_) (fun _ => ?_) | refine Gif.mk (fun _ => ?_) (fun _ => ?_) | (refine (ref9_SameRule x y (ha.rus x (List.mem_of_getElem? hx)).ml (ha.rus x (List.mem_of_getElem? hx)).fl (ha.rus x (List.mem_of_getElem? hx)).bl (fun m hm => ⟨((ha.rus x (List.mem_of_getElem? hx)).m m hm).hl, ((ha.rus x (List.mem_of_getElem? hx)).m m hm).ql⟩)).callX (enters_of Tryz.func68 rfl rfl) _ rfl rfl ?_; rintro _ rfl; simp only [go_sem, contS_seq, simprocAttr, rows_len, rows_get hx, rows_get hy, hw]) | refine And.intro ?_ ?_)
      all_goals first
        | (refine ⟨a.rules.length - (i + 1), _, by omega, ?_, i + 1, rfl, by omega, take_step hT hx hy (by first | assumption | (cases x; cases y; simp_all)), rfl⟩; exact lessA)
        | (simp only [retK, resD, St.get, lk, oneD, D.pub, D.pubs, retL, reduceIte, Nat.reduceEqDiff, Nat.reduceAdd, Nat.reduceLeDiff, Tryz.results19]; exact ⟨_, rfl, rfl, res_no (fun e => by subst e; have hxy := Option.some.inj (hx.symm.trans hy); subst hxy; first | contradiction | simp_all)⟩)
  have h1 : ((i : Int) < (a.rules.length : Int)) = False := eq_false (by omega)
  have hE6 := take_end hT (by omega) hlt
  clear hT hi hw
  simp only [go_sem, contS_seq, simprocAttr, rows_len, h1]
  clear h1 hlt i
  simp only [retK, resD, St.get, lk, oneD, D.pub, D.pubs, retL, reduceIte, Nat.reduceEqDiff, Nat.reduceAdd, Nat.reduceLeDiff, Tryz.results19]
  exact ⟨_, rfl, rfl, res_yes (by cases a; cases b; simp_all)⟩


structure AObj.sok (o : AObj) : Prop where
  rs : o.ref.space.size ≤ 1000000
  rn : o.ref.name.size ≤ 1000000
  lv : ∀ p ∈ o.labels, p.val.size ≤ 1000000
  ln : ∀ l ∈ o.listeners, l.name.size ≤ 1000000 ∧ l.cert.space.size ≤ 1000000 ∧ ∀ n ∈ l.needs, ∀ s ∈ n.vals, s.size ≤ 1000000
  pa : ∀ p ∈ o.parents, p.space.size ≤ 1000000 ∧ p.section_.size ≤ 1000000
  ru : ∀ r ∈ o.rules, (∀ m ∈ r.matches_, m.method.size ≤ 1000000) ∧ (∀ f ∈ r.filters, f.host.size ≤ 1000000 ∧ f.path.size ≤ 1000000) ∧ ∀ b ∈ r.backends, b.ref.space.size ≤ 1000000
  si : ∀ s ∈ o.from_, s.space.size ≤ 1000000

theorem ref9_kind (n : Int) : Pure Tryz.prog 95 [int n] (fun d => d = bln (okind n)) := by
  refine pure_of_run follows an_zotge Tryz.func95 rfl ok_zotge.1 ok_zotge.2 (by simp [Tryz.ntmps95]) ?_
  rw [run_start]
  simp only [ac_zotge, oo, og, tp, ci, cq, mq, lq, fi, sr, go_sem, contS_seq, simprocAttr]
  (repeat' (first | (refine GifP.mk (fun _ => ?_) (fun _ => ?_)) | (refine Gif.mk (fun _ => ?_) (fun _ => ?_)))) <;> (simp only [retK, resD, St.get, lk, oneD, D.pub, D.pubs, retL, reduceIte, Nat.reduceEqDiff, Nat.reduceAdd, Nat.reduceLeDiff, Tryz.results95]; exact ⟨_, rfl, rfl, congrArg bln (by first | rfl | (rw [Bool.eq_iff_iff]; simp only [okind]; simp; done) | (rw [Bool.eq_iff_iff]; simp only [okind]; simp; omega) | (rw [Bool.eq_iff_iff]; simp only [okind]; simp [*]; done) | (rw [Bool.eq_iff_iff]; simp only [okind]; simp [*]; omega) | (simp_all [okind]; done) | (exfalso; omega))⟩)
theorem ref9_port (n : Int) : Pure Tryz.prog 56 [int n] (fun d => d = bln (oport n)) := by
  refine pure_of_run follows an_ztb7v Tryz.func56 rfl ok_ztb7v.1 ok_ztb7v.2 (by simp [Tryz.ntmps56]) ?_
  rw [run_start]
  simp only [ac_ztb7v, oo, og, tp, ci, cq, mq, lq, fi, sr, go_sem, contS_seq, simprocAttr]
  (repeat' (first | (refine GifP.mk (fun _ => ?_) (fun _ => ?_)) | (refine Gif.mk (fun _ => ?_) (fun _ => ?_)))) <;> (simp only [retK, resD, St.get, lk, oneD, D.pub, D.pubs, retL, reduceIte, Nat.reduceEqDiff, Nat.reduceAdd, Nat.reduceLeDiff, Tryz.results56]; exact ⟨_, rfl, rfl, congrArg bln (by first | rfl | (rw [Bool.eq_iff_iff]; simp only [oport]; simp; done) | (rw [Bool.eq_iff_iff]; simp only [oport]; simp; omega) | (rw [Bool.eq_iff_iff]; simp only [oport]; simp [*]; done) | (rw [Bool.eq_iff_iff]; simp only [oport]; simp [*]; omega) | (simp_all [oport]; done) | (exfalso; omega))⟩)
theorem ref9_near (s : ByteArray) (hs : s.size ≤ 1000000) : Pure Tryz.prog 93 [str s] (fun d => d = bln (labValue s)) := by
  refine pure_of_run follows an_z84ie Tryz.func93 rfl ok_z84ie.1 ok_z84ie.2 (by simp [Tryz.ntmps93]) ?_
  rw [run_start]
  simp only [ac_z84ie, oo, og, tp, ci, cq, mq, lq, fi, sr, go_sem, contS_seq, simprocAttr]
  (repeat' (first | (refine GifP.mk (fun _ => ?_) (fun _ => ?_)) | (refine Gif.mk (fun _ => ?_) (fun _ => ?_)) | (refine (ref1_Label _ hs).callW (enters_of Tryz.func89 rfl rfl) _ rfl rfl ?_; rintro _ rfl; try simp only [go_sem, contS_seq, simprocAttr]))) <;> (simp only [retK, resD, St.get, lk, oneD, D.pub, D.pubs, retL, reduceIte, Nat.reduceEqDiff, Nat.reduceAdd, Nat.reduceLeDiff, Tryz.results93]; exact ⟨_, rfl, rfl, congrArg bln (by first | rfl | (rw [Bool.eq_iff_iff]; simp only [labValue]; simp; done) | (rw [Bool.eq_iff_iff]; simp only [labValue]; simp; omega) | (rw [Bool.eq_iff_iff]; simp only [labValue]; simp [*]; done) | (rw [Bool.eq_iff_iff]; simp only [labValue]; simp [*]; omega) | (simp_all [labValue]; done) | (exfalso; omega))⟩)

theorem mayRef_iff (r : ARef) : mayRef r = true ↔ (r.kind = 1 ∧ r.space = ⟨#[]⟩ ∧ dname r.name = true) ∨ (r.kind = 2 ∧ r.space = ⟨#[]⟩ ∧ label r.name = true) ∨ (3 ≤ r.kind ∧ r.kind ≤ 7 ∧ label r.space = true ∧ dname r.name = true) := by
  unfold mayRef
  split
  · rename_i h
    simp [h]
  · split
    · rename_i h1 h
      simp [h]
    · rename_i h1 h2
      simp only [okind, Bool.and_eq_true, decide_eq_true_eq]
      constructor
      · rintro ⟨⟨⟨h3, h4⟩, h5⟩, h6⟩
        exact .inr (.inr ⟨by omega, h4, h5, h6⟩)
      · rintro (⟨h3, _⟩ | ⟨h3, _⟩ | ⟨h3, h4, h5, h6⟩)
        · exact absurd h3 h1
        · exact absurd h3 h2
        · exact ⟨⟨⟨by omega, h4⟩, h5⟩, h6⟩

set_option maxHeartbeats 2000000 in
theorem ref9_MayRef (r : ARef) (h1 : r.space.size ≤ 1000000) (h2 : r.name.size ≤ 1000000) : Pure Tryz.prog 54 [r.d] (fun d => d = bln (mayRef r)) := by
  refine pure_of_run follows an_zvuu8 Tryz.func54 rfl ok_zvuu8.1 ok_zvuu8.2 (by simp [Tryz.ntmps54]) ?_
  rw [run_start]
  simp only [ac_zvuu8, oo, og, tp, ci, cq, mq, lq, fi, sr, go_sem, contS_seq, simprocAttr]
  (repeat' (first | (refine GifP.mk (fun _ => ?_) (fun _ => ?_)) | (refine Gif.mk (fun _ => ?_) (fun _ => ?_)) | ((first | refine (ref1_Label r.name h2).callW (enters_of Tryz.func89 rfl rfl) _ rfl rfl ?_ | refine (ref1_Label r.space h1).callW (enters_of Tryz.func89 rfl rfl) _ rfl rfl ?_ | refine (ref1_Name r.name).callW (enters_of Tryz.func88 rfl rfl) _ rfl rfl ?_); rintro _ rfl; try simp only [go_sem, contS_seq, simprocAttr]))) <;> (simp only [retK, resD, St.get, lk, oneD, D.pub, D.pubs, retL, reduceIte, Nat.reduceEqDiff, Nat.reduceAdd, Nat.reduceLeDiff, Tryz.results54]; exact ⟨_, rfl, rfl, congrArg bln (by rw [Bool.eq_iff_iff, mayRef_iff]; first | (simp_all; done) | (simp_all; omega) | (have q1 : ¬ r.kind = 1 ∧ ¬ r.kind = 2 ∧ 3 ≤ r.kind ∧ r.kind ≤ 7 := (by omega); simp_all; done) | (have q1 : ¬ r.kind = 1 ∧ ¬ r.kind = 2 ∧ ¬ 3 ≤ r.kind := (by omega); simp_all; done))⟩)

theorem listenerMay_iff (l : AListener) : listenerMay l = true ↔ ((l.tls = true → l.cert.kind = 4 ∧ labValue l.cert.space = true ∧ dname l.cert.name = true) ∧ (l.tls = false → l.cert.kind = 0 ∧ l.cert.space = ⟨#[]⟩ ∧ l.cert.name = ⟨#[]⟩)) ∧
    label l.name = true ∧ oport l.port = true ∧ hostMay l.host = true ∧ 0 ≤ l.from_ ∧ l.from_ ≤ 2 ∧ needsMay l.needs = true ∧ (l.from_ = 2 ∨ l.needs.length = 0) := by
  simp only [listenerMay, Bool.and_eq_true, Bool.or_eq_true, decide_eq_true_eq]
  cases htls : l.tls <;> simp [and_assoc]

theorem every_iff {α : Type} (p : α → Bool) (l : List α) (n : Int) : every p l n = true ↔ (l.length : Int) ≤ n ∧ ∀ (j : Nat) (x : α), l[j]? = some x → p x = true := by
  simp only [every, Bool.and_eq_true, decide_eq_true_eq, all_at]

theorem gatewayMay_iff (s : ByteArray) (l : List AListener) : gatewayMay s l = true ↔ (dname s = true ∧ 0 < l.length ∧ l.length ≤ 8) ∧
    ∀ (j : Nat) (x : AListener), l[j]? = some x → listenerMay x = true ∧ ∀ (k : Nat) (y : AListener), k < j → l[k]? = some y → ¬ y.name = x.name := by
  simp only [gatewayMay, Bool.and_eq_true, decide_eq_true_eq, every_iff, Bool.not_eq_true', tw_iff, lisName, decide_eq_false_iff_not]
  constructor
  · rintro ⟨⟨⟨h1, h2⟩, h3, h4⟩, h5⟩
    exact ⟨⟨h1, h2, by omega⟩, fun j x hx => ⟨h4 j x hx, fun k y hk hy e => h5 j x hx k y hk hy e.symm⟩⟩
  · rintro ⟨⟨h1, h2, h3⟩, h4⟩
    exact ⟨⟨⟨h1, h2⟩, by omega, fun j x hx => (h4 j x hx).1⟩, fun j x hx k y hk hy e => (h4 j x hx).2 k y hk hy e.symm⟩

theorem routeMay_iff (ps : List AParent) (hs : List ByteArray) (rs : List ARule) : routeMay ps hs rs = true ↔ (ps.length ≤ 4 ∧ hs.length ≤ 4 ∧ rs.length ≤ 6) ∧
    (∀ (j : Nat) (x : AParent), ps[j]? = some x → parentMay x = true ∧ ∀ (k : Nat) (y : AParent), k < j → ps[k]? = some y → ¬ y = x) ∧
    (∀ (j : Nat) (x : ByteArray), hs[j]? = some x → patMay x = true ∧ ∀ (k : Nat) (y : ByteArray), k < j → hs[k]? = some y → ¬ y = x) ∧
    ∀ (j : Nat) (x : ARule), rs[j]? = some x → ruleMay x = true := by
  simp only [routeMay, Bool.and_eq_true, every_iff, Bool.not_eq_true', Bool.or_eq_false_iff, tw_iff, parSame, strSame, decide_eq_false_iff_not]
  constructor
  · rintro ⟨⟨⟨⟨h1, h2⟩, h3, h4⟩, h5, h6⟩, h7, h8⟩
    exact ⟨⟨by omega, by omega, by omega⟩, fun j x hx => ⟨h4 j x hx, fun k y hk hy e => h1 j x hx k y hk hy e.symm⟩, fun j x hx => ⟨h6 j x hx, fun k y hk hy e => h2 j x hx k y hk hy e.symm⟩, h8⟩
  · rintro ⟨⟨h1, h2, h3⟩, h4, h5, h6⟩
    exact ⟨⟨⟨⟨fun j x hx k y hk hy e => (h4 j x hx).2 k y hk hy e.symm, fun j x hx k y hk hy e => (h5 j x hx).2 k y hk hy e.symm⟩, by omega, fun j x hx => (h4 j x hx).1⟩, by omega, fun j x hx => (h5 j x hx).1⟩, by omega, h6⟩

theorem ruleMay_iff (r : ARule) : ruleMay r = true ↔ (r.matches_.length ≤ 4 ∧ r.backends.length ≤ 4 ∧ filtersAll r.filters = true) ∧ (∀ (j : Nat) (x : AMatch), r.matches_[j]? = some x → matchMay x = true) ∧ ∀ (j : Nat) (x : ABackend), r.backends[j]? = some x → backendMay x = true := by
  simp only [ruleMay, Bool.and_eq_true, every_iff]
  constructor
  · rintro ⟨⟨⟨h1, h2⟩, h3⟩, h4, h5⟩; exact ⟨⟨by omega, by omega, h3⟩, h2, h5⟩
  · rintro ⟨⟨h1, h2, h3⟩, h4, h5⟩; exact ⟨⟨⟨by omega, h4⟩, h3⟩, by omega, h5⟩

theorem grantMay_iff (f t : List ASide) : grantMay f t = true ↔ (0 < f.length ∧ f.length ≤ 4 ∧ 0 < t.length ∧ t.length ≤ 4) ∧ (∀ (j : Nat) (x : ASide), f[j]? = some x → sideFrom x = true) ∧ ∀ (j : Nat) (x : ASide), t[j]? = some x → sideTo x = true := by
  simp only [grantMay, Bool.and_eq_true, every_iff, decide_eq_true_eq]
  constructor
  · rintro ⟨⟨⟨h1, h2⟩, h3, h4⟩, h5, h6⟩; exact ⟨⟨h1, by omega, h2, by omega⟩, h4, h6⟩
  · rintro ⟨⟨h1, h2, h3, h4⟩, h5, h6⟩; exact ⟨⟨⟨h1, h3⟩, by omega, h5⟩, by omega, h6⟩

theorem backendMay_iff (b : ABackend) : backendMay b = true ↔ okind b.ref.kind = true ∧ labValue b.ref.space = true ∧ dname b.ref.name = true ∧ (b.port = 0 ∨ oport b.port = true) ∧ 0 ≤ b.weight ∧ b.weight ≤ 1000 := by
  simp only [backendMay, Bool.and_eq_true, Bool.or_eq_true, decide_eq_true_eq, and_assoc]

theorem parentMay_iff (p : AParent) : parentMay p = true ↔ labValue p.space = true ∧ dname p.name = true ∧ labValue p.section_ = true ∧ (p.port = 0 ∨ oport p.port = true) := by
  simp only [parentMay, Bool.and_eq_true, Bool.or_eq_true, decide_eq_true_eq, and_assoc]

theorem sideFrom_iff (s : ASide) : sideFrom s = true ↔ okind s.kind = true ∧ label s.space = true ∧ s.name = ⟨#[]⟩ := by
  simp only [sideFrom, Bool.and_eq_true, decide_eq_true_eq, and_assoc]

theorem sideTo_iff (s : ASide) : sideTo s = true ↔ okind s.kind = true ∧ s.space = ⟨#[]⟩ ∧ (s.name = ⟨#[]⟩ ∨ dname s.name = true) := by
  simp only [sideTo, Bool.and_eq_true, Bool.or_eq_true, decide_eq_true_eq, and_assoc]

theorem patMay_iff (s : ByteArray) : patMay s = true ↔ ¬ s = ⟨#[]⟩ ∧ hostMay s = true := by
  simp only [patMay, Bool.and_eq_true, Bool.not_eq_true', decide_eq_false_iff_not]

set_option maxHeartbeats 4000000 in
theorem ref9_rule (r : ARule) (h : r.ok) (hm : ∀ m ∈ r.matches_, m.method.size ≤ 1000000) (hf : ∀ f ∈ r.filters, f.host.size ≤ 1000000 ∧ f.path.size ≤ 1000000) (hb : ∀ b ∈ r.backends, b.ref.space.size ≤ 1000000) : Pure Tryz.prog 94 [r.d] (fun d => d = bln (ruleMay r)) := by
  have hml := h.ml
  have hfl := h.fl
  have hbl := h.bl
  refine pure_of_run follows an_zn5zf Tryz.func94 rfl ok_zn5zf.1 ok_zn5zf.2 (by simp [Tryz.ntmps94]) ?_
  rw [run_start]
  have key : ¬ (r.matches_.length ≤ 4 ∧ r.backends.length ≤ 4 ∧ filtersAll r.filters = true) → bln false = bln (ruleMay r) := fun hn => bool_no fun e => hn ((ruleMay_iff r).1 e).1
  simp only [ac_zn5zf, oo, og, tp, ci, cq, mq, lq, fi, sr, go_sem, contS_seq, simprocAttr, rows_len]
  repeat' (first | refine GifP.mk (fun _ => ?_) (fun _ => ?_) | refine Gif.mk (fun _ => ?_) (fun _ => ?_) | (refine (ref7_All r.filters hfl h.f hf).callW (enters_of Tryz.func141 rfl rfl) _ rfl rfl ?_; rintro _ rfl; simp only [go_sem, contS_seq, simprocAttr, rows_len]) | refine And.intro ?_ ?_)
  all_goals first
    | (simp only [retK, resD, St.get, lk, oneD, D.pub, D.pubs, retL, reduceIte, Nat.reduceEqDiff, Nat.reduceAdd, Nat.reduceLeDiff, Tryz.results94]; exact ⟨_, rfl, rfl, key (by first | omega | (simp_all; done) | (simp_all; omega))⟩)
    | skip
  have hA : r.matches_.length ≤ 4 ∧ r.backends.length ≤ 4 ∧ filtersAll r.filters = true := ⟨by omega, by omega, by assumption⟩
  clear key
  refine loopS (fun k st => ∃ i : Nat, k = r.matches_.length - i ∧ i ≤ r.matches_.length ∧ (∀ (j : Nat) (x : AMatch), j < i → r.matches_[j]? = some x → matchMay x = true) ∧ st = ⟨[(1, .ptr 1 0), (3, int i)], [(1, [.pd (.slice (rows AMatch.pd r.matches_)), .pd (.slice (rows AFilter.pd r.filters)), .pd (.slice (rows ABackend.pd r.backends))])], [], .no⟩) r.matches_.length _ ?_ ⟨0, rfl, by omega, fun _ _ h => absurd h (Nat.not_lt_zero _), rfl⟩ ?_
  · exact lessA
  rintro k st ⟨i, rfl, hi, hT, rfl⟩
  have hw := i64_succ (show i < 1000000000 by omega)
  by_cases hlt : i < r.matches_.length
  · obtain ⟨x, hx⟩ := at_lt hlt
    have hmem := List.mem_of_getElem? hx
    have h1 : ((i : Int) < (r.matches_.length : Int)) = True := eq_true (by omega)
    have good : (matchMay x = true) → ∀ st, Weak Tryz.prog st ⟨[(1, .ptr 1 0), (3, int (i + 1 : Nat))], [(1, [.pd (.slice (rows AMatch.pd r.matches_)), .pd (.slice (rows AFilter.pd r.filters)), .pd (.slice (rows ABackend.pd r.backends))])], [], .no⟩ → Round Tryz.prog (fun k st => ∃ i : Nat, k = r.matches_.length - i ∧ i ≤ r.matches_.length ∧ (∀ (j : Nat) (x : AMatch), j < i → r.matches_[j]? = some x → matchMay x = true) ∧ st = ⟨[(1, .ptr 1 0), (3, int i)], [(1, [.pd (.slice (rows AMatch.pd r.matches_)), .pd (.slice (rows AFilter.pd r.filters)), .pd (.slice (rows ABackend.pd r.backends))])], [], .no⟩) (r.matches_.length - i) st := fun h st hw => ⟨r.matches_.length - (i + 1), _, by omega, hw, i + 1, rfl, by omega, snoc_all hT hx h, rfl⟩
    have bad : ¬ (matchMay x = true) → bln false = bln (ruleMay r) := fun h => bool_no fun e => h (((ruleMay_iff r).1 e).2.1 i x hx)
    simp only [go_sem, contS_seq, simprocAttr, rows_len, rows_get hx, h1, hw]
    repeat' (first | refine GifP.mk (fun _ => ?_) (fun _ => ?_) | refine Gif.mk (fun _ => ?_) (fun _ => ?_) | (refine (ref6_May x (h.m x hmem) (hm x hmem)).callW (enters_of Tryz.func142 rfl rfl) _ rfl rfl ?_; rintro _ rfl; simp only [go_sem, contS_seq, simprocAttr, rows_len, rows_get hx, hw]) | refine And.intro ?_ ?_)
    all_goals first
      | (refine good (by assumption) _ ?_; exact lessA)
      | (simp only [retK, resD, St.get, lk, oneD, D.pub, D.pubs, retL, reduceIte, Nat.reduceEqDiff, Nat.reduceAdd, Nat.reduceLeDiff, Tryz.results94]; exact ⟨_, rfl, rfl, bad (by simp_all)⟩)
  have h1 : ((i : Int) < (r.matches_.length : Int)) = False := eq_false (by omega)
  have hMatch : ∀ (j : Nat) (x : AMatch), r.matches_[j]? = some x → matchMay x = true := fun j x hx => hT j x (by have := (List.getElem?_eq_some_iff.1 hx).1; omega) hx
  clear hT hw hi
  simp only [go_sem, contS_seq, simprocAttr, rows_len, h1]
  first | clear h1 hlt i | clear h1 hlt
  refine loopS (fun k st => ∃ i : Nat, k = r.backends.length - i ∧ i ≤ r.backends.length ∧ (∀ (j : Nat) (x : ABackend), j < i → r.backends[j]? = some x → backendMay x = true) ∧ st = ⟨[(1, .ptr 1 0), (4, int i)], [(1, [.pd (.slice (rows AMatch.pd r.matches_)), .pd (.slice (rows AFilter.pd r.filters)), .pd (.slice (rows ABackend.pd r.backends))])], [], .no⟩) r.backends.length _ ?_ ⟨0, rfl, by omega, fun _ _ h => absurd h (Nat.not_lt_zero _), rfl⟩ ?_
  · exact lessA
  rintro k st ⟨i, rfl, hi, hT, rfl⟩
  have hw := i64_succ (show i < 1000000000 by omega)
  by_cases hlt : i < r.backends.length
  · obtain ⟨x, hx⟩ := at_lt hlt
    have hmem := List.mem_of_getElem? hx
    have h1 : ((i : Int) < (r.backends.length : Int)) = True := eq_true (by omega)
    have good : (backendMay x = true) → ∀ st, Weak Tryz.prog st ⟨[(1, .ptr 1 0), (4, int (i + 1 : Nat))], [(1, [.pd (.slice (rows AMatch.pd r.matches_)), .pd (.slice (rows AFilter.pd r.filters)), .pd (.slice (rows ABackend.pd r.backends))])], [], .no⟩ → Round Tryz.prog (fun k st => ∃ i : Nat, k = r.backends.length - i ∧ i ≤ r.backends.length ∧ (∀ (j : Nat) (x : ABackend), j < i → r.backends[j]? = some x → backendMay x = true) ∧ st = ⟨[(1, .ptr 1 0), (4, int i)], [(1, [.pd (.slice (rows AMatch.pd r.matches_)), .pd (.slice (rows AFilter.pd r.filters)), .pd (.slice (rows ABackend.pd r.backends))])], [], .no⟩) (r.backends.length - i) st := fun h st hw => ⟨r.backends.length - (i + 1), _, by omega, hw, i + 1, rfl, by omega, snoc_all hT hx h, rfl⟩
    have bad : ¬ (backendMay x = true) → bln false = bln (ruleMay r) := fun h => bool_no fun e => h (((ruleMay_iff r).1 e).2.2 i x hx)
    simp only [go_sem, contS_seq, simprocAttr, rows_len, rows_get hx, h1, hw]
    repeat' (first | refine GifP.mk (fun _ => ?_) (fun _ => ?_) | refine Gif.mk (fun _ => ?_) (fun _ => ?_) | (refine (ref9_kind x.ref.kind).callW (enters_of Tryz.func95 rfl rfl) _ rfl rfl ?_; rintro _ rfl; simp only [go_sem, contS_seq, simprocAttr, rows_len, rows_get hx, hw]) | (refine (ref9_near x.ref.space (hb x hmem)).callW (enters_of Tryz.func93 rfl rfl) _ rfl rfl ?_; rintro _ rfl; simp only [go_sem, contS_seq, simprocAttr, rows_len, rows_get hx, hw]) | (refine (ref1_Name x.ref.name).callW (enters_of Tryz.func88 rfl rfl) _ rfl rfl ?_; rintro _ rfl; simp only [go_sem, contS_seq, simprocAttr, rows_len, rows_get hx, hw]) | (refine (ref9_port x.port).callW (enters_of Tryz.func56 rfl rfl) _ rfl rfl ?_; rintro _ rfl; simp only [go_sem, contS_seq, simprocAttr, rows_len, rows_get hx, hw]) | refine And.intro ?_ ?_)
    all_goals first
      | (refine good ((backendMay_iff x).2 (by first | (simp_all; done) | (simp_all; omega))) _ ?_; exact lessA)
      | (simp only [retK, resD, St.get, lk, oneD, D.pub, D.pubs, retL, reduceIte, Nat.reduceEqDiff, Nat.reduceAdd, Nat.reduceLeDiff, Tryz.results94]; exact ⟨_, rfl, rfl, bad (by rw [backendMay_iff]; first | (simp_all; done) | (simp_all; omega) | (intro hh; simp_all; omega))⟩)
  have h1 : ((i : Int) < (r.backends.length : Int)) = False := eq_false (by omega)
  have hBack : ∀ (j : Nat) (x : ABackend), r.backends[j]? = some x → backendMay x = true := fun j x hx => hT j x (by have := (List.getElem?_eq_some_iff.1 hx).1; omega) hx
  clear hT hw hi
  simp only [go_sem, contS_seq, simprocAttr, rows_len, h1]
  first | clear h1 hlt i | clear h1 hlt
  simp only [retK, resD, St.get, lk, oneD, D.pub, D.pubs, retL, reduceIte, Nat.reduceEqDiff, Nat.reduceAdd, Nat.reduceLeDiff, Tryz.results94]
  exact ⟨_, rfl, rfl, bool_yes ((ruleMay_iff r).2 ⟨hA, hMatch, hBack⟩)⟩

set_option maxHeartbeats 4000000 in
theorem ref9_grant (o : AObj) (h : o.ok) (hs : ∀ s ∈ o.from_, s.space.size ≤ 1000000) : Pure Tryz.prog 59 [o.d] (fun d => d = bln (grantMay o.from_ o.to_)) := by
  have hfr := h.fr
  have hto := h.to
  refine pure_of_run follows an_zrloc Tryz.func59 rfl ok_zrloc.1 ok_zrloc.2 (by simp [Tryz.ntmps59]) ?_
  rw [run_start]
  simp only [ac_zrloc, oo, og, tp, ci, cq, mq, lq, fi, sr, go_sem, contS_seq, simprocAttr, rows_len]
  refine loopS (fun k st => ∃ i : Nat, k = o.from_.length - i ∧ i ≤ o.from_.length ∧ (∀ (j : Nat) (x : ASide), j < i → o.from_[j]? = some x → sideFrom x = true) ∧ st = ⟨[(1, .ptr 1 0), (3, int i)], [(1, o.ds)], [], .no⟩) o.from_.length _ ?_ ⟨0, rfl, by omega, fun _ _ h => absurd h (Nat.not_lt_zero _), rfl⟩ ?_
  · exact lessA
  rintro k st ⟨i, rfl, hi, hT, rfl⟩
  have hw := i64_succ (show i < 1000000000 by omega)
  by_cases hlt : i < o.from_.length
  · obtain ⟨x, hx⟩ := at_lt hlt
    have hmem := List.mem_of_getElem? hx
    have h1 : ((i : Int) < (o.from_.length : Int)) = True := eq_true (by omega)
    have good : (sideFrom x = true) → ∀ st, Weak Tryz.prog st ⟨[(1, .ptr 1 0), (3, int (i + 1 : Nat))], [(1, o.ds)], [], .no⟩ → Round Tryz.prog (fun k st => ∃ i : Nat, k = o.from_.length - i ∧ i ≤ o.from_.length ∧ (∀ (j : Nat) (x : ASide), j < i → o.from_[j]? = some x → sideFrom x = true) ∧ st = ⟨[(1, .ptr 1 0), (3, int i)], [(1, o.ds)], [], .no⟩) (o.from_.length - i) st := fun h st hw => ⟨o.from_.length - (i + 1), _, by omega, hw, i + 1, rfl, by omega, snoc_all hT hx h, rfl⟩
    have bad : ¬ (sideFrom x = true) → bln false = bln (grantMay o.from_ o.to_) := fun h => bool_no fun e => h (((grantMay_iff _ _).1 e).2.1 i x hx)
    simp only [go_sem, contS_seq, simprocAttr, rows_len, rows_get hx, h1, hw]
    repeat' (first | refine GifP.mk (fun _ => ?_) (fun _ => ?_) | refine Gif.mk (fun _ => ?_) (fun _ => ?_) | (refine (ref9_kind x.kind).callW (enters_of Tryz.func95 rfl rfl) _ rfl rfl ?_; rintro _ rfl; simp only [go_sem, contS_seq, simprocAttr, rows_len, rows_get hx, hw]) | (refine (ref1_Label x.space (hs x hmem)).callW (enters_of Tryz.func89 rfl rfl) _ rfl rfl ?_; rintro _ rfl; simp only [go_sem, contS_seq, simprocAttr, rows_len, rows_get hx, hw]) | refine And.intro ?_ ?_)
    all_goals first
      | (refine good ((sideFrom_iff x).2 (by simp_all)) _ ?_; exact lessA)
      | (simp only [retK, resD, St.get, lk, oneD, D.pub, D.pubs, retL, reduceIte, Nat.reduceEqDiff, Nat.reduceAdd, Nat.reduceLeDiff, Tryz.results59]; exact ⟨_, rfl, rfl, bad (by rw [sideFrom_iff]; simp_all)⟩)
  have h1 : ((i : Int) < (o.from_.length : Int)) = False := eq_false (by omega)
  have hFrom : ∀ (j : Nat) (x : ASide), o.from_[j]? = some x → sideFrom x = true := fun j x hx => hT j x (by have := (List.getElem?_eq_some_iff.1 hx).1; omega) hx
  clear hT hw hi
  simp only [go_sem, contS_seq, simprocAttr, rows_len, h1]
  first | clear h1 hlt i | clear h1 hlt
  refine loopS (fun k st => ∃ i : Nat, k = o.to_.length - i ∧ i ≤ o.to_.length ∧ (∀ (j : Nat) (x : ASide), j < i → o.to_[j]? = some x → sideTo x = true) ∧ st = ⟨[(1, .ptr 1 0), (4, int i)], [(1, o.ds)], [], .no⟩) o.to_.length _ ?_ ⟨0, rfl, by omega, fun _ _ h => absurd h (Nat.not_lt_zero _), rfl⟩ ?_
  · exact lessA
  rintro k st ⟨i, rfl, hi, hT, rfl⟩
  have hw := i64_succ (show i < 1000000000 by omega)
  by_cases hlt : i < o.to_.length
  · obtain ⟨x, hx⟩ := at_lt hlt
    have hmem := List.mem_of_getElem? hx
    have h1 : ((i : Int) < (o.to_.length : Int)) = True := eq_true (by omega)
    have good : (sideTo x = true) → ∀ st, Weak Tryz.prog st ⟨[(1, .ptr 1 0), (4, int (i + 1 : Nat))], [(1, o.ds)], [], .no⟩ → Round Tryz.prog (fun k st => ∃ i : Nat, k = o.to_.length - i ∧ i ≤ o.to_.length ∧ (∀ (j : Nat) (x : ASide), j < i → o.to_[j]? = some x → sideTo x = true) ∧ st = ⟨[(1, .ptr 1 0), (4, int i)], [(1, o.ds)], [], .no⟩) (o.to_.length - i) st := fun h st hw => ⟨o.to_.length - (i + 1), _, by omega, hw, i + 1, rfl, by omega, snoc_all hT hx h, rfl⟩
    have bad : ¬ (sideTo x = true) → bln false = bln (grantMay o.from_ o.to_) := fun h => bool_no fun e => h (((grantMay_iff _ _).1 e).2.2 i x hx)
    simp only [go_sem, contS_seq, simprocAttr, rows_len, rows_get hx, h1, hw]
    repeat' (first | refine GifP.mk (fun _ => ?_) (fun _ => ?_) | refine Gif.mk (fun _ => ?_) (fun _ => ?_) | (refine (ref9_kind x.kind).callW (enters_of Tryz.func95 rfl rfl) _ rfl rfl ?_; rintro _ rfl; simp only [go_sem, contS_seq, simprocAttr, rows_len, rows_get hx, hw]) | (refine (ref1_Name x.name).callW (enters_of Tryz.func88 rfl rfl) _ rfl rfl ?_; rintro _ rfl; simp only [go_sem, contS_seq, simprocAttr, rows_len, rows_get hx, hw]) | refine And.intro ?_ ?_)
    all_goals first
      | (refine good ((sideTo_iff x).2 (by simp_all)) _ ?_; exact lessA)
      | (simp only [retK, resD, St.get, lk, oneD, D.pub, D.pubs, retL, reduceIte, Nat.reduceEqDiff, Nat.reduceAdd, Nat.reduceLeDiff, Tryz.results59]; exact ⟨_, rfl, rfl, bad (by rw [sideTo_iff]; simp_all)⟩)
  have h1 : ((i : Int) < (o.to_.length : Int)) = False := eq_false (by omega)
  have hTo : ∀ (j : Nat) (x : ASide), o.to_[j]? = some x → sideTo x = true := fun j x hx => hT j x (by have := (List.getElem?_eq_some_iff.1 hx).1; omega) hx
  clear hT hw hi
  simp only [go_sem, contS_seq, simprocAttr, rows_len, h1]
  first | clear h1 hlt i | clear h1 hlt
  repeat' (first | refine GifP.mk (fun _ => ?_) (fun _ => ?_) | refine Gif.mk (fun _ => ?_) (fun _ => ?_))
  all_goals
    simp only [retK, resD, St.get, lk, oneD, D.pub, D.pubs, retL, reduceIte, Nat.reduceEqDiff, Nat.reduceAdd, Nat.reduceLeDiff, Tryz.results59]
    first
      | exact ⟨_, rfl, rfl, bool_no fun e => by have := ((grantMay_iff _ _).1 e).1; omega⟩
      | exact ⟨_, rfl, rfl, bool_dec ⟨fun h => (grantMay_iff _ _).2 ⟨by omega, hFrom, hTo⟩, fun h => by have := ((grantMay_iff _ _).1 h).1; omega⟩⟩

set_option maxHeartbeats 8000000 in
theorem ref9_gateway (o : AObj) (h : o.ok) (hs : ∀ l ∈ o.listeners, l.name.size ≤ 1000000 ∧ l.cert.space.size ≤ 1000000 ∧ ∀ n ∈ l.needs, ∀ s ∈ n.vals, s.size ≤ 1000000) : Pure Tryz.prog 57 [o.d] (fun d => d = bln (gatewayMay o.cls o.listeners)) := by
  have hli := h.li
  refine pure_of_run follows an_zlyo9 Tryz.func57 rfl ok_zlyo9.1 ok_zlyo9.2 (by simp [Tryz.ntmps57]) ?_
  rw [run_start]
  simp only [ac_zlyo9, oo, og, tp, ci, cq, mq, lq, fi, sr, go_sem, contS_seq, simprocAttr, rows_len]
  refine loopS (fun k st => ∃ i : Nat, k = o.listeners.length - i ∧ i ≤ o.listeners.length ∧ (∀ (j : Nat) (x : AListener), j < i → o.listeners[j]? = some x → listenerMay x = true ∧ ∀ (k : Nat) (y : AListener), k < (j) → o.listeners[k]? = some y → ¬ y.name = x.name) ∧ st = ⟨[(1, .ptr 1 0), (3, .pd (.slice (rows AListener.pd o.listeners))), (4, int i)], [(1, o.ds)], [], .no⟩) o.listeners.length _ ?_ ⟨0, rfl, by omega, fun _ _ h => absurd h (Nat.not_lt_zero _), rfl⟩ ?_
  · exact lessA
  rintro k st ⟨i, rfl, hi, hT, rfl⟩
  have hw := i64_succ (show i < 1000000000 by omega)
  by_cases hlt : i < o.listeners.length
  · obtain ⟨x, hx⟩ := at_lt hlt
    have hmem := List.mem_of_getElem? hx
    have h1 : ((i : Int) < (o.listeners.length : Int)) = True := eq_true (by omega)
    have good : (listenerMay x = true ∧ ∀ (k : Nat) (y : AListener), k < i → o.listeners[k]? = some y → ¬ y.name = x.name) → ∀ st, Weak Tryz.prog st ⟨[(1, .ptr 1 0), (3, .pd (.slice (rows AListener.pd o.listeners))), (4, int (i + 1 : Nat))], [(1, o.ds)], [], .no⟩ → Round Tryz.prog (fun k st => ∃ i : Nat, k = o.listeners.length - i ∧ i ≤ o.listeners.length ∧ (∀ (j : Nat) (x : AListener), j < i → o.listeners[j]? = some x → listenerMay x = true ∧ ∀ (k : Nat) (y : AListener), k < (j) → o.listeners[k]? = some y → ¬ y.name = x.name) ∧ st = ⟨[(1, .ptr 1 0), (3, .pd (.slice (rows AListener.pd o.listeners))), (4, int i)], [(1, o.ds)], [], .no⟩) (o.listeners.length - i) st := fun h st hw => ⟨o.listeners.length - (i + 1), _, by omega, hw, i + 1, rfl, by omega, snoc_all hT hx h, rfl⟩
    have bad : ¬ (listenerMay x = true ∧ ∀ (k : Nat) (y : AListener), k < i → o.listeners[k]? = some y → ¬ y.name = x.name) → bln false = bln (gatewayMay o.cls o.listeners) := fun h => bool_no fun e => h (((gatewayMay_iff _ _).1 e).2 i x hx)
    simp only [go_sem, contS_seq, simprocAttr, rows_len, rows_get hx, h1, hw]
    refine loopS (fun n st => ∃ k : Nat, n = i - k ∧ k ≤ i ∧ (∀ (k' : Nat) (y : AListener), k' < k → o.listeners[k']? = some y → ¬ y.name = x.name) ∧ st = ⟨[(1, .ptr 1 0), (3, .pd (.slice (rows AListener.pd o.listeners))), (4, int i), (5, .ptr 5 0), (6, int k)], [(1, o.ds), (5, x.ds)], [], .no⟩) i _ ?_ ⟨0, rfl, by omega, fun _ _ h => absurd h (Nat.not_lt_zero _), rfl⟩ ?_
    · exact lessA
    rintro n st ⟨k, rfl, hk, hS, rfl⟩
    have hwk := i64_succ (show k < 1000000000 by omega)
    by_cases hki : k < i
    · obtain ⟨y, hy⟩ := at_lt (show k < o.listeners.length by omega)
      have hmy := List.mem_of_getElem? hy
      have h2 : ((k : Int) < (i : Int)) = True := eq_true (by omega)
      have goodk : (¬ y.name = x.name) → ∀ st, Weak Tryz.prog st ⟨[(1, .ptr 1 0), (3, .pd (.slice (rows AListener.pd o.listeners))), (4, int i), (5, .ptr 5 0), (6, int (k + 1 : Nat))], [(1, o.ds), (5, x.ds)], [], .no⟩ → Round Tryz.prog (fun n st => ∃ k : Nat, n = i - k ∧ k ≤ i ∧ (∀ (k' : Nat) (y : AListener), k' < k → o.listeners[k']? = some y → ¬ y.name = x.name) ∧ st = ⟨[(1, .ptr 1 0), (3, .pd (.slice (rows AListener.pd o.listeners))), (4, int i), (5, .ptr 5 0), (6, int k)], [(1, o.ds), (5, x.ds)], [], .no⟩) (i - k) st := fun h st hw => ⟨i - (k + 1), _, by omega, hw, k + 1, rfl, by omega, snoc_all hS hy h, rfl⟩
      have badk : ¬ (¬ y.name = x.name) → bln false = bln (gatewayMay o.cls o.listeners) := fun h => bad (fun e => h (e.2 k y hki hy))
      simp only [go_sem, contS_seq, simprocAttr, rows_len, rows_get hx, rows_get hy, h2, hwk]
      repeat' (first | refine GifP.mk (fun _ => ?_) (fun _ => ?_) | refine Gif.mk (fun _ => ?_) (fun _ => ?_) | refine And.intro ?_ ?_)
      all_goals first
        | (refine goodk (by first | omega | (simp_all; done) | (simp_all; omega)) _ ?_; exact lessA)
        | (simp only [retK, resD, St.get, lk, oneD, D.pub, D.pubs, retL, reduceIte, Nat.reduceEqDiff, Nat.reduceAdd, Nat.reduceLeDiff, Tryz.results57]; exact ⟨_, rfl, rfl, badk (by first | omega | (simp_all; done) | (simp_all; omega))⟩)
    have h2 : ((k : Int) < (i : Int)) = False := eq_false (by omega)
    have hIn : ∀ (k : Nat) (y : AListener), k < i → o.listeners[k]? = some y → ¬ y.name = x.name := fun k' y hk' hy => hS k' y (by omega) hy
    clear hS hwk hk
    simp only [go_sem, contS_seq, simprocAttr, rows_len, rows_get hx, h2, hw]
    first | clear h2 hki k | clear h2 hki
    repeat' (first | refine GifP.mk (fun _ => ?_) (fun _ => ?_) | refine Gif.mk (fun _ => ?_) (fun _ => ?_) | (refine (ref1_Label x.name (hs x hmem).1).callW (enters_of Tryz.func89 rfl rfl) _ rfl rfl ?_; rintro _ rfl; simp only [go_sem, contS_seq, simprocAttr, rows_len, rows_get hx, hw, eqVs, eqV]) | (refine (ref9_port x.port).callW (enters_of Tryz.func56 rfl rfl) _ rfl rfl ?_; rintro _ rfl; simp only [go_sem, contS_seq, simprocAttr, rows_len, rows_get hx, hw, eqVs, eqV]) | (refine (ref2_May x.host).callW (enters_of Tryz.func91 rfl rfl) _ rfl rfl ?_; rintro _ rfl; simp only [go_sem, contS_seq, simprocAttr, rows_len, rows_get hx, hw, eqVs, eqV]) | (refine (ref8_Needs x.needs (h.lis x hmem).nl (h.lis x hmem).n (hs x hmem).2.2).callW (enters_of Tryz.func92 rfl rfl) _ rfl rfl ?_; rintro _ rfl; simp only [go_sem, contS_seq, simprocAttr, rows_len, rows_get hx, hw, eqVs, eqV]) | (refine (ref9_near x.cert.space (hs x hmem).2.1).callW (enters_of Tryz.func93 rfl rfl) _ rfl rfl ?_; rintro _ rfl; simp only [go_sem, contS_seq, simprocAttr, rows_len, rows_get hx, hw, eqVs, eqV]) | (refine (ref1_Name x.cert.name).callW (enters_of Tryz.func88 rfl rfl) _ rfl rfl ?_; rintro _ rfl; simp only [go_sem, contS_seq, simprocAttr, rows_len, rows_get hx, hw, eqVs, eqV]) | refine And.intro ?_ ?_)
    all_goals first
      | (refine good (⟨(listenerMay_iff x).2 (by first | (simp_all; done) | (simp_all; omega)), hIn⟩) _ ?_; exact lessA)
      | (simp only [retK, resD, St.get, lk, oneD, D.pub, D.pubs, retL, reduceIte, Nat.reduceEqDiff, Nat.reduceAdd, Nat.reduceLeDiff, Tryz.results57]; exact ⟨_, rfl, rfl, bad (fun e => by have e1 := (listenerMay_iff x).1 e.1; clear e; first | omega | (simp_all; done) | (simp_all; omega))⟩)
  have h1 : ((i : Int) < (o.listeners.length : Int)) = False := eq_false (by omega)
  have hall : ∀ (j : Nat) (x : AListener), o.listeners[j]? = some x → listenerMay x = true ∧ ∀ (k : Nat) (y : AListener), k < (j) → o.listeners[k]? = some y → ¬ y.name = x.name := fun j x hx => hT j x (by have := (List.getElem?_eq_some_iff.1 hx).1; omega) hx
  clear hT hw hi
  simp only [go_sem, contS_seq, simprocAttr, rows_len, h1]
  first | clear h1 hlt i | clear h1 hlt
  repeat' (first | refine GifP.mk (fun _ => ?_) (fun _ => ?_) | refine Gif.mk (fun _ => ?_) (fun _ => ?_) | (refine (ref1_Name o.cls).callW (enters_of Tryz.func88 rfl rfl) _ rfl rfl ?_; rintro _ rfl; simp only [go_sem, contS_seq, simprocAttr, rows_len]) | refine And.intro ?_ ?_)
  all_goals
    simp only [retK, resD, St.get, lk, oneD, D.pub, D.pubs, retL, reduceIte, Nat.reduceEqDiff, Nat.reduceAdd, Nat.reduceLeDiff, Tryz.results57]
    first
      | exact ⟨_, rfl, rfl, bool_no fun e => by have := ((gatewayMay_iff _ _).1 e).1; first | omega | (simp_all; done)⟩
      | exact ⟨_, rfl, rfl, bool_dec ⟨fun h => (gatewayMay_iff _ _).2 ⟨⟨by assumption, by omega, by omega⟩, hall⟩, fun h => by have := ((gatewayMay_iff _ _).1 h).1; omega⟩⟩

set_option maxHeartbeats 8000000 in
theorem ref9_route (o : AObj) (h : o.ok) (hp : ∀ p ∈ o.parents, p.space.size ≤ 1000000 ∧ p.section_.size ≤ 1000000)
    (hr : ∀ r ∈ o.rules, (∀ m ∈ r.matches_, m.method.size ≤ 1000000) ∧ (∀ f ∈ r.filters, f.host.size ≤ 1000000 ∧ f.path.size ≤ 1000000) ∧ ∀ b ∈ r.backends, b.ref.space.size ≤ 1000000) : Pure Tryz.prog 58 [o.d] (fun d => d = bln (routeMay o.parents o.hosts o.rules)) := by
  have hpa := h.pa
  have hho := h.ho
  have hru := h.ru
  refine pure_of_run follows an_zgo5l Tryz.func58 rfl ok_zgo5l.1 ok_zgo5l.2 (by simp [Tryz.ntmps58]) ?_
  rw [run_start]
  simp only [ac_zgo5l, oo, og, tp, ci, cq, mq, lq, fi, sr, go_sem, contS_seq, simprocAttr, rows_len]
  refine loopS (fun k st => ∃ i : Nat, k = o.parents.length - i ∧ i ≤ o.parents.length ∧ (∀ (j : Nat) (x : AParent), j < i → o.parents[j]? = some x → parentMay x = true ∧ ∀ (k : Nat) (y : AParent), k < (j) → o.parents[k]? = some y → ¬ y = x) ∧ st = ⟨[(1, .ptr 1 0), (3, int i)], [(1, o.ds)], [], .no⟩) o.parents.length _ ?_ ⟨0, rfl, by omega, fun _ _ h => absurd h (Nat.not_lt_zero _), rfl⟩ ?_
  · exact lessA
  rintro k st ⟨i, rfl, hi, hT, rfl⟩
  have hw := i64_succ (show i < 1000000000 by omega)
  by_cases hlt : i < o.parents.length
  · obtain ⟨x, hx⟩ := at_lt hlt
    have hmem := List.mem_of_getElem? hx
    have h1 : ((i : Int) < (o.parents.length : Int)) = True := eq_true (by omega)
    have good : (parentMay x = true ∧ ∀ (k : Nat) (y : AParent), k < i → o.parents[k]? = some y → ¬ y = x) → ∀ st, Weak Tryz.prog st ⟨[(1, .ptr 1 0), (3, int (i + 1 : Nat))], [(1, o.ds)], [], .no⟩ → Round Tryz.prog (fun k st => ∃ i : Nat, k = o.parents.length - i ∧ i ≤ o.parents.length ∧ (∀ (j : Nat) (x : AParent), j < i → o.parents[j]? = some x → parentMay x = true ∧ ∀ (k : Nat) (y : AParent), k < (j) → o.parents[k]? = some y → ¬ y = x) ∧ st = ⟨[(1, .ptr 1 0), (3, int i)], [(1, o.ds)], [], .no⟩) (o.parents.length - i) st := fun h st hw => ⟨o.parents.length - (i + 1), _, by omega, hw, i + 1, rfl, by omega, snoc_all hT hx h, rfl⟩
    have bad : ¬ (parentMay x = true ∧ ∀ (k : Nat) (y : AParent), k < i → o.parents[k]? = some y → ¬ y = x) → bln false = bln (routeMay o.parents o.hosts o.rules) := fun h => bool_no fun e => h (((routeMay_iff _ _ _).1 e).2.1 i x hx)
    simp only [go_sem, contS_seq, simprocAttr, rows_len, rows_get hx, h1, hw]
    repeat' (first | refine GifP.mk (fun _ => ?_) (fun _ => ?_) | refine Gif.mk (fun _ => ?_) (fun _ => ?_) | (refine (ref9_near x.space (hp x hmem).1).callW (enters_of Tryz.func93 rfl rfl) _ rfl rfl ?_; rintro _ rfl; simp only [go_sem, contS_seq, simprocAttr, rows_len, rows_get hx, hw]) | (refine (ref1_Name x.name).callW (enters_of Tryz.func88 rfl rfl) _ rfl rfl ?_; rintro _ rfl; simp only [go_sem, contS_seq, simprocAttr, rows_len, rows_get hx, hw]) | (refine (ref9_near x.section_ (hp x hmem).2).callW (enters_of Tryz.func93 rfl rfl) _ rfl rfl ?_; rintro _ rfl; simp only [go_sem, contS_seq, simprocAttr, rows_len, rows_get hx, hw]) | (refine (ref9_port x.port).callW (enters_of Tryz.func56 rfl rfl) _ rfl rfl ?_; rintro _ rfl; simp only [go_sem, contS_seq, simprocAttr, rows_len, rows_get hx, hw]) | refine And.intro ?_ ?_)
    all_goals first
      | (simp only [retK, resD, St.get, lk, oneD, D.pub, D.pubs, retL, reduceIte, Nat.reduceEqDiff, Nat.reduceAdd, Nat.reduceLeDiff, Tryz.results58]; exact ⟨_, rfl, rfl, bad (fun e => by have e1 := (parentMay_iff x).1 e.1; clear e; first | omega | (simp_all; done) | (simp_all; omega))⟩)
      | skip
    all_goals
      have hmay : parentMay x = true := (parentMay_iff x).2 (by simp_all)
      refine loopS (fun n st => ∃ k : Nat, n = i - k ∧ k ≤ i ∧ (∀ (k' : Nat) (y : AParent), k' < k → o.parents[k']? = some y → ¬ y = x) ∧ st = ⟨[(1, .ptr 1 0), (3, int i), (4, .ptr 4 0), (5, int k)], [(1, o.ds), (4, x.ds)], [], .no⟩) i _ ?_ ⟨0, rfl, by omega, fun _ _ h => absurd h (Nat.not_lt_zero _), rfl⟩ ?_
      · exact lessA
      rintro n st ⟨k, rfl, hk, hS, rfl⟩
      have hwk := i64_succ (show k < 1000000000 by omega)
      by_cases hki : k < i
      · obtain ⟨y, hy⟩ := at_lt (show k < o.parents.length by omega)
        have hmy := List.mem_of_getElem? hy
        have h2 : ((k : Int) < (i : Int)) = True := eq_true (by omega)
        have goodk : (¬ y = x) → ∀ st, Weak Tryz.prog st ⟨[(1, .ptr 1 0), (3, int i), (4, .ptr 4 0), (5, int (k + 1 : Nat))], [(1, o.ds), (4, x.ds)], [], .no⟩ → Round Tryz.prog (fun n st => ∃ k : Nat, n = i - k ∧ k ≤ i ∧ (∀ (k' : Nat) (y : AParent), k' < k → o.parents[k']? = some y → ¬ y = x) ∧ st = ⟨[(1, .ptr 1 0), (3, int i), (4, .ptr 4 0), (5, int k)], [(1, o.ds), (4, x.ds)], [], .no⟩) (i - k) st := fun h st hw => ⟨i - (k + 1), _, by omega, hw, k + 1, rfl, by omega, snoc_all hS hy h, rfl⟩
        have badk : ¬ (¬ y = x) → bln false = bln (routeMay o.parents o.hosts o.rules) := fun h => bad (fun e => h (e.2 k y hki hy))
        simp only [go_sem, contS_seq, simprocAttr, rows_len, rows_get hx, rows_get hy, h2, hwk, eqVs, eqV, eq_Parent]
        repeat' (first | refine GifP.mk (fun _ => ?_) (fun _ => ?_) | refine Gif.mk (fun _ => ?_) (fun _ => ?_) | refine And.intro ?_ ?_)
        all_goals first
          | (refine goodk (by first | omega | (simp_all; done) | (simp_all; omega)) _ ?_; exact lessA)
          | (simp only [retK, resD, St.get, lk, oneD, D.pub, D.pubs, retL, reduceIte, Nat.reduceEqDiff, Nat.reduceAdd, Nat.reduceLeDiff, Tryz.results58]; exact ⟨_, rfl, rfl, badk (by first | omega | (simp_all; done) | (simp_all; omega))⟩)
      have h2 : ((k : Int) < (i : Int)) = False := eq_false (by omega)
      have hIn : ∀ (k : Nat) (y : AParent), k < i → o.parents[k]? = some y → ¬ y = x := fun k' y hk' hy => hS k' y (by omega) hy
      clear hS hwk hk
      simp only [go_sem, contS_seq, simprocAttr, rows_len, rows_get hx, h2, hw, eqVs, eqV, eq_Parent]
      first | clear h2 hki k | clear h2 hki
      refine good ⟨hmay, hIn⟩ _ ?_
      exact lessA
  have h1 : ((i : Int) < (o.parents.length : Int)) = False := eq_false (by omega)
  have hPar : ∀ (j : Nat) (x : AParent), o.parents[j]? = some x → parentMay x = true ∧ ∀ (k : Nat) (y : AParent), k < (j) → o.parents[k]? = some y → ¬ y = x := fun j x hx => hT j x (by have := (List.getElem?_eq_some_iff.1 hx).1; omega) hx
  clear hT hw hi
  simp only [go_sem, contS_seq, simprocAttr, rows_len, h1]
  first | clear h1 hlt i | clear h1 hlt
  refine loopS (fun k st => ∃ i : Nat, k = o.hosts.length - i ∧ i ≤ o.hosts.length ∧ (∀ (j : Nat) (x : ByteArray), j < i → o.hosts[j]? = some x → patMay x = true ∧ ∀ (k : Nat) (y : ByteArray), k < (j) → o.hosts[k]? = some y → ¬ y = x) ∧ st = ⟨[(1, .ptr 1 0), (6, int i)], [(1, o.ds)], [], .no⟩) o.hosts.length _ ?_ ⟨0, rfl, by omega, fun _ _ h => absurd h (Nat.not_lt_zero _), rfl⟩ ?_
  · exact lessA
  rintro k st ⟨i, rfl, hi, hT, rfl⟩
  have hw := i64_succ (show i < 1000000000 by omega)
  by_cases hlt : i < o.hosts.length
  · obtain ⟨x, hx⟩ := at_lt hlt
    have hmem := List.mem_of_getElem? hx
    have h1 : ((i : Int) < (o.hosts.length : Int)) = True := eq_true (by omega)
    have good : (patMay x = true ∧ ∀ (k : Nat) (y : ByteArray), k < i → o.hosts[k]? = some y → ¬ y = x) → ∀ st, Weak Tryz.prog st ⟨[(1, .ptr 1 0), (6, int (i + 1 : Nat))], [(1, o.ds)], [], .no⟩ → Round Tryz.prog (fun k st => ∃ i : Nat, k = o.hosts.length - i ∧ i ≤ o.hosts.length ∧ (∀ (j : Nat) (x : ByteArray), j < i → o.hosts[j]? = some x → patMay x = true ∧ ∀ (k : Nat) (y : ByteArray), k < (j) → o.hosts[k]? = some y → ¬ y = x) ∧ st = ⟨[(1, .ptr 1 0), (6, int i)], [(1, o.ds)], [], .no⟩) (o.hosts.length - i) st := fun h st hw => ⟨o.hosts.length - (i + 1), _, by omega, hw, i + 1, rfl, by omega, snoc_all hT hx h, rfl⟩
    have bad : ¬ (patMay x = true ∧ ∀ (k : Nat) (y : ByteArray), k < i → o.hosts[k]? = some y → ¬ y = x) → bln false = bln (routeMay o.parents o.hosts o.rules) := fun h => bool_no fun e => h (((routeMay_iff _ _ _).1 e).2.2.1 i x hx)
    simp only [go_sem, contS_seq, simprocAttr, rows_len, rows_get hx, h1, hw]
    repeat' (first | refine GifP.mk (fun _ => ?_) (fun _ => ?_) | refine Gif.mk (fun _ => ?_) (fun _ => ?_) | (refine (ref2_May x).callW (enters_of Tryz.func91 rfl rfl) _ rfl rfl ?_; rintro _ rfl; simp only [go_sem, contS_seq, simprocAttr, rows_len, rows_get hx, hw]) | refine And.intro ?_ ?_)
    all_goals first
      | (simp only [retK, resD, St.get, lk, oneD, D.pub, D.pubs, retL, reduceIte, Nat.reduceEqDiff, Nat.reduceAdd, Nat.reduceLeDiff, Tryz.results58]; exact ⟨_, rfl, rfl, bad (fun e => by have e1 := (patMay_iff x).1 e.1; clear e; simp_all)⟩)
      | skip
    all_goals
      have hmay : patMay x = true := (patMay_iff x).2 (by simp_all)
      refine loopS (fun n st => ∃ k : Nat, n = i - k ∧ k ≤ i ∧ (∀ (k' : Nat) (y : ByteArray), k' < k → o.hosts[k']? = some y → ¬ y = x) ∧ st = ⟨[(1, .ptr 1 0), (6, int i), (7, int k)], [(1, o.ds)], [], .no⟩) i _ ?_ ⟨0, rfl, by omega, fun _ _ h => absurd h (Nat.not_lt_zero _), rfl⟩ ?_
      · exact lessA
      rintro n st ⟨k, rfl, hk, hS, rfl⟩
      have hwk := i64_succ (show k < 1000000000 by omega)
      by_cases hki : k < i
      · obtain ⟨y, hy⟩ := at_lt (show k < o.hosts.length by omega)
        have hmy := List.mem_of_getElem? hy
        have h2 : ((k : Int) < (i : Int)) = True := eq_true (by omega)
        have goodk : (¬ y = x) → ∀ st, Weak Tryz.prog st ⟨[(1, .ptr 1 0), (6, int i), (7, int (k + 1 : Nat))], [(1, o.ds)], [], .no⟩ → Round Tryz.prog (fun n st => ∃ k : Nat, n = i - k ∧ k ≤ i ∧ (∀ (k' : Nat) (y : ByteArray), k' < k → o.hosts[k']? = some y → ¬ y = x) ∧ st = ⟨[(1, .ptr 1 0), (6, int i), (7, int k)], [(1, o.ds)], [], .no⟩) (i - k) st := fun h st hw => ⟨i - (k + 1), _, by omega, hw, k + 1, rfl, by omega, snoc_all hS hy h, rfl⟩
        have badk : ¬ (¬ y = x) → bln false = bln (routeMay o.parents o.hosts o.rules) := fun h => bad (fun e => h (e.2 k y hki hy))
        simp only [go_sem, contS_seq, simprocAttr, rows_len, rows_get hx, rows_get hy, h2, hwk]
        repeat' (first | refine GifP.mk (fun _ => ?_) (fun _ => ?_) | refine Gif.mk (fun _ => ?_) (fun _ => ?_) | refine And.intro ?_ ?_)
        all_goals first
          | (refine goodk (by first | omega | (simp_all; done) | (simp_all; omega)) _ ?_; exact lessA)
          | (simp only [retK, resD, St.get, lk, oneD, D.pub, D.pubs, retL, reduceIte, Nat.reduceEqDiff, Nat.reduceAdd, Nat.reduceLeDiff, Tryz.results58]; exact ⟨_, rfl, rfl, badk (by first | omega | (simp_all; done) | (simp_all; omega))⟩)
      have h2 : ((k : Int) < (i : Int)) = False := eq_false (by omega)
      have hIn : ∀ (k : Nat) (y : ByteArray), k < i → o.hosts[k]? = some y → ¬ y = x := fun k' y hk' hy => hS k' y (by omega) hy
      clear hS hwk hk
      simp only [go_sem, contS_seq, simprocAttr, rows_len, rows_get hx, h2, hw]
      first | clear h2 hki k | clear h2 hki
      refine good ⟨hmay, hIn⟩ _ ?_
      exact lessA
  have h1 : ((i : Int) < (o.hosts.length : Int)) = False := eq_false (by omega)
  have hHosts : ∀ (j : Nat) (x : ByteArray), o.hosts[j]? = some x → patMay x = true ∧ ∀ (k : Nat) (y : ByteArray), k < (j) → o.hosts[k]? = some y → ¬ y = x := fun j x hx => hT j x (by have := (List.getElem?_eq_some_iff.1 hx).1; omega) hx
  clear hT hw hi
  simp only [go_sem, contS_seq, simprocAttr, rows_len, h1]
  first | clear h1 hlt i | clear h1 hlt
  refine loopS (fun k st => ∃ i : Nat, k = o.rules.length - i ∧ i ≤ o.rules.length ∧ (∀ (j : Nat) (x : ARule), j < i → o.rules[j]? = some x → ruleMay x = true) ∧ st = ⟨[(1, .ptr 1 0), (8, int i)], [(1, o.ds)], [], .no⟩) o.rules.length _ ?_ ⟨0, rfl, by omega, fun _ _ h => absurd h (Nat.not_lt_zero _), rfl⟩ ?_
  · exact lessA
  rintro k st ⟨i, rfl, hi, hT, rfl⟩
  have hw := i64_succ (show i < 1000000000 by omega)
  by_cases hlt : i < o.rules.length
  · obtain ⟨x, hx⟩ := at_lt hlt
    have hmem := List.mem_of_getElem? hx
    have h1 : ((i : Int) < (o.rules.length : Int)) = True := eq_true (by omega)
    have good : (ruleMay x = true) → ∀ st, Weak Tryz.prog st ⟨[(1, .ptr 1 0), (8, int (i + 1 : Nat))], [(1, o.ds)], [], .no⟩ → Round Tryz.prog (fun k st => ∃ i : Nat, k = o.rules.length - i ∧ i ≤ o.rules.length ∧ (∀ (j : Nat) (x : ARule), j < i → o.rules[j]? = some x → ruleMay x = true) ∧ st = ⟨[(1, .ptr 1 0), (8, int i)], [(1, o.ds)], [], .no⟩) (o.rules.length - i) st := fun h st hw => ⟨o.rules.length - (i + 1), _, by omega, hw, i + 1, rfl, by omega, snoc_all hT hx h, rfl⟩
    have bad : ¬ (ruleMay x = true) → bln false = bln (routeMay o.parents o.hosts o.rules) := fun h => bool_no fun e => h (((routeMay_iff _ _ _).1 e).2.2.2 i x hx)
    simp only [go_sem, contS_seq, simprocAttr, rows_len, rows_get hx, h1, hw]
    repeat' (first | refine GifP.mk (fun _ => ?_) (fun _ => ?_) | refine Gif.mk (fun _ => ?_) (fun _ => ?_) | (refine (ref9_rule x (h.rus x hmem) (hr x hmem).1 (hr x hmem).2.1 (hr x hmem).2.2).callW (enters_of Tryz.func94 rfl rfl) _ rfl rfl ?_; rintro _ rfl; simp only [go_sem, contS_seq, simprocAttr, rows_len, rows_get hx, hw]) | refine And.intro ?_ ?_)
    all_goals first
      | (refine good (by assumption) _ ?_; exact lessA)
      | (simp only [retK, resD, St.get, lk, oneD, D.pub, D.pubs, retL, reduceIte, Nat.reduceEqDiff, Nat.reduceAdd, Nat.reduceLeDiff, Tryz.results58]; exact ⟨_, rfl, rfl, bad (by simp_all)⟩)
  have h1 : ((i : Int) < (o.rules.length : Int)) = False := eq_false (by omega)
  have hRules : ∀ (j : Nat) (x : ARule), o.rules[j]? = some x → ruleMay x = true := fun j x hx => hT j x (by have := (List.getElem?_eq_some_iff.1 hx).1; omega) hx
  clear hT hw hi
  simp only [go_sem, contS_seq, simprocAttr, rows_len, h1]
  first | clear h1 hlt i | clear h1 hlt
  repeat' (first | refine GifP.mk (fun _ => ?_) (fun _ => ?_) | refine Gif.mk (fun _ => ?_) (fun _ => ?_))
  all_goals
    simp only [retK, resD, St.get, lk, oneD, D.pub, D.pubs, retL, reduceIte, Nat.reduceEqDiff, Nat.reduceAdd, Nat.reduceLeDiff, Tryz.results58]
    first
      | exact ⟨_, rfl, rfl, bool_no fun e => by have := ((routeMay_iff _ _ _).1 e).1; omega⟩
      | exact ⟨_, rfl, rfl, bool_dec ⟨fun h => (routeMay_iff _ _ _).2 ⟨⟨by omega, by omega, by omega⟩, hPar, hHosts, hRules⟩, fun h => by have := ((routeMay_iff _ _ _).1 h).1; omega⟩⟩


theorem eqf_dec {α : Type} [DecidableEq α] {q : α → α → Bool} (h : ∀ x y, q x y = decide (x = y)) : ∀ l m : List α, eqf q l m = decide (l = m)
  | [], [] => rfl
  | [], _ :: _ => rfl
  | _ :: _, [] => rfl
  | x :: l, y :: m => by
    simp only [eqf, h, eqf_dec h l m]
    rw [Bool.eq_iff_iff]
    simp

theorem needSame_dec (a b : ANeed) : needSame a b = decide (a = b) := by
  cases a; cases b
  rw [Bool.eq_iff_iff]
  simp [needSame, and_assoc]

theorem listenerSame_dec (a b : AListener) : listenerSame a b = decide (a = b) := by
  simp only [listenerSame, eqf_dec needSame_dec]
  cases a; cases b
  rw [Bool.eq_iff_iff]
  simp [and_assoc]

theorem matchSame_dec (a b : AMatch) : matchSame a b = decide (a = b) := by
  cases a; cases b
  rw [Bool.eq_iff_iff]
  simp [matchSame, and_assoc]

theorem ruleSame_dec (a b : ARule) : ruleSame a b = decide (a = b) := by
  simp only [ruleSame, eqf_dec matchSame_dec]
  cases a; cases b
  rw [Bool.eq_iff_iff]
  simp [and_assoc]

theorem objSame_iff (a b : AObj) : objSame a b = true ↔ a = b := by
  simp only [objSame, eqf_dec listenerSame_dec, eqf_dec ruleSame_dec]
  cases a; cases b
  simp [and_assoc]
  intro _ _
  constructor
  · rintro ⟨h1, h2, h3, h4, h5, h6, h7, h8, h9⟩
    exact ⟨h2, h3, h1, h8, h5, h4, h9, h6, h7⟩
  · rintro ⟨h2, h3, h1, h8, h5, h4, h9, h6, h7⟩
    exact ⟨h1, h2, h3, h4, h5, h6, h7, h8, h9⟩

theorem sort_from {l : List Int} : ∀ {n : Nat}, sortFrom l n = true ↔ ∀ (i : Nat) (a b : Int), i < n → l[i + 1]? = some a → l[i]? = some b → b ≤ a
  | 0 => by simp [sortFrom]
  | n + 1 => by
    simp only [sortFrom, Bool.and_eq_true, sort_from]
    constructor
    · rintro ⟨h1, h2⟩ i a b hi ha hb
      rcases Nat.eq_or_lt_of_le (Nat.le_of_lt_succ hi) with e | e
      · subst e
        rw [ha, hb] at h1
        simp [intLess] at h1
        exact h1
      · exact h2 i a b e ha hb
    · intro h
      refine ⟨?_, fun i a b hi => h i a b (by omega)⟩
      cases ha : l[n + 1]? with
      | none => rfl
      | some a =>
        cases hb : l[n]? with
        | none => rfl
        | some b =>
          have := h n a b (Nat.lt_succ_self _) ha hb
          simp [intLess]
          exact this

theorem serviceMay_iff (l : List Int) : serviceMay l = true ↔ (0 < l.length ∧ l.length ≤ 8) ∧ ∀ (j : Nat) (x : Int), l[j]? = some x → oport x = true ∧ ∀ y : Int, 0 < j → l[j - 1]? = some y → y < x := by
  simp only [serviceMay, Bool.and_eq_true, decide_eq_true_eq, every_iff, sortedInts, sort_from, Bool.not_eq_true', tw_iff, intSame, decide_eq_false_iff_not]
  constructor
  · rintro ⟨⟨⟨h1, h2, h3⟩, h4⟩, h5⟩
    refine ⟨⟨h1, by omega⟩, fun j x hx => ⟨h3 j x hx, fun y h0 hy => ?_⟩⟩
    have hlt := (List.getElem?_eq_some_iff.1 hx).1
    obtain ⟨i, rfl⟩ : ∃ i, j = i + 1 := ⟨j - 1, by omega⟩
    have h6 := h4 i x y (by omega) hx hy
    have h7 := h5 (i + 1) x hx i y (Nat.lt_succ_self _) hy
    omega
  · rintro ⟨⟨h1, h2⟩, h3⟩
    have up : ∀ (j : Nat) (x : Int), l[j]? = some x → ∀ (k : Nat) (y : Int), k < j → l[k]? = some y → y < x := by
      intro j
      induction j with
      | zero => intro x _ k y hk; omega
      | succ i ih =>
        intro x hx k y hk hy
        have hlt := (List.getElem?_eq_some_iff.1 hx).1
        obtain ⟨z, hz⟩ := at_lt (show i < l.length by omega)
        have h4 := (h3 (i + 1) x hx).2 z (Nat.succ_pos _) hz
        rcases Nat.eq_or_lt_of_le (Nat.le_of_lt_succ hk) with e | e
        · subst e
          rw [hz] at hy; cases hy; exact h4
        · have := ih z hz k y e hy
          omega
    refine ⟨⟨⟨h1, by omega, fun j x hx => (h3 j x hx).1⟩, fun i a b _ ha hb => ?_⟩, fun j x hx k y hk hy e => ?_⟩
    · have := up (i + 1) a ha i b (Nat.lt_succ_self _) hb
      omega
    · have := up j x hx k y hk hy
      omega

def AObj.keep (o : AObj) : AObj :=
  if o.ref.kind = 1 ∨ o.ref.kind = 4 then { AObj.zero o.ref with good := o.good }
  else if o.ref.kind = 2 then { AObj.zero o.ref with labels := o.labels }
  else if o.ref.kind = 3 then { AObj.zero o.ref with ports := o.ports }
  else if o.ref.kind = 5 then { AObj.zero o.ref with listeners := o.listeners, cls := o.cls }
  else if o.ref.kind = 6 then { AObj.zero o.ref with parents := o.parents, hosts := o.hosts, rules := o.rules }
  else { AObj.zero o.ref with from_ := o.from_, to_ := o.to_ }

theorem keep_iff (o : AObj) : o.keep = o ↔ o.strip = AObj.zero o.ref := by
  obtain ⟨r, gd, la, po, cl, li, pa, ho, ru, fr, to⟩ := o
  unfold AObj.keep AObj.strip
  simp only [AObj.zero]
  repeat' split
  all_goals
    simp only [AObj.mk.injEq]
    constructor
    · intro h; simp_all
    · intro h; simp_all

theorem objMay_keep (o : AObj) : objMay o = (mayRef o.ref && (kindMay o && decide (o.keep = o))) := by
  rw [Bool.eq_iff_iff]
  simp only [objMay, Bool.and_eq_true, objSame_iff, decide_eq_true_eq, keep_iff, and_assoc]

theorem keep_ok {o : AObj} (h : o.ok) : o.keep.ok := by
  unfold AObj.keep
  repeat' split
  all_goals exact ⟨by first | exact h.la | simp [AObj.zero], by first | exact h.po | simp [AObj.zero], by first | exact h.li | simp [AObj.zero], by first | exact h.pa | simp [AObj.zero], by first | exact h.ho | simp [AObj.zero], by first | exact h.ru | simp [AObj.zero], by first | exact h.fr | simp [AObj.zero], by first | exact h.to | simp [AObj.zero], by first | exact h.lis | simp [AObj.zero], by first | exact h.rus | simp [AObj.zero]⟩

set_option maxHeartbeats 8000000 in
theorem ref9_May (o : AObj) (h : o.ok) (hs : o.sok) : Pure Tryz.prog 12 [o.d] (fun d => d = bln (objMay o)) := by
  refine pure_of_run follows an_zboc8 Tryz.func12 rfl ok_zboc8.1 ok_zboc8.2 (by simp [Tryz.ntmps12]) ?_
  rw [run_start]
  simp (maxSteps := 5000000) only [ac_zboc8, oo, og, tp, ci, cq, mq, lq, fi, sr, go_sem, contS_seq, simprocAttr, go_sem]
  refine (ref9_MayRef o.ref hs.rs hs.rn).callW (enters_of Tryz.func54 rfl rfl) _ rfl rfl ?_
  rintro _ rfl
  simp (maxSteps := 5000000) only [go_sem, contS_seq, simprocAttr, go_sem]
  refine Gif.mk (fun hm => ?_) (fun hm => ?_)
  rotate_left
  · simp only [retK, resD, St.get, lk, oneD, D.pub, D.pubs, retL, reduceIte, Nat.reduceEqDiff, Nat.reduceAdd, Nat.reduceLeDiff, Tryz.results12]
    exact ⟨_, rfl, rfl, by rw [objMay_keep, hm, Bool.false_and]; try rfl⟩
  · rcases mayRef_kind hm with hk | hk | hk | hk | hk | hk | hk
    · obtain ⟨⟨kd, sp, nm⟩, gd, la, po, cl, li, pa, ho, ru, fr, to⟩ := o
      simp only at hk
      subst hk
      have hob : (⟨⟨1, sp, nm⟩, gd, la, po, cl, li, pa, ho, ru, fr, to⟩ : AObj).ok := h
      have hkp := keep_ok h
      have hke : (⟨⟨1, sp, nm⟩, gd, la, po, cl, li, pa, ho, ru, fr, to⟩ : AObj).keep = { AObj.zero ⟨1, sp, nm⟩ with good := gd } := by simp [AObj.keep]
      have hkm : kindMay (⟨⟨1, sp, nm⟩, gd, la, po, cl, li, pa, ho, ru, fr, to⟩ : AObj) = true := by simp [kindMay]
      rw [hke] at hkp
      have fin : ∀ b : Bool, b = true → bln (b && decide (({ AObj.zero ⟨1, sp, nm⟩ with good := gd } : AObj) = (⟨⟨1, sp, nm⟩, gd, la, po, cl, li, pa, ho, ru, fr, to⟩ : AObj))) = bln (objMay (⟨⟨1, sp, nm⟩, gd, la, po, cl, li, pa, ho, ru, fr, to⟩ : AObj)) := fun b e => by
        rw [objMay_keep, hm, Bool.true_and, hkm, hke, e]
      simp (maxSteps := 5000000) only [go_sem, contS_seq, simprocAttr, go_sem, rows_len]
      refine (ref9_Same ({ AObj.zero ⟨1, sp, nm⟩ with good := gd } : AObj) (⟨⟨1, sp, nm⟩, gd, la, po, cl, li, pa, ho, ru, fr, to⟩ : AObj) hkp).callW (enters_of Tryz.func19 rfl rfl) _ rfl rfl ?_
      rintro _ rfl
      simp (maxSteps := 5000000) only [go_sem, contS_seq, simprocAttr, go_sem]
      simp only [retK, resD, St.get, lk, oneD, D.pub, D.pubs, retL, reduceIte, Nat.reduceEqDiff, Nat.reduceAdd, Nat.reduceLeDiff, Tryz.results12]
      exact ⟨_, rfl, rfl, by rw [← fin _ rfl, Bool.true_and]; try rfl⟩
    · obtain ⟨⟨kd, sp, nm⟩, gd, la, po, cl, li, pa, ho, ru, fr, to⟩ := o
      simp only at hk
      subst hk
      have hob : (⟨⟨2, sp, nm⟩, gd, la, po, cl, li, pa, ho, ru, fr, to⟩ : AObj).ok := h
      have hkp := keep_ok h
      have hke : (⟨⟨2, sp, nm⟩, gd, la, po, cl, li, pa, ho, ru, fr, to⟩ : AObj).keep = { AObj.zero ⟨2, sp, nm⟩ with labels := la } := by simp [AObj.keep]
      have hkm : kindMay (⟨⟨2, sp, nm⟩, gd, la, po, cl, li, pa, ho, ru, fr, to⟩ : AObj) = labelsMay la := by simp [kindMay]
      rw [hke] at hkp
      have fin : ∀ b : Bool, b = labelsMay la → bln (b && decide (({ AObj.zero ⟨2, sp, nm⟩ with labels := la } : AObj) = (⟨⟨2, sp, nm⟩, gd, la, po, cl, li, pa, ho, ru, fr, to⟩ : AObj))) = bln (objMay (⟨⟨2, sp, nm⟩, gd, la, po, cl, li, pa, ho, ru, fr, to⟩ : AObj)) := fun b e => by
        rw [objMay_keep, hm, Bool.true_and, hkm, hke, e]
      simp (maxSteps := 5000000) only [go_sem, contS_seq, simprocAttr, go_sem, rows_len]
      refine (ref8_May la h.la hs.lv).callW (enters_of Tryz.func55 rfl rfl) _ rfl rfl ?_
      rintro _ rfl
      simp (maxSteps := 5000000) only [go_sem, contS_seq, simprocAttr, go_sem]
      refine Gif.mk (fun hg => ?_) (fun hg => ?_)
      · refine (ref9_Same ({ AObj.zero ⟨2, sp, nm⟩ with labels := la } : AObj) (⟨⟨2, sp, nm⟩, gd, la, po, cl, li, pa, ho, ru, fr, to⟩ : AObj) hkp).callW (enters_of Tryz.func19 rfl rfl) _ rfl rfl ?_
        rintro _ rfl
        simp (maxSteps := 5000000) only [go_sem, contS_seq, simprocAttr, go_sem]
        simp only [retK, resD, St.get, lk, oneD, D.pub, D.pubs, retL, reduceIte, Nat.reduceEqDiff, Nat.reduceAdd, Nat.reduceLeDiff, Tryz.results12]
        exact ⟨_, rfl, rfl, by rw [← fin _ rfl, hg, Bool.true_and]; try rfl⟩
      · simp only [retK, resD, St.get, lk, oneD, D.pub, D.pubs, retL, reduceIte, Nat.reduceEqDiff, Nat.reduceAdd, Nat.reduceLeDiff, Tryz.results12]
        exact ⟨_, rfl, rfl, by rw [← fin _ rfl, hg, Bool.false_and]; try rfl⟩
    · obtain ⟨⟨kd, sp, nm⟩, gd, la, po, cl, li, pa, ho, ru, fr, to⟩ := o
      simp only at hk
      subst hk
      have hob : (⟨⟨3, sp, nm⟩, gd, la, po, cl, li, pa, ho, ru, fr, to⟩ : AObj).ok := h
      have hkp := keep_ok h
      have hke : (⟨⟨3, sp, nm⟩, gd, la, po, cl, li, pa, ho, ru, fr, to⟩ : AObj).keep = { AObj.zero ⟨3, sp, nm⟩ with ports := po } := by simp [AObj.keep]
      have hkm : kindMay (⟨⟨3, sp, nm⟩, gd, la, po, cl, li, pa, ho, ru, fr, to⟩ : AObj) = serviceMay po := by simp [kindMay]
      rw [hke] at hkp
      have fin : ∀ b : Bool, b = serviceMay po → bln (b && decide (({ AObj.zero ⟨3, sp, nm⟩ with ports := po } : AObj) = (⟨⟨3, sp, nm⟩, gd, la, po, cl, li, pa, ho, ru, fr, to⟩ : AObj))) = bln (objMay (⟨⟨3, sp, nm⟩, gd, la, po, cl, li, pa, ho, ru, fr, to⟩ : AObj)) := fun b e => by
        rw [objMay_keep, hm, Bool.true_and, hkm, hke, e]
      simp (maxSteps := 5000000) only [go_sem, contS_seq, simprocAttr, go_sem, rows_len]
      have hpl : po.length ≤ 1000000 := hob.po
      repeat' (first | refine GifP.mk (fun _ => ?_) (fun _ => ?_) | refine Gif.mk (fun _ => ?_) (fun _ => ?_))
      all_goals
        refine loopS (fun k st => ∃ (i : Nat) (g : Bool), k = po.length - i ∧ i ≤ po.length ∧ (g = true ↔ (0 < po.length ∧ po.length ≤ 8) ∧ ∀ (j : Nat) (x : Int), j < i → po[j]? = some x → (oport x = true ∧ ∀ y : Int, 0 < (j) → po[(j) - 1]? = some y → y < x)) ∧ st = ⟨[(1, .ptr 1 0), (3, .ptr 3 0), (4, bln g), (5, int i)], [(1, ((⟨⟨3, sp, nm⟩, gd, la, po, cl, li, pa, ho, ru, fr, to⟩ : AObj)).ds), (3, [int 3, str sp, str nm, bln false, .nils, .pd (.slice (ints po)), str ⟨#[]⟩, .nils, .nils, .nils, .nils, .nils, .nils])], [], .no⟩) po.length (⟨[(1, .ptr 1 0), (3, .ptr 3 0), (4, bln (decide (0 < po.length ∧ po.length ≤ 8))), (5, int (0 : Nat))], [(1, ((⟨⟨3, sp, nm⟩, gd, la, po, cl, li, pa, ho, ru, fr, to⟩ : AObj)).ds), (3, [int 3, str sp, str nm, bln false, .nils, .pd (.slice (ints po)), str ⟨#[]⟩, .nils, .nils, .nils, .nils, .nils, .nils])], [], .no⟩) ?_ ⟨0, _, rfl, Nat.zero_le _, ?_, rfl⟩ ?_
        · exact Weak.less ⟨rfl, rfl, congrArg (fun b => some (bln b)) (by first | (rw [decide_eq_decide]; omega) | (rw [eq_comm, decide_eq_false_iff_not]; omega) | (rw [eq_comm, decide_eq_true_eq]; omega)), rfl, trivial⟩ (by simp [lessL, lk]) (by simp [lessL, lk]) rfl
        · simp only [Nat.not_lt_zero, false_implies, implies_true, and_true, decide_eq_true_eq]
        rintro k st ⟨i, g, rfl, hi, hT, rfl⟩
        have hw := i64_succ (show i < 1000000000 by omega)
        by_cases hlt : i < po.length
        · obtain ⟨x, hx⟩ := at_lt hlt
          have h1 : ((i : Int) < (po.length : Int)) = True := eq_true (by omega)
          have step : ∀ (g' : Bool) (st : St), (g' = true ↔ g = true ∧ (oport x = true ∧ ∀ y : Int, 0 < i → po[i - 1]? = some y → y < x)) → Weak Tryz.prog st ⟨[(1, .ptr 1 0), (3, .ptr 3 0), (4, bln g'), (5, int (i + 1 : Nat))], [(1, ((⟨⟨3, sp, nm⟩, gd, la, po, cl, li, pa, ho, ru, fr, to⟩ : AObj)).ds), (3, [int 3, str sp, str nm, bln false, .nils, .pd (.slice (ints po)), str ⟨#[]⟩, .nils, .nils, .nils, .nils, .nils, .nils])], [], .no⟩ → Round Tryz.prog (fun k st => ∃ (i : Nat) (g : Bool), k = po.length - i ∧ i ≤ po.length ∧ (g = true ↔ (0 < po.length ∧ po.length ≤ 8) ∧ ∀ (j : Nat) (x : Int), j < i → po[j]? = some x → (oport x = true ∧ ∀ y : Int, 0 < (j) → po[(j) - 1]? = some y → y < x)) ∧ st = ⟨[(1, .ptr 1 0), (3, .ptr 3 0), (4, bln g), (5, int i)], [(1, ((⟨⟨3, sp, nm⟩, gd, la, po, cl, li, pa, ho, ru, fr, to⟩ : AObj)).ds), (3, [int 3, str sp, str nm, bln false, .nils, .pd (.slice (ints po)), str ⟨#[]⟩, .nils, .nils, .nils, .nils, .nils, .nils])], [], .no⟩) (po.length - i) st := fun g' st hg hw =>
            ⟨po.length - (i + 1), _, by omega, hw, i + 1, g', rfl, by omega, by
              rw [hg, hT]
              constructor
              · rintro ⟨⟨e1, e2⟩, e3⟩
                exact ⟨e1, snoc_all e2 hx e3⟩
              · rintro ⟨e1, e2⟩
                exact ⟨⟨e1, fun j x hj => e2 j x (by omega)⟩, e2 i x (Nat.lt_succ_self _) hx⟩, rfl⟩
          by_cases h0 : i = 0
          · subst h0
            have hw0 : IntKind.i64.wrap 1 = 1 := IntWalk.i64_in _ (by omega)
            simp (maxSteps := 5000000) only [go_sem, contS_seq, simprocAttr, go_sem, rows_len, rows_get hx, h1, hw, hw0]
            repeat' (first | refine GifP.mk (fun _ => ?_) (fun _ => ?_) | refine Gif.mk (fun _ => ?_) (fun _ => ?_) | (refine (ref9_port x).callX (enters_of Tryz.func56 rfl rfl) _ rfl rfl ?_; rintro _ rfl; simp (maxSteps := 5000000) only [go_sem, contS_seq, simprocAttr, go_sem, rows_len, rows_get hx, hw, hw0]) | refine And.intro ?_ ?_)
            all_goals first
              | (refine step true _ ?_ ?_ <;> first | exact lessA | (simp_all; done))
              | (refine step false _ ?_ ?_ <;> first | exact lessA | (simp_all; done))
              | (exfalso; omega)
              | trace_state
          · obtain ⟨y, hy⟩ := at_lt (show i - 1 < po.length by omega)
            have hw1 : IntKind.i64.wrap ((i : Int) - 1) = (i : Int) - 1 := IntWalk.i64_in _ (by omega)
            have hi1 : ((i : Int) - 1).toNat = i - 1 := by omega
            have hi2 : (0 ≤ (i : Int) - 1) = True := eq_true (by omega)
            have hi3 : ((i : Int) = 0) = False := eq_false (by omega)
            have hq : (∀ y : Int, 0 < i → po[i - 1]? = some y → y < x) ↔ y < x := ⟨fun h => h y (by omega) hy, fun h y' _ hy' => by rw [hy] at hy'; cases hy'; exact h⟩
            rw [hq] at step
            simp (maxSteps := 5000000) only [go_sem, contS_seq, simprocAttr, go_sem, rows_len, rows_get hx, rows_get hy, h1, hw, hw1, hi1, hi2, hi3]
            repeat' (first | refine GifP.mk (fun _ => ?_) (fun _ => ?_) | refine Gif.mk (fun _ => ?_) (fun _ => ?_) | (refine (ref9_port x).callX (enters_of Tryz.func56 rfl rfl) _ rfl rfl ?_; rintro _ rfl; simp (maxSteps := 5000000) only [go_sem, contS_seq, simprocAttr, go_sem, rows_len, rows_get hx, rows_get hy, hw, hw1, hi1, hi2, hi3]) | refine And.intro ?_ ?_)
            all_goals first
              | (refine step (decide (y < x)) _ ?_ ?_ <;> first | exact lessA | (simp_all; done))
              | (refine step true _ ?_ ?_ <;> first | exact lessA | (simp_all; done))
              | (refine step false _ ?_ ?_ <;> first | exact lessA | (simp_all; done))
              | trace_state
        have h1 : ((i : Int) < (po.length : Int)) = False := eq_false (by omega)
        have hgs : g = serviceMay po := by
          rw [Bool.eq_iff_iff, serviceMay_iff, hT]
          exact and_congr_right fun _ => ⟨fun h j x hx => h j x (by have := (List.getElem?_eq_some_iff.1 hx).1; omega) hx, fun h j x _ hx => h j x hx⟩
        clear hT hw hi
        simp (maxSteps := 5000000) only [go_sem, contS_seq, simprocAttr, go_sem, rows_len, h1]
        first | clear h1 hlt i | clear h1 hlt
        refine Gif.mk (fun hg => ?_) (fun hg => ?_)
        · refine (ref9_Same ({ AObj.zero ⟨3, sp, nm⟩ with ports := po } : AObj) (⟨⟨3, sp, nm⟩, gd, la, po, cl, li, pa, ho, ru, fr, to⟩ : AObj) hkp).callW (enters_of Tryz.func19 rfl rfl) _ rfl rfl ?_
          rintro _ rfl
          simp (maxSteps := 5000000) only [go_sem, contS_seq, simprocAttr, go_sem]
          simp only [retK, resD, St.get, lk, oneD, D.pub, D.pubs, retL, reduceIte, Nat.reduceEqDiff, Nat.reduceAdd, Nat.reduceLeDiff, Tryz.results12]
          exact ⟨_, rfl, rfl, by rw [← fin g hgs, hg, Bool.true_and]; try rfl⟩
        · simp only [retK, resD, St.get, lk, oneD, D.pub, D.pubs, retL, reduceIte, Nat.reduceEqDiff, Nat.reduceAdd, Nat.reduceLeDiff, Tryz.results12]
          exact ⟨_, rfl, rfl, by rw [← fin g hgs, hg, Bool.false_and]; try rfl⟩
    · obtain ⟨⟨kd, sp, nm⟩, gd, la, po, cl, li, pa, ho, ru, fr, to⟩ := o
      simp only at hk
      subst hk
      have hob : (⟨⟨4, sp, nm⟩, gd, la, po, cl, li, pa, ho, ru, fr, to⟩ : AObj).ok := h
      have hkp := keep_ok h
      have hke : (⟨⟨4, sp, nm⟩, gd, la, po, cl, li, pa, ho, ru, fr, to⟩ : AObj).keep = { AObj.zero ⟨4, sp, nm⟩ with good := gd } := by simp [AObj.keep]
      have hkm : kindMay (⟨⟨4, sp, nm⟩, gd, la, po, cl, li, pa, ho, ru, fr, to⟩ : AObj) = true := by simp [kindMay]
      rw [hke] at hkp
      have fin : ∀ b : Bool, b = true → bln (b && decide (({ AObj.zero ⟨4, sp, nm⟩ with good := gd } : AObj) = (⟨⟨4, sp, nm⟩, gd, la, po, cl, li, pa, ho, ru, fr, to⟩ : AObj))) = bln (objMay (⟨⟨4, sp, nm⟩, gd, la, po, cl, li, pa, ho, ru, fr, to⟩ : AObj)) := fun b e => by
        rw [objMay_keep, hm, Bool.true_and, hkm, hke, e]
      simp (maxSteps := 5000000) only [go_sem, contS_seq, simprocAttr, go_sem, rows_len]
      refine (ref9_Same ({ AObj.zero ⟨4, sp, nm⟩ with good := gd } : AObj) (⟨⟨4, sp, nm⟩, gd, la, po, cl, li, pa, ho, ru, fr, to⟩ : AObj) hkp).callW (enters_of Tryz.func19 rfl rfl) _ rfl rfl ?_
      rintro _ rfl
      simp (maxSteps := 5000000) only [go_sem, contS_seq, simprocAttr, go_sem]
      simp only [retK, resD, St.get, lk, oneD, D.pub, D.pubs, retL, reduceIte, Nat.reduceEqDiff, Nat.reduceAdd, Nat.reduceLeDiff, Tryz.results12]
      exact ⟨_, rfl, rfl, by rw [← fin _ rfl, Bool.true_and]; try rfl⟩
    · obtain ⟨⟨kd, sp, nm⟩, gd, la, po, cl, li, pa, ho, ru, fr, to⟩ := o
      simp only at hk
      subst hk
      have hob : (⟨⟨5, sp, nm⟩, gd, la, po, cl, li, pa, ho, ru, fr, to⟩ : AObj).ok := h
      have hkp := keep_ok h
      have hke : (⟨⟨5, sp, nm⟩, gd, la, po, cl, li, pa, ho, ru, fr, to⟩ : AObj).keep = { AObj.zero ⟨5, sp, nm⟩ with listeners := li, cls := cl } := by simp [AObj.keep]
      have hkm : kindMay (⟨⟨5, sp, nm⟩, gd, la, po, cl, li, pa, ho, ru, fr, to⟩ : AObj) = gatewayMay cl li := by simp [kindMay]
      rw [hke] at hkp
      have fin : ∀ b : Bool, b = gatewayMay cl li → bln (b && decide (({ AObj.zero ⟨5, sp, nm⟩ with listeners := li, cls := cl } : AObj) = (⟨⟨5, sp, nm⟩, gd, la, po, cl, li, pa, ho, ru, fr, to⟩ : AObj))) = bln (objMay (⟨⟨5, sp, nm⟩, gd, la, po, cl, li, pa, ho, ru, fr, to⟩ : AObj)) := fun b e => by
        rw [objMay_keep, hm, Bool.true_and, hkm, hke, e]
      simp (maxSteps := 5000000) only [go_sem, contS_seq, simprocAttr, go_sem, rows_len]
      refine (ref9_gateway (⟨⟨5, sp, nm⟩, gd, la, po, cl, li, pa, ho, ru, fr, to⟩ : AObj) h hs.ln).callW (enters_of Tryz.func57 rfl rfl) _ rfl rfl ?_
      rintro _ rfl
      simp (maxSteps := 5000000) only [go_sem, contS_seq, simprocAttr, go_sem]
      refine Gif.mk (fun hg => ?_) (fun hg => ?_)
      · refine (ref9_Same ({ AObj.zero ⟨5, sp, nm⟩ with listeners := li, cls := cl } : AObj) (⟨⟨5, sp, nm⟩, gd, la, po, cl, li, pa, ho, ru, fr, to⟩ : AObj) hkp).callW (enters_of Tryz.func19 rfl rfl) _ rfl rfl ?_
        rintro _ rfl
        simp (maxSteps := 5000000) only [go_sem, contS_seq, simprocAttr, go_sem]
        simp only [retK, resD, St.get, lk, oneD, D.pub, D.pubs, retL, reduceIte, Nat.reduceEqDiff, Nat.reduceAdd, Nat.reduceLeDiff, Tryz.results12]
        exact ⟨_, rfl, rfl, by rw [← fin _ rfl, hg, Bool.true_and]; try rfl⟩
      · simp only [retK, resD, St.get, lk, oneD, D.pub, D.pubs, retL, reduceIte, Nat.reduceEqDiff, Nat.reduceAdd, Nat.reduceLeDiff, Tryz.results12]
        exact ⟨_, rfl, rfl, by rw [← fin _ rfl, hg, Bool.false_and]; try rfl⟩
    · obtain ⟨⟨kd, sp, nm⟩, gd, la, po, cl, li, pa, ho, ru, fr, to⟩ := o
      simp only at hk
      subst hk
      have hob : (⟨⟨6, sp, nm⟩, gd, la, po, cl, li, pa, ho, ru, fr, to⟩ : AObj).ok := h
      have hkp := keep_ok h
      have hke : (⟨⟨6, sp, nm⟩, gd, la, po, cl, li, pa, ho, ru, fr, to⟩ : AObj).keep = { AObj.zero ⟨6, sp, nm⟩ with parents := pa, hosts := ho, rules := ru } := by simp [AObj.keep]
      have hkm : kindMay (⟨⟨6, sp, nm⟩, gd, la, po, cl, li, pa, ho, ru, fr, to⟩ : AObj) = routeMay pa ho ru := by simp [kindMay]
      rw [hke] at hkp
      have fin : ∀ b : Bool, b = routeMay pa ho ru → bln (b && decide (({ AObj.zero ⟨6, sp, nm⟩ with parents := pa, hosts := ho, rules := ru } : AObj) = (⟨⟨6, sp, nm⟩, gd, la, po, cl, li, pa, ho, ru, fr, to⟩ : AObj))) = bln (objMay (⟨⟨6, sp, nm⟩, gd, la, po, cl, li, pa, ho, ru, fr, to⟩ : AObj)) := fun b e => by
        rw [objMay_keep, hm, Bool.true_and, hkm, hke, e]
      simp (maxSteps := 5000000) only [go_sem, contS_seq, simprocAttr, go_sem, rows_len]
      refine (ref9_route (⟨⟨6, sp, nm⟩, gd, la, po, cl, li, pa, ho, ru, fr, to⟩ : AObj) h hs.pa hs.ru).callW (enters_of Tryz.func58 rfl rfl) _ rfl rfl ?_
      rintro _ rfl
      simp (maxSteps := 5000000) only [go_sem, contS_seq, simprocAttr, go_sem]
      refine Gif.mk (fun hg => ?_) (fun hg => ?_)
      · refine (ref9_Same ({ AObj.zero ⟨6, sp, nm⟩ with parents := pa, hosts := ho, rules := ru } : AObj) (⟨⟨6, sp, nm⟩, gd, la, po, cl, li, pa, ho, ru, fr, to⟩ : AObj) hkp).callW (enters_of Tryz.func19 rfl rfl) _ rfl rfl ?_
        rintro _ rfl
        simp (maxSteps := 5000000) only [go_sem, contS_seq, simprocAttr, go_sem]
        simp only [retK, resD, St.get, lk, oneD, D.pub, D.pubs, retL, reduceIte, Nat.reduceEqDiff, Nat.reduceAdd, Nat.reduceLeDiff, Tryz.results12]
        exact ⟨_, rfl, rfl, by rw [← fin _ rfl, hg, Bool.true_and]; try rfl⟩
      · simp only [retK, resD, St.get, lk, oneD, D.pub, D.pubs, retL, reduceIte, Nat.reduceEqDiff, Nat.reduceAdd, Nat.reduceLeDiff, Tryz.results12]
        exact ⟨_, rfl, rfl, by rw [← fin _ rfl, hg, Bool.false_and]; try rfl⟩
    · obtain ⟨⟨kd, sp, nm⟩, gd, la, po, cl, li, pa, ho, ru, fr, to⟩ := o
      simp only at hk
      subst hk
      have hob : (⟨⟨7, sp, nm⟩, gd, la, po, cl, li, pa, ho, ru, fr, to⟩ : AObj).ok := h
      have hkp := keep_ok h
      have hke : (⟨⟨7, sp, nm⟩, gd, la, po, cl, li, pa, ho, ru, fr, to⟩ : AObj).keep = { AObj.zero ⟨7, sp, nm⟩ with from_ := fr, to_ := to } := by simp [AObj.keep]
      have hkm : kindMay (⟨⟨7, sp, nm⟩, gd, la, po, cl, li, pa, ho, ru, fr, to⟩ : AObj) = grantMay fr to := by simp [kindMay]
      rw [hke] at hkp
      have fin : ∀ b : Bool, b = grantMay fr to → bln (b && decide (({ AObj.zero ⟨7, sp, nm⟩ with from_ := fr, to_ := to } : AObj) = (⟨⟨7, sp, nm⟩, gd, la, po, cl, li, pa, ho, ru, fr, to⟩ : AObj))) = bln (objMay (⟨⟨7, sp, nm⟩, gd, la, po, cl, li, pa, ho, ru, fr, to⟩ : AObj)) := fun b e => by
        rw [objMay_keep, hm, Bool.true_and, hkm, hke, e]
      simp (maxSteps := 5000000) only [go_sem, contS_seq, simprocAttr, go_sem, rows_len]
      refine (ref9_grant (⟨⟨7, sp, nm⟩, gd, la, po, cl, li, pa, ho, ru, fr, to⟩ : AObj) h hs.si).callW (enters_of Tryz.func59 rfl rfl) _ rfl rfl ?_
      rintro _ rfl
      simp (maxSteps := 5000000) only [go_sem, contS_seq, simprocAttr, go_sem]
      refine Gif.mk (fun hg => ?_) (fun hg => ?_)
      · refine (ref9_Same ({ AObj.zero ⟨7, sp, nm⟩ with from_ := fr, to_ := to } : AObj) (⟨⟨7, sp, nm⟩, gd, la, po, cl, li, pa, ho, ru, fr, to⟩ : AObj) hkp).callW (enters_of Tryz.func19 rfl rfl) _ rfl rfl ?_
        rintro _ rfl
        simp (maxSteps := 5000000) only [go_sem, contS_seq, simprocAttr, go_sem]
        simp only [retK, resD, St.get, lk, oneD, D.pub, D.pubs, retL, reduceIte, Nat.reduceEqDiff, Nat.reduceAdd, Nat.reduceLeDiff, Tryz.results12]
        exact ⟨_, rfl, rfl, by rw [← fin _ rfl, hg, Bool.true_and]; try rfl⟩
      · simp only [retK, resD, St.get, lk, oneD, D.pub, D.pubs, retL, reduceIte, Nat.reduceEqDiff, Nat.reduceAdd, Nat.reduceLeDiff, Tryz.results12]
        exact ⟨_, rfl, rfl, by rw [← fin _ rfl, hg, Bool.false_and]; try rfl⟩


def hasInt (l : List Int) (v : Int) : Bool := l.any fun x => decide (v = x)


def heavy (x : Int) : Int := max 0 (min x 1000)


def pos : Nat → List Int → Int → Option Nat
  | _, [], _ => none
  | i, w :: ws, n => if n < heavy w then some i else pos (i + 1) ws (n - heavy w)



def badKind : ByteArray := ⟨#[73, 110, 118, 97, 108, 105, 100, 75, 105, 110, 100]⟩
def notLet : ByteArray := ⟨#[82, 101, 102, 78, 111, 116, 80, 101, 114, 109, 105, 116, 116, 101, 100]⟩


def noBackend : ByteArray := ⟨#[66, 97, 99, 107, 101, 110, 100, 78, 111, 116, 70, 111, 117, 110, 100]⟩

def thereIs (os : List AObj) (t : ARef) (port : Int) : Bool := match found os t with
  | some s => objMay s && hasInt s.ports port
  | none => false

def wrongAt (os : List AObj) (space : ByteArray) (t : ARef) (port : Int) : ByteArray :=
  if t.kind ≠ 3 then badKind else if permits os 6 space t = false then notLet else if thereIs os t port = false then noBackend else ⟨#[]⟩

def wrong (os : List AObj) (r : AObj) (b : ABackend) : ByteArray := wrongAt os r.ref.space (near b.ref r.ref.space) b.port

theorem found_mem {os : List AObj} {t : ARef} {s : AObj} (h : found os t = some s) : s ∈ os := List.mem_of_find?_eq_some h

def isRoute (r : AObj) : Bool := decide (r.ref.kind = 6) && objMay r


def goalOf (os : List AObj) (r : AObj) (b : ABackend) : AGoal := ⟨near b.ref r.ref.space, b.port, b.weight, !decide (wrong os r b = ⟨#[]⟩)⟩

def goals (os : List AObj) (r : AObj) (i : Int) : List AGoal := if isRoute r = true ∧ 0 ≤ i ∧ i < r.rules.length then match r.rules[i.toNat]? with
    | some x => x.backends.map (goalOf os r)
    | none => []
  else []

end Go.Proofs.YtklolokoaooppaaGreatDoor



namespace Go.Proofs.YtklolokoaooppaaGreatDoor
open Go

def ac_z712c : AC := (sr [oo 3 (.box 23 (tp 1)),oo 4 (.alloc 32 [.pd (.raw (.int .i64 0)),.pd (.raw (.string ⟨#[]⟩)),.pd (.raw (.string ⟨#[]⟩)),.pd (.raw (.bool false)),.nils,.nils,.pd (.raw (.string ⟨#[]⟩)),.nils,.nils,.nils,.nils,.nils,.nils]),oo 5 (.mv (cq false))] [0,3,4] (.seq (sr [oo 6 (.mv (ci 0))] [0,3,4,6] (.block 0 (.loop (.seq (sr [mq 7 6,mq 8 0,oo 9 (.len (tp 8) false),oo 10 (.bin .lss (tp 7) (tp 9))] [0,3,4,6,10] (.cond (tp 10) .skip (.exit 0))) (.seq (.block 1 (.seq (.draw [mq 13 0,mq 14 6,oo 15 (.idxA 13 (tp 13) (tp 14)),fi 16 0 15,oo 17 (.load (some 3) (tp 16)),oo 18 (.load (some 3) (tp 3)),oo 19 (.eqs false [.int,.str,.str] (tp 17) (tp 18))] [0,0,3,7,15,0,63] (.take 0 (.take 1 (.take 2 (.take 3 (.take 4 (.take 5 (.take 6 .done))))))) (some [0,3,4,6,19])) (.cond (tp 19) (sr [mq 20 0,mq 21 6,oo 22 (.idxA 13 (tp 20) (tp 21)),oo 23 (.load (some 13) (tp 22)),.mk none none (.store 13 (tp 4) (tp 23)),oo 5 (.mv (cq true))] [4,5] .ret) .skip))) (.region [mq 11 6,oo 12 (.bin .add (tp 11) (ci 1)),mq 6 12] (some [0,3,4,6]))))))) (sr [oo 24 (.build [.pd (.raw (.int .i64 0)),.pd (.raw (.string ⟨#[]⟩)),.pd (.raw (.string ⟨#[]⟩)),.pd (.raw (.bool false)),.nils,.nils,.pd (.raw (.string ⟨#[]⟩)),.nils,.nils,.nils,.nils,.nils,.nils] []),.mk none none (.store 13 (tp 4) (tp 24)),oo 5 (.mv (cq false))] [4,5] .ret)))
def an_z712c : Ann := ann [0,1,2,4,5,3,6] ac_z712c
theorem ok_z712c : okd Tryz.prog an_z712c ac_z712c Tryz.f18 := ⟨by kernel_rfl, by kernel_rfl⟩
theorem ret_z712c (st : St) : resD Tryz.prog st Tryz.f18.results.toList = resA st [.cell 4 (some 13), .tmp 5] := resD_of (by kernel_rfl)

end Go.Proofs.YtklolokoaooppaaGreatDoor


namespace Go.Proofs.YtklolokoaooppaaGreatDoor
open Go Go.RowKit
set_option linter.unusedSimpArgs false
set_option linter.unusedVariables false
set_option maxRecDepth 100000

theorem ref11_Find (os : List AObj) (hos : os.length ≤ 1000000) (r : ARef) : Pure Tryz.prog 18 [.pd (.slice (rows AObj.pd os)), r.d] (fun d => d = foundD (found os r)) := by
  refine pure_of_run follows an_z712c Tryz.func18 rfl ok_z712c.1 ok_z712c.2 (by simp [Tryz.ntmps18]) ?_
  rw [run_start]
  simp only [ac_z712c, oo, og, tp, ci, cq, mq, lq, fi, sr, go_sem, contS_seq, simprocAttr]
  refine loopS (fun k st => ∃ i : Nat, k = os.length - i ∧ i ≤ os.length ∧ (os.drop i).find? (isRef r) = found os r ∧
    st = ⟨[(0, .pd (.slice (rows AObj.pd os))), (3, .ptr 3 0), (4, .ptr 4 0), (6, int i)], [(3, [int r.kind, str r.space, str r.name]), (4, [int 0, str ⟨#[]⟩, str ⟨#[]⟩, bln false, .nils, .nils, str ⟨#[]⟩, .nils, .nils, .nils, .nils, .nils, .nils])], [], .no⟩) os.length _ ?_ ⟨0, rfl, by omega, rfl, rfl⟩ ?_
  · exact lessA
  rintro k st ⟨i, rfl, hi, hf, rfl⟩
  by_cases hlt : i < os.length
  · obtain ⟨x, hx⟩ := at_lt hlt
    have h1 : ((i : Int) < (os.length : Int)) = True := eq_true (by omega)
    have hw := i64_succ (show i < 1000000000 by omega)
    rw [drop_at hx, List.find?_cons] at hf
    simp only [go_sem, contS_seq, simprocAttr, rows_len, rows_get hx, h1, hw, eqVs, eqV, eq_Ref]
    refine GifP.mk (fun h => ?_) (fun h => ?_)
    · rw [show isRef r x = true by simp [isRef, h]] at hf
      simp only [retK, resD, resA, AOp.ex, St.ev, St.get, lk, oneD, D.pub, D.pubs, retL, reduceIte, Nat.reduceEqDiff, Nat.reduceAdd, Nat.reduceLeDiff, ret_z712c]
      refine ⟨_, rfl, rfl, ?_⟩
      rw [← hf]; rfl
    · rw [show isRef r x = false by simp [isRef, h]] at hf
      refine ⟨os.length - (i + 1), _, by omega, ?_, i + 1, rfl, by omega, hf, rfl⟩
      exact lessA
  · have h1 : ((i : Int) < (os.length : Int)) = False := eq_false (by omega)
    rw [List.drop_eq_nil_of_le (by omega), List.find?_nil] at hf
    simp only [go_sem, contS_seq, simprocAttr, rows_len, h1]
    simp only [retK, resD, resA, AOp.ex, St.ev, St.get, lk, oneD, D.pub, D.pubs, retL, reduceIte, Nat.reduceEqDiff, Nat.reduceAdd, Nat.reduceLeDiff, ret_z712c]
    refine ⟨_, rfl, rfl, ?_⟩
    rw [← hf]; rfl

abbrev AGoal.ds (g : AGoal) : List D := [int g.ref.kind, str g.ref.space, str g.ref.name, int g.port, int g.weight, bln g.bad]


theorem fewObj_sok (o : AObj) : (fewObj o).sok where
  rs := Nat.le_trans (few_size _) (by decide)
  rn := Nat.le_trans (few_size _) (by decide)
  lv := fun p hp => by
    obtain ⟨x, _, rfl⟩ := List.mem_map.1 hp
    exact Nat.le_trans (few_size _) (by decide)
  ln := fun l hl => by
    obtain ⟨x, _, rfl⟩ := List.mem_map.1 hl
    refine ⟨Nat.le_trans (few_size _) (by decide), Nat.le_trans (few_size _) (by decide), fun n hn s hs => ?_⟩
    obtain ⟨y, _, rfl⟩ := List.mem_map.1 hn
    obtain ⟨z, _, rfl⟩ := List.mem_map.1 hs
    exact Nat.le_trans (few_size _) (by decide)
  pa := fun p hp => by
    obtain ⟨x, _, rfl⟩ := List.mem_map.1 hp
    exact ⟨Nat.le_trans (few_size _) (by decide), Nat.le_trans (few_size _) (by decide)⟩
  ru := fun r hr => by
    obtain ⟨x, _, rfl⟩ := List.mem_map.1 hr
    refine ⟨fun m hm => ?_, fun f hf => ?_, fun b hb => ?_⟩
    · obtain ⟨y, _, rfl⟩ := List.mem_map.1 hm
      exact Nat.le_trans (few_size _) (by decide)
    · obtain ⟨y, _, rfl⟩ := List.mem_map.1 hf
      exact ⟨Nat.le_trans (few_size _) (by decide), Nat.le_trans (few_size _) (by decide)⟩
    · obtain ⟨y, _, rfl⟩ := List.mem_map.1 hb
      exact Nat.le_trans (few_size _) (by decide)
  si := fun s hs => by
    obtain ⟨y, _, rfl⟩ := List.mem_map.1 hs
    exact Nat.le_trans (few_size _) (by decide)

theorem fewObjs_sok {l : List AObj} : ∀ o ∈ fewObjs l, o.sok := fun o ho => by
  obtain ⟨x, _, rfl⟩ := List.mem_map.1 ho
  exact fewObj_sok x

theorem ref11_Near (r : ARef) (s : ByteArray) : Pure Tryz.prog 21 [r.d, str s] (fun d => d = (near r s).d) := by
  refine pure_of_run follows an_z40mp Tryz.func21 rfl ok_z40mp.1 ok_z40mp.2 (by simp [Tryz.ntmps21]) ?_
  rw [run_start]
  simp only [ac_z40mp, oo, og, tp, ci, cq, mq, lq, fi, sr, go_sem, contS_seq, simprocAttr]
  repeat' (first | refine GifP.mk (fun _ => ?_) (fun _ => ?_) | refine Gif.mk (fun _ => ?_) (fun _ => ?_))
  all_goals
    simp only [retK, resD, resA, AOp.ex, St.ev, St.get, lk, oneD, D.pub, D.pubs, retL, reduceIte, Nat.reduceEqDiff, Nat.reduceAdd, Nat.reduceLeDiff, ret_z40mp]
    exact ⟨_, rfl, rfl, by simp_all [near, oneD, D.pub, D.pubs]⟩

theorem lets_iff (kind : Int) (space : ByteArray) (t : ARef) (o : AObj) : lets kind space t o = true ↔ (o.ref.kind = 7 ∧ o.ref.space = t.space ∧ objMay o = true) ∧ ∃ (i : Nat) (x : ASide) (k : Nat) (y : ASide), o.from_[i]? = some x ∧ o.to_[k]? = some y ∧ (x.kind = kind ∧ x.space = space) ∧ y.kind = t.kind ∧ (y.name = ⟨#[]⟩ ∨ y.name = t.name) := by
  simp only [lets, Bool.and_eq_true, decide_eq_true_eq, List.any_eq_true, sideIs, sideAt, Bool.or_eq_true, and_assoc]
  constructor
  · rintro ⟨h1, h2, h3, ⟨x, hx, h4, h5⟩, y, hy, h6, h7⟩
    obtain ⟨i, hi⟩ := List.getElem?_of_mem hx
    obtain ⟨k, hk⟩ := List.getElem?_of_mem hy
    exact ⟨h1, h2, h3, i, x, k, y, hi, hk, h4, h5, h6, h7⟩
  · rintro ⟨h1, h2, h3, i, x, k, y, hi, hk, h4, h5, h6, h7⟩
    exact ⟨h1, h2, h3, ⟨x, List.mem_of_getElem? hi, h4, h5⟩, y, List.mem_of_getElem? hk, h6, h7⟩

set_option maxHeartbeats 8000000 in
theorem ref11_Lets (o : AObj) (h : o.ok) (hs : o.sok) (kind : Int) (space : ByteArray) (t : ARef) : Pure Tryz.prog 22 [o.d, int kind, str space, t.d] (fun d => d = bln (lets kind space t o)) := by
  have hfr := h.fr
  have hto := h.to
  refine pure_of_run follows an_zjm7s Tryz.func22 rfl ok_zjm7s.1 ok_zjm7s.2 (by simp [Tryz.ntmps22]) ?_
  rw [run_start]
  simp only [ac_zjm7s, oo, og, tp, ci, cq, mq, lq, fi, sr, go_sem, contS_seq, simprocAttr, rows_len]
  repeat' (first | refine GifP.mk (fun _ => ?_) (fun _ => ?_) | refine Gif.mk (fun _ => ?_) (fun _ => ?_) | (refine (ref9_May o h hs).callW (enters_of Tryz.func12 rfl rfl) _ rfl rfl ?_; rintro _ rfl; simp only [go_sem, contS_seq, simprocAttr, rows_len]))
  all_goals first
    | (simp only [retK, resD, St.get, lk, oneD, D.pub, D.pubs, retL, reduceIte, Nat.reduceEqDiff, Nat.reduceAdd, Nat.reduceLeDiff, Tryz.results22]; exact ⟨_, rfl, rfl, bool_no fun e => by have := ((lets_iff kind space t o).1 e).1; simp_all⟩)
    | skip
  have hA : o.ref.kind = 7 ∧ o.ref.space = t.space ∧ objMay o = true := by simp_all
  refine loopS (fun k st => ∃ i : Nat, k = o.from_.length - i ∧ i ≤ o.from_.length ∧ (∀ (j : Nat) (x : ASide), j < i → o.from_[j]? = some x → ∀ (k : Nat) (y : ASide), o.to_[k]? = some y → ¬ ((x.kind = kind ∧ x.space = space) ∧ y.kind = t.kind ∧ (y.name = ⟨#[]⟩ ∨ y.name = t.name))) ∧ st = ⟨[(1, int kind), (2, str space), (4, .ptr 4 0), (7, .ptr 7 0), (9, int i)], [(4, o.ds), (7, [int t.kind, str t.space, str t.name])], [], .no⟩) o.from_.length _ ?_ ⟨0, rfl, by omega, fun _ _ h => absurd h (Nat.not_lt_zero _), rfl⟩ ?_
  · exact lessA
  rintro k st ⟨i, rfl, hi, hT, rfl⟩
  have hw := i64_succ (show i < 1000000000 by omega)
  by_cases hlt : i < o.from_.length
  · obtain ⟨x, hx⟩ := at_lt hlt
    have hmem := List.mem_of_getElem? hx
    have h1 : ((i : Int) < (o.from_.length : Int)) = True := eq_true (by omega)
    have good : (∀ (k : Nat) (y : ASide), o.to_[k]? = some y → ¬ ((x.kind = kind ∧ x.space = space) ∧ y.kind = t.kind ∧ (y.name = ⟨#[]⟩ ∨ y.name = t.name))) → ∀ st, Weak Tryz.prog st ⟨[(1, int kind), (2, str space), (4, .ptr 4 0), (7, .ptr 7 0), (9, int (i + 1 : Nat))], [(4, o.ds), (7, [int t.kind, str t.space, str t.name])], [], .no⟩ → Round Tryz.prog (fun k st => ∃ i : Nat, k = o.from_.length - i ∧ i ≤ o.from_.length ∧ (∀ (j : Nat) (x : ASide), j < i → o.from_[j]? = some x → ∀ (k : Nat) (y : ASide), o.to_[k]? = some y → ¬ ((x.kind = kind ∧ x.space = space) ∧ y.kind = t.kind ∧ (y.name = ⟨#[]⟩ ∨ y.name = t.name))) ∧ st = ⟨[(1, int kind), (2, str space), (4, .ptr 4 0), (7, .ptr 7 0), (9, int i)], [(4, o.ds), (7, [int t.kind, str t.space, str t.name])], [], .no⟩) (o.from_.length - i) st := fun h st hw => ⟨o.from_.length - (i + 1), _, by omega, hw, i + 1, rfl, by omega, snoc_all hT hx h, rfl⟩
    simp only [go_sem, contS_seq, simprocAttr, rows_len, rows_get hx, h1, hw]
    refine loopS (fun n st => ∃ k : Nat, n = o.to_.length - k ∧ k ≤ o.to_.length ∧ (∀ (k' : Nat) (y : ASide), k' < k → o.to_[k']? = some y → ¬ ((x.kind = kind ∧ x.space = space) ∧ y.kind = t.kind ∧ (y.name = ⟨#[]⟩ ∨ y.name = t.name))) ∧ st = ⟨[(1, int kind), (2, str space), (4, .ptr 4 0), (7, .ptr 7 0), (9, int i), (10, int k)], [(4, o.ds), (7, [int t.kind, str t.space, str t.name])], [], .no⟩) o.to_.length _ ?_ ⟨0, rfl, by omega, fun _ _ h => absurd h (Nat.not_lt_zero _), rfl⟩ ?_
    · exact lessA
    rintro n st ⟨k, rfl, hk, hS, rfl⟩
    have hwk := i64_succ (show k < 1000000000 by omega)
    by_cases hki : k < o.to_.length
    · obtain ⟨y, hy⟩ := at_lt hki
      have h2 : ((k : Int) < (o.to_.length : Int)) = True := eq_true (by omega)
      have goodk : (¬ ((x.kind = kind ∧ x.space = space) ∧ y.kind = t.kind ∧ (y.name = ⟨#[]⟩ ∨ y.name = t.name))) → ∀ st, Weak Tryz.prog st ⟨[(1, int kind), (2, str space), (4, .ptr 4 0), (7, .ptr 7 0), (9, int i), (10, int (k + 1 : Nat))], [(4, o.ds), (7, [int t.kind, str t.space, str t.name])], [], .no⟩ → Round Tryz.prog (fun n st => ∃ k : Nat, n = o.to_.length - k ∧ k ≤ o.to_.length ∧ (∀ (k' : Nat) (y : ASide), k' < k → o.to_[k']? = some y → ¬ ((x.kind = kind ∧ x.space = space) ∧ y.kind = t.kind ∧ (y.name = ⟨#[]⟩ ∨ y.name = t.name))) ∧ st = ⟨[(1, int kind), (2, str space), (4, .ptr 4 0), (7, .ptr 7 0), (9, int i), (10, int k)], [(4, o.ds), (7, [int t.kind, str t.space, str t.name])], [], .no⟩) (o.to_.length - k) st := fun h st hw => ⟨o.to_.length - (k + 1), _, by omega, hw, k + 1, rfl, by omega, snoc_all hS hy h, rfl⟩
      have win : ((x.kind = kind ∧ x.space = space) ∧ y.kind = t.kind ∧ (y.name = ⟨#[]⟩ ∨ y.name = t.name)) → bln true = bln (lets kind space t o) := fun h => bool_yes ((lets_iff kind space t o).2 ⟨hA, i, x, k, y, hx, hy, h⟩)
      simp only [go_sem, contS_seq, simprocAttr, rows_len, rows_get hx, rows_get hy, h2, hwk]
      repeat' (first | refine GifP.mk (fun _ => ?_) (fun _ => ?_) | refine Gif.mk (fun _ => ?_) (fun _ => ?_) | refine And.intro ?_ ?_)
      all_goals first
        | (simp only [retK, resD, St.get, lk, oneD, D.pub, D.pubs, retL, reduceIte, Nat.reduceEqDiff, Nat.reduceAdd, Nat.reduceLeDiff, Tryz.results22]; exact ⟨_, rfl, rfl, win (by simp_all)⟩)
        | (refine goodk (by simp_all) _ ?_; exact lessA)
    have h2 : ((k : Int) < (o.to_.length : Int)) = False := eq_false (by omega)
    have hIn : ∀ (k : Nat) (y : ASide), o.to_[k]? = some y → ¬ ((x.kind = kind ∧ x.space = space) ∧ y.kind = t.kind ∧ (y.name = ⟨#[]⟩ ∨ y.name = t.name)) := fun k' y hy => hS k' y (by have := (List.getElem?_eq_some_iff.1 hy).1; omega) hy
    clear hS hwk hk
    simp only [go_sem, contS_seq, simprocAttr, rows_len, rows_get hx, h2, hw]
    clear h2 hki k
    refine good hIn _ ?_
    exact lessA
  have h1 : ((i : Int) < (o.from_.length : Int)) = False := eq_false (by omega)
  have hall : ∀ (j : Nat) (x : ASide), o.from_[j]? = some x → ∀ (k : Nat) (y : ASide), o.to_[k]? = some y → ¬ ((x.kind = kind ∧ x.space = space) ∧ y.kind = t.kind ∧ (y.name = ⟨#[]⟩ ∨ y.name = t.name)) := fun j x hx => hT j x (by have := (List.getElem?_eq_some_iff.1 hx).1; omega) hx
  clear hT hw hi
  simp only [go_sem, contS_seq, simprocAttr, rows_len, h1]
  first | clear h1 hlt i | clear h1 hlt
  simp only [retK, resD, St.get, lk, oneD, D.pub, D.pubs, retL, reduceIte, Nat.reduceEqDiff, Nat.reduceAdd, Nat.reduceLeDiff, Tryz.results22]
  exact ⟨_, rfl, rfl, bool_no fun e => by
    obtain ⟨i, x, k, y, hi, hk, h5⟩ := ((lets_iff kind space t o).1 e).2
    exact hall i x hi k y hk h5⟩

def byRefs (kind : Int) (space : ByteArray) (t : ARef) (os : List AObj) : List ARef := (os.filter (lets kind space t)).map (·.ref)

set_option maxHeartbeats 4000000 in
theorem ref11_By (os : List AObj) (hos : os.length ≤ 1000000) (h : ∀ o ∈ os, o.ok) (hs : ∀ o ∈ os, o.sok) (kind : Int) (space : ByteArray) (t : ARef) :
    Pure Tryz.prog 25 [.pd (.slice (rows AObj.pd os)), int kind, str space, t.d] (fun d => d = .pd (.slice (rows ARef.pd (byRefs kind space t os)))) := by
  refine pure_of_run follows an_zan0 Tryz.func25 rfl ok_zan0.1 ok_zan0.2 (by simp [Tryz.ntmps25]) ?_
  rw [run_start]
  simp only [ac_zan0, oo, og, tp, ci, cq, mq, lq, fi, sr, go_sem, contS_seq, simprocAttr, rows_len]
  refine loopS (fun k st => ∃ i : Nat, k = os.length - i ∧ i ≤ os.length ∧ st = ⟨[(0, .pd (.slice (rows AObj.pd os))), (1, int kind), (2, str space), (7, .ptr 7 0), (9, .own 23 3 (rows ARef.pd (byRefs kind space t (os.take i))) 32), (10, int i)], [(7, [int t.kind, str t.space, str t.name])], [], .no⟩) os.length _ ?_ ⟨0, rfl, by omega, rfl⟩ ?_
  · exact Weak.own1 9 32 23 3 (by kernel_rfl) (by decide) rfl (by simp [lessL, lk, St.purge, St.put, D.purge, rows, byRefs]) (by simp [lessL, lk, St.purge, D.purges, D.purge]) (by simp [lessL]) rfl
  rintro k st ⟨i, rfl, hi, rfl⟩
  have hw := i64_succ (show i < 1000000000 by omega)
  obtain ⟨out, hout⟩ : ∃ out, byRefs kind space t (os.take i) = out := ⟨_, rfl⟩
  have hlen : out.length ≤ i := by
    rw [← hout, byRefs, List.length_map]
    have := List.length_filter_le (lets kind space t) (os.take i)
    rw [List.length_take] at this
    omega
  by_cases hlt : i < os.length
  · obtain ⟨x, hx⟩ := at_lt hlt
    have hmem := List.mem_of_getElem? hx
    have h1 : ((i : Int) < (os.length : Int)) = True := eq_true (by omega)
    have hst : byRefs kind space t (os.take (i + 1)) = if lets kind space t x = true then out ++ [x.ref] else out := by
      rw [take_at hx, byRefs, List.filter_append, List.map_append]
      rw [byRefs] at hout
      rw [hout]
      split
      · rename_i hl; simp [hl]
      · rename_i hl; simp [hl]
    rw [hout]
    simp only [go_sem, contS_seq, simprocAttr, rows_len, rows_get hx, h1, hw]
    refine (ref11_Lets x (h x hmem) (hs x hmem) kind space t).callX (enters_of Tryz.func22 rfl rfl) _ rfl rfl ?_
    rintro _ rfl
    simp only [go_sem, contS_seq, simprocAttr, rows_len, rows_get hx, hw]
    refine Gif.mk (fun hl => ?_) (fun hl => ?_)
    · rw [if_pos hl] at hst
      have e1 : rows ARef.pd out ++ [ARef.pd x.ref] = rows ARef.pd (byRefs kind space t (os.take (i + 1))) := by rw [hst]; simp [rows]
      refine ⟨by simp, by simp only [maxLen]; omega, by omega, os.length - (i + 1), _, by omega, ?_, i + 1, rfl, by omega, rfl⟩
      rw [← e1]
      exact lessA
    · rw [if_neg (by rw [hl]; decide)] at hst
      refine ⟨os.length - (i + 1), _, by omega, ?_, i + 1, rfl, by omega, rfl⟩
      rw [hst]
      exact lessA
  have h1 : ((i : Int) < (os.length : Int)) = False := eq_false (by omega)
  rw [List.take_of_length_le (by omega)] at hout
  rw [List.take_of_length_le (by omega), hout]
  simp only [go_sem, contS_seq, simprocAttr, rows_len, h1]
  simp only [retK, resD, St.get, lk, oneD, D.pub, D.pubs, retL, reduceIte, Nat.reduceEqDiff, Nat.reduceAdd, Nat.reduceLeDiff, Tryz.results25]
  exact ⟨_, rfl, rfl, rfl⟩

theorem byRefs_pos (kind : Int) (space : ByteArray) (t : ARef) (os : List AObj) : 0 < (byRefs kind space t os).length ↔ os.any (lets kind space t) = true := by
  rw [byRefs, List.length_map, List.length_pos_iff_exists_mem, List.any_eq_true]
  simp [List.mem_filter]

set_option maxHeartbeats 2000000 in
theorem ref11_Permits (os : List AObj) (hos : os.length ≤ 1000000) (h : ∀ o ∈ os, o.ok) (hs : ∀ o ∈ os, o.sok) (kind : Int) (space : ByteArray) (t : ARef) :
    Pure Tryz.prog 23 [.pd (.slice (rows AObj.pd os)), int kind, str space, t.d] (fun d => d = bln (permits os kind space t)) := by
  have hp := byRefs_pos kind space t os
  have hpe : permits os kind space t = (os.any (lets kind space t) || decide (space = t.space)) := rfl
  refine pure_of_run follows an_zm32y Tryz.func23 rfl ok_zm32y.1 ok_zm32y.2 (by simp [Tryz.ntmps23]) ?_
  rw [run_start]
  simp only [ac_zm32y, oo, og, tp, ci, cq, mq, lq, fi, sr, go_sem, contS_seq, simprocAttr, rows_len]
  (repeat' (first | (refine GifP.mk (fun _ => ?_) (fun _ => ?_)) | (refine Gif.mk (fun _ => ?_) (fun _ => ?_)) | (refine (ref11_By os hos h hs kind space t).callW (enters_of Tryz.func25 rfl rfl) _ rfl rfl ?_; rintro _ rfl; try simp only [go_sem, contS_seq, simprocAttr, rows_len]))) <;> (simp only [retK, resD, St.get, lk, oneD, D.pub, D.pubs, retL, reduceIte, Nat.reduceEqDiff, Nat.reduceAdd, Nat.reduceLeDiff, Tryz.results23]; refine ⟨_, rfl, rfl, ?_⟩; exact congrArg bln (by rw [Bool.eq_iff_iff, hpe]; simp only [Bool.or_eq_true, decide_eq_true_eq, ← hp]; first | (simp_all; done) | (simp_all; omega)))


set_option maxHeartbeats 2000000 in
theorem ref9_SameRefs (a b : List ARef) (ha : a.length ≤ 1000000) : Pure Tryz.prog 24 [.pd (.slice (rows ARef.pd a)), .pd (.slice (rows ARef.pd b))] (fun d => d = bln (decide (a = b))) := by
  refine pure_of_run follows an_zvzmk Tryz.func24 rfl ok_zvzmk.1 ok_zvzmk.2 (by simp [Tryz.ntmps24]) ?_
  rw [run_start]
  simp only [ac_zvzmk, oo, og, tp, ci, cq, mq, lq, fi, sr, go_sem, contS_seq, simprocAttr, rows_len]
  refine GifP.mk (fun hl => ?_) (fun hl => ?_)
  rotate_left
  · simp only [retK, resD, St.get, lk, oneD, D.pub, D.pubs, retL, reduceIte, Nat.reduceEqDiff, Nat.reduceAdd, Nat.reduceLeDiff, Tryz.results24]
    exact ⟨_, rfl, rfl, res_no (fun e => hl (by rw [e]))⟩
  have hL : a.length = b.length := by omega
  refine loopS (fun k st => ∃ i : Nat, k = a.length - i ∧ i ≤ a.length ∧ a.take i = b.take i ∧ st = ⟨[(0, .pd (.slice (rows ARef.pd a))), (1, .pd (.slice (rows ARef.pd b))), (5, int i)], [], [], .no⟩) a.length _ ?_ ⟨0, rfl, by omega, rfl, rfl⟩ ?_
  · exact lessA
  rintro k st ⟨i, rfl, hi, hT, rfl⟩
  have hw := i64_succ (show i < 1000000000 by omega)
  by_cases hlt : i < a.length
  · obtain ⟨x, hx⟩ := at_lt hlt
    obtain ⟨y, hy⟩ := at_lt (show i < b.length by omega)
    have h1 : ((i : Int) < (a.length : Int)) = True := eq_true (by omega)
    simp only [go_sem, contS_seq, simprocAttr, rows_len, rows_get hx, rows_get hy, h1, hw, eqVs, eqV, eq_Ref]
    · repeat' (first | refine GifP.mk (fun _ => ?_) (fun _ => ?_) | refine Gif.mk (fun _ => ?_) (fun _ => ?_) | refine And.intro ?_ ?_)
      all_goals first
        | (refine ⟨a.length - (i + 1), _, by omega, ?_, i + 1, rfl, by omega, take_step hT hx hy (by first | assumption | (cases x; cases y; simp_all)), rfl⟩; exact lessA)
        | (simp only [retK, resD, St.get, lk, oneD, D.pub, D.pubs, retL, reduceIte, Nat.reduceEqDiff, Nat.reduceAdd, Nat.reduceLeDiff, Tryz.results24]; exact ⟨_, rfl, rfl, res_no (fun e => by subst e; have hxy := Option.some.inj (hx.symm.trans hy); subst hxy; first | contradiction | simp_all)⟩)
  have h1 : ((i : Int) < (a.length : Int)) = False := eq_false (by omega)
  have hE := take_end hT (by omega) hlt
  clear hT hi hw
  simp only [go_sem, contS_seq, simprocAttr, rows_len, h1]
  clear h1 hlt i
  simp only [retK, resD, St.get, lk, oneD, D.pub, D.pubs, retL, reduceIte, Nat.reduceEqDiff, Nat.reduceAdd, Nat.reduceLeDiff, Tryz.results24]
  exact ⟨_, rfl, rfl, res_yes hE⟩


theorem zero0_ok : (AObj.zero ref0).ok := by constructor <;> simp [AObj.zero]

set_option maxHeartbeats 4000000 in
theorem law_GrantPermits (q : AAsk) : Pure Tryz.prog 5 [q.d] (fun d => d = bln true) := by
  refine pure_of_run follows an_ze6ao Tryz.func5 rfl ok_ze6ao.1 ok_ze6ao.2 (by simp [Tryz.ntmps5]) ?_
  rw [run_start]
  simp only [ac_ze6ao, oo, og, tp, ci, cq, mq, lq, fi, sr, go_sem, contS_seq, simprocAttr]
  refine (law11_cut q).callW (enters_of Tryz.func14 rfl rfl) _ rfl rfl ?_
  rintro _ rfl
  have hos : (cutAsk q).os.length ≤ 1000 := Nat.le_trans (fewObjs_len q.os) (by omega)
  have ho : ∀ o ∈ (cutAsk q).os, o.ok := fewObjs_ok (l := q.os)
  have hs : ∀ o ∈ (cutAsk q).os, o.sok := fewObjs_sok (l := q.os)
  generalize cutAsk q = q at hos ho hs ⊢
  simp only [go_sem, contS_seq, simprocAttr]
  refine (grant_Find q.os (by omega) q.to).callW (enters_of Tryz.func17 rfl rfl) _ rfl rfl ?_
  rintro _ rfl
  obtain ⟨o, b, hfo, hok⟩ : ∃ (o : AObj) (b : Bool), foundD (found q.os q.to) = .tup [o.d, bln b] ∧ o.ok := by
    rcases hf : found q.os q.to with _ | o
    · exact ⟨AObj.zero ref0, false, rfl, zero0_ok⟩
    · exact ⟨o, true, rfl, ho o (found_mem hf)⟩
  have cF := ref11_Find q.os (by omega) q.to
  rw [hfo] at cF ⊢
  simp only [go_sem, contS_seq, simprocAttr]
  refine cF.callW (enters_of Tryz.func18 rfl rfl) _ rfl rfl ?_
  rintro _ rfl
  simp only [go_sem, contS_seq, simprocAttr]
  refine (ref9_Same o o hok).callX (enters_of Tryz.func19 rfl rfl) _ rfl rfl ?_
  rintro _ rfl
  simp only [go_sem, contS_seq, simprocAttr, decide_true, beq_self_eq_true, bne_self_eq_false]
  refine (grant_Near q.to q.space).callX (enters_of Tryz.func20 rfl rfl) _ rfl rfl ?_
  rintro _ rfl
  simp only [go_sem, contS_seq, simprocAttr]
  refine (ref11_Near q.to q.space).callX (enters_of Tryz.func21 rfl rfl) _ rfl rfl ?_
  rintro _ rfl
  simp only [go_sem, contS_seq, simprocAttr, eqVs, eqV, decide_true, Bool.and_self, Bool.not_true]
  refine loopS (fun k st => ∃ i : Nat, k = q.os.length - i ∧ i ≤ q.os.length ∧ st = ⟨[(1, .ptr 1 0), (7, int i)], [(1, q.ds)], [], .no⟩) q.os.length _ ?_ ⟨0, rfl, by omega, rfl⟩ ?_
  · exact lessA
  rintro k st ⟨i, rfl, hi, rfl⟩
  have hw := i64_succ (show i < 1000000000 by omega)
  by_cases hlt : i < q.os.length
  · obtain ⟨x, hx⟩ := at_lt hlt
    have hm := List.mem_of_getElem? hx
    have h1 : ((i : Int) < (q.os.length : Int)) = True := eq_true (by omega)
    simp only [go_sem, contS_seq, simprocAttr, rows_len, rows_get hx, h1]
    refine (grant_Lets x (ho x hm) q.kind q.space q.to).callX (enters_of Tryz.func11 rfl rfl) _ rfl rfl ?_
    rintro _ rfl
    simp only [go_sem, contS_seq, simprocAttr]
    refine (ref11_Lets x (ho x hm) (hs x hm) q.kind q.space q.to).callX (enters_of Tryz.func22 rfl rfl) _ rfl rfl ?_
    rintro _ rfl
    simp only [go_sem, contS_seq, simprocAttr, beq_self_eq_true, bne_self_eq_false, hw]
    refine ⟨q.os.length - (i + 1), _, by omega, ?_, i + 1, rfl, by omega, rfl⟩
    exact lessA
  have h1 : ((i : Int) < (q.os.length : Int)) = False := eq_false (by omega)
  simp only [go_sem, contS_seq, simprocAttr, rows_len, h1]
  refine (grant_Permits' q.os (by omega) ho q.kind q.space q.to).callX (enters_of Tryz.func16 rfl rfl) _ rfl rfl ?_
  rintro _ rfl
  simp only [go_sem, contS_seq, simprocAttr]
  refine (ref11_Permits q.os (by omega) ho hs q.kind q.space q.to).callX (enters_of Tryz.func23 rfl rfl) _ rfl rfl ?_
  rintro _ rfl
  simp only [go_sem, contS_seq, simprocAttr, beq_self_eq_true, bne_self_eq_false]
  refine (grant_By' q.os (by omega) ho q.kind q.space q.to).callX (enters_of Tryz.func15 rfl rfl) _ rfl rfl ?_
  rintro _ rfl
  simp only [go_sem, contS_seq, simprocAttr]
  refine (ref11_By q.os (by omega) ho hs q.kind q.space q.to).callX (enters_of Tryz.func25 rfl rfl) _ rfl rfl ?_
  rintro _ rfl
  have hbl : (byRefs q.kind q.space q.to q.os).length ≤ 1000000 := by
    rw [byRefs, List.length_map]
    exact Nat.le_trans (List.length_filter_le _ _) (by omega)
  rw [show letRefs q.kind q.space q.to q.os = byRefs q.kind q.space q.to q.os from rfl]
  simp only [go_sem, contS_seq, simprocAttr]
  refine (ref9_SameRefs (byRefs q.kind q.space q.to q.os) (byRefs q.kind q.space q.to q.os) hbl).callX (enters_of Tryz.func24 rfl rfl) _ rfl rfl ?_
  rintro _ rfl
  simp only [go_sem, contS_seq, simprocAttr, decide_true]
  refine awake11.callX (enters_of Tryz.func13 rfl rfl) _ rfl rfl ?_
  rintro _ rfl
  simp only [go_sem, contS_seq, simprocAttr]
  simp only [retK, resD, St.get, lk, oneD, D.pub, D.pubs, retL, reduceIte, Nat.reduceEqDiff, Nat.reduceAdd, Nat.reduceLeDiff, Tryz.results5]
  exact ⟨_, rfl, rfl, rfl⟩

end Go.Proofs.YtklolokoaooppaaGreatDoor


