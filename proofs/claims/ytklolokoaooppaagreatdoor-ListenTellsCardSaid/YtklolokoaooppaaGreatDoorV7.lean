/- Texts of the prover's, joined: J8 J9 FB FA D2 E7 D6 FF FH FI J1. -/
import Derived.Test.YtklolokoaooppaaGreatDoorV6
import Derived.Test.YtklolokoaooppaaGreatDoorProg
import Derived.KernelRfl

namespace Go.Proofs.YtklolokoaooppaaGreatDoor
open Go Go.RowKit
set_option linter.unusedSimpArgs false
set_option linter.unusedVariables false
set_option maxRecDepth 100000

theorem ref7_turns (f : AFilter) : Pure Tryz.prog 217 [f.d] (fun d => d = bln (fturns f)) := by
  refine pure_of_run follows an_zarsw Tryz.func217 rfl ok_zarsw.1 ok_zarsw.2 (by simp [Tryz.ntmps217]) ?_
  rw [run_start]
  simp only [ac_zarsw, oo, og, tp, ci, cq, mq, lq, fi, sr, go_sem, contS_seq, simprocAttr]
  (repeat' (first | (refine GifP.mk (fun _ => ?_) (fun _ => ?_)) | (refine Gif.mk (fun _ => ?_) (fun _ => ?_)) | ((first | refine (ref1_Name _).callW (enters_of Tryz.func88 rfl rfl) _ rfl rfl ?_ | refine (ref3_Is _).callW (enters_of Tryz.func219 rfl rfl) _ rfl rfl ?_ | refine (ref3_Above _).callW (enters_of Tryz.func220 rfl rfl) _ rfl rfl ?_); rintro _ rfl; try simp only [go_sem, contS_seq, simprocAttr]))) <;> (simp only [retK, resD, St.get, lk, oneD, D.pub, D.pubs, retL, reduceIte, Nat.reduceEqDiff, Nat.reduceAdd, Nat.reduceLeDiff, Tryz.results217]; exact ⟨_, rfl, rfl, congrArg bln (by simp_all [fturns, pathMay, pathAbove])⟩)

theorem app_empty (a b : ByteArray) : a ++ b = ⟨#[]⟩ ↔ a = ⟨#[]⟩ ∧ b = ⟨#[]⟩ := by
  rw [size0, size0, size0, ByteArray.size_append]
  omega

set_option maxHeartbeats 4000000 in
theorem ref7_May (f : AFilter) (h : f.ok) (hs : f.host.size ≤ 1000000 ∧ f.path.size ≤ 1000000) : Pure Tryz.prog 178 [f.d] (fun d => d = bln (filterMay f)) := by
  have hcat : (f.host.size + f.path.size ≤ 9223372036854775807) = True := eq_true (by omega)
  refine pure_of_run follows an_z6xll Tryz.func178 rfl ok_z6xll.1 ok_z6xll.2 (by simp [Tryz.ntmps178]) ?_
  rw [run_start]
  simp only [ac_z6xll, oo, og, tp, ci, cq, mq, lq, fi, sr, go_sem, contS_seq, simprocAttr, hcat]
  (repeat' (first | (refine GifP.mk (fun _ => ?_) (fun _ => ?_)) | (refine Gif.mk (fun _ => ?_) (fun _ => ?_)) | ((first | refine (ref5_Token _ h.1).callW (enters_of Tryz.func183 rfl rfl) _ rfl rfl ?_ | refine (ref5_Value _ h.2).callW (enters_of Tryz.func184 rfl rfl) _ rfl rfl ?_ | refine (ref7_turns f).callW (enters_of Tryz.func217 rfl rfl) _ rfl rfl ?_); rintro _ rfl; try simp only [go_sem, contS_seq, simprocAttr, hcat]))) <;> (simp only [retK, resD, St.get, lk, oneD, D.pub, D.pubs, retL, reduceIte, Nat.reduceEqDiff, Nat.reduceAdd, Nat.reduceLeDiff, Tryz.results178]; exact ⟨_, rfl, rfl, congrArg bln (by simp_all [filterMay, fzero, app_empty] <;> (intros; omega))⟩)

theorem filters_from {l : List AFilter} : ∀ {k i : Nat}, filtersFrom l k i = true ↔ ∀ (j : Nat) (x : AFilter), i ≤ j → j < i + k → l[j]? = some x → filterMay x = true ∧ (l.take j).any (likeF x) = false
  | 0, i => by
    simp only [filtersFrom, true_iff]
    intro j x h1 h2; omega
  | k + 1, i => by
    simp only [filtersFrom, Bool.and_eq_true, filters_from]
    constructor
    · rintro ⟨h1, h2⟩ j x hj hk hx
      rcases Nat.eq_or_lt_of_le hj with e | e
      · subst e; rw [hx] at h1; simpa using h1
      · exact h2 j x e (by omega) hx
    · intro h
      refine ⟨?_, fun j x hj hk hx => h j x (by omega) (by omega) hx⟩
      cases hx : l[i]? with
      | none => rfl
      | some x => simpa using h i x (Nat.le_refl _) (by omega) hx

def turning (f : AFilter) : Bool := decide (3 < f.kind)

theorem turner_of {f : AFilter} (h : filterMay f = true) : fturner f = turning f := by
  unfold filterMay at h
  simp only [fturner, turning]
  rw [Bool.eq_iff_iff]
  simp only [Bool.or_eq_true, decide_eq_true_eq]
  repeat' split at h
  all_goals first | omega | cases h

theorem count_one {α : Type} {p : α → Bool} : ∀ {l : List α}, l.countP p ≤ 1 ↔ l.Pairwise (fun a b => ¬ (p a = true ∧ p b = true))
  | [] => by simp
  | a :: l => by
    rw [List.pairwise_cons, ← count_one (l := l)]
    by_cases ha : p a = true
    · rw [List.countP_cons_of_pos ha]
      have h0 : l.countP p = 0 ↔ ∀ b ∈ l, ¬ (p a = true ∧ p b = true) := by
        rw [List.countP_eq_zero]
        simp [ha]
      rw [← h0]
      omega
    · rw [List.countP_cons_of_neg ha]
      simp [ha]

theorem filtersAll_iff (l : List AFilter) : filtersAll l = true ↔ (l.countP turning ≤ 1 ∧ l.length ≤ 8) ∧
    ∀ (j : Nat) (x : AFilter), l[j]? = some x → filterMay x = true ∧ ∀ (k : Nat) (y : AFilter), k < j → l[k]? = some y → ¬ (y.kind = x.kind ∧ foldSame y.name x.name = true) := by
  simp only [filtersAll, Bool.and_eq_true, decide_eq_true_eq, filters_from]
  have hpw : l.countP turning ≤ 1 ↔ ∀ (j : Nat) (x : AFilter), l[j]? = some x → ∀ (k : Nat) (y : AFilter), k < j → l[k]? = some y → ¬ (turning y = true ∧ turning x = true) := by
    rw [count_one, List.pairwise_iff_getElem]
    constructor
    · intro h j x hx k y hk hy
      obtain ⟨h1, rfl⟩ := List.getElem?_eq_some_iff.1 hx
      obtain ⟨h2, rfl⟩ := List.getElem?_eq_some_iff.1 hy
      exact h k j h2 h1 hk
    · intro h k j h2 h1 hk
      exact h j _ (List.getElem?_eq_getElem h1) k _ hk (List.getElem?_eq_getElem h2)
  rw [hpw]
  have hany : ∀ (j : Nat) (x : AFilter), (l.take j).any (likeF x) = false ↔ ∀ (k : Nat) (y : AFilter), k < j → l[k]? = some y → likeF x y = false := fun j x => by
    rw [any_at]
    constructor
    · intro h k y hk hy
      exact h k y (by rw [List.getElem?_take, if_pos hk]; exact hy)
    · intro h k y hy
      rw [List.getElem?_take] at hy
      split at hy
      · exact h k y (by assumption) hy
      · cases hy
  constructor
  · rintro ⟨h1, h2⟩
    have h3 : ∀ (j : Nat) (x : AFilter), l[j]? = some x → filterMay x = true ∧ ∀ (k : Nat) (y : AFilter), k < j → l[k]? = some y → likeF x y = false := fun j x hx => by
      have h4 := h1 j x (Nat.zero_le _) (by have := (List.getElem?_eq_some_iff.1 hx).1; omega) hx
      exact ⟨h4.1, (hany j x).1 h4.2⟩
    refine ⟨⟨fun j x hx k y hk hy e => ?_, h2⟩, fun j x hx => ⟨(h3 j x hx).1, fun k y hk hy e => ?_⟩⟩
    · have h5 := (h3 j x hx).2 k y hk hy
      rw [likeF, turner_of (h3 j x hx).1, turner_of (h3 k y hy).1, e.1, e.2] at h5
      simp at h5
    · have h5 := (h3 j x hx).2 k y hk hy
      rw [likeF, e.2] at h5
      simp [e.1] at h5
  · rintro ⟨⟨h1, h2⟩, h3⟩
    refine ⟨fun j x _ _ hx => ⟨(h3 j x hx).1, (hany j x).2 fun k y hk hy => ?_⟩, h2⟩
    have h4 := (h3 j x hx).2 k y hk hy
    have h5 := h1 j x hx k y hk hy
    rw [likeF, turner_of (h3 j x hx).1, turner_of (h3 k y hy).1]
    cases ht : turning y <;> cases ht' : turning x <;> cases hf : foldSame y.name x.name <;> simp_all

set_option maxHeartbeats 4000000 in
theorem ref7_All (l : List AFilter) (hl : l.length ≤ 1000000) (h : ∀ f ∈ l, f.ok) (hs : ∀ f ∈ l, f.host.size ≤ 1000000 ∧ f.path.size ≤ 1000000) : Pure Tryz.prog 141 [.pd (.slice (rows AFilter.pd l))] (fun d => d = bln (filtersAll l)) := by
  refine pure_of_run follows an_z3gij Tryz.func141 rfl ok_z3gij.1 ok_z3gij.2 (by simp [Tryz.ntmps141]) ?_
  rw [run_start]
  simp only [ac_z3gij, oo, og, tp, ci, cq, mq, lq, fi, sr, go_sem, contS_seq, simprocAttr, rows_len]
  refine loopS (fun k st => ∃ i : Nat, k = l.length - i ∧ i ≤ l.length ∧ (∀ (j : Nat) (x : AFilter), j < i → l[j]? = some x → filterMay x = true ∧ ∀ (k : Nat) (y : AFilter), k < (j) → l[k]? = some y → ¬ (y.kind = x.kind ∧ foldSame y.name x.name = true)) ∧ st = ⟨[(0, .pd (.slice (rows AFilter.pd l))), (3, int ((l.take i).countP turning : Nat)), (4, int i)], [], [], .no⟩) l.length _ ?_ ⟨0, rfl, by omega, fun _ _ h => absurd h (Nat.not_lt_zero _), rfl⟩ ?_
  · exact lessA
  rintro k st ⟨i, rfl, hi, hT, rfl⟩
  have hw := i64_succ (show i < 1000000000 by omega)
  obtain ⟨c, hc⟩ : ∃ c, (l.take i).countP turning = c := ⟨_, rfl⟩
  have hcl : c ≤ i := by
    rw [← hc]
    have := List.countP_le_length (p := turning) (l := l.take i)
    rw [List.length_take] at this
    omega
  have hwc := i64_succ (show c < 1000000000 by omega)
  by_cases hlt : i < l.length
  · obtain ⟨x, hx⟩ := at_lt hlt
    have hmem := List.mem_of_getElem? hx
    have h1 : ((i : Int) < (l.length : Int)) = True := eq_true (by omega)
    have hst : (l.take (i + 1)).countP turning = c + (if turning x = true then 1 else 0) := by
      rw [take_at hx, List.countP_append, hc, List.countP_singleton]
    have bad : ¬ (filterMay x = true ∧ ∀ (k : Nat) (y : AFilter), k < i → l[k]? = some y → ¬ (y.kind = x.kind ∧ foldSame y.name x.name = true)) → bln false = bln (filtersAll l) := fun h => bool_no fun e => h (((filtersAll_iff l).1 e).2 i x hx)
    have good : (filterMay x = true ∧ ∀ (k : Nat) (y : AFilter), k < i → l[k]? = some y → ¬ (y.kind = x.kind ∧ foldSame y.name x.name = true)) → ∀ c' st, c' = c + (if turning x = true then 1 else 0) → Weak Tryz.prog st ⟨[(0, .pd (.slice (rows AFilter.pd l))), (3, int (c' : Nat)), (4, int (i + 1 : Nat))], [], [], .no⟩ → Round Tryz.prog (fun k st => ∃ i : Nat, k = l.length - i ∧ i ≤ l.length ∧ (∀ (j : Nat) (x : AFilter), j < i → l[j]? = some x → filterMay x = true ∧ ∀ (k : Nat) (y : AFilter), k < (j) → l[k]? = some y → ¬ (y.kind = x.kind ∧ foldSame y.name x.name = true)) ∧ st = ⟨[(0, .pd (.slice (rows AFilter.pd l))), (3, int ((l.take i).countP turning : Nat)), (4, int i)], [], [], .no⟩) (l.length - i) st := fun h c' st hc' hw =>
      ⟨l.length - (i + 1), _, by omega, hw, i + 1, rfl, by omega, snoc_all hT hx h, by rw [hst, ← hc']⟩
    rw [hc]
    simp only [go_sem, contS_seq, simprocAttr, rows_len, rows_get hx, h1, hw]
    refine (ref7_May x (h x hmem) (hs x hmem)).callW (enters_of Tryz.func178 rfl rfl) _ rfl rfl ?_
    rintro _ rfl
    simp only [go_sem, contS_seq, simprocAttr, rows_len, rows_get hx, hw]
    refine Gif.mk (fun hmay => ?_) (fun hmay => ?_)
    rotate_left
    · simp only [retK, resD, St.get, lk, oneD, D.pub, D.pubs, retL, reduceIte, Nat.reduceEqDiff, Nat.reduceAdd, Nat.reduceLeDiff, Tryz.results141]
      exact ⟨_, rfl, rfl, bad (fun e => by rw [e.1] at hmay; cases hmay)⟩
    refine GifP.mk (fun htn => ?_) (fun htn => ?_)
    · have ht : turning x = true := decide_eq_true htn
      obtain ⟨c', hc'⟩ : ∃ c', c' = c + 1 := ⟨_, rfl⟩
      simp only [hwc, ← hc']
      refine loopS (fun n st => ∃ k : Nat, n = i - k ∧ k ≤ i ∧ (∀ (k' : Nat) (y : AFilter), k' < k → l[k']? = some y → ¬ (y.kind = x.kind ∧ foldSame y.name x.name = true)) ∧ st = ⟨[(0, .pd (.slice (rows AFilter.pd l))), (3, int c'), (4, int i), (5, int k)], [], [], .no⟩) i _ ?_ ⟨0, rfl, by omega, fun _ _ h => absurd h (Nat.not_lt_zero _), rfl⟩ ?_
      · exact lessA
      rintro n st ⟨k, rfl, hk, hS, rfl⟩
      have hwk := i64_succ (show k < 1000000000 by omega)
      by_cases hki : k < i
      · obtain ⟨y, hy⟩ := at_lt (show k < l.length by omega)
        have hmy := List.mem_of_getElem? hy
        have h2 : ((k : Int) < (i : Int)) = True := eq_true (by omega)
        have goodk : (¬ (y.kind = x.kind ∧ foldSame y.name x.name = true)) → ∀ st, Weak Tryz.prog st ⟨[(0, .pd (.slice (rows AFilter.pd l))), (3, int c'), (4, int i), (5, int (k + 1 : Nat))], [], [], .no⟩ → Round Tryz.prog (fun n st => ∃ k : Nat, n = i - k ∧ k ≤ i ∧ (∀ (k' : Nat) (y : AFilter), k' < k → l[k']? = some y → ¬ (y.kind = x.kind ∧ foldSame y.name x.name = true)) ∧ st = ⟨[(0, .pd (.slice (rows AFilter.pd l))), (3, int c'), (4, int i), (5, int k)], [], [], .no⟩) (i - k) st := fun h st hw => ⟨i - (k + 1), _, by omega, hw, k + 1, rfl, by omega, snoc_all hS hy h, rfl⟩
        have badk : ¬ (¬ (y.kind = x.kind ∧ foldSame y.name x.name = true)) → bln false = bln (filtersAll l) := fun h => bad (fun e => h (e.2 k y hki hy))
        simp only [go_sem, contS_seq, simprocAttr, rows_len, rows_get hx, rows_get hy, h2, hwk]
        repeat' (first | refine GifP.mk (fun _ => ?_) (fun _ => ?_) | refine Gif.mk (fun _ => ?_) (fun _ => ?_) | (refine (ref5_Same y.name x.name (h y hmy).1 (h x hmem).1).callX (enters_of Tryz.func179 rfl rfl) _ rfl rfl ?_; rintro _ rfl; simp only [go_sem, contS_seq, simprocAttr, rows_len, rows_get hx, rows_get hy, hwk]) | refine And.intro ?_ ?_)
        all_goals first
          | (refine goodk (by first | omega | (simp_all; done) | (simp_all; omega)) _ ?_; exact lessA)
          | (simp only [retK, resD, St.get, lk, oneD, D.pub, D.pubs, retL, reduceIte, Nat.reduceEqDiff, Nat.reduceAdd, Nat.reduceLeDiff, Tryz.results141]; exact ⟨_, rfl, rfl, badk (by first | omega | (simp_all; done) | (simp_all; omega))⟩)
      have h2 : ((k : Int) < (i : Int)) = False := eq_false (by omega)
      have hIn : ∀ (k : Nat) (y : AFilter), k < i → l[k]? = some y → ¬ (y.kind = x.kind ∧ foldSame y.name x.name = true) := fun k' y hk' hy => hS k' y (by omega) hy
      clear hS hwk hk
      simp only [go_sem, contS_seq, simprocAttr, rows_len, rows_get hx, h2, hw]
      first | clear h2 hki k | clear h2 hki

      refine good ⟨hmay, hIn⟩ c' _ (by rw [ht, hc']; rfl) ?_
      exact lessA
    · have ht : turning x = false := decide_eq_false htn
      refine loopS (fun n st => ∃ k : Nat, n = i - k ∧ k ≤ i ∧ (∀ (k' : Nat) (y : AFilter), k' < k → l[k']? = some y → ¬ (y.kind = x.kind ∧ foldSame y.name x.name = true)) ∧ st = ⟨[(0, .pd (.slice (rows AFilter.pd l))), (3, int c), (4, int i), (5, int k)], [], [], .no⟩) i _ ?_ ⟨0, rfl, by omega, fun _ _ h => absurd h (Nat.not_lt_zero _), rfl⟩ ?_
      · exact lessA
      rintro n st ⟨k, rfl, hk, hS, rfl⟩
      have hwk := i64_succ (show k < 1000000000 by omega)
      by_cases hki : k < i
      · obtain ⟨y, hy⟩ := at_lt (show k < l.length by omega)
        have hmy := List.mem_of_getElem? hy
        have h2 : ((k : Int) < (i : Int)) = True := eq_true (by omega)
        have goodk : (¬ (y.kind = x.kind ∧ foldSame y.name x.name = true)) → ∀ st, Weak Tryz.prog st ⟨[(0, .pd (.slice (rows AFilter.pd l))), (3, int c), (4, int i), (5, int (k + 1 : Nat))], [], [], .no⟩ → Round Tryz.prog (fun n st => ∃ k : Nat, n = i - k ∧ k ≤ i ∧ (∀ (k' : Nat) (y : AFilter), k' < k → l[k']? = some y → ¬ (y.kind = x.kind ∧ foldSame y.name x.name = true)) ∧ st = ⟨[(0, .pd (.slice (rows AFilter.pd l))), (3, int c), (4, int i), (5, int k)], [], [], .no⟩) (i - k) st := fun h st hw => ⟨i - (k + 1), _, by omega, hw, k + 1, rfl, by omega, snoc_all hS hy h, rfl⟩
        have badk : ¬ (¬ (y.kind = x.kind ∧ foldSame y.name x.name = true)) → bln false = bln (filtersAll l) := fun h => bad (fun e => h (e.2 k y hki hy))
        simp only [go_sem, contS_seq, simprocAttr, rows_len, rows_get hx, rows_get hy, h2, hwk]
        repeat' (first | refine GifP.mk (fun _ => ?_) (fun _ => ?_) | refine Gif.mk (fun _ => ?_) (fun _ => ?_) | (refine (ref5_Same y.name x.name (h y hmy).1 (h x hmem).1).callX (enters_of Tryz.func179 rfl rfl) _ rfl rfl ?_; rintro _ rfl; simp only [go_sem, contS_seq, simprocAttr, rows_len, rows_get hx, rows_get hy, hwk]) | refine And.intro ?_ ?_)
        all_goals first
          | (refine goodk (by first | omega | (simp_all; done) | (simp_all; omega)) _ ?_; exact lessA)
          | (simp only [retK, resD, St.get, lk, oneD, D.pub, D.pubs, retL, reduceIte, Nat.reduceEqDiff, Nat.reduceAdd, Nat.reduceLeDiff, Tryz.results141]; exact ⟨_, rfl, rfl, badk (by first | omega | (simp_all; done) | (simp_all; omega))⟩)
      have h2 : ((k : Int) < (i : Int)) = False := eq_false (by omega)
      have hIn : ∀ (k : Nat) (y : AFilter), k < i → l[k]? = some y → ¬ (y.kind = x.kind ∧ foldSame y.name x.name = true) := fun k' y hk' hy => hS k' y (by omega) hy
      clear hS hwk hk
      simp only [go_sem, contS_seq, simprocAttr, rows_len, rows_get hx, h2, hw]
      first | clear h2 hki k | clear h2 hki

      refine good ⟨hmay, hIn⟩ c _ (by rw [ht]; rfl) ?_
      exact lessA
  have h1 : ((i : Int) < (l.length : Int)) = False := eq_false (by omega)
  have hall : ∀ (j : Nat) (x : AFilter), l[j]? = some x → filterMay x = true ∧ ∀ (k : Nat) (y : AFilter), k < (j) → l[k]? = some y → ¬ (y.kind = x.kind ∧ foldSame y.name x.name = true) := fun j x hx => hT j x (by have := (List.getElem?_eq_some_iff.1 hx).1; omega) hx
  rw [List.take_of_length_le (by omega)] at hc ⊢
  rw [hc]
  clear hT hw hwc
  simp only [go_sem, contS_seq, simprocAttr, rows_len, h1]
  repeat' (first | refine GifP.mk (fun _ => ?_) (fun _ => ?_) | refine Gif.mk (fun _ => ?_) (fun _ => ?_))
  all_goals
    simp only [retK, resD, St.get, lk, oneD, D.pub, D.pubs, retL, reduceIte, Nat.reduceEqDiff, Nat.reduceAdd, Nat.reduceLeDiff, Tryz.results141]
    first
      | exact ⟨_, rfl, rfl, bool_no fun e => by have := ((filtersAll_iff l).1 e).1.1; rw [hc] at this; omega⟩
      | exact ⟨_, rfl, rfl, bool_dec ⟨fun h => (filtersAll_iff l).2 ⟨⟨by rw [hc]; omega, by omega⟩, hall⟩, fun h => by have := ((filtersAll_iff l).1 h).1.2; omega⟩⟩


theorem ref8_value (s : ByteArray) (hs : s.size ≤ 1000000) : Pure Tryz.prog 90 [str s] (fun d => d = bln (labValue s)) := by
  refine pure_of_run follows an_z1s4w Tryz.func90 rfl ok_z1s4w.1 ok_z1s4w.2 (by simp [Tryz.ntmps90]) ?_
  rw [run_start]
  simp only [ac_z1s4w, oo, og, tp, ci, cq, mq, lq, fi, sr, go_sem, contS_seq, simprocAttr]
  (repeat' (first | (refine GifP.mk (fun _ => ?_) (fun _ => ?_)) | (refine Gif.mk (fun _ => ?_) (fun _ => ?_)) | (refine (ref1_Label _ hs).callW (enters_of Tryz.func89 rfl rfl) _ rfl rfl ?_; rintro _ rfl; try simp only [go_sem, contS_seq, simprocAttr]))) <;> (simp only [retK, resD, St.get, lk, oneD, D.pub, D.pubs, retL, reduceIte, Nat.reduceEqDiff, Nat.reduceAdd, Nat.reduceLeDiff, Tryz.results90]; exact ⟨_, rfl, rfl, congrArg bln (by first | rfl | (rw [Bool.eq_iff_iff]; simp only [labValue]; simp; done) | (rw [Bool.eq_iff_iff]; simp only [labValue]; simp; omega) | (rw [Bool.eq_iff_iff]; simp only [labValue]; simp [*]; done) | (rw [Bool.eq_iff_iff]; simp only [labValue]; simp [*]; omega) | (simp_all [labValue]; done) | (exfalso; omega))⟩)

theorem askMay_iff (n : ANeed) : askMay n = true ↔ (dname n.name = true ∧ (((n.kind = 1 ∨ n.kind = 2) ∧ 1 ≤ n.vals.length ∧ n.vals.length ≤ 8) ∨ ((n.kind = 3 ∨ n.kind = 4) ∧ n.vals.length = 0))) ∧ ∀ (j : Nat) (x : ByteArray), n.vals[j]? = some x → labValue x = true := by
  simp only [askMay, fewVals, Bool.and_eq_true, Bool.or_eq_true, decide_eq_true_eq, Bool.not_eq_true', any_at, Bool.not_eq_false']
  constructor
  · rintro ⟨h1, h2⟩
    rcases h2 with ((⟨h2, ⟨h3, h4⟩, h5⟩ | ⟨h2, ⟨h3, h4⟩, h5⟩) | ⟨h2, h3⟩) | ⟨h2, h3⟩
    · exact ⟨⟨h1, .inl ⟨.inl h2, h3, h4⟩⟩, h5⟩
    · exact ⟨⟨h1, .inl ⟨.inr h2, h3, h4⟩⟩, h5⟩
    · exact ⟨⟨h1, .inr ⟨.inl h2, h3⟩⟩, fun j x hx => by have := (List.getElem?_eq_some_iff.1 hx).1; omega⟩
    · exact ⟨⟨h1, .inr ⟨.inr h2, h3⟩⟩, fun j x hx => by have := (List.getElem?_eq_some_iff.1 hx).1; omega⟩
  · rintro ⟨⟨h1, h2⟩, h5⟩
    refine ⟨h1, ?_⟩
    rcases h2 with ⟨h2 | h2, h3, h4⟩ | ⟨h2 | h2, h3⟩
    · exact .inl (.inl (.inl ⟨h2, ⟨h3, h4⟩, h5⟩))
    · exact .inl (.inl (.inr ⟨h2, ⟨h3, h4⟩, h5⟩))
    · exact .inl (.inr ⟨h2, h3⟩)
    · exact .inr ⟨h2, h3⟩

theorem needsMay_iff (l : List ANeed) : needsMay l = true ↔ l.length ≤ 8 ∧ ∀ (j : Nat) (x : ANeed), l[j]? = some x → askMay x = true := by
  simp only [needsMay, Bool.and_eq_true, decide_eq_true_eq, Bool.not_eq_true', any_at, Bool.not_eq_false']

theorem labels_from {l : List APair} : ∀ {k i : Nat}, labelsFrom l k i = true ↔ ∀ (j : Nat) (x : APair), i ≤ j → j < i + k → l[j]? = some x → (dname x.name = true ∧ labValue x.val = true) ∧ ∀ y : APair, 0 < j → l[j - 1]? = some y → Op.bytesLess y.name.toList x.name.toList = true
  | 0, i => by
    simp only [labelsFrom, true_iff]
    intro j x h1 h2; omega
  | k + 1, i => by
    simp only [labelsFrom, Bool.and_eq_true, labels_from]
    have one : ∀ x : APair, l[i]? = some x → ((dname x.name && labValue x.val && (decide (i = 0) || (match l[i - 1]? with | some q => Op.bytesLess q.name.toList x.name.toList | none => false))) = true ↔ (dname x.name = true ∧ labValue x.val = true) ∧ ∀ y : APair, 0 < i → l[i - 1]? = some y → Op.bytesLess y.name.toList x.name.toList = true) := fun x hx => by
      simp only [Bool.and_eq_true, Bool.or_eq_true, decide_eq_true_eq]
      refine and_congr_right fun _ => ?_
      have hlt := (List.getElem?_eq_some_iff.1 hx).1
      constructor
      · rintro (h | h) y h0 hy
        · omega
        · rw [hy] at h; exact h
      · intro h
        by_cases h0 : i = 0
        · exact .inl h0
        · right
          obtain ⟨y, hy⟩ := at_lt (show i - 1 < l.length by omega)
          rw [hy]
          exact h y (by omega) hy
    constructor
    · rintro ⟨h1, h2⟩ j x hj hk hx
      rcases Nat.eq_or_lt_of_le hj with e | e
      · subst e
        rw [hx] at h1
        exact (one x hx).1 h1
      · exact h2 j x e (by omega) hx
    · intro h
      refine ⟨?_, fun j x hj hk hx => h j x (by omega) (by omega) hx⟩
      cases hx : l[i]? with
      | none => rfl
      | some x => exact (one x hx).2 (h i x (Nat.le_refl _) (by omega) hx)

theorem labelsMay_iff (l : List APair) : labelsMay l = true ↔ l.length ≤ 8 ∧ ∀ (j : Nat) (x : APair), l[j]? = some x → (dname x.name = true ∧ labValue x.val = true) ∧ ∀ y : APair, 0 < j → l[j - 1]? = some y → Op.bytesLess y.name.toList x.name.toList = true := by
  simp only [labelsMay, Bool.and_eq_true, decide_eq_true_eq, labels_from]
  constructor
  · rintro ⟨h1, h2⟩
    exact ⟨h2, fun j x hx => h1 j x (Nat.zero_le _) (by have := (List.getElem?_eq_some_iff.1 hx).1; omega) hx⟩
  · rintro ⟨h1, h2⟩
    exact ⟨fun j x _ _ hx => h2 j x hx, h1⟩

set_option maxHeartbeats 2000000 in
theorem ref8_One (n : ANeed) (hn : n.vals.length ≤ 1000000) (hv : ∀ s ∈ n.vals, s.size ≤ 1000000) : Pure Tryz.prog 140 [n.d] (fun d => d = bln (askMay n)) := by
  refine pure_of_run follows an_zqap2 Tryz.func140 rfl ok_zqap2.1 ok_zqap2.2 (by simp [Tryz.ntmps140]) ?_
  rw [run_start]
  simp only [ac_zqap2, oo, og, tp, ci, cq, mq, lq, fi, sr, go_sem, contS_seq, simprocAttr, rows_len]
  refine loopS (fun k st => ∃ i : Nat, k = n.vals.length - i ∧ i ≤ n.vals.length ∧ (∀ (j : Nat) (x : ByteArray), j < i → n.vals[j]? = some x → labValue x = true) ∧ st = ⟨[(1, .ptr 1 0), (3, int i)], [(1, [int n.kind, str n.name, .pd (.slice (strs n.vals))])], [], .no⟩) n.vals.length _ ?_ ⟨0, rfl, by omega, fun _ _ h => absurd h (Nat.not_lt_zero _), rfl⟩ ?_
  · exact lessA
  rintro k st ⟨i, rfl, hi, hT, rfl⟩
  have hw := i64_succ (show i < 1000000000 by omega)
  by_cases hlt : i < n.vals.length
  · obtain ⟨x, hx⟩ := at_lt hlt
    have hmem := List.mem_of_getElem? hx
    have h1 : ((i : Int) < (n.vals.length : Int)) = True := eq_true (by omega)
    have good : (labValue x = true) → ∀ st, Weak Tryz.prog st ⟨[(1, .ptr 1 0), (3, int (i + 1 : Nat))], [(1, [int n.kind, str n.name, .pd (.slice (strs n.vals))])], [], .no⟩ → Round Tryz.prog (fun k st => ∃ i : Nat, k = n.vals.length - i ∧ i ≤ n.vals.length ∧ (∀ (j : Nat) (x : ByteArray), j < i → n.vals[j]? = some x → labValue x = true) ∧ st = ⟨[(1, .ptr 1 0), (3, int i)], [(1, [int n.kind, str n.name, .pd (.slice (strs n.vals))])], [], .no⟩) (n.vals.length - i) st := fun h st hw => ⟨n.vals.length - (i + 1), _, by omega, hw, i + 1, rfl, by omega, snoc_all hT hx h, rfl⟩
    have bad : ¬ (labValue x = true) → bln false = bln (askMay n) := fun h => bool_no fun e => h (((askMay_iff n).1 e).2 i x hx)
    simp only [go_sem, contS_seq, simprocAttr, rows_len, rows_get hx, h1, hw]
    repeat' (first | refine GifP.mk (fun _ => ?_) (fun _ => ?_) | refine Gif.mk (fun _ => ?_) (fun _ => ?_) | (refine (ref8_value x (hv x hmem)).callW (enters_of Tryz.func90 rfl rfl) _ rfl rfl ?_; rintro _ rfl; simp only [go_sem, contS_seq, simprocAttr, rows_len, rows_get hx, hw]) | refine And.intro ?_ ?_)
    all_goals first
      | (refine good (by assumption) _ ?_; exact lessA)
      | (simp only [retK, resD, St.get, lk, oneD, D.pub, D.pubs, retL, reduceIte, Nat.reduceEqDiff, Nat.reduceAdd, Nat.reduceLeDiff, Tryz.results140]; exact ⟨_, rfl, rfl, bad (by simp_all)⟩)
  have h1 : ((i : Int) < (n.vals.length : Int)) = False := eq_false (by omega)
  have hall : ∀ (j : Nat) (x : ByteArray), n.vals[j]? = some x → labValue x = true := fun j x hx => hT j x (by have := (List.getElem?_eq_some_iff.1 hx).1; omega) hx
  clear hT hw hi
  simp only [go_sem, contS_seq, simprocAttr, rows_len, h1]
  first | clear h1 hlt i | clear h1 hlt
  repeat' (first | refine GifP.mk (fun _ => ?_) (fun _ => ?_) | refine Gif.mk (fun _ => ?_) (fun _ => ?_) | (refine (ref1_Name n.name).callW (enters_of Tryz.func88 rfl rfl) _ rfl rfl ?_; rintro _ rfl; simp only [go_sem, contS_seq, simprocAttr, rows_len]) | refine And.intro ?_ ?_)
  all_goals
    simp only [retK, resD, St.get, lk, oneD, D.pub, D.pubs, retL, reduceIte, Nat.reduceEqDiff, Nat.reduceAdd, Nat.reduceLeDiff, Tryz.results140]
    refine ⟨_, rfl, rfl, congrArg bln ?_⟩
    rw [Bool.eq_iff_iff, askMay_iff, eq_true hall, and_true]
    clear hall hv
    first
      | (simp_all; done)
      | (simp_all; omega)
      | (simp only [decide_eq_true_eq, *]; omega)
      | (simp [*]; omega)
      | trace_state

theorem ref8_Needs (l : List ANeed) (hl : l.length ≤ 1000000) (h : ∀ n ∈ l, n.vals.length ≤ 1000000) (hv : ∀ n ∈ l, ∀ s ∈ n.vals, s.size ≤ 1000000) : Pure Tryz.prog 92 [.pd (.slice (rows ANeed.pd l))] (fun d => d = bln (needsMay l)) := by
  refine pure_of_run follows an_zc60e Tryz.func92 rfl ok_zc60e.1 ok_zc60e.2 (by simp [Tryz.ntmps92]) ?_
  rw [run_start]
  simp only [ac_zc60e, oo, og, tp, ci, cq, mq, lq, fi, sr, go_sem, contS_seq, simprocAttr, rows_len]
  refine loopS (fun k st => ∃ i : Nat, k = l.length - i ∧ i ≤ l.length ∧ (∀ (j : Nat) (x : ANeed), j < i → l[j]? = some x → askMay x = true) ∧ st = ⟨[(0, .pd (.slice (rows ANeed.pd l))), (3, int i)], [], [], .no⟩) l.length _ ?_ ⟨0, rfl, by omega, fun _ _ h => absurd h (Nat.not_lt_zero _), rfl⟩ ?_
  · exact lessA
  rintro k st ⟨i, rfl, hi, hT, rfl⟩
  have hw := i64_succ (show i < 1000000000 by omega)
  by_cases hlt : i < l.length
  · obtain ⟨x, hx⟩ := at_lt hlt
    have hmem := List.mem_of_getElem? hx
    have h1 : ((i : Int) < (l.length : Int)) = True := eq_true (by omega)
    have good : (askMay x = true) → ∀ st, Weak Tryz.prog st ⟨[(0, .pd (.slice (rows ANeed.pd l))), (3, int (i + 1 : Nat))], [], [], .no⟩ → Round Tryz.prog (fun k st => ∃ i : Nat, k = l.length - i ∧ i ≤ l.length ∧ (∀ (j : Nat) (x : ANeed), j < i → l[j]? = some x → askMay x = true) ∧ st = ⟨[(0, .pd (.slice (rows ANeed.pd l))), (3, int i)], [], [], .no⟩) (l.length - i) st := fun h st hw => ⟨l.length - (i + 1), _, by omega, hw, i + 1, rfl, by omega, snoc_all hT hx h, rfl⟩
    have bad : ¬ (askMay x = true) → bln false = bln (needsMay l) := fun h => bool_no fun e => h (((needsMay_iff l).1 e).2 i x hx)
    simp only [go_sem, contS_seq, simprocAttr, rows_len, rows_get hx, h1, hw]
    repeat' (first | refine GifP.mk (fun _ => ?_) (fun _ => ?_) | refine Gif.mk (fun _ => ?_) (fun _ => ?_) | (refine (ref8_One x (h x hmem) (hv x hmem)).callW (enters_of Tryz.func140 rfl rfl) _ rfl rfl ?_; rintro _ rfl; simp only [go_sem, contS_seq, simprocAttr, rows_len, rows_get hx, hw]) | refine And.intro ?_ ?_)
    all_goals first
      | (refine good (by assumption) _ ?_; exact lessA)
      | (simp only [retK, resD, St.get, lk, oneD, D.pub, D.pubs, retL, reduceIte, Nat.reduceEqDiff, Nat.reduceAdd, Nat.reduceLeDiff, Tryz.results92]; exact ⟨_, rfl, rfl, bad (by simp_all)⟩)
  have h1 : ((i : Int) < (l.length : Int)) = False := eq_false (by omega)
  have hall : ∀ (j : Nat) (x : ANeed), l[j]? = some x → askMay x = true := fun j x hx => hT j x (by have := (List.getElem?_eq_some_iff.1 hx).1; omega) hx
  clear hT hw hi
  simp only [go_sem, contS_seq, simprocAttr, rows_len, h1]
  first | clear h1 hlt i | clear h1 hlt
  simp only [retK, resD, St.get, lk, oneD, D.pub, D.pubs, retL, reduceIte, Nat.reduceEqDiff, Nat.reduceAdd, Nat.reduceLeDiff, Tryz.results92]
  exact ⟨_, rfl, rfl, bool_dec ⟨fun h => (needsMay_iff l).2 ⟨by omega, hall⟩, fun h => by have := ((needsMay_iff l).1 h).1; omega⟩⟩

set_option maxHeartbeats 2000000 in
theorem ref8_May (l : List APair) (hl : l.length ≤ 1000000) (hv : ∀ p ∈ l, p.val.size ≤ 1000000) : Pure Tryz.prog 55 [.pd (.slice (rows APair.pd l))] (fun d => d = bln (labelsMay l)) := by
  refine pure_of_run follows an_zgvgo Tryz.func55 rfl ok_zgvgo.1 ok_zgvgo.2 (by simp [Tryz.ntmps55]) ?_
  rw [run_start]
  simp only [ac_zgvgo, oo, og, tp, ci, cq, mq, lq, fi, sr, go_sem, contS_seq, simprocAttr, rows_len]
  refine loopS (fun k st => ∃ i : Nat, k = l.length - i ∧ i ≤ l.length ∧ (∀ (j : Nat) (x : APair), j < i → l[j]? = some x → (dname x.name = true ∧ labValue x.val = true) ∧ ∀ y : APair, 0 < (j) → l[(j) - 1]? = some y → Op.bytesLess y.name.toList x.name.toList = true) ∧ st = ⟨[(0, .pd (.slice (rows APair.pd l))), (3, int i)], [], [], .no⟩) l.length _ ?_ ⟨0, rfl, by omega, fun _ _ h => absurd h (Nat.not_lt_zero _), rfl⟩ ?_
  · exact lessA
  rintro k st ⟨i, rfl, hi, hT, rfl⟩
  have hw := i64_succ (show i < 1000000000 by omega)
  by_cases hlt : i < l.length
  · obtain ⟨x, hx⟩ := at_lt hlt
    have hmem := List.mem_of_getElem? hx
    have h1 : ((i : Int) < (l.length : Int)) = True := eq_true (by omega)
    have good : ((dname x.name = true ∧ labValue x.val = true) ∧ ∀ y : APair, 0 < i → l[i - 1]? = some y → Op.bytesLess y.name.toList x.name.toList = true) → ∀ st, Weak Tryz.prog st ⟨[(0, .pd (.slice (rows APair.pd l))), (3, int (i + 1 : Nat))], [], [], .no⟩ → Round Tryz.prog (fun k st => ∃ i : Nat, k = l.length - i ∧ i ≤ l.length ∧ (∀ (j : Nat) (x : APair), j < i → l[j]? = some x → (dname x.name = true ∧ labValue x.val = true) ∧ ∀ y : APair, 0 < (j) → l[(j) - 1]? = some y → Op.bytesLess y.name.toList x.name.toList = true) ∧ st = ⟨[(0, .pd (.slice (rows APair.pd l))), (3, int i)], [], [], .no⟩) (l.length - i) st := fun h st hw => ⟨l.length - (i + 1), _, by omega, hw, i + 1, rfl, by omega, snoc_all hT hx h, rfl⟩
    have bad : ¬ ((dname x.name = true ∧ labValue x.val = true) ∧ ∀ y : APair, 0 < i → l[i - 1]? = some y → Op.bytesLess y.name.toList x.name.toList = true) → bln false = bln (labelsMay l) := fun h => bool_no fun e => h (((labelsMay_iff l).1 e).2 i x hx)
    have hw1 : IntKind.i64.wrap ((i : Int) - 1) = (i : Int) - 1 := IntWalk.i64_in _ (by omega)
    by_cases h0 : i = 0
    · subst h0
      have hw0 : IntKind.i64.wrap 1 = 1 := rfl
      simp only [go_sem, contS_seq, simprocAttr, rows_len, rows_get hx, h1, hw, hw0]
      repeat' (first | refine GifP.mk (fun _ => ?_) (fun _ => ?_) | refine Gif.mk (fun _ => ?_) (fun _ => ?_) | (refine (ref1_Name x.name).callX (enters_of Tryz.func88 rfl rfl) _ rfl rfl ?_; rintro _ rfl; simp only [go_sem, contS_seq, simprocAttr, rows_len, rows_get hx, h1, hw, hw0]) | (refine (ref8_value x.val (hv x hmem)).callX (enters_of Tryz.func90 rfl rfl) _ rfl rfl ?_; rintro _ rfl; simp only [go_sem, contS_seq, simprocAttr, rows_len, rows_get hx, h1, hw, hw0]) | refine And.intro ?_ ?_)
      all_goals first
        | (refine good ⟨⟨by assumption, by assumption⟩, fun _ h => absurd h (Nat.lt_irrefl _)⟩ _ ?_; exact lessA)
        | (simp only [retK, resD, St.get, lk, oneD, D.pub, D.pubs, retL, reduceIte, Nat.reduceEqDiff, Nat.reduceAdd, Nat.reduceLeDiff, Tryz.results55]; exact ⟨_, rfl, rfl, bad (by simp_all)⟩)
        | (exfalso; omega)
    · obtain ⟨y, hy⟩ := at_lt (show i - 1 < l.length by omega)
      have hi1 : ((i : Int) - 1).toNat = i - 1 := by omega
      have hi2 : (0 ≤ (i : Int) - 1) = True := eq_true (by omega)
      have hi3 : ((0 : Int) < (i : Int)) = True := eq_true (by omega)
      have hq : (∀ y : APair, 0 < i → l[i - 1]? = some y → Op.bytesLess y.name.toList x.name.toList = true) ↔ Op.bytesLess y.name.toList x.name.toList = true := ⟨fun h => h y (by omega) hy, fun h y' _ hy' => by rw [hy] at hy'; cases hy'; exact h⟩
      rw [hq] at good bad
      simp only [go_sem, contS_seq, simprocAttr, rows_len, rows_get hx, h1, hw, hw1, hi1, hi2, hi3, rows_get hy, less_total]
      repeat' (first | refine GifP.mk (fun _ => ?_) (fun _ => ?_) | refine Gif.mk (fun _ => ?_) (fun _ => ?_) | (refine (ref1_Name x.name).callX (enters_of Tryz.func88 rfl rfl) _ rfl rfl ?_; rintro _ rfl; simp only [go_sem, contS_seq, simprocAttr, rows_len, rows_get hx, h1, hw, hw1, hi1, hi2, hi3, rows_get hy, less_total]) | (refine (ref8_value x.val (hv x hmem)).callX (enters_of Tryz.func90 rfl rfl) _ rfl rfl ?_; rintro _ rfl; simp only [go_sem, contS_seq, simprocAttr, rows_len, rows_get hx, h1, hw, hw1, hi1, hi2, hi3, rows_get hy, less_total]) | refine And.intro ?_ ?_)
      all_goals first
        | (refine good ⟨⟨by assumption, by assumption⟩, by simp_all⟩ _ ?_; exact lessA)
        | (simp only [retK, resD, St.get, lk, oneD, D.pub, D.pubs, retL, reduceIte, Nat.reduceEqDiff, Nat.reduceAdd, Nat.reduceLeDiff, Tryz.results55]; exact ⟨_, rfl, rfl, bad (by simp_all)⟩)
  have h1 : ((i : Int) < (l.length : Int)) = False := eq_false (by omega)
  have hall : ∀ (j : Nat) (x : APair), l[j]? = some x → (dname x.name = true ∧ labValue x.val = true) ∧ ∀ y : APair, 0 < (j) → l[(j) - 1]? = some y → Op.bytesLess y.name.toList x.name.toList = true := fun j x hx => hT j x (by have := (List.getElem?_eq_some_iff.1 hx).1; omega) hx
  clear hT hw hi
  simp only [go_sem, contS_seq, simprocAttr, rows_len, h1]
  first | clear h1 hlt i | clear h1 hlt
  simp only [retK, resD, St.get, lk, oneD, D.pub, D.pubs, retL, reduceIte, Nat.reduceEqDiff, Nat.reduceAdd, Nat.reduceLeDiff, Tryz.results55]
  exact ⟨_, rfl, rfl, bool_dec ⟨fun h => (labelsMay_iff l).2 ⟨by omega, hall⟩, fun h => by have := ((labelsMay_iff l).1 h).1; omega⟩⟩


theorem thing_class (o : AObj) : Full Tryz.prog 79 [.ptr 500001 0] [(500001, o.ds)] true (fun d bs => d = bln true ∧ bs = [(500001,
    [int o.ref.kind, str o.ref.space, str o.ref.name, bln false, .pd (.slice (rows APair.pd o.labels)), .pd (.slice (ints o.ports)), str o.cls, .pd (.slice (rows AListener.pd o.listeners)),
      .pd (.slice (rows AParent.pd o.parents)), .pd (.slice (strs o.hosts)), .pd (.slice (rows ARule.pd o.rules)), .pd (.slice (rows ASide.pd o.from_)), .pd (.slice (rows ASide.pd o.to_))])]) := by
  refine full_of_run follows an_zk71m Tryz.func79 rfl ok_zk71m.1 ok_zk71m.2 (by simp [Tryz.ntmps79]) (by simp [Tryz.ntmps79]) (.inl rfl) ?_
  rw [run_start]
  simp only [ac_zk71m, oo, og, tp, ci, cq, mq, lq, fi, sr, go_sem, contS_seq, simprocAttr]
  simp only [retK, fullK, resD, St.get, lk, oneD, D.pub, D.pubs, retL, reduceIte, Nat.reduceEqDiff, Nat.reduceAdd, Nat.reduceLeDiff, Tryz.results79]
  exact ⟨_, _, rfl, by simp [lessL, lk], rfl, rfl⟩

theorem thing_space (o : AObj) (h : o.ok) : Full Tryz.prog 80 [.ptr 500001 0] [(500001, o.ds)] true (fun d bs => d = bln (labelsMay o.labels) ∧ bs = [(500001,
    [int o.ref.kind, str o.ref.space, str o.ref.name, bln o.good, .nils, .pd (.slice (ints o.ports)), str o.cls, .pd (.slice (rows AListener.pd o.listeners)),
      .pd (.slice (rows AParent.pd o.parents)), .pd (.slice (strs o.hosts)), .pd (.slice (rows ARule.pd o.rules)), .pd (.slice (rows ASide.pd o.from_)), .pd (.slice (rows ASide.pd o.to_))])]) := by
  refine full_of_run follows an_zag3z Tryz.func80 rfl ok_zag3z.1 ok_zag3z.2 (by simp [Tryz.ntmps80]) (by simp [Tryz.ntmps80]) (.inl rfl) ?_
  rw [run_start]
  simp only [ac_zag3z, oo, og, tp, ci, cq, mq, lq, fi, sr, go_sem, contS_seq, simprocAttr]
  refine (label_May o.labels h.la).callW (enters_of Tryz.func102 rfl rfl) _ rfl rfl ?_
  rintro d rfl
  simp only [go_sem, contS_seq, simprocAttr]
  simp only [retK, fullK, resD, St.get, lk, oneD, D.pub, D.pubs, retL, reduceIte, Nat.reduceEqDiff, Nat.reduceAdd, Nat.reduceLeDiff, Tryz.results80]
  exact ⟨_, _, rfl, by simp [lessL, lk], rfl, rfl⟩

def serviceMay (l : List Int) : Bool := decide (0 < l.length) && every oport l 8 && sortedInts l && !twice intSame l

theorem thing_service (o : AObj) (h : o.ok) : Full Tryz.prog 81 [.ptr 500001 0] [(500001, o.ds)] true (fun d bs => d = bln (serviceMay o.ports) ∧ bs = [(500001,
    [int o.ref.kind, str o.ref.space, str o.ref.name, bln o.good, .pd (.slice (rows APair.pd o.labels)), .nils, str o.cls, .pd (.slice (rows AListener.pd o.listeners)),
      .pd (.slice (rows AParent.pd o.parents)), .pd (.slice (strs o.hosts)), .pd (.slice (rows ARule.pd o.rules)), .pd (.slice (rows ASide.pd o.from_)), .pd (.slice (rows ASide.pd o.to_))])]) := by
  refine full_of_run follows an_zxlfl Tryz.func81 rfl ok_zxlfl.1 ok_zxlfl.2 (by simp [Tryz.ntmps81]) (by simp [Tryz.ntmps81]) (.inl rfl) ?_
  rw [run_start]
  simp only [ac_zxlfl, oo, og, tp, ci, cq, mq, lq, fi, sr, go_sem, contS_seq, simprocAttr, rows_len]
  (repeat' (first | (refine GifP.mk (fun _ => ?_) (fun _ => ?_)) | (refine Gif.mk (fun _ => ?_) (fun _ => ?_)) | ((first | refine (every_int oport _ (enters_of Tryz.func104 rfl rfl) o.ports h.po 8 (fun x _ => object_port x)).callW (enters_of Tryz.func103 rfl rfl) _ rfl rfl ?_ | refine (slices_IsSorted_int o.ports h.po).callW (enters_of Tryz.func105 rfl rfl) _ rfl rfl ?_ | refine (twice_int intSame _ (enters_of Tryz.func107 rfl rfl) o.ports h.po (fun x _ y _ => thing_service_1 x y)).callW (enters_of Tryz.func106 rfl rfl) _ rfl rfl ?_); rintro _ rfl; try simp only [go_sem, contS_seq, simprocAttr]))) <;> (simp only [retK, fullK, resD, St.get, lk, oneD, D.pub, D.pubs, retL, reduceIte, Nat.reduceEqDiff, Nat.reduceAdd, Nat.reduceLeDiff, Tryz.results81]; exact ⟨_, _, rfl, by simp [lessL, lk], congrArg bln (by first | rfl | (rw [Bool.eq_iff_iff]; simp only [serviceMay]; simp; done) | (rw [Bool.eq_iff_iff]; simp only [serviceMay]; simp; omega) | (rw [Bool.eq_iff_iff]; simp only [serviceMay]; simp [*]; done) | (rw [Bool.eq_iff_iff]; simp only [serviceMay]; simp [*]; omega) | (simp_all [serviceMay]; done) | (exfalso; omega)), rfl⟩)

def gatewayMay (s : ByteArray) (l : List AListener) : Bool := dname s && decide (0 < l.length) && every listenerMay l 8 && !twice lisName l

theorem thing_gateway (o : AObj) (h : o.ok) : Full Tryz.prog 82 [.ptr 500001 0] [(500001, o.ds)] true (fun d bs => d = bln (gatewayMay o.cls o.listeners) ∧ bs = [(500001,
    [int o.ref.kind, str o.ref.space, str o.ref.name, bln o.good, .pd (.slice (rows APair.pd o.labels)), .pd (.slice (ints o.ports)), str ⟨#[]⟩, .nils,
      .pd (.slice (rows AParent.pd o.parents)), .pd (.slice (strs o.hosts)), .pd (.slice (rows ARule.pd o.rules)), .pd (.slice (rows ASide.pd o.from_)), .pd (.slice (rows ASide.pd o.to_))])]) := by
  refine full_of_run follows an_zqquk Tryz.func82 rfl ok_zqquk.1 ok_zqquk.2 (by simp [Tryz.ntmps82]) (by simp [Tryz.ntmps82]) (.inl rfl) ?_
  rw [run_start]
  simp only [ac_zqquk, oo, og, tp, ci, cq, mq, lq, fi, sr, go_sem, contS_seq, simprocAttr, go_sem, rows_len]
  (repeat' (first | (refine GifP.mk (fun _ => ?_) (fun _ => ?_)) | (refine Gif.mk (fun _ => ?_) (fun _ => ?_)) | ((first | refine (dns_Name _).callW (enters_of Tryz.func109 rfl rfl) _ rfl rfl ?_ | refine (every_Listener listenerMay _ (enters_of Tryz.func111 rfl rfl) o.listeners h.li 8 (fun x hx => object_listener x (h.lis x hx))).callW (enters_of Tryz.func110 rfl rfl) _ rfl rfl ?_ | refine (twice_Listener lisName _ (enters_of Tryz.func108 rfl rfl) o.listeners h.li (fun x _ y _ => thing_gateway_1 x y)).callW (enters_of Tryz.func112 rfl rfl) _ rfl rfl ?_); rintro _ rfl; try simp only [go_sem, contS_seq, simprocAttr, rows_len]))) <;> (simp only [retK, fullK, resD, St.get, lk, oneD, D.pub, D.pubs, retL, reduceIte, Nat.reduceEqDiff, Nat.reduceAdd, Nat.reduceLeDiff, Tryz.results82]; exact ⟨_, _, rfl, by simp [lessL, lk], congrArg bln (by first | rfl | (rw [Bool.eq_iff_iff]; simp only [gatewayMay]; simp; done) | (rw [Bool.eq_iff_iff]; simp only [gatewayMay]; simp; omega) | (rw [Bool.eq_iff_iff]; simp only [gatewayMay]; simp [*]; done) | (rw [Bool.eq_iff_iff]; simp only [gatewayMay]; simp [*]; omega) | (simp_all [gatewayMay]; done) | (exfalso; omega)), rfl⟩)

def routeMay (ps : List AParent) (hs : List ByteArray) (rs : List ARule) : Bool :=
  !(twice parSame ps || twice strSame hs) && every parentMay ps 4 && every patMay hs 4 && every ruleMay rs 6

theorem thing_route (o : AObj) (h : o.ok) : Full Tryz.prog 83 [.ptr 500001 0] [(500001, o.ds)] true (fun d bs => d = bln (routeMay o.parents o.hosts o.rules) ∧ bs = [(500001,
    [int o.ref.kind, str o.ref.space, str o.ref.name, bln o.good, .pd (.slice (rows APair.pd o.labels)), .pd (.slice (ints o.ports)), str o.cls, .pd (.slice (rows AListener.pd o.listeners)),
      .nils, .nils, .nils, .pd (.slice (rows ASide.pd o.from_)), .pd (.slice (rows ASide.pd o.to_))])]) := by
  refine full_of_run follows an_ztpho Tryz.func83 rfl ok_ztpho.1 ok_ztpho.2 (by simp [Tryz.ntmps83]) (by simp [Tryz.ntmps83]) (.inl rfl) ?_
  rw [run_start]
  simp (maxSteps := 5000000) only [ac_ztpho, oo, og, tp, ci, cq, mq, lq, fi, sr, go_sem, contS_seq, simprocAttr, go_sem, rows_len]
  (repeat' (first | (refine GifP.mk (fun _ => ?_) (fun _ => ?_)) | (refine Gif.mk (fun _ => ?_) (fun _ => ?_)) | ((first | refine (twice_Parent parSame _ (enters_of Tryz.func114 rfl rfl) o.parents h.pa (fun x _ y _ => thing_route_1 x y)).callW (enters_of Tryz.func113 rfl rfl) _ rfl rfl ?_ | refine (twice_string strSame _ (enters_of Tryz.func116 rfl rfl) o.hosts h.ho (fun x _ y _ => thing_route_2 x y)).callW (enters_of Tryz.func115 rfl rfl) _ rfl rfl ?_ | refine (every_Parent parentMay _ (enters_of Tryz.func120 rfl rfl) o.parents h.pa 4 (fun x _ => object_parent x)).callW (enters_of Tryz.func119 rfl rfl) _ rfl rfl ?_ | refine (every_string patMay _ (enters_of Tryz.func117 rfl rfl) o.hosts h.ho 4 (fun x _ => thing_route_3 x)).callW (enters_of Tryz.func121 rfl rfl) _ rfl rfl ?_ | refine (every_Rule ruleMay _ (enters_of Tryz.func123 rfl rfl) o.rules h.ru 6 (fun x hx => object_ruled x (h.rus x hx))).callW (enters_of Tryz.func122 rfl rfl) _ rfl rfl ?_); rintro _ rfl; try simp only [go_sem, contS_seq, simprocAttr, rows_len]))) <;> (simp only [retK, fullK, resD, St.get, lk, oneD, D.pub, D.pubs, retL, reduceIte, Nat.reduceEqDiff, Nat.reduceAdd, Nat.reduceLeDiff, Tryz.results83]; exact ⟨_, _, rfl, by simp [lessL, lk], congrArg bln (by first | rfl | (rw [Bool.eq_iff_iff]; simp only [routeMay]; simp; done) | (rw [Bool.eq_iff_iff]; simp only [routeMay]; simp; omega) | (rw [Bool.eq_iff_iff]; simp only [routeMay]; simp [*]; done) | (rw [Bool.eq_iff_iff]; simp only [routeMay]; simp [*]; omega) | (simp_all [routeMay]; done) | (exfalso; omega)), rfl⟩)

def grantMay (f t : List ASide) : Bool := decide (0 < f.length) && decide (0 < t.length) && every sideFrom f 4 && every sideTo t 4

theorem thing_grant (o : AObj) (h : o.ok) : Full Tryz.prog 84 [.ptr 500001 0] [(500001, o.ds)] true (fun d bs => d = bln (grantMay o.from_ o.to_) ∧ bs = [(500001,
    [int o.ref.kind, str o.ref.space, str o.ref.name, bln o.good, .pd (.slice (rows APair.pd o.labels)), .pd (.slice (ints o.ports)), str o.cls, .pd (.slice (rows AListener.pd o.listeners)),
      .pd (.slice (rows AParent.pd o.parents)), .pd (.slice (strs o.hosts)), .pd (.slice (rows ARule.pd o.rules)), .nils, .nils])]) := by
  refine full_of_run follows an_zlbax Tryz.func84 rfl ok_zlbax.1 ok_zlbax.2 (by simp [Tryz.ntmps84]) (by simp [Tryz.ntmps84]) (.inl rfl) ?_
  rw [run_start]
  simp only [ac_zlbax, oo, og, tp, ci, cq, mq, lq, fi, sr, go_sem, contS_seq, simprocAttr, go_sem, rows_len]
  (repeat' (first | (refine GifP.mk (fun _ => ?_) (fun _ => ?_)) | (refine Gif.mk (fun _ => ?_) (fun _ => ?_)) | ((first | refine (every_Side sideFrom _ (enters_of Tryz.func124 rfl rfl) o.from_ h.fr 4 (fun x _ => thing_grant_1 x)).callW (enters_of Tryz.func128 rfl rfl) _ rfl rfl ?_ | refine (every_Side sideTo _ (enters_of Tryz.func127 rfl rfl) o.to_ h.to 4 (fun x _ => thing_grant_2 x)).callW (enters_of Tryz.func128 rfl rfl) _ rfl rfl ?_); rintro _ rfl; try simp only [go_sem, contS_seq, simprocAttr, rows_len]))) <;> (simp only [retK, fullK, resD, St.get, lk, oneD, D.pub, D.pubs, retL, reduceIte, Nat.reduceEqDiff, Nat.reduceAdd, Nat.reduceLeDiff, Tryz.results84]; exact ⟨_, _, rfl, by simp [lessL, lk], congrArg bln (by first | rfl | (rw [Bool.eq_iff_iff]; simp only [grantMay]; simp; done) | (rw [Bool.eq_iff_iff]; simp only [grantMay]; simp; omega) | (rw [Bool.eq_iff_iff]; simp only [grantMay]; simp [*]; done) | (rw [Bool.eq_iff_iff]; simp only [grantMay]; simp [*]; omega) | (simp_all [grantMay]; done) | (exfalso; omega)), rfl⟩)


def AObj.zero (r : ARef) : AObj := ⟨r, false, [], [], ⟨#[]⟩, [], [], [], [], [], []⟩

theorem AObj.zero_ok (r : ARef) : (AObj.zero r).ok := ⟨by simp [AObj.zero], by simp [AObj.zero], by simp [AObj.zero], by simp [AObj.zero], by simp [AObj.zero], by simp [AObj.zero], by simp [AObj.zero], by simp [AObj.zero], by simp [AObj.zero], by simp [AObj.zero]⟩

def AObj.strip (o : AObj) : AObj :=
  if o.ref.kind = 1 ∨ o.ref.kind = 4 then { o with good := false }
  else if o.ref.kind = 2 then { o with labels := [] }
  else if o.ref.kind = 3 then { o with ports := [] }
  else if o.ref.kind = 5 then { o with listeners := [], cls := ⟨#[]⟩ }
  else if o.ref.kind = 6 then { o with parents := [], hosts := [], rules := [] }
  else { o with from_ := [], to_ := [] }

def kindMay (o : AObj) : Bool :=
  if o.ref.kind = 1 ∨ o.ref.kind = 4 then true
  else if o.ref.kind = 2 then labelsMay o.labels
  else if o.ref.kind = 3 then serviceMay o.ports
  else if o.ref.kind = 5 then gatewayMay o.cls o.listeners
  else if o.ref.kind = 6 then routeMay o.parents o.hosts o.rules
  else grantMay o.from_ o.to_

def objMay (o : AObj) : Bool := mayRef o.ref && kindMay o && objSame o.strip (AObj.zero o.ref)

theorem mayRef_kind {r : ARef} (h : mayRef r = true) : r.kind = 1 ∨ r.kind = 2 ∨ r.kind = 3 ∨ r.kind = 4 ∨ r.kind = 5 ∨ r.kind = 6 ∨ r.kind = 7 := by
  unfold mayRef at h
  split at h
  · omega
  · split at h
    · omega
    · simp [okind] at h; omega

theorem strip_ok {o s : AObj} (h : o.ok) (h1 : s.labels = o.labels ∨ s.labels = []) (h2 : s.ports = o.ports ∨ s.ports = []) (h3 : s.listeners = o.listeners ∨ s.listeners = []) (h4 : s.parents = o.parents ∨ s.parents = []) (h5 : s.hosts = o.hosts ∨ s.hosts = [])
    (h6 : s.rules = o.rules ∨ s.rules = []) (h7 : s.from_ = o.from_ ∨ s.from_ = []) (h8 : s.to_ = o.to_ ∨ s.to_ = []) : s.ok where
  la := by rcases h1 with e | e <;> rw [e] <;> first | exact h.la | simp
  po := by rcases h2 with e | e <;> rw [e] <;> first | exact h.po | simp
  li := by rcases h3 with e | e <;> rw [e] <;> first | exact h.li | simp
  pa := by rcases h4 with e | e <;> rw [e] <;> first | exact h.pa | simp
  ho := by rcases h5 with e | e <;> rw [e] <;> first | exact h.ho | simp
  ru := by rcases h6 with e | e <;> rw [e] <;> first | exact h.ru | simp
  fr := by rcases h7 with e | e <;> rw [e] <;> first | exact h.fr | simp
  to := by rcases h8 with e | e <;> rw [e] <;> first | exact h.to | simp
  lis := by rcases h3 with e | e <;> rw [e] <;> first | exact h.lis | simp
  rus := by rcases h6 with e | e <;> rw [e] <;> first | exact h.rus | simp

set_option maxHeartbeats 4000000 in
theorem object_May (o : AObj) (h : o.ok) : Pure Tryz.prog 52 [o.d] (fun d => d = bln (objMay o)) := by
  refine pure_of_run follows an_zfwje Tryz.func52 rfl ok_zfwje.1 ok_zfwje.2 (by simp [Tryz.ntmps52]) ?_
  rw [run_start]
  simp (maxSteps := 5000000) only [ac_zfwje, oo, og, tp, ci, cq, mq, lq, fi, sr, go_sem, contS_seq, simprocAttr, go_sem]
  refine (object_MayRef o.ref).callX (enters_of Tryz.func85 rfl rfl) _ rfl rfl ?_
  rintro d rfl
  by_cases hm : mayRef o.ref = true
  · have stop : kindMay o = false → objMay o = false := fun e => by simp [objMay, e]
    have go : ∀ s : AObj, o.strip = s → kindMay o = true → objMay o = objSame s (AObj.zero o.ref) := fun s e1 e2 => by simp [objMay, hm, e1, e2]
    rcases mayRef_kind hm with hk | hk | hk | hk | hk | hk | hk
    · obtain ⟨⟨kd, sp, nm⟩, gd, la, po, cl, li, pa, ho, ru, fr, to⟩ := o
      simp only at hk
      subst hk
      simp (maxSteps := 5000000) only [go_sem, contS_seq, simprocAttr, go_sem, hm]
      refine (thing_class ⟨⟨1, sp, nm⟩, gd, la, po, cl, li, pa, ho, ru, fr, to⟩).callW (enters_of Tryz.func79 rfl rfl) _ false [(9, 500001)] [] [] [] rfl rfl rfl ?_
      rintro d bs ⟨rfl, rfl⟩
      simp (maxSteps := 5000000) only [go_sem, contS_seq, simprocAttr, go_sem]
      have hs : (⟨⟨1, sp, nm⟩, gd, la, po, cl, li, pa, ho, ru, fr, to⟩ : AObj).strip = { (⟨⟨1, sp, nm⟩, gd, la, po, cl, li, pa, ho, ru, fr, to⟩ : AObj) with good := false } := by simp [AObj.strip]
      have hkm : kindMay (⟨⟨1, sp, nm⟩, gd, la, po, cl, li, pa, ho, ru, fr, to⟩ : AObj) = true := by simp [kindMay]
      refine (object_Same ({ (⟨⟨1, sp, nm⟩, gd, la, po, cl, li, pa, ho, ru, fr, to⟩ : AObj) with good := false } : AObj) (AObj.zero ⟨1, sp, nm⟩) (strip_ok h (by simp) (by simp) (by simp) (by simp) (by simp) (by simp) (by simp) (by simp)) (AObj.zero_ok ⟨1, sp, nm⟩)).callX (enters_of Tryz.func86 rfl rfl) _ rfl rfl ?_
      rintro d rfl
      simp (maxSteps := 5000000) only [go_sem, contS_seq, simprocAttr, go_sem]
      simp only [retK, resD, St.get, lk, oneD, D.pub, D.pubs, retL, reduceIte, Nat.reduceEqDiff, Nat.reduceAdd, Nat.reduceLeDiff, Tryz.results52]
      exact ⟨_, rfl, rfl, congrArg bln (go _ hs (by rw [hkm])).symm⟩
    · obtain ⟨⟨kd, sp, nm⟩, gd, la, po, cl, li, pa, ho, ru, fr, to⟩ := o
      simp only at hk
      subst hk
      simp (maxSteps := 5000000) only [go_sem, contS_seq, simprocAttr, go_sem, hm]
      refine (thing_space ⟨⟨2, sp, nm⟩, gd, la, po, cl, li, pa, ho, ru, fr, to⟩ h).callW (enters_of Tryz.func80 rfl rfl) _ false [(9, 500001)] [] [] [] rfl rfl rfl ?_
      rintro d bs ⟨rfl, rfl⟩
      simp (maxSteps := 5000000) only [go_sem, contS_seq, simprocAttr, go_sem]
      have hs : (⟨⟨2, sp, nm⟩, gd, la, po, cl, li, pa, ho, ru, fr, to⟩ : AObj).strip = { (⟨⟨2, sp, nm⟩, gd, la, po, cl, li, pa, ho, ru, fr, to⟩ : AObj) with labels := [] } := by simp [AObj.strip]
      have hkm : kindMay (⟨⟨2, sp, nm⟩, gd, la, po, cl, li, pa, ho, ru, fr, to⟩ : AObj) = labelsMay la := by simp [kindMay]
      refine Gif.mk (fun h1 => ?_) (fun h1 => ?_)
      · refine (object_Same ({ (⟨⟨2, sp, nm⟩, gd, la, po, cl, li, pa, ho, ru, fr, to⟩ : AObj) with labels := [] } : AObj) (AObj.zero ⟨2, sp, nm⟩) (strip_ok h (by simp) (by simp) (by simp) (by simp) (by simp) (by simp) (by simp) (by simp)) (AObj.zero_ok ⟨2, sp, nm⟩)).callX (enters_of Tryz.func86 rfl rfl) _ rfl rfl ?_
        rintro d rfl
        simp (maxSteps := 5000000) only [go_sem, contS_seq, simprocAttr, go_sem]
        simp only [retK, resD, St.get, lk, oneD, D.pub, D.pubs, retL, reduceIte, Nat.reduceEqDiff, Nat.reduceAdd, Nat.reduceLeDiff, Tryz.results52]
        exact ⟨_, rfl, rfl, congrArg bln (go _ hs (by rw [hkm]; exact h1)).symm⟩
      · simp only [retK, resD, St.get, lk, oneD, D.pub, D.pubs, retL, reduceIte, Nat.reduceEqDiff, Nat.reduceAdd, Nat.reduceLeDiff, Tryz.results52]
        exact ⟨_, rfl, rfl, congrArg bln (stop (by rw [hkm]; exact h1)).symm⟩
    · obtain ⟨⟨kd, sp, nm⟩, gd, la, po, cl, li, pa, ho, ru, fr, to⟩ := o
      simp only at hk
      subst hk
      simp (maxSteps := 5000000) only [go_sem, contS_seq, simprocAttr, go_sem, hm]
      refine (thing_service ⟨⟨3, sp, nm⟩, gd, la, po, cl, li, pa, ho, ru, fr, to⟩ h).callW (enters_of Tryz.func81 rfl rfl) _ false [(9, 500001)] [] [] [] rfl rfl rfl ?_
      rintro d bs ⟨rfl, rfl⟩
      simp (maxSteps := 5000000) only [go_sem, contS_seq, simprocAttr, go_sem]
      have hs : (⟨⟨3, sp, nm⟩, gd, la, po, cl, li, pa, ho, ru, fr, to⟩ : AObj).strip = { (⟨⟨3, sp, nm⟩, gd, la, po, cl, li, pa, ho, ru, fr, to⟩ : AObj) with ports := [] } := by simp [AObj.strip]
      have hkm : kindMay (⟨⟨3, sp, nm⟩, gd, la, po, cl, li, pa, ho, ru, fr, to⟩ : AObj) = serviceMay po := by simp [kindMay]
      refine Gif.mk (fun h1 => ?_) (fun h1 => ?_)
      · refine (object_Same ({ (⟨⟨3, sp, nm⟩, gd, la, po, cl, li, pa, ho, ru, fr, to⟩ : AObj) with ports := [] } : AObj) (AObj.zero ⟨3, sp, nm⟩) (strip_ok h (by simp) (by simp) (by simp) (by simp) (by simp) (by simp) (by simp) (by simp)) (AObj.zero_ok ⟨3, sp, nm⟩)).callX (enters_of Tryz.func86 rfl rfl) _ rfl rfl ?_
        rintro d rfl
        simp (maxSteps := 5000000) only [go_sem, contS_seq, simprocAttr, go_sem]
        simp only [retK, resD, St.get, lk, oneD, D.pub, D.pubs, retL, reduceIte, Nat.reduceEqDiff, Nat.reduceAdd, Nat.reduceLeDiff, Tryz.results52]
        exact ⟨_, rfl, rfl, congrArg bln (go _ hs (by rw [hkm]; exact h1)).symm⟩
      · simp only [retK, resD, St.get, lk, oneD, D.pub, D.pubs, retL, reduceIte, Nat.reduceEqDiff, Nat.reduceAdd, Nat.reduceLeDiff, Tryz.results52]
        exact ⟨_, rfl, rfl, congrArg bln (stop (by rw [hkm]; exact h1)).symm⟩
    · obtain ⟨⟨kd, sp, nm⟩, gd, la, po, cl, li, pa, ho, ru, fr, to⟩ := o
      simp only at hk
      subst hk
      simp (maxSteps := 5000000) only [go_sem, contS_seq, simprocAttr, go_sem, hm]
      refine (thing_class ⟨⟨4, sp, nm⟩, gd, la, po, cl, li, pa, ho, ru, fr, to⟩).callW (enters_of Tryz.func79 rfl rfl) _ false [(9, 500001)] [] [] [] rfl rfl rfl ?_
      rintro d bs ⟨rfl, rfl⟩
      simp (maxSteps := 5000000) only [go_sem, contS_seq, simprocAttr, go_sem]
      have hs : (⟨⟨4, sp, nm⟩, gd, la, po, cl, li, pa, ho, ru, fr, to⟩ : AObj).strip = { (⟨⟨4, sp, nm⟩, gd, la, po, cl, li, pa, ho, ru, fr, to⟩ : AObj) with good := false } := by simp [AObj.strip]
      have hkm : kindMay (⟨⟨4, sp, nm⟩, gd, la, po, cl, li, pa, ho, ru, fr, to⟩ : AObj) = true := by simp [kindMay]
      refine (object_Same ({ (⟨⟨4, sp, nm⟩, gd, la, po, cl, li, pa, ho, ru, fr, to⟩ : AObj) with good := false } : AObj) (AObj.zero ⟨4, sp, nm⟩) (strip_ok h (by simp) (by simp) (by simp) (by simp) (by simp) (by simp) (by simp) (by simp)) (AObj.zero_ok ⟨4, sp, nm⟩)).callX (enters_of Tryz.func86 rfl rfl) _ rfl rfl ?_
      rintro d rfl
      simp (maxSteps := 5000000) only [go_sem, contS_seq, simprocAttr, go_sem]
      simp only [retK, resD, St.get, lk, oneD, D.pub, D.pubs, retL, reduceIte, Nat.reduceEqDiff, Nat.reduceAdd, Nat.reduceLeDiff, Tryz.results52]
      exact ⟨_, rfl, rfl, congrArg bln (go _ hs (by rw [hkm])).symm⟩
    · obtain ⟨⟨kd, sp, nm⟩, gd, la, po, cl, li, pa, ho, ru, fr, to⟩ := o
      simp only at hk
      subst hk
      simp (maxSteps := 5000000) only [go_sem, contS_seq, simprocAttr, go_sem, hm]
      refine (thing_gateway ⟨⟨5, sp, nm⟩, gd, la, po, cl, li, pa, ho, ru, fr, to⟩ h).callW (enters_of Tryz.func82 rfl rfl) _ false [(9, 500001)] [] [] [] rfl rfl rfl ?_
      rintro d bs ⟨rfl, rfl⟩
      simp (maxSteps := 5000000) only [go_sem, contS_seq, simprocAttr, go_sem]
      have hs : (⟨⟨5, sp, nm⟩, gd, la, po, cl, li, pa, ho, ru, fr, to⟩ : AObj).strip = { (⟨⟨5, sp, nm⟩, gd, la, po, cl, li, pa, ho, ru, fr, to⟩ : AObj) with listeners := [], cls := ⟨#[]⟩ } := by simp [AObj.strip]
      have hkm : kindMay (⟨⟨5, sp, nm⟩, gd, la, po, cl, li, pa, ho, ru, fr, to⟩ : AObj) = gatewayMay cl li := by simp [kindMay]
      refine Gif.mk (fun h1 => ?_) (fun h1 => ?_)
      · refine (object_Same ({ (⟨⟨5, sp, nm⟩, gd, la, po, cl, li, pa, ho, ru, fr, to⟩ : AObj) with listeners := [], cls := ⟨#[]⟩ } : AObj) (AObj.zero ⟨5, sp, nm⟩) (strip_ok h (by simp) (by simp) (by simp) (by simp) (by simp) (by simp) (by simp) (by simp)) (AObj.zero_ok ⟨5, sp, nm⟩)).callX (enters_of Tryz.func86 rfl rfl) _ rfl rfl ?_
        rintro d rfl
        simp (maxSteps := 5000000) only [go_sem, contS_seq, simprocAttr, go_sem]
        simp only [retK, resD, St.get, lk, oneD, D.pub, D.pubs, retL, reduceIte, Nat.reduceEqDiff, Nat.reduceAdd, Nat.reduceLeDiff, Tryz.results52]
        exact ⟨_, rfl, rfl, congrArg bln (go _ hs (by rw [hkm]; exact h1)).symm⟩
      · simp only [retK, resD, St.get, lk, oneD, D.pub, D.pubs, retL, reduceIte, Nat.reduceEqDiff, Nat.reduceAdd, Nat.reduceLeDiff, Tryz.results52]
        exact ⟨_, rfl, rfl, congrArg bln (stop (by rw [hkm]; exact h1)).symm⟩
    · obtain ⟨⟨kd, sp, nm⟩, gd, la, po, cl, li, pa, ho, ru, fr, to⟩ := o
      simp only at hk
      subst hk
      simp (maxSteps := 5000000) only [go_sem, contS_seq, simprocAttr, go_sem, hm]
      refine (thing_route ⟨⟨6, sp, nm⟩, gd, la, po, cl, li, pa, ho, ru, fr, to⟩ h).callW (enters_of Tryz.func83 rfl rfl) _ false [(9, 500001)] [] [] [] rfl rfl rfl ?_
      rintro d bs ⟨rfl, rfl⟩
      simp (maxSteps := 5000000) only [go_sem, contS_seq, simprocAttr, go_sem]
      have hs : (⟨⟨6, sp, nm⟩, gd, la, po, cl, li, pa, ho, ru, fr, to⟩ : AObj).strip = { (⟨⟨6, sp, nm⟩, gd, la, po, cl, li, pa, ho, ru, fr, to⟩ : AObj) with parents := [], hosts := [], rules := [] } := by simp [AObj.strip]
      have hkm : kindMay (⟨⟨6, sp, nm⟩, gd, la, po, cl, li, pa, ho, ru, fr, to⟩ : AObj) = routeMay pa ho ru := by simp [kindMay]
      refine Gif.mk (fun h1 => ?_) (fun h1 => ?_)
      · refine (object_Same ({ (⟨⟨6, sp, nm⟩, gd, la, po, cl, li, pa, ho, ru, fr, to⟩ : AObj) with parents := [], hosts := [], rules := [] } : AObj) (AObj.zero ⟨6, sp, nm⟩) (strip_ok h (by simp) (by simp) (by simp) (by simp) (by simp) (by simp) (by simp) (by simp)) (AObj.zero_ok ⟨6, sp, nm⟩)).callX (enters_of Tryz.func86 rfl rfl) _ rfl rfl ?_
        rintro d rfl
        simp (maxSteps := 5000000) only [go_sem, contS_seq, simprocAttr, go_sem]
        simp only [retK, resD, St.get, lk, oneD, D.pub, D.pubs, retL, reduceIte, Nat.reduceEqDiff, Nat.reduceAdd, Nat.reduceLeDiff, Tryz.results52]
        exact ⟨_, rfl, rfl, congrArg bln (go _ hs (by rw [hkm]; exact h1)).symm⟩
      · simp only [retK, resD, St.get, lk, oneD, D.pub, D.pubs, retL, reduceIte, Nat.reduceEqDiff, Nat.reduceAdd, Nat.reduceLeDiff, Tryz.results52]
        exact ⟨_, rfl, rfl, congrArg bln (stop (by rw [hkm]; exact h1)).symm⟩
    · obtain ⟨⟨kd, sp, nm⟩, gd, la, po, cl, li, pa, ho, ru, fr, to⟩ := o
      simp only at hk
      subst hk
      simp (maxSteps := 5000000) only [go_sem, contS_seq, simprocAttr, go_sem, hm]
      refine (thing_grant ⟨⟨7, sp, nm⟩, gd, la, po, cl, li, pa, ho, ru, fr, to⟩ h).callW (enters_of Tryz.func84 rfl rfl) _ false [(9, 500001)] [] [] [] rfl rfl rfl ?_
      rintro d bs ⟨rfl, rfl⟩
      simp (maxSteps := 5000000) only [go_sem, contS_seq, simprocAttr, go_sem]
      have hs : (⟨⟨7, sp, nm⟩, gd, la, po, cl, li, pa, ho, ru, fr, to⟩ : AObj).strip = { (⟨⟨7, sp, nm⟩, gd, la, po, cl, li, pa, ho, ru, fr, to⟩ : AObj) with from_ := [], to_ := [] } := by simp [AObj.strip]
      have hkm : kindMay (⟨⟨7, sp, nm⟩, gd, la, po, cl, li, pa, ho, ru, fr, to⟩ : AObj) = grantMay fr to := by simp [kindMay]
      refine Gif.mk (fun h1 => ?_) (fun h1 => ?_)
      · refine (object_Same ({ (⟨⟨7, sp, nm⟩, gd, la, po, cl, li, pa, ho, ru, fr, to⟩ : AObj) with from_ := [], to_ := [] } : AObj) (AObj.zero ⟨7, sp, nm⟩) (strip_ok h (by simp) (by simp) (by simp) (by simp) (by simp) (by simp) (by simp) (by simp)) (AObj.zero_ok ⟨7, sp, nm⟩)).callX (enters_of Tryz.func86 rfl rfl) _ rfl rfl ?_
        rintro d rfl
        simp (maxSteps := 5000000) only [go_sem, contS_seq, simprocAttr, go_sem]
        simp only [retK, resD, St.get, lk, oneD, D.pub, D.pubs, retL, reduceIte, Nat.reduceEqDiff, Nat.reduceAdd, Nat.reduceLeDiff, Tryz.results52]
        exact ⟨_, rfl, rfl, congrArg bln (go _ hs (by rw [hkm]; exact h1)).symm⟩
      · simp only [retK, resD, St.get, lk, oneD, D.pub, D.pubs, retL, reduceIte, Nat.reduceEqDiff, Nat.reduceAdd, Nat.reduceLeDiff, Tryz.results52]
        exact ⟨_, rfl, rfl, congrArg bln (stop (by rw [hkm]; exact h1)).symm⟩
  · have hm' : mayRef o.ref = false := by simpa using hm
    simp (maxSteps := 5000000) only [go_sem, contS_seq, simprocAttr, go_sem, hm']
    simp only [retK, resD, St.get, lk, oneD, D.pub, D.pubs, retL, reduceIte, Nat.reduceEqDiff, Nat.reduceAdd, Nat.reduceLeDiff, Tryz.results52]
    exact ⟨_, rfl, rfl, congrArg bln (by simp [objMay, hm'])⟩

end Go.Proofs.YtklolokoaooppaaGreatDoor



namespace Go.Proofs.YtklolokoaooppaaGreatDoor
open Go

def ac_zrkgf : AC := (sr [oo 2 (.box 23 (tp 0)),oo 4 (.alloc 23 [.pd (.raw (.int .i64 0)),.pd (.raw (.string ⟨#[]⟩)),.pd (.raw (.string ⟨#[]⟩))])] [1,2,4] (.seq (sr [fi 5 1 2,lq 6 5,oo 7 (.bin .eql (tp 6) (.const (.string ⟨#[]⟩))),mq 8 7,og 8 true 9 (.fieldA 0 (tp 2)),og 8 true 10 (.load none (tp 9)),og 8 true 11 (.bin .neq (tp 10) (ci 1)),oo 12 (.pick (tp 8) (tp 11) (cq false)),mq 13 12,og 13 true 14 (.fieldA 0 (tp 2)),og 13 true 15 (.load none (tp 14)),og 13 true 16 (.bin .neq (tp 15) (ci 2)),oo 17 (.pick (tp 13) (tp 16) (cq false))] [1,2,4,17] (.cond (tp 17) (.region [mq 18 1,fi 19 1 2,.mk none none (.store 1 (tp 19) (tp 18))] (some [2,4])) .skip)) (sr [oo 20 (.load (some 3) (tp 2)),.mk none none (.store 3 (tp 4) (tp 20))] [4] .ret)))
def an_zrkgf : Ann := ann (List.range 4) ac_zrkgf
theorem ok_zrkgf : okd Tryz.prog an_zrkgf ac_zrkgf Tryz.f20 := ⟨by kernel_rfl, by kernel_rfl⟩
theorem ret_zrkgf (st : St) : resD Tryz.prog st Tryz.f20.results.toList = resA st [.cell 4 (some 3)] := resD_of (by kernel_rfl)

def ac_zn42u : AC := (sr [oo 1 (.box 23 (tp 0)),oo 2 (.alloc 23 [.pd (.raw (.int .i64 0)),.pd (.raw (.string ⟨#[]⟩)),.pd (.raw (.string ⟨#[]⟩))])] [1,2] (.seq (.draw [fi 3 0 1,lq 4 3,fi 5 1 1,lq 6 5,oo 7 (.call 10 [tp 6]),fi 8 2 1,lq 9 8,oo 10 (.call 10 [tp 9]),oo 11 (.build [.pd (.raw (.int .i64 0)),.pd (.raw (.string ⟨#[]⟩)),.pd (.raw (.string ⟨#[]⟩))] [(0,1,tp 4),(1,1,tp 7),(2,1,tp 10)]),.mk none none (.store 3 (tp 2) (tp 11))] [0,1,0,4,12,0,32,124,255,511] (.take 0 (.take 1 (.take 2 (.take 3 (.take 5 (.take 6 (.alts (.cons 4 false (.alts (.cons 7 false (.take 8 (.alts (.cons 9 true .done .nil))) .nil)) .nil)))))))) (some [2])) .ret))
def an_zn42u : Ann := ann (List.range 2) ac_zn42u
theorem ok_zn42u : okd Tryz.prog an_zn42u ac_zn42u Tryz.f9 := ⟨by kernel_rfl, by kernel_rfl⟩
theorem ret_zn42u (st : St) : resD Tryz.prog st Tryz.f9.results.toList = resA st [.cell 2 (some 3)] := resD_of (by kernel_rfl)

def ac_zba9k : AC := (sr [oo 2 (.mv (.const (.string ⟨#[]⟩)))] [0] (.seq (sr [mq 3 0,oo 4 (.len (tp 3) true),oo 5 (.bin .gtr (tp 4) (ci 100))] [0,5] (.cond (tp 5) (sr [mq 6 0,oo 7 (.slcS (tp 6) none (some (ci 100))),mq 2 7] [2] .ret) .skip)) (sr [mq 8 0,mq 2 8] [2] .ret)))
def an_zba9k : Ann := ann (List.range 4) ac_zba9k
theorem ok_zba9k : okd Tryz.prog an_zba9k ac_zba9k Tryz.f10 := ⟨by kernel_rfl, by kernel_rfl⟩

end Go.Proofs.YtklolokoaooppaaGreatDoor


namespace Go.Proofs.YtklolokoaooppaaGreatDoor
open Go Go.RowKit
set_option linter.unusedSimpArgs false
set_option linter.unusedVariables false
set_option maxRecDepth 100000

def few (s : ByteArray) : ByteArray := if s.size ≤ 100 then s else s.extract 0 100

set_option maxRecDepth 100000 in
theorem law1_Few (s : ByteArray) : Pure Tryz.prog 10 [str s] (fun d => d = str (few s)) := by
  refine pure_of_run follows an_zba9k Tryz.func10 rfl ok_zba9k.1 ok_zba9k.2 (by simp [Tryz.ntmps10]) ?_
  rw [run_start]
  by_cases h : 100 < s.size
  · have h1 : (100 : Int) < (s.size : Int) := by omega
    have h2 : 100 ≤ s.size := by omega
    simp only [ac_zba9k, oo, og, tp, ci, cq, mq, lq, fi, sr, go_sem, contS_seq, simprocAttr, h1, h2]
    simp only [retK, resD, St.get, lk, oneD, D.pub, D.pubs, retL, reduceIte, Nat.reduceEqDiff, Nat.reduceAdd, Nat.reduceLeDiff, Tryz.results10]
    exact ⟨_, rfl, rfl, by simp [few, show ¬ s.size ≤ 100 by omega, D.pub]⟩
  · have h1 : ¬ (100 : Int) < (s.size : Int) := by omega
    simp only [ac_zba9k, oo, og, tp, ci, cq, mq, lq, fi, sr, go_sem, contS_seq, simprocAttr, h1]
    simp only [retK, resD, St.get, lk, oneD, D.pub, D.pubs, retL, reduceIte, Nat.reduceEqDiff, Nat.reduceAdd, Nat.reduceLeDiff, Tryz.results10]
    exact ⟨_, rfl, rfl, by simp [few, show s.size ≤ 100 by omega, D.pub]⟩

def fewRef (r : ARef) : ARef := ⟨r.kind, few r.space, few r.name⟩

set_option maxRecDepth 100000 in
theorem law9_FewRef (r : ARef) : Pure Tryz.prog 9 [r.d] (fun d => d = (fewRef r).d) := by
  refine pure_of_run follows an_zn42u Tryz.func9 rfl ok_zn42u.1 ok_zn42u.2 (by simp [Tryz.ntmps9]) ?_
  rw [run_start]
  simp only [ac_zn42u, oo, og, tp, ci, cq, mq, lq, fi, sr, go_sem, contS_seq, simprocAttr, go_sem]
  refine (law1_Few r.space).callX (enters_of Tryz.func10 rfl rfl) _ rfl rfl ?_
  rintro d rfl
  simp only [go_sem, contS_seq, simprocAttr, go_sem]
  refine (law1_Few r.name).callX (enters_of Tryz.func10 rfl rfl) _ rfl rfl ?_
  rintro d rfl
  simp only [go_sem, contS_seq, simprocAttr, go_sem]
  simp only [retK, resD, resA, AOp.ex, St.ev, St.get, lk, oneD, D.pub, D.pubs, retL, reduceIte, Nat.reduceEqDiff, Nat.reduceAdd, Nat.reduceLeDiff, ret_zn42u]
  exact ⟨_, rfl, rfl, rfl⟩

end Go.Proofs.YtklolokoaooppaaGreatDoor



namespace Go.Proofs.YtklolokoaooppaaGreatDoor
open Go

def ac_zyx20 : AC := (sr [oo 1 (.box 84 (tp 0)),oo 2 (.alloc 84 [.pd (.raw (.int .i64 0)),.pd (.raw (.string ⟨#[]⟩))])] [1,2] (sr [fi 3 1 1,lq 4 3,oo 5 (.call 10 [tp 4]),fi 6 1 1,.mk none none (.store 1 (tp 6) (tp 5))] [1,2] (sr [oo 7 (.load (some 2) (tp 1)),.mk none none (.store 2 (tp 2) (tp 7))] [2] .ret)))
def an_zyx20 : Ann := ann (List.range 3) ac_zyx20
theorem ok_zyx20 : okd Tryz.prog an_zyx20 ac_zyx20 Tryz.f78 := ⟨by kernel_rfl, by kernel_rfl⟩
theorem ret_zyx20 (st : St) : resD Tryz.prog st Tryz.f78.results.toList = resA st [.cell 2 (some 2)] := resD_of (by kernel_rfl)

def ac_ztgmw : AC := (sr [oo 2 (.mv (.const (.slice none 0 0)))] [0] (sr [oo 3 (.mv (.const (.slice none 0 0)))] [0,3] (.seq (sr [oo 4 (.mv (ci 0))] [0,3,4] (.block 0 (.loop (.seq (sr [mq 5 4,mq 6 0,oo 7 (.len (tp 6) false),oo 8 (.bin .lss (tp 5) (tp 7)),mq 9 8,og 9 true 10 (.mv (tp 4)),og 9 true 11 (.bin .lss (tp 10) (ci 31)),oo 12 (.pick (tp 9) (tp 11) (cq false))] [0,3,4,12] (.cond (tp 12) .skip (.exit 0))) (.seq (.block 1 (.draw [mq 15 3,mq 16 0,mq 17 4,oo 18 (.idxA 2 (tp 16) (tp 17)),fi 19 0 18,lq 20 19,oo 21 (.call 10 [tp 20]),mq 22 0,mq 23 4,oo 24 (.idxA 2 (tp 22) (tp 23)),fi 25 1 24,lq 26 25,oo 27 (.call 10 [tp 26]),oo 28 (.build [.pd (.raw (.string ⟨#[]⟩)),.pd (.raw (.string ⟨#[]⟩))] [(0,1,tp 21),(1,1,tp 27)]),oo 29 (.bslice 122 2 [tp 28]),oo 30 (.append 122 2 32 (tp 15) (tp 29)),mq 3 30] [0,0,0,6,14,30,62,0,0,384,896,1920,4094,8190,16382,32767,65535] (.take 0 (.take 1 (.take 2 (.take 3 (.take 4 (.take 5 (.take 7 (.take 8 (.take 9 (.take 10 (.take 11 (.alts (.cons 6 false (.alts (.cons 12 false (.take 13 (.alts (.cons 14 false (.alts (.cons 15 true (.take 16 .done) .nil)) .nil))) .nil)) .nil))))))))))))) (some [0,3,4]))) (.region [mq 13 4,oo 14 (.bin .add (tp 13) (ci 1)),mq 4 14] (some [0,3,4]))))))) (sr [mq 31 3,mq 2 31] [2] .ret))))
def an_ztgmw : Ann := ann [0,1,2,3,5,4,6] ac_ztgmw
theorem ok_ztgmw : okd Tryz.prog an_ztgmw ac_ztgmw Tryz.f45 := ⟨by kernel_rfl, by kernel_rfl⟩

def ac_zt3fs : AC := (sr [oo 1 (.box 86 (tp 0)),oo 2 (.alloc 86 [.pd (.raw (.int .i64 0)),.pd (.raw (.string ⟨#[]⟩)),.pd (.raw (.string ⟨#[]⟩)),.nils,.nils])] [1,2] (.seq (.draw [fi 3 0 1,oo 4 (.load (some 2) (tp 3)),oo 5 (.call 78 [tp 4]),fi 6 2 1,lq 7 6,oo 8 (.call 10 [tp 7]),fi 9 3 1,lq 10 9,oo 11 (.call 45 [tp 10]),fi 12 4 1,lq 13 12,oo 14 (.call 45 [tp 13]),oo 15 (.build [.pd (.raw (.int .i64 0)),.pd (.raw (.string ⟨#[]⟩)),.pd (.raw (.string ⟨#[]⟩)),.nils,.nils] [(0,2,tp 5),(2,1,tp 8),(3,1,tp 11),(4,1,tp 14)]),.mk none none (.store 5 (tp 2) (tp 15))] [0,1,3,0,8,31,0,64,255,0,512,2047,4095,8191] (.take 0 (.take 1 (.take 3 (.take 4 (.take 6 (.take 7 (.take 9 (.take 10 (.alts (.cons 2 false (.alts (.cons 5 false (.alts (.cons 8 false (.alts (.cons 11 true (.take 12 (.alts (.cons 13 true .done .nil))) .nil)) .nil)) .nil)) .nil)))))))))) (some [2])) .ret))
def an_zt3fs : Ann := ann (List.range 2) ac_zt3fs
theorem ok_zt3fs : okd Tryz.prog an_zt3fs ac_zt3fs Tryz.f49 := ⟨by kernel_rfl, by kernel_rfl⟩
theorem ret_zt3fs (st : St) : resD Tryz.prog st Tryz.f49.results.toList = resA st [.cell 2 (some 5)] := resD_of (by kernel_rfl)

def ac_z9moo : AC := (sr [oo 2 (.mv (.const (.slice none 0 0)))] [0] (sr [oo 3 (.mv (.const (.slice none 0 0)))] [0,3] (.seq (sr [oo 4 (.mv (ci 0))] [0,3,4] (.block 0 (.loop (.seq (sr [mq 6 4,mq 7 0,oo 8 (.len (tp 7) false),oo 9 (.bin .lss (tp 6) (tp 8)),mq 10 9,og 10 true 11 (.mv (tp 4)),og 10 true 12 (.bin .lss (tp 11) (ci 9)),oo 13 (.pick (tp 10) (tp 12) (cq false))] [0,3,4,13] (.cond (tp 13) .skip (.exit 0))) (.seq (.block 1 (sr [mq 16 0,mq 17 4,oo 18 (.idxA 8 (tp 16) (tp 17)),oo 19 (.load (some 8) (tp 18)),oo 5 (.alloc 126 [.pd (.raw (.int .i64 0)),.pd (.raw (.string ⟨#[]⟩)),.pd (.raw (.string ⟨#[]⟩)),.pd (.raw (.string ⟨#[]⟩)),.pd (.raw (.int .i64 0)),.pd (.raw (.string ⟨#[]⟩)),.pd (.raw (.bool false)),.pd (.raw (.int .i64 0))]),.mk none none (.store 8 (tp 5) (tp 19))] [0,3,4,5] (.seq (.draw [fi 20 1 5,lq 21 20,oo 22 (.call 10 [tp 21]),fi 23 2 5,lq 24 23,oo 25 (.call 10 [tp 24]),fi 26 3 5,lq 27 26,oo 28 (.call 10 [tp 27]),fi 29 5 5,lq 30 29,oo 31 (.call 10 [tp 30]),fi 32 1 5,.mk none none (.store 1 (tp 32) (tp 22)),fi 33 2 5,.mk none none (.store 1 (tp 33) (tp 25)),fi 34 3 5,.mk none none (.store 1 (tp 34) (tp 28)),fi 35 5 5,.mk none none (.store 1 (tp 35) (tp 31))] [0,1,3,0,8,31,0,64,255,0,512,2047,1759,8191,16383,32767,65535,131071,262143,524287] (.take 0 (.take 1 (.take 3 (.take 4 (.take 6 (.take 7 (.take 9 (.take 10 (.alts (.cons 2 false (.take 12 (.alts (.cons 5 false (.alts (.cons 8 false (.alts (.cons 11 false (.alts (.cons 13 true (.take 14 (.alts (.cons 15 true (.take 16 (.alts (.cons 17 true (.take 18 (.alts (.cons 19 true .done .nil))) .nil))) .nil))) .nil)) .nil)) .nil)) .nil))) .nil)))))))))) (some [0,3,4,5])) (.region [mq 36 3,oo 37 (.load (some 8) (tp 5)),oo 38 (.bslice 126 8 [tp 37]),oo 39 (.append 126 8 96 (tp 36) (tp 38)),mq 3 39] (some [0,3,4]))))) (.region [mq 14 4,oo 15 (.bin .add (tp 14) (ci 1)),mq 4 15] (some [0,3,4]))))))) (sr [mq 40 3,mq 2 40] [2] .ret))))
def an_z9moo : Ann := ann [0,1,2,3,5,6,4,7,8] ac_z9moo
theorem ok_z9moo : okd Tryz.prog an_z9moo ac_z9moo Tryz.f48 := ⟨by kernel_rfl, by kernel_rfl⟩

def ac_zpih5 : AC := (sr [oo 2 (.mv (.const (.slice none 0 0)))] [0] (sr [oo 3 (.mv (.const (.slice none 0 0)))] [0,3] (.seq (sr [oo 4 (.mv (ci 0))] [0,3,4] (.block 0 (.loop (.seq (sr [mq 7 4,mq 8 0,oo 9 (.len (tp 8) false),oo 10 (.bin .lss (tp 7) (tp 9)),mq 11 10,og 11 true 12 (.mv (tp 4)),og 11 true 13 (.bin .lss (tp 12) (ci 9)),oo 14 (.pick (tp 11) (tp 13) (cq false))] [0,3,4,14] (.cond (tp 14) .skip (.exit 0))) (.seq (.block 1 (.seq (.draw [mq 17 0,mq 18 4,oo 19 (.idxA 3 (tp 17) (tp 18)),fi 20 0 19,lq 21 20,mq 22 0,mq 23 4,oo 24 (.idxA 3 (tp 22) (tp 23)),fi 25 1 24,lq 26 25,oo 27 (.call 10 [tp 26]),oo 28 (.build [.pd (.raw (.int .i64 0)),.pd (.raw (.string ⟨#[]⟩)),.nils] [(0,1,tp 21),(1,1,tp 27)]),oo 5 (.alloc 124 [.pd (.raw (.int .i64 0)),.pd (.raw (.string ⟨#[]⟩)),.nils]),.mk none none (.store 3 (tp 5) (tp 28))] [0,0,3,7,15,0,0,96,224,480,992,2047,0,8191] (.take 0 (.take 1 (.take 2 (.take 3 (.take 4 (.take 5 (.take 6 (.take 7 (.take 8 (.take 9 (.alts (.cons 10 false (.take 11 (.alts (.cons 12 false (.alts (.cons 13 true .done .nil)) .nil))) (.cons 12 false (.alts (.cons 10 false (.take 11 (.alts (.cons 13 true .done .nil))) .nil)) .nil))))))))))))) (some [0,3,4,5])) (.seq (sr [oo 6 (.mv (ci 0))] [0,3,4,5,6] (.block 2 (.loop (.seq (sr [mq 29 6,mq 30 0,mq 31 4,oo 32 (.idxA 3 (tp 30) (tp 31)),fi 33 2 32,lq 34 33,oo 35 (.len (tp 34) false),oo 36 (.bin .lss (tp 29) (tp 35)),mq 37 36,og 37 true 38 (.mv (tp 6)),og 37 true 39 (.bin .lss (tp 38) (ci 9)),oo 40 (.pick (tp 37) (tp 39) (cq false))] [0,3,4,5,6,40] (.cond (tp 40) .skip (.exit 2))) (.seq (.block 3 (.draw [fi 43 2 5,lq 44 43,mq 45 0,mq 46 4,oo 47 (.idxA 3 (tp 45) (tp 46)),fi 48 2 47,lq 49 48,mq 50 6,oo 51 (.idxA 1 (tp 49) (tp 50)),lq 52 51,oo 53 (.call 10 [tp 52]),oo 54 (.bslice 9 1 [tp 53]),oo 55 (.append 9 1 16 (tp 44) (tp 54)),fi 56 2 5,.mk none none (.store 1 (tp 56) (tp 55))] [0,1,0,0,12,28,60,0,252,508,1020,2044,4095,8191,16383] (.take 0 (.take 1 (.take 2 (.take 3 (.take 4 (.take 5 (.take 6 (.take 7 (.take 8 (.take 9 (.alts (.cons 10 false (.alts (.cons 11 false (.alts (.cons 12 true (.take 13 (.alts (.cons 14 true .done .nil))) .nil)) .nil)) .nil)))))))))))) (some [0,3,4,5,6]))) (.region [mq 41 6,oo 42 (.bin .add (tp 41) (ci 1)),mq 6 42] (some [0,3,4,5,6]))))))) (.region [mq 57 3,oo 58 (.load (some 3) (tp 5)),oo 59 (.bslice 124 3 [tp 58]),oo 60 (.append 124 3 48 (tp 57) (tp 59)),mq 3 60] (some [0,3,4]))))) (.region [mq 15 4,oo 16 (.bin .add (tp 15) (ci 1)),mq 4 16] (some [0,3,4]))))))) (sr [mq 61 3,mq 2 61] [2] .ret))))
def an_zpih5 : Ann := ann [0,1,2,3,5,6,7,9,8,4,10,11] ac_zpih5
theorem ok_zpih5 : okd Tryz.prog an_zpih5 ac_zpih5 Tryz.f47 := ⟨by kernel_rfl, by kernel_rfl⟩

def ac_zg0x2 : AC := (sr [oo 2 (.mv (.const (.slice none 0 0)))] [0] (sr [oo 3 (.mv (.const (.slice none 0 0)))] [0,3] (.seq (sr [oo 4 (.mv (ci 0))] [0,3,4] (.block 0 (.loop (.seq (sr [mq 5 4,mq 6 0,oo 7 (.len (tp 6) false),oo 8 (.bin .lss (tp 5) (tp 7)),mq 9 8,og 9 true 10 (.mv (tp 4)),og 9 true 11 (.bin .lss (tp 10) (ci 5)),oo 12 (.pick (tp 9) (tp 11) (cq false))] [0,3,4,12] (.cond (tp 12) .skip (.exit 0))) (.seq (.block 1 (.draw [mq 15 3,mq 16 0,mq 17 4,oo 18 (.idxA 3 (tp 16) (tp 17)),fi 19 0 18,lq 20 19,mq 21 0,mq 22 4,oo 23 (.idxA 3 (tp 21) (tp 22)),fi 24 1 23,lq 25 24,oo 26 (.call 10 [tp 25]),mq 27 0,mq 28 4,oo 29 (.idxA 3 (tp 27) (tp 28)),fi 30 2 29,lq 31 30,oo 32 (.call 10 [tp 31]),oo 33 (.build [.pd (.raw (.int .i64 0)),.pd (.raw (.string ⟨#[]⟩)),.pd (.raw (.string ⟨#[]⟩))] [(0,1,tp 20),(1,1,tp 26),(2,1,tp 32)]),oo 34 (.bslice 41 3 [tp 33]),oo 35 (.append 41 3 40 (tp 15) (tp 34)),mq 3 35] [0,0,0,6,14,30,0,0,192,448,960,1984,0,0,12288,28672,61440,131008,262142,524286,1048575,2097151] (.take 0 (.take 1 (.take 2 (.take 3 (.take 4 (.take 5 (.take 6 (.take 7 (.take 8 (.take 9 (.take 10 (.take 12 (.take 13 (.take 14 (.take 15 (.take 16 (.alts (.cons 11 false (.alts (.cons 17 false (.take 18 (.alts (.cons 19 false (.alts (.cons 20 true (.take 21 .done) .nil)) .nil))) .nil)) .nil)))))))))))))))))) (some [0,3,4]))) (.region [mq 13 4,oo 14 (.bin .add (tp 13) (ci 1)),mq 4 14] (some [0,3,4]))))))) (sr [mq 36 3,mq 2 36] [2] .ret))))
def an_zg0x2 : Ann := ann [0,1,2,3,5,4,6] ac_zg0x2
theorem ok_zg0x2 : okd Tryz.prog an_zg0x2 ac_zg0x2 Tryz.f46 := ⟨by kernel_rfl, by kernel_rfl⟩

def ac_z8s55 : AC := (sr [oo 1 (.box 32 (tp 0)),oo 2 (.alloc 32 [.pd (.raw (.int .i64 0)),.pd (.raw (.string ⟨#[]⟩)),.pd (.raw (.string ⟨#[]⟩)),.pd (.raw (.bool false)),.nils,.nils,.pd (.raw (.string ⟨#[]⟩)),.nils,.nils,.nils,.nils,.nils,.nils])] [1,2] (.seq (.draw [fi 15 0 1,oo 16 (.load (some 3) (tp 15)),oo 17 (.call 9 [tp 16]),fi 18 3 1,lq 19 18,fi 20 4 1,lq 21 20,oo 22 (.call 45 [tp 21]),fi 23 6 1,lq 24 23,oo 25 (.call 10 [tp 24]),fi 26 11 1,lq 27 26,oo 28 (.call 46 [tp 27]),fi 29 12 1,lq 30 29,oo 31 (.call 46 [tp 30]),oo 32 (.build [.pd (.raw (.int .i64 0)),.pd (.raw (.string ⟨#[]⟩)),.pd (.raw (.string ⟨#[]⟩)),.pd (.raw (.bool false)),.nils,.nils,.pd (.raw (.string ⟨#[]⟩)),.nils,.nils,.nils,.nils,.nils,.nils] [(0,3,tp 17),(3,1,tp 19),(4,1,tp 22),(6,1,tp 25),(11,1,tp 28),(12,1,tp 31)]),oo 3 (.alloc 32 [.pd (.raw (.int .i64 0)),.pd (.raw (.string ⟨#[]⟩)),.pd (.raw (.string ⟨#[]⟩)),.pd (.raw (.bool false)),.nils,.nils,.pd (.raw (.string ⟨#[]⟩)),.nils,.nils,.nils,.nils,.nils,.nils]),.mk none none (.store 13 (tp 3) (tp 32))] [0,1,3,0,8,0,32,103,0,256,999,0,2048,8167,0,16384,65511,131071,0,524287] (.take 0 (.take 1 (.take 3 (.take 4 (.take 5 (.take 6 (.take 8 (.take 9 (.take 11 (.take 12 (.take 14 (.take 15 (.alts (.cons 2 false (.alts (.cons 7 false (.alts (.cons 10 false (.alts (.cons 13 false (.alts (.cons 16 false (.take 17 (.alts (.cons 18 false (.alts (.cons 19 true .done .nil)) .nil))) (.cons 18 false (.alts (.cons 16 false (.take 17 (.alts (.cons 19 true .done .nil))) .nil)) .nil))) (.cons 18 false (.alts (.cons 13 false (.alts (.cons 16 false (.take 17 (.alts (.cons 19 true .done .nil))) .nil)) .nil)) .nil))) (.cons 18 false (.alts (.cons 10 false (.alts (.cons 13 false (.alts (.cons 16 false (.take 17 (.alts (.cons 19 true .done .nil))) .nil)) .nil)) .nil)) .nil))) (.cons 18 false (.alts (.cons 7 false (.alts (.cons 10 false (.alts (.cons 13 false (.alts (.cons 16 false (.take 17 (.alts (.cons 19 true .done .nil))) .nil)) .nil)) .nil)) .nil)) .nil))) (.cons 18 false (.alts (.cons 2 false (.alts (.cons 7 false (.alts (.cons 10 false (.alts (.cons 13 false (.alts (.cons 16 false (.take 17 (.alts (.cons 19 true .done .nil))) .nil)) .nil)) .nil)) .nil)) .nil)) .nil))))))))))))))) (some [1,2,3])) (.seq (sr [oo 4 (.mv (ci 0))] [1,2,3,4] (.block 0 (.loop (.seq (sr [mq 33 4,fi 34 5 1,lq 35 34,oo 36 (.len (tp 35) false),oo 37 (.bin .lss (tp 33) (tp 36)),mq 38 37,og 38 true 39 (.mv (tp 4)),og 38 true 40 (.bin .lss (tp 39) (ci 9)),oo 41 (.pick (tp 38) (tp 40) (cq false))] [1,2,3,4,41] (.cond (tp 41) .skip (.exit 0))) (.seq (.block 1 (.draw [fi 44 5 3,lq 45 44,fi 46 5 1,lq 47 46,mq 48 4,oo 49 (.idxA 1 (tp 47) (tp 48)),lq 50 49,oo 51 (.bslice 3 1 [tp 50]),oo 52 (.append 3 1 8 (tp 45) (tp 51)),fi 53 5 3,.mk none none (.store 1 (tp 53) (tp 52))] [0,1,0,4,0,28,60,124,255,511,1023] (.take 0 (.take 1 (.take 2 (.take 3 (.take 4 (.take 5 (.take 6 (.alts (.cons 7 false (.alts (.cons 8 true (.take 9 (.alts (.cons 10 true .done .nil))) .nil)) .nil))))))))) (some [1,2,3,4]))) (.region [mq 42 4,oo 43 (.bin .add (tp 42) (ci 1)),mq 4 43] (some [1,2,3,4]))))))) (.seq (sr [oo 5 (.mv (ci 0))] [1,2,3,5] (.block 2 (.loop (.seq (sr [mq 54 5,fi 55 7 1,lq 56 55,oo 57 (.len (tp 56) false),oo 58 (.bin .lss (tp 54) (tp 57)),mq 59 58,og 59 true 60 (.mv (tp 5)),og 59 true 61 (.bin .lss (tp 60) (ci 9)),oo 62 (.pick (tp 59) (tp 61) (cq false))] [1,2,3,5,62] (.cond (tp 62) .skip (.exit 2))) (.seq (.block 3 (sr [fi 65 7 1,lq 66 65,mq 67 5,oo 68 (.idxA 9 (tp 66) (tp 67)),oo 69 (.load (some 9) (tp 68)),oo 6 (.alloc 78 [.pd (.raw (.string ⟨#[]⟩)),.pd (.raw (.int .i64 0)),.pd (.raw (.bool false)),.pd (.raw (.string ⟨#[]⟩)),.pd (.raw (.int .i64 0)),.pd (.raw (.string ⟨#[]⟩)),.pd (.raw (.string ⟨#[]⟩)),.pd (.raw (.int .i64 0)),.nils]),.mk none none (.store 9 (tp 6) (tp 69))] [1,2,3,5,6] (.draw [fi 70 7 3,lq 71 70,fi 72 0 6,lq 73 72,oo 74 (.call 10 [tp 73]),fi 75 1 6,lq 76 75,fi 77 2 6,lq 78 77,fi 79 3 6,lq 80 79,oo 81 (.call 10 [tp 80]),fi 82 4 6,oo 83 (.load (some 3) (tp 82)),oo 84 (.call 9 [tp 83]),fi 85 7 6,lq 86 85,fi 87 8 6,lq 88 87,oo 89 (.call 47 [tp 88]),oo 90 (.build [.pd (.raw (.string ⟨#[]⟩)),.pd (.raw (.int .i64 0)),.pd (.raw (.bool false)),.pd (.raw (.string ⟨#[]⟩)),.pd (.raw (.int .i64 0)),.pd (.raw (.string ⟨#[]⟩)),.pd (.raw (.string ⟨#[]⟩)),.pd (.raw (.int .i64 0)),.nils] [(0,1,tp 74),(1,1,tp 76),(2,1,tp 78),(3,1,tp 81),(4,3,tp 84),(7,1,tp 86),(8,1,tp 89)]),oo 91 (.bslice 78 9 [tp 90]),oo 92 (.append 78 9 120 (tp 71) (tp 91)),fi 93 7 3,.mk none none (.store 1 (tp 93) (tp 92))] [0,1,0,4,12,0,32,0,128,0,512,1564,0,4096,15900,0,32768,0,131072,425500,1048572,2097148,4194303,8388607,16777215] (.take 0 (.take 1 (.take 2 (.take 3 (.take 5 (.take 6 (.take 7 (.take 8 (.take 9 (.take 10 (.take 12 (.take 13 (.take 15 (.take 16 (.take 17 (.take 18 (.alts (.cons 4 false (.alts (.cons 11 false (.alts (.cons 14 false (.alts (.cons 19 false (.take 20 (.alts (.cons 21 false (.alts (.cons 22 true (.take 23 (.alts (.cons 24 true .done .nil))) .nil)) .nil))) .nil)) .nil)) .nil)) .nil)))))))))))))))))) (some [1,2,3,5])))) (.region [mq 63 5,oo 64 (.bin .add (tp 63) (ci 1)),mq 5 64] (some [1,2,3,5]))))))) (.seq (sr [oo 7 (.mv (ci 0))] [1,2,3,7] (.block 4 (.loop (.seq (sr [mq 94 7,fi 95 8 1,lq 96 95,oo 97 (.len (tp 96) false),oo 98 (.bin .lss (tp 94) (tp 97)),mq 99 98,og 99 true 100 (.mv (tp 7)),og 99 true 101 (.bin .lss (tp 100) (ci 5)),oo 102 (.pick (tp 99) (tp 101) (cq false))] [1,2,3,7,102] (.cond (tp 102) .skip (.exit 4))) (.seq (.block 5 (sr [fi 105 8 1,lq 106 105,mq 107 7,oo 108 (.idxA 4 (tp 106) (tp 107)),oo 109 (.load (some 4) (tp 108)),oo 8 (.alloc 81 [.pd (.raw (.string ⟨#[]⟩)),.pd (.raw (.string ⟨#[]⟩)),.pd (.raw (.string ⟨#[]⟩)),.pd (.raw (.int .i64 0))]),.mk none none (.store 4 (tp 8) (tp 109))] [1,2,3,7,8] (.draw [fi 110 8 3,lq 111 110,fi 112 0 8,lq 113 112,oo 114 (.call 10 [tp 113]),fi 115 1 8,lq 116 115,oo 117 (.call 10 [tp 116]),fi 118 2 8,lq 119 118,oo 120 (.call 10 [tp 119]),fi 121 3 8,lq 122 121,oo 123 (.build [.pd (.raw (.string ⟨#[]⟩)),.pd (.raw (.string ⟨#[]⟩)),.pd (.raw (.string ⟨#[]⟩)),.pd (.raw (.int .i64 0))] [(0,1,tp 114),(1,1,tp 117),(2,1,tp 120),(3,1,tp 122)]),oo 124 (.bslice 81 4 [tp 123]),oo 125 (.append 81 4 56 (tp 111) (tp 124)),fi 126 8 3,.mk none none (.store 1 (tp 126) (tp 125))] [0,1,0,4,12,0,32,124,0,256,1020,0,2048,8188,16380,32767,65535,131071] (.take 0 (.take 1 (.take 2 (.take 3 (.take 5 (.take 6 (.take 8 (.take 9 (.take 11 (.take 12 (.alts (.cons 4 false (.alts (.cons 7 false (.alts (.cons 10 false (.take 13 (.alts (.cons 14 false (.alts (.cons 15 true (.take 16 (.alts (.cons 17 true .done .nil))) .nil)) .nil))) .nil)) .nil)) .nil)))))))))))) (some [1,2,3,7])))) (.region [mq 103 7,oo 104 (.bin .add (tp 103) (ci 1)),mq 7 104] (some [1,2,3,7]))))))) (.seq (sr [oo 9 (.mv (ci 0))] [1,2,3,9] (.block 6 (.loop (.seq (sr [mq 127 9,fi 128 9 1,lq 129 128,oo 130 (.len (tp 129) false),oo 131 (.bin .lss (tp 127) (tp 130)),mq 132 131,og 132 true 133 (.mv (tp 9)),og 132 true 134 (.bin .lss (tp 133) (ci 5)),oo 135 (.pick (tp 132) (tp 134) (cq false))] [1,2,3,9,135] (.cond (tp 135) .skip (.exit 6))) (.seq (.block 7 (.draw [fi 138 9 3,lq 139 138,fi 140 9 1,lq 141 140,mq 142 9,oo 143 (.idxA 1 (tp 141) (tp 142)),lq 144 143,oo 145 (.call 10 [tp 144]),oo 146 (.bslice 9 1 [tp 145]),oo 147 (.append 9 1 16 (tp 139) (tp 146)),fi 148 9 3,.mk none none (.store 1 (tp 148) (tp 147))] [0,1,0,4,0,28,60,124,252,511,1023,2047] (.take 0 (.take 1 (.take 2 (.take 3 (.take 4 (.take 5 (.take 6 (.alts (.cons 7 false (.alts (.cons 8 false (.alts (.cons 9 true (.take 10 (.alts (.cons 11 true .done .nil))) .nil)) .nil)) .nil))))))))) (some [1,2,3,9]))) (.region [mq 136 9,oo 137 (.bin .add (tp 136) (ci 1)),mq 9 137] (some [1,2,3,9]))))))) (.seq (sr [oo 10 (.mv (ci 0))] [1,2,3,10] (.block 8 (.loop (.seq (sr [mq 149 10,fi 150 10 1,lq 151 150,oo 152 (.len (tp 151) false),oo 153 (.bin .lss (tp 149) (tp 152)),mq 154 153,og 154 true 155 (.mv (tp 10)),og 154 true 156 (.bin .lss (tp 155) (ci 7)),oo 157 (.pick (tp 154) (tp 156) (cq false))] [1,2,3,10,157] (.cond (tp 157) .skip (.exit 8))) (.seq (.block 9 (sr [fi 160 10 1,lq 161 160,mq 162 10,oo 163 (.idxA 3 (tp 161) (tp 162)),fi 164 1 163,lq 165 164,oo 166 (.call 48 [tp 165]),oo 167 (.build [.nils,.nils,.nils] [(1,1,tp 166)]),oo 11 (.alloc 66 [.nils,.nils,.nils]),.mk none none (.store 3 (tp 11) (tp 167))] [1,2,3,10,11] (.seq (sr [oo 12 (.mv (ci 0))] [1,2,3,10,11,12] (.block 10 (.loop (.seq (sr [mq 168 12,fi 169 10 1,lq 170 169,mq 171 10,oo 172 (.idxA 3 (tp 170) (tp 171)),fi 173 0 172,lq 174 173,oo 175 (.len (tp 174) false),oo 176 (.bin .lss (tp 168) (tp 175)),mq 177 176,og 177 true 178 (.mv (tp 12)),og 177 true 179 (.bin .lss (tp 178) (ci 5)),oo 180 (.pick (tp 177) (tp 179) (cq false))] [1,2,3,10,11,12,180] (.cond (tp 180) .skip (.exit 10))) (.seq (.block 11 (.draw [fi 183 0 11,lq 184 183,fi 185 10 1,lq 186 185,mq 187 10,oo 188 (.idxA 3 (tp 186) (tp 187)),fi 189 0 188,lq 190 189,mq 191 12,oo 192 (.idxA 5 (tp 190) (tp 191)),oo 193 (.load (some 5) (tp 192)),oo 194 (.call 49 [tp 193]),oo 195 (.bslice 86 5 [tp 194]),oo 196 (.append 86 5 88 (tp 184) (tp 195)),fi 197 0 11,.mk none none (.store 1 (tp 197) (tp 196))] [0,1,0,4,0,28,60,124,0,508,1020,2044,4092,8191,16383,32767] (.take 0 (.take 1 (.take 2 (.take 3 (.take 4 (.take 5 (.take 6 (.take 7 (.take 8 (.take 9 (.take 10 (.alts (.cons 11 false (.alts (.cons 12 false (.alts (.cons 13 true (.take 14 (.alts (.cons 15 true .done .nil))) .nil)) .nil)) .nil))))))))))))) (some [1,2,3,10,11,12]))) (.region [mq 181 12,oo 182 (.bin .add (tp 181) (ci 1)),mq 12 182] (some [1,2,3,10,11,12]))))))) (.seq (sr [oo 13 (.mv (ci 0))] [1,2,3,10,11,13] (.block 12 (.loop (.seq (sr [mq 198 13,fi 199 10 1,lq 200 199,mq 201 10,oo 202 (.idxA 3 (tp 200) (tp 201)),fi 203 2 202,lq 204 203,oo 205 (.len (tp 204) false),oo 206 (.bin .lss (tp 198) (tp 205)),mq 207 206,og 207 true 208 (.mv (tp 13)),og 207 true 209 (.bin .lss (tp 208) (ci 5)),oo 210 (.pick (tp 207) (tp 209) (cq false))] [1,2,3,10,11,13,210] (.cond (tp 210) .skip (.exit 12))) (.seq (.block 13 (sr [fi 213 10 1,lq 214 213,mq 215 10,oo 216 (.idxA 3 (tp 214) (tp 215)),fi 217 2 216,lq 218 217,mq 219 13,oo 220 (.idxA 5 (tp 218) (tp 219)),oo 221 (.load (some 5) (tp 220)),oo 14 (.alloc 68 [.pd (.raw (.int .i64 0)),.pd (.raw (.string ⟨#[]⟩)),.pd (.raw (.string ⟨#[]⟩)),.pd (.raw (.int .i64 0)),.pd (.raw (.int .i64 0))]),.mk none none (.store 5 (tp 14) (tp 221))] [1,2,3,10,11,13,14] (.draw [fi 222 2 11,lq 223 222,fi 224 0 14,oo 225 (.load (some 3) (tp 224)),oo 226 (.call 9 [tp 225]),fi 227 3 14,lq 228 227,fi 229 4 14,lq 230 229,oo 231 (.build [.pd (.raw (.int .i64 0)),.pd (.raw (.string ⟨#[]⟩)),.pd (.raw (.string ⟨#[]⟩)),.pd (.raw (.int .i64 0)),.pd (.raw (.int .i64 0))] [(0,3,tp 226),(3,1,tp 228),(4,1,tp 230)]),oo 232 (.bslice 68 5 [tp 231]),oo 233 (.append 68 5 56 (tp 223) (tp 232)),fi 234 2 11,.mk none none (.store 1 (tp 234) (tp 233))] [0,1,0,4,12,0,32,0,128,508,1020,2047,4095,8191] (.take 0 (.take 1 (.take 2 (.take 3 (.take 5 (.take 6 (.take 7 (.take 8 (.alts (.cons 4 false (.take 9 (.alts (.cons 10 false (.alts (.cons 11 true (.take 12 (.alts (.cons 13 true .done .nil))) .nil)) .nil))) .nil)))))))))) (some [1,2,3,10,11,13])))) (.region [mq 211 13,oo 212 (.bin .add (tp 211) (ci 1)),mq 13 212] (some [1,2,3,10,11,13]))))))) (.region [fi 235 10 3,lq 236 235,oo 237 (.load (some 3) (tp 11)),oo 238 (.bslice 66 3 [tp 237]),oo 239 (.append 66 3 72 (tp 236) (tp 238)),fi 240 10 3,.mk none none (.store 1 (tp 240) (tp 239))] (some [1,2,3,10])))))) (.region [mq 158 10,oo 159 (.bin .add (tp 158) (ci 1)),mq 10 159] (some [1,2,3,10]))))))) (sr [oo 241 (.load (some 13) (tp 3)),.mk none none (.store 13 (tp 2) (tp 241))] [2] .ret))))))))
def an_z8s55 : Ann := ann [0,1,2,3,5,4,6,7,9,10,8,11,12,14,15,13,16,17,19,18,20,21,23,24,25,27,26,28,29,31,32,30,22,33,34] ac_z8s55
theorem ok_z8s55 : okd Tryz.prog an_z8s55 ac_z8s55 Tryz.f8 := ⟨by kernel_rfl, by kernel_rfl⟩
theorem ret_z8s55 (st : St) : resD Tryz.prog st Tryz.f8.results.toList = resA st [.cell 2 (some 13)] := resD_of (by kernel_rfl)

def ac_zh218 : AC := (sr [oo 2 (.mv (.const (.slice none 0 0)))] [0] (sr [oo 3 (.mv (.const (.slice none 0 0)))] [0,3] (.seq (sr [oo 4 (.mv (ci 0))] [0,3,4] (.block 0 (.loop (.seq (sr [mq 5 4,mq 6 0,oo 7 (.len (tp 6) false),oo 8 (.bin .lss (tp 5) (tp 7)),mq 9 8,og 9 true 10 (.mv (tp 4)),og 9 true 11 (.bin .lss (tp 10) (ci 24)),oo 12 (.pick (tp 9) (tp 11) (cq false))] [0,3,4,12] (.cond (tp 12) .skip (.exit 0))) (.seq (.block 1 (.region [mq 15 3,mq 16 0,mq 17 4,oo 18 (.idxA 13 (tp 16) (tp 17)),oo 19 (.load (some 13) (tp 18)),oo 20 (.call 8 [tp 19]),oo 21 (.bslice 32 13 [tp 20]),oo 22 (.append 32 13 256 (tp 15) (tp 21)),mq 3 22] (some [0,3,4]))) (.region [mq 13 4,oo 14 (.bin .add (tp 13) (ci 1)),mq 4 14] (some [0,3,4]))))))) (sr [mq 23 3,mq 2 23] [2] .ret))))
def an_zh218 : Ann := ann (List.range 7) ac_zh218
theorem ok_zh218 : okd Tryz.prog an_zh218 ac_zh218 Tryz.f26 := ⟨by kernel_rfl, by kernel_rfl⟩

end Go.Proofs.YtklolokoaooppaaGreatDoor


namespace Go.Proofs.YtklolokoaooppaaGreatDoor
open Go Go.RowKit
set_option linter.unusedSimpArgs false
set_option linter.unusedVariables false
set_option maxRecDepth 100000

theorem Reps.tell {g : Gh} {w : World} {d : D} : ∀ {ds : List D} {vs : List Value} (_ : Reps g w ds vs) (i : Nat) (_ : ∀ v, vs[i]? = some v → Rep g w d v), Reps g w (ds.set i d) vs
  | [], _, h, _, _ => by simpa using h
  | e :: ds, _, h, i, hd => by
    simp only [Reps] at h
    obtain ⟨v, vs', rfl, hv, hs⟩ := h
    cases i with
    | zero => exact ⟨v, vs', rfl, hd v rfl, hs⟩
    | succ i => exact ⟨v, vs', rfl, hv, Reps.tell hs i (fun u hu => hd u (by simpa using hu))⟩

theorem SR.tellB {C : Ctx} {st : St} {g : Gh} {a : Act} {w : World} (h : SR C st g a w) {n : Nat} {ds ds' : List D} (hn : lk st.bs n = some ds) (hd : ∀ vs, Reps g w ds vs → Reps g w ds' vs) : SR C { st with bs := (n, ds') :: st.bs } g a w := by
  have m := h.mem
  refine ⟨h.defers, h.size, h.rep, { m with bxs := fun k es hk => ?_ }, h.x, h.fix⟩
  simp only [lk] at hk
  split at hk
  · rename_i hkn
    subst hkn
    cases hk
    obtain ⟨b, cs, t, h1, h2, h3⟩ := m.bxs _ ds hn
    exact ⟨b, cs, t, h1, h2, hd _ h3⟩
  · exact m.bxs k es hk

theorem purges_at : ∀ (t : Nat) (ds : List D) (i : Nat), ds[i]? = some .nils → (D.purges t ds)[i]? = some .nils
  | _, [], _, h => by simp at h
  | t, d :: ds, 0, h => by
    simp only [List.getElem?_cons_zero, Option.some.injEq] at h
    subst h
    simp [D.purges, D.purge]
  | t, d :: ds, i + 1, h => by
    simp only [List.getElem?_cons_succ] at h
    simpa [D.purges] using purges_at t ds i h

theorem lk_purge {st : St} {t n : Nat} {ds : List D} (h : lk st.bs n = some ds) : lk (st.purge t).bs n = some (D.purges t ds) := by
  simp only [St.purge]
  rw [lk_map (fun ds => D.purges t ds) st.bs n, h]; rfl

theorem Weak.ownB0 {P : Program} {st : St} (n i t : Nat) (e : TypeId) {ti : TypeInfo} (hi : P.info? e = some ti) (hpos : 0 < ti.size) {ds : List D} (h : lk st.bs n = some ds) (hn : ds[i]? = some .nils) :
    Weak P st { st.purge t with bs := (n, (D.purges t ds).set i (.own e ti.size [] t)) :: (st.purge t).bs } := by
  intro C g a w hP hs
  subst hP
  have h1 := hs.purge t
  obtain ⟨h2, _⟩ := SR.owned h1 t (by simp) (grownBy_same w none) _ h1.x (fun k e => by cases e) (fun _ h => h) (fun k e => by cases e) e ti hi hpos (.slice none 0 0) 0 [] (World.ownsRow_nil _ _ _ _) (fun b hb => by cases hb) (fun b o _ hb => by cases hb)
  refine ⟨_, h2.tellB (lk_purge h) fun vs hv => ?_⟩
  refine hv.tell i fun v hvi => ?_
  obtain ⟨u, hu, hr⟩ := hv.get i _ (purges_at t ds i hn)
  rw [hvi] at hu
  cases hu
  simp only [Rep] at hr
  rw [hr]
  simp only [Rep]
  exact ⟨.empty _ _, by simp, by simp⟩

theorem Weak.ownB {P : Program} {st st' : St} (n i t : Nat) (e : TypeId) (sz : Nat) (hi : (P.info? e).map (·.size) = some sz) (hpos : 0 < sz) {ds : List D} (h : lk st.bs n = some ds) (hn : ds[i]? = some .nils)
    (hf : lessL st'.fr (st.purge t).fr) (hb : lessL st'.bs ((n, (D.purges t ds).set i (.own e sz [] t)) :: (st.purge t).bs)) (hm : lessL st'.ms st.ms) (hh : st'.hs = st.hs) : Weak P st st' := by
  obtain ⟨ti, h1, rfl⟩ := Option.map_eq_some_iff.1 hi
  exact (Weak.ownB0 n i t e h1 hpos h hn).trans (Weak.less hf hb hm hh)

theorem run_cut {P : Program} {x y : AC} {st s1 : St} {S : List Fr} {K : Exit → St → Prop} (h1 : ∀ K' : Exit → St → Prop, K' .normal s1 → run P x st (contS P [] K')) (h2 : run P y s1 (contS P S K)) : run P (.seq x y) st (contS P S K) := by
  rw [run_seq]; exact h1 (contS P (.seq y :: S) K) h2

theorem few_size (s : ByteArray) : (few s).size ≤ 100 := by
  unfold few
  split
  · assumption
  · simp [ByteArray.size_extract]; omega

theorem law3_Few (k : Int) (v : ByteArray) : Pure Tryz.prog 78 [.agg [int k, str v]] (fun d => d = .agg [int k, str (few v)]) := by
  refine pure_of_run follows an_zyx20 Tryz.func78 rfl ok_zyx20.1 ok_zyx20.2 (by simp [Tryz.ntmps78]) ?_
  rw [run_start]
  simp only [ac_zyx20, oo, og, tp, ci, cq, mq, lq, fi, sr, go_sem, contS_seq, simprocAttr]
  refine (law1_Few v).callW (enters_of Tryz.func10 rfl rfl) _ rfl rfl ?_
  rintro d rfl
  simp only [go_sem, contS_seq, simprocAttr]
  simp only [retK, resD, resA, AOp.ex, St.ev, St.get, lk, oneD, D.pub, D.pubs, retL, reduceIte, Nat.reduceEqDiff, Nat.reduceAdd, Nat.reduceLeDiff, ret_zyx20]
  exact ⟨_, rfl, rfl, rfl⟩

def fewPair (p : APair) : APair := ⟨few p.name, few p.val⟩
def fewPairs (l : List APair) : List APair := (l.take 31).map fewPair

theorem fewPair_ok (p : APair) : (fewPair p).ok := ⟨by have := few_size p.name; simp [fewPair]; omega, by have := few_size p.val; simp [fewPair]; omega⟩

theorem few_step {α β : Type} {f : β → List PD} {g : α → β} {l : List α} {i : Nat} {x : α} (h : l[i]? = some x) : rows f ((l.take i).map g) ++ [f (g x)] = rows f ((l.take (i + 1)).map g) := by
  rw [take_at h, List.map_append]; exact rows_one _ (g x)

theorem few_len {α β : Type} {f : β → List PD} {g : α → β} {l : List α} {i n : Nat} (h : i ≤ n) : (rows f ((l.take i).map g)).length ≤ n := by simp [rows]; omega

theorem few_end {α β : Type} {g : α → β} {l : List α} {i n : Nat} (h : i ≤ n) (hl : i ≤ l.length) (he : ¬ (i < l.length ∧ i < n)) : (l.take i).map g = (l.take n).map g := by
  rcases Nat.lt_or_ge i n with h6 | h6
  · rw [List.take_of_length_le (by omega), List.take_of_length_le (by omega)]
  · rw [show i = n by omega]

theorem law5_Few (l : List APair) : Pure Tryz.prog 45 [.pd (.slice (rows APair.pd l))] (fun d => d = .pd (.slice (rows APair.pd (fewPairs l)))) := by
  refine pure_of_run follows an_ztgmw Tryz.func45 rfl ok_ztgmw.1 ok_ztgmw.2 (by simp [Tryz.ntmps45]) ?_
  rw [run_start]
  simp only [ac_ztgmw, oo, og, tp, ci, cq, mq, lq, fi, sr, go_sem, contS_seq, simprocAttr, rows_len]
  refine loopS (fun k st => ∃ i : Nat, k = 31 - i ∧ i ≤ 31 ∧ i ≤ l.length ∧
    st = ⟨[(0, .pd (.slice (rows APair.pd l))), (3, .own 122 2 (rows APair.pd ((l.take i).map fewPair)) 30), (4, int i)], [], [], .no⟩) 31 _
    ?_ ⟨0, rfl, by omega, by omega, rfl⟩ ?_
  · exact Weak.own1 3 30 122 2 (by kernel_rfl) (by decide) rfl (by simp [lessL, lk, St.purge, St.put, D.purge, rows]) (by simp [lessL, lk, St.purge, D.purges, D.purge]) (by simp [lessL]) rfl
  rintro k st ⟨i, rfl, hi6, hi, rfl⟩
  have hw := i64_succ (show i < 1000000000 by omega)
  by_cases hlt : i < l.length ∧ i < 31
  · obtain ⟨x, hx⟩ := at_lt hlt.1
    have h1 : ((i : Int) < (l.length : Int)) = True := eq_true (by omega)
    have h2 : ((i : Int) < 31) = True := eq_true (by omega)
    simp only [go_sem, contS_seq, simprocAttr, go_sem, rows_len, rows_get hx, h1, h2]
    refine (law1_Few x.name).callX (enters_of Tryz.func10 rfl rfl) _ rfl rfl ?_
    rintro d rfl
    simp only [go_sem, contS_seq, simprocAttr, go_sem, rows_len, rows_get hx]
    refine (law1_Few x.val).callX (enters_of Tryz.func10 rfl rfl) _ rfl rfl ?_
    rintro d rfl
    simp only [go_sem, contS_seq, simprocAttr, go_sem, hw]
    have hl := few_len (f := APair.pd) (g := fewPair) (l := l) hi6
    have e1 : rows APair.pd ((l.take i).map fewPair) ++ [[PD.raw (Value.string (few x.name)), PD.raw (Value.string (few x.val))]] = rows APair.pd ((l.take (i + 1)).map fewPair) := few_step hx
    rw [e1]
    refine ⟨by simp, by unfold maxLen; omega, by omega, 31 - (i + 1), _, by omega, ?_, i + 1, rfl, by omega, by omega, rfl⟩
    exact lessA
  · have h3 := few_end (g := fewPair) hi6 hi hlt
    rw [h3]
    by_cases h1 : i < l.length
    · have h1' : ((i : Int) < (l.length : Int)) = True := eq_true (by omega)
      have h2 : ((i : Int) < 31) = False := eq_false (by omega)
      simp only [go_sem, contS_seq, simprocAttr, go_sem, rows_len, h1', h2]
      simp only [retK, resD, St.get, lk, oneD, D.pub, D.pubs, retL, reduceIte, Nat.reduceEqDiff, Nat.reduceAdd, Nat.reduceLeDiff, Tryz.results45]
      exact ⟨_, rfl, rfl, rfl⟩
    · have h1' : ((i : Int) < (l.length : Int)) = False := eq_false (by omega)
      simp only [go_sem, contS_seq, simprocAttr, go_sem, rows_len, h1']
      simp only [retK, resD, St.get, lk, oneD, D.pub, D.pubs, retL, reduceIte, Nat.reduceEqDiff, Nat.reduceAdd, Nat.reduceLeDiff, Tryz.results45]
      exact ⟨_, rfl, rfl, rfl⟩

def fewFilter (f : AFilter) : AFilter := { f with name := few f.name, val := few f.val, host := few f.host, path := few f.path }
def fewFilters (l : List AFilter) : List AFilter := (l.take 9).map fewFilter
def fewSide (s : ASide) : ASide := ⟨s.kind, few s.space, few s.name⟩
def fewSides (l : List ASide) : List ASide := (l.take 5).map fewSide

theorem law7_Few (l : List AFilter) : Pure Tryz.prog 48 [.pd (.slice (rows AFilter.pd l))] (fun d => d = .pd (.slice (rows AFilter.pd (fewFilters l)))) := by
  refine pure_of_run follows an_z9moo Tryz.func48 rfl ok_z9moo.1 ok_z9moo.2 (by simp [Tryz.ntmps48]) ?_
  rw [run_start]
  simp only [ac_z9moo, oo, og, tp, ci, cq, mq, lq, fi, sr, go_sem, contS_seq, simprocAttr, rows_len]
  refine loopS (fun k st => ∃ i : Nat, k = 9 - i ∧ i ≤ 9 ∧ i ≤ l.length ∧
    st = ⟨[(0, .pd (.slice (rows AFilter.pd l))), (3, .own 126 8 (rows AFilter.pd ((l.take i).map fewFilter)) 39), (4, int i)], [], [], .no⟩) 9 _
    ?_ ⟨0, rfl, by omega, by omega, rfl⟩ ?_
  · exact Weak.own1 3 39 126 8 (by kernel_rfl) (by decide) rfl (by simp [lessL, lk, St.purge, St.put, D.purge, rows]) (by simp [lessL, lk, St.purge, D.purges, D.purge]) (by simp [lessL]) rfl
  rintro k st ⟨i, rfl, hi6, hi, rfl⟩
  have hw := i64_succ (show i < 1000000000 by omega)
  by_cases hlt : i < l.length ∧ i < 9
  · obtain ⟨x, hx⟩ := at_lt hlt.1
    have h1 : ((i : Int) < (l.length : Int)) = True := eq_true (by omega)
    have h2 : ((i : Int) < 9) = True := eq_true (by omega)
    simp only [go_sem, contS_seq, simprocAttr, rows_len, rows_get hx, h1, h2]
    refine (law1_Few x.name).callX (enters_of Tryz.func10 rfl rfl) _ rfl rfl ?_
    rintro d rfl
    simp only [go_sem, contS_seq, simprocAttr, rows_len, rows_get hx]
    refine (law1_Few x.val).callX (enters_of Tryz.func10 rfl rfl) _ rfl rfl ?_
    rintro d rfl
    simp only [go_sem, contS_seq, simprocAttr, rows_len, rows_get hx]
    refine (law1_Few x.host).callX (enters_of Tryz.func10 rfl rfl) _ rfl rfl ?_
    rintro d rfl
    simp only [go_sem, contS_seq, simprocAttr, rows_len, rows_get hx]
    refine (law1_Few x.path).callX (enters_of Tryz.func10 rfl rfl) _ rfl rfl ?_
    rintro d rfl
    simp only [go_sem, contS_seq, simprocAttr, rows_len, rows_get hx, hw]
    have hl := few_len (f := AFilter.pd) (g := fewFilter) (l := l) hi6
    have hl' : ((l.take i).map fewFilter).length ≤ i := by simp; omega
    have e1 : rows AFilter.pd ((l.take i).map fewFilter) ++ [[PD.raw (Value.int IntKind.i64 x.kind), PD.raw (Value.string (few x.name)), PD.raw (Value.string (few x.val)), PD.raw (Value.string (few x.host)), PD.raw (Value.int IntKind.i64 x.port), PD.raw (Value.string (few x.path)), PD.raw (Value.bool x.whole), PD.raw (Value.int IntKind.i64 x.code)]] = rows AFilter.pd ((l.take (i + 1)).map fewFilter) := few_step hx
    rw [e1]
    refine ⟨by simp, by unfold maxLen; omega, by omega, 9 - (i + 1), _, by omega, ?_, i + 1, rfl, by omega, by omega, rfl⟩
    exact lessA
  · have h3 := few_end (g := fewFilter) hi6 hi hlt
    rw [h3]
    by_cases h1 : i < l.length
    · have h1' : ((i : Int) < (l.length : Int)) = True := eq_true (by omega)
      have h2 : ((i : Int) < 9) = False := eq_false (by omega)
      simp only [go_sem, contS_seq, simprocAttr, rows_len, h1', h2]
      simp only [retK, resD, St.get, lk, oneD, D.pub, D.pubs, retL, reduceIte, Nat.reduceEqDiff, Nat.reduceAdd, Nat.reduceLeDiff, Tryz.results48]
      exact ⟨_, rfl, rfl, rfl⟩
    · have h1' : ((i : Int) < (l.length : Int)) = False := eq_false (by omega)
      simp only [go_sem, contS_seq, simprocAttr, rows_len, h1']
      simp only [retK, resD, St.get, lk, oneD, D.pub, D.pubs, retL, reduceIte, Nat.reduceEqDiff, Nat.reduceAdd, Nat.reduceLeDiff, Tryz.results48]
      exact ⟨_, rfl, rfl, rfl⟩

theorem law9_sides (l : List ASide) : Pure Tryz.prog 46 [.pd (.slice (rows ASide.pd l))] (fun d => d = .pd (.slice (rows ASide.pd (fewSides l)))) := by
  refine pure_of_run follows an_zg0x2 Tryz.func46 rfl ok_zg0x2.1 ok_zg0x2.2 (by simp [Tryz.ntmps46]) ?_
  rw [run_start]
  simp only [ac_zg0x2, oo, og, tp, ci, cq, mq, lq, fi, sr, go_sem, contS_seq, simprocAttr, rows_len]
  refine loopS (fun k st => ∃ i : Nat, k = 5 - i ∧ i ≤ 5 ∧ i ≤ l.length ∧
    st = ⟨[(0, .pd (.slice (rows ASide.pd l))), (3, .own 41 3 (rows ASide.pd ((l.take i).map fewSide)) 35), (4, int i)], [], [], .no⟩) 5 _
    ?_ ⟨0, rfl, by omega, by omega, rfl⟩ ?_
  · exact Weak.own1 3 35 41 3 (by kernel_rfl) (by decide) rfl (by simp [lessL, lk, St.purge, St.put, D.purge, rows]) (by simp [lessL, lk, St.purge, D.purges, D.purge]) (by simp [lessL]) rfl
  rintro k st ⟨i, rfl, hi6, hi, rfl⟩
  have hw := i64_succ (show i < 1000000000 by omega)
  by_cases hlt : i < l.length ∧ i < 5
  · obtain ⟨x, hx⟩ := at_lt hlt.1
    have h1 : ((i : Int) < (l.length : Int)) = True := eq_true (by omega)
    have h2 : ((i : Int) < 5) = True := eq_true (by omega)
    simp only [go_sem, contS_seq, simprocAttr, rows_len, rows_get hx, h1, h2]
    refine (law1_Few x.space).callX (enters_of Tryz.func10 rfl rfl) _ rfl rfl ?_
    rintro d rfl
    simp only [go_sem, contS_seq, simprocAttr, rows_len, rows_get hx]
    refine (law1_Few x.name).callX (enters_of Tryz.func10 rfl rfl) _ rfl rfl ?_
    rintro d rfl
    simp only [go_sem, contS_seq, simprocAttr, rows_len, rows_get hx, hw]
    have hl := few_len (f := ASide.pd) (g := fewSide) (l := l) hi6
    have hl' : ((l.take i).map fewSide).length ≤ i := by simp; omega
    have e1 : rows ASide.pd ((l.take i).map fewSide) ++ [[PD.raw (Value.int IntKind.i64 x.kind), PD.raw (Value.string (few x.space)), PD.raw (Value.string (few x.name))]] = rows ASide.pd ((l.take (i + 1)).map fewSide) := few_step hx
    rw [e1]
    refine ⟨by simp, by unfold maxLen; omega, by omega, 5 - (i + 1), _, by omega, ?_, i + 1, rfl, by omega, by omega, rfl⟩
    exact lessA
  · have h3 := few_end (g := fewSide) hi6 hi hlt
    rw [h3]
    by_cases h1 : i < l.length
    · have h1' : ((i : Int) < (l.length : Int)) = True := eq_true (by omega)
      have h2 : ((i : Int) < 5) = False := eq_false (by omega)
      simp only [go_sem, contS_seq, simprocAttr, rows_len, h1', h2]
      simp only [retK, resD, St.get, lk, oneD, D.pub, D.pubs, retL, reduceIte, Nat.reduceEqDiff, Nat.reduceAdd, Nat.reduceLeDiff, Tryz.results46]
      exact ⟨_, rfl, rfl, rfl⟩
    · have h1' : ((i : Int) < (l.length : Int)) = False := eq_false (by omega)
      simp only [go_sem, contS_seq, simprocAttr, rows_len, h1']
      simp only [retK, resD, St.get, lk, oneD, D.pub, D.pubs, retL, reduceIte, Nat.reduceEqDiff, Nat.reduceAdd, Nat.reduceLeDiff, Tryz.results46]
      exact ⟨_, rfl, rfl, rfl⟩

def fewMatch (m : AMatch) : AMatch := ⟨m.pkind, few m.pval, few m.method, fewPairs m.head, fewPairs m.query⟩

theorem law6_Few (m : AMatch) : Pure Tryz.prog 49 [m.d] (fun d => d = (fewMatch m).d) := by
  refine pure_of_run follows an_zt3fs Tryz.func49 rfl ok_zt3fs.1 ok_zt3fs.2 (by simp [Tryz.ntmps49]) ?_
  rw [run_start]
  simp only [ac_zt3fs, oo, og, tp, ci, cq, mq, lq, fi, sr, go_sem, contS_seq, simprocAttr]
  refine (law3_Few m.pkind m.pval).callX (enters_of Tryz.func78 rfl rfl) _ rfl rfl ?_
  rintro d rfl
  simp only [go_sem, contS_seq, simprocAttr]
  refine (law1_Few m.method).callX (enters_of Tryz.func10 rfl rfl) _ rfl rfl ?_
  rintro d rfl
  simp only [go_sem, contS_seq, simprocAttr]
  refine (law5_Few m.head).callX (enters_of Tryz.func45 rfl rfl) _ rfl rfl ?_
  rintro d rfl
  simp only [go_sem, contS_seq, simprocAttr]
  refine (law5_Few m.query).callX (enters_of Tryz.func45 rfl rfl) _ rfl rfl ?_
  rintro d rfl
  simp only [go_sem, contS_seq, simprocAttr]
  simp only [retK, resD, resA, AOp.ex, St.ev, St.get, lk, oneD, D.pub, D.pubs, retL, reduceIte, Nat.reduceEqDiff, Nat.reduceAdd, Nat.reduceLeDiff, ret_zt3fs]
  exact ⟨_, rfl, rfl, rfl⟩

def fewNeed (n : ANeed) : ANeed := ⟨n.kind, few n.name, (n.vals.take 9).map few⟩
def fewNeeds (l : List ANeed) : List ANeed := (l.take 9).map fewNeed

theorem law8_Few (l : List ANeed) : Pure Tryz.prog 47 [.pd (.slice (rows ANeed.pd l))] (fun d => d = .pd (.slice (rows ANeed.pd (fewNeeds l)))) := by
  refine pure_of_run follows an_zpih5 Tryz.func47 rfl ok_zpih5.1 ok_zpih5.2 (by simp [Tryz.ntmps47]) ?_
  rw [run_start]
  simp only [ac_zpih5, oo, og, tp, ci, cq, mq, lq, fi, sr, go_sem, contS_seq, simprocAttr, rows_len]
  refine loopS (fun k st => ∃ i : Nat, k = 9 - i ∧ i ≤ 9 ∧ i ≤ l.length ∧
    st = ⟨[(0, .pd (.slice (rows ANeed.pd l))), (3, .own 124 3 (rows ANeed.pd ((l.take i).map fewNeed)) 60), (4, int i)], [], [], .no⟩) 9 _
    ?_ ⟨0, rfl, by omega, by omega, rfl⟩ ?_
  · exact Weak.own1 3 60 124 3 (by kernel_rfl) (by decide) rfl (by simp [lessL, lk, St.purge, St.put, D.purge, rows]) (by simp [lessL, lk, St.purge, D.purges, D.purge]) (by simp [lessL]) rfl
  rintro k st ⟨i, rfl, hi6, hi, rfl⟩
  have hw := i64_succ (show i < 1000000000 by omega)
  by_cases hlt : i < l.length ∧ i < 9
  · obtain ⟨x, hx⟩ := at_lt hlt.1
    have h1 : ((i : Int) < (l.length : Int)) = True := eq_true (by omega)
    have h2 : ((i : Int) < 9) = True := eq_true (by omega)
    apply run_cut
    · intro K' hK
      simp only [go_sem, contS_seq, simprocAttr, rows_len, h1, h2]
      exact hK
    apply run_cut
    · intro K' hK
      rw [run_block]
      apply run_cut
      · intro K'' hK'
        simp only [go_sem, contS_seq, simprocAttr, rows_len, rows_get hx]
        repeat' (first | exact hK' | (refine (law1_Few x.name).callX (enters_of Tryz.func10 rfl rfl) _ rfl rfl ?_; rintro _ rfl; simp only [go_sem, contS_seq, simprocAttr, rows_len, rows_get hx]) | refine And.intro ?_ ?_)
      simp only [go_sem, contS_seq, simprocAttr]
      refine loopS (fun k st => ∃ j : Nat, k = 9 - j ∧ j ≤ 9 ∧ j ≤ x.vals.length ∧
        st = ⟨[(0, .pd (.slice (rows ANeed.pd l))), (3, .own 124 3 (rows ANeed.pd ((l.take i).map fewNeed)) 60), (4, int i), (5, .ptr 5 0), (6, int j)],
          [(5, [int x.kind, str (few x.name), .own 9 1 (strs ((x.vals.take j).map few)) 55])], [], .no⟩) 9 _
        ?_ ⟨0, rfl, by omega, by omega, rfl⟩ ?_
      · exact Weak.ownB 5 2 55 9 1 (by kernel_rfl) (by decide) rfl rfl (by simp [lessL, lk, St.purge, D.purge, rows]) (by simp [lessL, lk, St.purge, D.purges, D.purge, rows]) (by simp [lessL]) rfl
      rintro k st ⟨j, rfl, hj6, hj, rfl⟩
      have hwj := i64_succ (show j < 1000000000 by omega)
      by_cases hltj : j < x.vals.length ∧ j < 9
      · obtain ⟨v, hv⟩ := at_lt hltj.1
        have h1' : ((j : Int) < (x.vals.length : Int)) = True := eq_true (by omega)
        have h2' : ((j : Int) < 9) = True := eq_true (by omega)
        simp only [go_sem, contS_seq, simprocAttr, rows_len, rows_get hx, rows_get hv, h1', h2']
        refine (law1_Few v).callX (enters_of Tryz.func10 rfl rfl) _ rfl rfl ?_
        rintro d rfl
        simp only [go_sem, contS_seq, simprocAttr, rows_get hx, rows_get hv, hwj]
        have e1 : strs ((x.vals.take j).map few) ++ [[PD.raw (Value.string (few v))]] = strs ((x.vals.take (j + 1)).map few) := few_step hv
        have hl : (strs ((x.vals.take j).map few)).length ≤ 9 := few_len hj6
        rw [e1]
        refine ⟨by simp, by unfold maxLen; omega, by omega, 9 - (j + 1), _, by omega, ?_, j + 1, rfl, by omega, by omega, rfl⟩
        exact lessA
      · have h3 := few_end (g := few) hj6 hj hltj
        rw [h3]
        have hl' : ((l.take i).map fewNeed).length ≤ i := by simp; omega
        have e1 : rows ANeed.pd ((l.take i).map fewNeed) ++ [[pInt x.kind, pStr (few x.name), .slice (strs ((x.vals.take 9).map few))]] = rows ANeed.pd ((l.take (i + 1)).map fewNeed) := few_step hx
        by_cases h1 : j < x.vals.length
        · have h1' : ((j : Int) < (x.vals.length : Int)) = True := eq_true (by omega)
          have h2' : ((j : Int) < 9) = False := eq_false (by omega)
          simp only [go_sem, contS_seq, simprocAttr, rows_get hx, rows_len, h1', h2']
          refine ⟨by simp, by unfold maxLen; omega, by omega, ?_⟩
          rw [e1]
          exact hK
        · have h1' : ((j : Int) < (x.vals.length : Int)) = False := eq_false (by omega)
          simp only [go_sem, contS_seq, simprocAttr, rows_get hx, rows_len, h1']
          refine ⟨by simp, by unfold maxLen; omega, by omega, ?_⟩
          rw [e1]
          exact hK
    simp only [go_sem, contS_seq, simprocAttr, hw]
    refine ⟨9 - (i + 1), _, by omega, ?_, i + 1, rfl, by omega, by omega, rfl⟩
    exact lessA
  · have h3 := few_end (g := fewNeed) hi6 hi hlt
    rw [h3]
    by_cases h1 : i < l.length
    · have h1' : ((i : Int) < (l.length : Int)) = True := eq_true (by omega)
      have h2 : ((i : Int) < 9) = False := eq_false (by omega)
      simp only [go_sem, contS_seq, simprocAttr, rows_len, h1', h2]
      simp only [retK, resD, St.get, lk, oneD, D.pub, D.pubs, retL, reduceIte, Nat.reduceEqDiff, Nat.reduceAdd, Nat.reduceLeDiff, Tryz.results47]
      exact ⟨_, rfl, rfl, rfl⟩
    · have h1' : ((i : Int) < (l.length : Int)) = False := eq_false (by omega)
      simp only [go_sem, contS_seq, simprocAttr, rows_len, h1']
      simp only [retK, resD, St.get, lk, oneD, D.pub, D.pubs, retL, reduceIte, Nat.reduceEqDiff, Nat.reduceAdd, Nat.reduceLeDiff, Tryz.results47]
      exact ⟨_, rfl, rfl, rfl⟩


theorem run_cutJ {P : Program} {x y : AC} {st : St} {S : List Fr} {K : Exit → St → Prop} (J : St → Prop) (h1 : ∀ K' : Exit → St → Prop, (∀ s, J s → K' .normal s) → run P x st (contS P [] K')) (h2 : ∀ s, J s → run P y s (contS P S K)) : run P (.seq x y) st (contS P S K) := by
  rw [run_seq]; exact h1 (contS P (.seq y :: S) K) h2

def fewListener (l : AListener) : AListener := ⟨few l.name, l.port, l.tls, few l.host, fewRef l.cert, l.from_, fewNeeds l.needs⟩
def fewParent (p : AParent) : AParent := ⟨few p.space, few p.name, few p.section_, p.port⟩
def fewBackend (b : ABackend) : ABackend := ⟨fewRef b.ref, b.port, b.weight⟩
def fewRule (r : ARule) : ARule := ⟨(r.matches_.take 5).map fewMatch, fewFilters r.filters, (r.backends.take 5).map fewBackend⟩
def fewObj (o : AObj) : AObj := ⟨fewRef o.ref, o.good, fewPairs o.labels, o.ports.take 9, few o.cls, (o.listeners.take 9).map fewListener, (o.parents.take 5).map fewParent, (o.hosts.take 5).map few, (o.rules.take 7).map fewRule, fewSides o.from_, fewSides o.to_⟩

set_option maxHeartbeats 4000000 in
theorem law9_Few (o : AObj) : Pure Tryz.prog 8 [o.d] (fun d => d = (fewObj o).d) := by
  refine pure_of_run follows an_z8s55 Tryz.func8 rfl ok_z8s55.1 ok_z8s55.2 (by simp [Tryz.ntmps8]) ?_
  rw [run_start]
  simp only [ac_z8s55, oo, og, tp, ci, cq, mq, lq, fi, sr]
  apply run_cut
  · intro K' hK
    simp only [go_sem, contS_seq, simprocAttr]
    exact hK
  apply run_cut
  · intro K' hK
    simp only [go_sem, contS_seq, simprocAttr]
    repeat' (first | exact hK | (refine (law9_FewRef o.ref).callX (enters_of Tryz.func9 rfl rfl) _ rfl rfl ?_; rintro _ rfl; simp only [go_sem, contS_seq, simprocAttr]) | (refine (law5_Few o.labels).callX (enters_of Tryz.func45 rfl rfl) _ rfl rfl ?_; rintro _ rfl; simp only [go_sem, contS_seq, simprocAttr]) | (refine (law1_Few o.cls).callX (enters_of Tryz.func10 rfl rfl) _ rfl rfl ?_; rintro _ rfl; simp only [go_sem, contS_seq, simprocAttr]) | (refine (law9_sides o.from_).callX (enters_of Tryz.func46 rfl rfl) _ rfl rfl ?_; rintro _ rfl; simp only [go_sem, contS_seq, simprocAttr]) | (refine (law9_sides o.to_).callX (enters_of Tryz.func46 rfl rfl) _ rfl rfl ?_; rintro _ rfl; simp only [go_sem, contS_seq, simprocAttr]) | refine And.intro ?_ ?_)
  refine run_cutJ (fun s => ∃ i : Nat, s = ⟨[(41, bln false), (1, .ptr 1 0), (2, .ptr 2 0), (3, .ptr 3 0), (4, int i), (41, bln false)], [(1, [int o.ref.kind, str o.ref.space, str o.ref.name, bln o.good, .pd (.slice (rows APair.pd o.labels)), .pd (.slice (ints o.ports)), str o.cls, .pd (.slice (rows AListener.pd o.listeners)), .pd (.slice (rows AParent.pd o.parents)), .pd (.slice (strs o.hosts)), .pd (.slice (rows ARule.pd o.rules)), .pd (.slice (rows ASide.pd o.from_)), .pd (.slice (rows ASide.pd o.to_))]), (2, [int 0, str ⟨#[]⟩, str ⟨#[]⟩, bln false, .nils, .nils, str ⟨#[]⟩, .nils, .nils, .nils, .nils, .nils, .nils]), (3, [int (fewRef o.ref).kind, str (fewRef o.ref).space, str (fewRef o.ref).name, bln o.good, .pd (.slice (rows APair.pd (fewPairs o.labels))), .own 3 1 (rows cInt ((o.ports.take 9).map id)) 52, str (few o.cls), .nils, .nils, .nils, .nils, .pd (.slice (rows ASide.pd (fewSides o.from_))), .pd (.slice (rows ASide.pd (fewSides o.to_)))])], [], .no⟩) ?_ ?_
  · intro K' hK
    simp only [go_sem, contS_seq, simprocAttr, rows_len]
    refine loopS (fun k st => ∃ i : Nat, k = 9 - i ∧ i ≤ 9 ∧ i ≤ o.ports.length ∧
      st = ⟨[(1, .ptr 1 0), (2, .ptr 2 0), (3, .ptr 3 0), (4, int i)], [(1, [int o.ref.kind, str o.ref.space, str o.ref.name, bln o.good, .pd (.slice (rows APair.pd o.labels)), .pd (.slice (ints o.ports)), str o.cls, .pd (.slice (rows AListener.pd o.listeners)), .pd (.slice (rows AParent.pd o.parents)), .pd (.slice (strs o.hosts)), .pd (.slice (rows ARule.pd o.rules)), .pd (.slice (rows ASide.pd o.from_)), .pd (.slice (rows ASide.pd o.to_))]), (2, [int 0, str ⟨#[]⟩, str ⟨#[]⟩, bln false, .nils, .nils, str ⟨#[]⟩, .nils, .nils, .nils, .nils, .nils, .nils]), (3, [int (fewRef o.ref).kind, str (fewRef o.ref).space, str (fewRef o.ref).name, bln o.good, .pd (.slice (rows APair.pd (fewPairs o.labels))), .own 3 1 (rows cInt ((o.ports.take i).map id)) 52, str (few o.cls), .nils, .nils, .nils, .nils, .pd (.slice (rows ASide.pd (fewSides o.from_))), .pd (.slice (rows ASide.pd (fewSides o.to_)))])], [], .no⟩) 9 _
      ?_ ⟨0, rfl, by omega, by omega, rfl⟩ ?_
    · exact Weak.ownB 3 5 52 3 1 (by kernel_rfl) (by decide) rfl rfl (by simp [lessL, lk, St.purge, D.purge, rows]) (by simp [lessL, lk, St.purge, D.purges, D.purge, rows]) (by simp [lessL]) rfl
    rintro k st ⟨i, rfl, hi6, hi, rfl⟩
    have hw := i64_succ (show i < 1000000000 by omega)
    by_cases hlt : i < o.ports.length ∧ i < 9
    · obtain ⟨x, hx⟩ := at_lt hlt.1
      have h1 : ((i : Int) < (o.ports.length : Int)) = True := eq_true (by omega)
      have h2 : ((i : Int) < 9) = True := eq_true (by omega)
      have hl' : ((o.ports.take i).map id).length ≤ i := by simp; omega
      have e1 : rows cInt ((o.ports.take i).map id) ++ [[PD.raw (Value.int IntKind.i64 x)]] = rows cInt ((o.ports.take (i + 1)).map id) := few_step hx
      simp only [go_sem, contS_seq, simprocAttr, rows_len, rows_get hx, h1, h2]
      simp only [go_sem, contS_seq, simprocAttr, hw, e1]
      refine ⟨by simp, by unfold maxLen; omega, by omega, 9 - (i + 1), _, by omega, ?_, i + 1, rfl, by omega, by omega, rfl⟩
      exact lessA
    · have h3 := few_end (g := id) hi6 hi hlt
      rw [h3]
      by_cases h1 : i < o.ports.length
      · have h1' : ((i : Int) < (o.ports.length : Int)) = True := eq_true (by omega)
        have h2 : ((i : Int) < 9) = False := eq_false (by omega)
        simp only [go_sem, contS_seq, simprocAttr, rows_len, h1', h2]
        exact hK _ ⟨i, rfl⟩
      · have h1' : ((i : Int) < (o.ports.length : Int)) = False := eq_false (by omega)
        simp only [go_sem, contS_seq, simprocAttr, rows_len, h1']
        exact hK _ ⟨i, rfl⟩
  rintro s ⟨_, rfl⟩
  refine run_cutJ (fun s => ∃ i : Nat, s = ⟨[(62, bln false), (1, .ptr 1 0), (2, .ptr 2 0), (3, .ptr 3 0), (5, int i), (62, bln false)], [(1, [int o.ref.kind, str o.ref.space, str o.ref.name, bln o.good, .pd (.slice (rows APair.pd o.labels)), .pd (.slice (ints o.ports)), str o.cls, .pd (.slice (rows AListener.pd o.listeners)), .pd (.slice (rows AParent.pd o.parents)), .pd (.slice (strs o.hosts)), .pd (.slice (rows ARule.pd o.rules)), .pd (.slice (rows ASide.pd o.from_)), .pd (.slice (rows ASide.pd o.to_))]), (2, [int 0, str ⟨#[]⟩, str ⟨#[]⟩, bln false, .nils, .nils, str ⟨#[]⟩, .nils, .nils, .nils, .nils, .nils, .nils]), (3, [int (fewRef o.ref).kind, str (fewRef o.ref).space, str (fewRef o.ref).name, bln o.good, .pd (.slice (rows APair.pd (fewPairs o.labels))), .own 3 1 (rows cInt ((o.ports.take 9).map id)) 52, str (few o.cls), .own 78 9 (rows AListener.pd ((o.listeners.take 9).map fewListener)) 92, .nils, .nils, .nils, .pd (.slice (rows ASide.pd (fewSides o.from_))), .pd (.slice (rows ASide.pd (fewSides o.to_)))])], [], .no⟩) ?_ ?_
  · intro K' hK
    simp only [go_sem, contS_seq, simprocAttr, rows_len]
    refine loopS (fun k st => ∃ i : Nat, k = 9 - i ∧ i ≤ 9 ∧ i ≤ o.listeners.length ∧
      st = ⟨[(1, .ptr 1 0), (2, .ptr 2 0), (3, .ptr 3 0), (5, int i)], [(1, [int o.ref.kind, str o.ref.space, str o.ref.name, bln o.good, .pd (.slice (rows APair.pd o.labels)), .pd (.slice (ints o.ports)), str o.cls, .pd (.slice (rows AListener.pd o.listeners)), .pd (.slice (rows AParent.pd o.parents)), .pd (.slice (strs o.hosts)), .pd (.slice (rows ARule.pd o.rules)), .pd (.slice (rows ASide.pd o.from_)), .pd (.slice (rows ASide.pd o.to_))]), (2, [int 0, str ⟨#[]⟩, str ⟨#[]⟩, bln false, .nils, .nils, str ⟨#[]⟩, .nils, .nils, .nils, .nils, .nils, .nils]), (3, [int (fewRef o.ref).kind, str (fewRef o.ref).space, str (fewRef o.ref).name, bln o.good, .pd (.slice (rows APair.pd (fewPairs o.labels))), .own 3 1 (rows cInt ((o.ports.take 9).map id)) 52, str (few o.cls), .own 78 9 (rows AListener.pd ((o.listeners.take i).map fewListener)) 92, .nils, .nils, .nils, .pd (.slice (rows ASide.pd (fewSides o.from_))), .pd (.slice (rows ASide.pd (fewSides o.to_)))])], [], .no⟩) 9 _
      ?_ ⟨0, rfl, by omega, by omega, rfl⟩ ?_
    · exact Weak.ownB 3 7 92 78 9 (by kernel_rfl) (by decide) rfl rfl (by simp [lessL, lk, St.purge, D.purge, rows]) (by simp [lessL, lk, St.purge, D.purges, D.purge, rows]) (by simp [lessL]) rfl
    rintro k st ⟨i, rfl, hi6, hi, rfl⟩
    have hw := i64_succ (show i < 1000000000 by omega)
    by_cases hlt : i < o.listeners.length ∧ i < 9
    · obtain ⟨x, hx⟩ := at_lt hlt.1
      have h1 : ((i : Int) < (o.listeners.length : Int)) = True := eq_true (by omega)
      have h2 : ((i : Int) < 9) = True := eq_true (by omega)
      have hl' : ((o.listeners.take i).map fewListener).length ≤ i := by simp; omega
      have e1 : rows AListener.pd ((o.listeners.take i).map fewListener) ++ [[PD.raw (Value.string (few x.name)), PD.raw (Value.int IntKind.i64 x.port), PD.raw (Value.bool x.tls), PD.raw (Value.string (few x.host)), PD.raw (Value.int IntKind.i64 (fewRef x.cert).kind), PD.raw (Value.string ((fewRef x.cert).space)), PD.raw (Value.string ((fewRef x.cert).name)), PD.raw (Value.int IntKind.i64 x.from_), PD.slice (rows ANeed.pd (fewNeeds x.needs))]] = rows AListener.pd ((o.listeners.take (i + 1)).map fewListener) := few_step hx
      simp only [go_sem, contS_seq, simprocAttr, rows_len, rows_get hx, h1, h2]
      repeat' (first | (refine (law1_Few x.name).callX (enters_of Tryz.func10 rfl rfl) _ rfl rfl ?_; rintro _ rfl; simp only [go_sem, contS_seq, simprocAttr, rows_len, rows_get hx]) | (refine (law1_Few x.host).callX (enters_of Tryz.func10 rfl rfl) _ rfl rfl ?_; rintro _ rfl; simp only [go_sem, contS_seq, simprocAttr, rows_len, rows_get hx]) | (refine (law9_FewRef x.cert).callX (enters_of Tryz.func9 rfl rfl) _ rfl rfl ?_; rintro _ rfl; simp only [go_sem, contS_seq, simprocAttr, rows_len, rows_get hx]) | (refine (law8_Few x.needs).callX (enters_of Tryz.func47 rfl rfl) _ rfl rfl ?_; rintro _ rfl; simp only [go_sem, contS_seq, simprocAttr, rows_len, rows_get hx]))
      simp only [go_sem, contS_seq, simprocAttr, hw, e1]
      refine ⟨by simp, by unfold maxLen; omega, by omega, 9 - (i + 1), _, by omega, ?_, i + 1, rfl, by omega, by omega, rfl⟩
      exact lessA
    · have h3 := few_end (g := fewListener) hi6 hi hlt
      rw [h3]
      by_cases h1 : i < o.listeners.length
      · have h1' : ((i : Int) < (o.listeners.length : Int)) = True := eq_true (by omega)
        have h2 : ((i : Int) < 9) = False := eq_false (by omega)
        simp only [go_sem, contS_seq, simprocAttr, rows_len, h1', h2]
        exact hK _ ⟨i, rfl⟩
      · have h1' : ((i : Int) < (o.listeners.length : Int)) = False := eq_false (by omega)
        simp only [go_sem, contS_seq, simprocAttr, rows_len, h1']
        exact hK _ ⟨i, rfl⟩
  rintro s ⟨_, rfl⟩
  refine run_cutJ (fun s => ∃ i : Nat, s = ⟨[(102, bln false), (1, .ptr 1 0), (2, .ptr 2 0), (3, .ptr 3 0), (7, int i), (102, bln false)], [(1, [int o.ref.kind, str o.ref.space, str o.ref.name, bln o.good, .pd (.slice (rows APair.pd o.labels)), .pd (.slice (ints o.ports)), str o.cls, .pd (.slice (rows AListener.pd o.listeners)), .pd (.slice (rows AParent.pd o.parents)), .pd (.slice (strs o.hosts)), .pd (.slice (rows ARule.pd o.rules)), .pd (.slice (rows ASide.pd o.from_)), .pd (.slice (rows ASide.pd o.to_))]), (2, [int 0, str ⟨#[]⟩, str ⟨#[]⟩, bln false, .nils, .nils, str ⟨#[]⟩, .nils, .nils, .nils, .nils, .nils, .nils]), (3, [int (fewRef o.ref).kind, str (fewRef o.ref).space, str (fewRef o.ref).name, bln o.good, .pd (.slice (rows APair.pd (fewPairs o.labels))), .own 3 1 (rows cInt ((o.ports.take 9).map id)) 52, str (few o.cls), .own 78 9 (rows AListener.pd ((o.listeners.take 9).map fewListener)) 92, .own 81 4 (rows AParent.pd ((o.parents.take 5).map fewParent)) 125, .nils, .nils, .pd (.slice (rows ASide.pd (fewSides o.from_))), .pd (.slice (rows ASide.pd (fewSides o.to_)))])], [], .no⟩) ?_ ?_
  · intro K' hK
    simp only [go_sem, contS_seq, simprocAttr, rows_len]
    refine loopS (fun k st => ∃ i : Nat, k = 5 - i ∧ i ≤ 5 ∧ i ≤ o.parents.length ∧
      st = ⟨[(1, .ptr 1 0), (2, .ptr 2 0), (3, .ptr 3 0), (7, int i)], [(1, [int o.ref.kind, str o.ref.space, str o.ref.name, bln o.good, .pd (.slice (rows APair.pd o.labels)), .pd (.slice (ints o.ports)), str o.cls, .pd (.slice (rows AListener.pd o.listeners)), .pd (.slice (rows AParent.pd o.parents)), .pd (.slice (strs o.hosts)), .pd (.slice (rows ARule.pd o.rules)), .pd (.slice (rows ASide.pd o.from_)), .pd (.slice (rows ASide.pd o.to_))]), (2, [int 0, str ⟨#[]⟩, str ⟨#[]⟩, bln false, .nils, .nils, str ⟨#[]⟩, .nils, .nils, .nils, .nils, .nils, .nils]), (3, [int (fewRef o.ref).kind, str (fewRef o.ref).space, str (fewRef o.ref).name, bln o.good, .pd (.slice (rows APair.pd (fewPairs o.labels))), .own 3 1 (rows cInt ((o.ports.take 9).map id)) 52, str (few o.cls), .own 78 9 (rows AListener.pd ((o.listeners.take 9).map fewListener)) 92, .own 81 4 (rows AParent.pd ((o.parents.take i).map fewParent)) 125, .nils, .nils, .pd (.slice (rows ASide.pd (fewSides o.from_))), .pd (.slice (rows ASide.pd (fewSides o.to_)))])], [], .no⟩) 5 _
      ?_ ⟨0, rfl, by omega, by omega, rfl⟩ ?_
    · exact Weak.ownB 3 8 125 81 4 (by kernel_rfl) (by decide) rfl rfl (by simp [lessL, lk, St.purge, D.purge, rows]) (by simp [lessL, lk, St.purge, D.purges, D.purge, rows]) (by simp [lessL]) rfl
    rintro k st ⟨i, rfl, hi6, hi, rfl⟩
    have hw := i64_succ (show i < 1000000000 by omega)
    by_cases hlt : i < o.parents.length ∧ i < 5
    · obtain ⟨x, hx⟩ := at_lt hlt.1
      have h1 : ((i : Int) < (o.parents.length : Int)) = True := eq_true (by omega)
      have h2 : ((i : Int) < 5) = True := eq_true (by omega)
      have hl' : ((o.parents.take i).map fewParent).length ≤ i := by simp; omega
      have e1 : rows AParent.pd ((o.parents.take i).map fewParent) ++ [[PD.raw (Value.string (few x.space)), PD.raw (Value.string (few x.name)), PD.raw (Value.string (few x.section_)), PD.raw (Value.int IntKind.i64 x.port)]] = rows AParent.pd ((o.parents.take (i + 1)).map fewParent) := few_step hx
      simp only [go_sem, contS_seq, simprocAttr, rows_len, rows_get hx, h1, h2]
      repeat' (first | (refine (law1_Few x.space).callX (enters_of Tryz.func10 rfl rfl) _ rfl rfl ?_; rintro _ rfl; simp only [go_sem, contS_seq, simprocAttr, rows_len, rows_get hx]) | (refine (law1_Few x.name).callX (enters_of Tryz.func10 rfl rfl) _ rfl rfl ?_; rintro _ rfl; simp only [go_sem, contS_seq, simprocAttr, rows_len, rows_get hx]) | (refine (law1_Few x.section_).callX (enters_of Tryz.func10 rfl rfl) _ rfl rfl ?_; rintro _ rfl; simp only [go_sem, contS_seq, simprocAttr, rows_len, rows_get hx]))
      simp only [go_sem, contS_seq, simprocAttr, hw, e1]
      refine ⟨by simp, by unfold maxLen; omega, by omega, 5 - (i + 1), _, by omega, ?_, i + 1, rfl, by omega, by omega, rfl⟩
      exact lessA
    · have h3 := few_end (g := fewParent) hi6 hi hlt
      rw [h3]
      by_cases h1 : i < o.parents.length
      · have h1' : ((i : Int) < (o.parents.length : Int)) = True := eq_true (by omega)
        have h2 : ((i : Int) < 5) = False := eq_false (by omega)
        simp only [go_sem, contS_seq, simprocAttr, rows_len, h1', h2]
        exact hK _ ⟨i, rfl⟩
      · have h1' : ((i : Int) < (o.parents.length : Int)) = False := eq_false (by omega)
        simp only [go_sem, contS_seq, simprocAttr, rows_len, h1']
        exact hK _ ⟨i, rfl⟩
  rintro s ⟨_, rfl⟩
  refine run_cutJ (fun s => ∃ i : Nat, s = ⟨[(135, bln false), (1, .ptr 1 0), (2, .ptr 2 0), (3, .ptr 3 0), (9, int i), (135, bln false)], [(1, [int o.ref.kind, str o.ref.space, str o.ref.name, bln o.good, .pd (.slice (rows APair.pd o.labels)), .pd (.slice (ints o.ports)), str o.cls, .pd (.slice (rows AListener.pd o.listeners)), .pd (.slice (rows AParent.pd o.parents)), .pd (.slice (strs o.hosts)), .pd (.slice (rows ARule.pd o.rules)), .pd (.slice (rows ASide.pd o.from_)), .pd (.slice (rows ASide.pd o.to_))]), (2, [int 0, str ⟨#[]⟩, str ⟨#[]⟩, bln false, .nils, .nils, str ⟨#[]⟩, .nils, .nils, .nils, .nils, .nils, .nils]), (3, [int (fewRef o.ref).kind, str (fewRef o.ref).space, str (fewRef o.ref).name, bln o.good, .pd (.slice (rows APair.pd (fewPairs o.labels))), .own 3 1 (rows cInt ((o.ports.take 9).map id)) 52, str (few o.cls), .own 78 9 (rows AListener.pd ((o.listeners.take 9).map fewListener)) 92, .own 81 4 (rows AParent.pd ((o.parents.take 5).map fewParent)) 125, .own 9 1 (rows cStr ((o.hosts.take 5).map few)) 147, .nils, .pd (.slice (rows ASide.pd (fewSides o.from_))), .pd (.slice (rows ASide.pd (fewSides o.to_)))])], [], .no⟩) ?_ ?_
  · intro K' hK
    simp only [go_sem, contS_seq, simprocAttr, rows_len]
    refine loopS (fun k st => ∃ i : Nat, k = 5 - i ∧ i ≤ 5 ∧ i ≤ o.hosts.length ∧
      st = ⟨[(1, .ptr 1 0), (2, .ptr 2 0), (3, .ptr 3 0), (9, int i)], [(1, [int o.ref.kind, str o.ref.space, str o.ref.name, bln o.good, .pd (.slice (rows APair.pd o.labels)), .pd (.slice (ints o.ports)), str o.cls, .pd (.slice (rows AListener.pd o.listeners)), .pd (.slice (rows AParent.pd o.parents)), .pd (.slice (strs o.hosts)), .pd (.slice (rows ARule.pd o.rules)), .pd (.slice (rows ASide.pd o.from_)), .pd (.slice (rows ASide.pd o.to_))]), (2, [int 0, str ⟨#[]⟩, str ⟨#[]⟩, bln false, .nils, .nils, str ⟨#[]⟩, .nils, .nils, .nils, .nils, .nils, .nils]), (3, [int (fewRef o.ref).kind, str (fewRef o.ref).space, str (fewRef o.ref).name, bln o.good, .pd (.slice (rows APair.pd (fewPairs o.labels))), .own 3 1 (rows cInt ((o.ports.take 9).map id)) 52, str (few o.cls), .own 78 9 (rows AListener.pd ((o.listeners.take 9).map fewListener)) 92, .own 81 4 (rows AParent.pd ((o.parents.take 5).map fewParent)) 125, .own 9 1 (rows cStr ((o.hosts.take i).map few)) 147, .nils, .pd (.slice (rows ASide.pd (fewSides o.from_))), .pd (.slice (rows ASide.pd (fewSides o.to_)))])], [], .no⟩) 5 _
      ?_ ⟨0, rfl, by omega, by omega, rfl⟩ ?_
    · exact Weak.ownB 3 9 147 9 1 (by kernel_rfl) (by decide) rfl rfl (by simp [lessL, lk, St.purge, D.purge, rows]) (by simp [lessL, lk, St.purge, D.purges, D.purge, rows]) (by simp [lessL]) rfl
    rintro k st ⟨i, rfl, hi6, hi, rfl⟩
    have hw := i64_succ (show i < 1000000000 by omega)
    by_cases hlt : i < o.hosts.length ∧ i < 5
    · obtain ⟨x, hx⟩ := at_lt hlt.1
      have h1 : ((i : Int) < (o.hosts.length : Int)) = True := eq_true (by omega)
      have h2 : ((i : Int) < 5) = True := eq_true (by omega)
      have hl' : ((o.hosts.take i).map few).length ≤ i := by simp; omega
      have e1 : rows cStr ((o.hosts.take i).map few) ++ [[PD.raw (Value.string (few x))]] = rows cStr ((o.hosts.take (i + 1)).map few) := few_step hx
      simp only [go_sem, contS_seq, simprocAttr, rows_len, rows_get hx, h1, h2]
      repeat' (first | (refine (law1_Few x).callX (enters_of Tryz.func10 rfl rfl) _ rfl rfl ?_; rintro _ rfl; simp only [go_sem, contS_seq, simprocAttr, rows_len, rows_get hx]))
      simp only [go_sem, contS_seq, simprocAttr, hw, e1]
      refine ⟨by simp, by unfold maxLen; omega, by omega, 5 - (i + 1), _, by omega, ?_, i + 1, rfl, by omega, by omega, rfl⟩
      exact lessA
    · have h3 := few_end (g := few) hi6 hi hlt
      rw [h3]
      by_cases h1 : i < o.hosts.length
      · have h1' : ((i : Int) < (o.hosts.length : Int)) = True := eq_true (by omega)
        have h2 : ((i : Int) < 5) = False := eq_false (by omega)
        simp only [go_sem, contS_seq, simprocAttr, rows_len, h1', h2]
        exact hK _ ⟨i, rfl⟩
      · have h1' : ((i : Int) < (o.hosts.length : Int)) = False := eq_false (by omega)
        simp only [go_sem, contS_seq, simprocAttr, rows_len, h1']
        exact hK _ ⟨i, rfl⟩
  rintro s ⟨_, rfl⟩
  refine run_cutJ (fun s => ∃ i : Nat, s = ⟨[(157, bln false), (1, .ptr 1 0), (2, .ptr 2 0), (3, .ptr 3 0), (10, int i), (157, bln false)], [(1, [int o.ref.kind, str o.ref.space, str o.ref.name, bln o.good, .pd (.slice (rows APair.pd o.labels)), .pd (.slice (ints o.ports)), str o.cls, .pd (.slice (rows AListener.pd o.listeners)), .pd (.slice (rows AParent.pd o.parents)), .pd (.slice (strs o.hosts)), .pd (.slice (rows ARule.pd o.rules)), .pd (.slice (rows ASide.pd o.from_)), .pd (.slice (rows ASide.pd o.to_))]), (2, [int 0, str ⟨#[]⟩, str ⟨#[]⟩, bln false, .nils, .nils, str ⟨#[]⟩, .nils, .nils, .nils, .nils, .nils, .nils]), (3, [int (fewRef o.ref).kind, str (fewRef o.ref).space, str (fewRef o.ref).name, bln o.good, .pd (.slice (rows APair.pd (fewPairs o.labels))), .own 3 1 (rows cInt ((o.ports.take 9).map id)) 52, str (few o.cls), .own 78 9 (rows AListener.pd ((o.listeners.take 9).map fewListener)) 92, .own 81 4 (rows AParent.pd ((o.parents.take 5).map fewParent)) 125, .own 9 1 (rows cStr ((o.hosts.take 5).map few)) 147, .own 66 3 (rows ARule.pd ((o.rules.take 7).map fewRule)) 239, .pd (.slice (rows ASide.pd (fewSides o.from_))), .pd (.slice (rows ASide.pd (fewSides o.to_)))])], [], .no⟩) ?_ ?_
  · intro K' hK
    simp only [go_sem, contS_seq, simprocAttr, rows_len]
    refine loopS (fun k st => ∃ i : Nat, k = 7 - i ∧ i ≤ 7 ∧ i ≤ o.rules.length ∧
      st = ⟨[(1, .ptr 1 0), (2, .ptr 2 0), (3, .ptr 3 0), (10, int i)], [(1, [int o.ref.kind, str o.ref.space, str o.ref.name, bln o.good, .pd (.slice (rows APair.pd o.labels)), .pd (.slice (ints o.ports)), str o.cls, .pd (.slice (rows AListener.pd o.listeners)), .pd (.slice (rows AParent.pd o.parents)), .pd (.slice (strs o.hosts)), .pd (.slice (rows ARule.pd o.rules)), .pd (.slice (rows ASide.pd o.from_)), .pd (.slice (rows ASide.pd o.to_))]), (2, [int 0, str ⟨#[]⟩, str ⟨#[]⟩, bln false, .nils, .nils, str ⟨#[]⟩, .nils, .nils, .nils, .nils, .nils, .nils]), (3, [int (fewRef o.ref).kind, str (fewRef o.ref).space, str (fewRef o.ref).name, bln o.good, .pd (.slice (rows APair.pd (fewPairs o.labels))), .own 3 1 (rows cInt ((o.ports.take 9).map id)) 52, str (few o.cls), .own 78 9 (rows AListener.pd ((o.listeners.take 9).map fewListener)) 92, .own 81 4 (rows AParent.pd ((o.parents.take 5).map fewParent)) 125, .own 9 1 (rows cStr ((o.hosts.take 5).map few)) 147, .own 66 3 (rows ARule.pd ((o.rules.take i).map fewRule)) 239, .pd (.slice (rows ASide.pd (fewSides o.from_))), .pd (.slice (rows ASide.pd (fewSides o.to_)))])], [], .no⟩) 7 _
      ?_ ⟨0, rfl, by omega, by omega, rfl⟩ ?_
    · exact Weak.ownB 3 10 239 66 3 (by kernel_rfl) (by decide) rfl rfl (by simp [lessL, lk, St.purge, D.purge, rows]) (by simp [lessL, lk, St.purge, D.purges, D.purge, rows]) (by simp [lessL]) rfl
    rintro k st ⟨i, rfl, hi6, hi, rfl⟩
    have hw := i64_succ (show i < 1000000000 by omega)
    by_cases hlt : i < o.rules.length ∧ i < 7
    · obtain ⟨x, hx⟩ := at_lt hlt.1
      have h1 : ((i : Int) < (o.rules.length : Int)) = True := eq_true (by omega)
      have h2 : ((i : Int) < 7) = True := eq_true (by omega)
      have hl' : ((o.rules.take i).map fewRule).length ≤ i := by simp; omega
      have e1 : rows ARule.pd ((o.rules.take i).map fewRule) ++ [[PD.slice (rows AMatch.pd ((x.matches_.take 5).map fewMatch)), PD.slice (rows AFilter.pd (fewFilters x.filters)), PD.slice (rows ABackend.pd ((x.backends.take 5).map fewBackend))]] = rows ARule.pd ((o.rules.take (i + 1)).map fewRule) := few_step hx
      apply run_cut
      · intro K' hK
        simp only [go_sem, contS_seq, simprocAttr, rows_len, h1, h2]
        exact hK
      apply run_cut
      · intro K' hK
        rw [run_block]
        apply run_cut
        · intro K' hK
          simp only [go_sem, contS_seq, simprocAttr, rows_len, rows_get hx]
          refine (law7_Few x.filters).callW (enters_of Tryz.func48 rfl rfl) _ rfl rfl ?_
          rintro _ rfl
          simp only [go_sem, contS_seq, simprocAttr]
          exact hK
        refine run_cutJ (fun s => ∃ j : Nat, s = ⟨[(180, bln false), (1, .ptr 1 0), (2, .ptr 2 0), (3, .ptr 3 0), (10, int i), (11, .ptr 11 0), (12, int j), (180, bln false)], [(1, [int o.ref.kind, str o.ref.space, str o.ref.name, bln o.good, .pd (.slice (rows APair.pd o.labels)), .pd (.slice (ints o.ports)), str o.cls, .pd (.slice (rows AListener.pd o.listeners)), .pd (.slice (rows AParent.pd o.parents)), .pd (.slice (strs o.hosts)), .pd (.slice (rows ARule.pd o.rules)), .pd (.slice (rows ASide.pd o.from_)), .pd (.slice (rows ASide.pd o.to_))]), (2, [int 0, str ⟨#[]⟩, str ⟨#[]⟩, bln false, .nils, .nils, str ⟨#[]⟩, .nils, .nils, .nils, .nils, .nils, .nils]), (3, [int (fewRef o.ref).kind, str (fewRef o.ref).space, str (fewRef o.ref).name, bln o.good, .pd (.slice (rows APair.pd (fewPairs o.labels))), .own 3 1 (rows cInt ((o.ports.take 9).map id)) 52, str (few o.cls), .own 78 9 (rows AListener.pd ((o.listeners.take 9).map fewListener)) 92, .own 81 4 (rows AParent.pd ((o.parents.take 5).map fewParent)) 125, .own 9 1 (rows cStr ((o.hosts.take 5).map few)) 147, .own 66 3 (rows ARule.pd ((o.rules.take i).map fewRule)) 239, .pd (.slice (rows ASide.pd (fewSides o.from_))), .pd (.slice (rows ASide.pd (fewSides o.to_)))]), (11, [.own 86 5 (rows AMatch.pd ((x.matches_.take 5).map fewMatch)) 196, .pd (.slice (rows AFilter.pd (fewFilters x.filters))), .nils])], [], .no⟩) ?_ ?_
        · intro K' hK
          simp only [go_sem, contS_seq, simprocAttr, rows_len, rows_get hx]
          refine loopS (fun k st => ∃ j : Nat, k = 5 - j ∧ j ≤ 5 ∧ j ≤ x.matches_.length ∧
            st = ⟨[(1, .ptr 1 0), (2, .ptr 2 0), (3, .ptr 3 0), (10, int i), (11, .ptr 11 0), (12, int j)], [(1, [int o.ref.kind, str o.ref.space, str o.ref.name, bln o.good, .pd (.slice (rows APair.pd o.labels)), .pd (.slice (ints o.ports)), str o.cls, .pd (.slice (rows AListener.pd o.listeners)), .pd (.slice (rows AParent.pd o.parents)), .pd (.slice (strs o.hosts)), .pd (.slice (rows ARule.pd o.rules)), .pd (.slice (rows ASide.pd o.from_)), .pd (.slice (rows ASide.pd o.to_))]), (2, [int 0, str ⟨#[]⟩, str ⟨#[]⟩, bln false, .nils, .nils, str ⟨#[]⟩, .nils, .nils, .nils, .nils, .nils, .nils]), (3, [int (fewRef o.ref).kind, str (fewRef o.ref).space, str (fewRef o.ref).name, bln o.good, .pd (.slice (rows APair.pd (fewPairs o.labels))), .own 3 1 (rows cInt ((o.ports.take 9).map id)) 52, str (few o.cls), .own 78 9 (rows AListener.pd ((o.listeners.take 9).map fewListener)) 92, .own 81 4 (rows AParent.pd ((o.parents.take 5).map fewParent)) 125, .own 9 1 (rows cStr ((o.hosts.take 5).map few)) 147, .own 66 3 (rows ARule.pd ((o.rules.take i).map fewRule)) 239, .pd (.slice (rows ASide.pd (fewSides o.from_))), .pd (.slice (rows ASide.pd (fewSides o.to_)))]), (11, [.own 86 5 (rows AMatch.pd ((x.matches_.take j).map fewMatch)) 196, .pd (.slice (rows AFilter.pd (fewFilters x.filters))), .nils])], [], .no⟩) 5 _
            ?_ ⟨0, rfl, by omega, by omega, rfl⟩ ?_
          · exact Weak.ownB 11 0 196 86 5 (by kernel_rfl) (by decide) rfl rfl (by simp [lessL, lk, St.purge, D.purge, rows]) (by simp [lessL, lk, St.purge, D.purges, D.purge, rows]) (by simp [lessL]) rfl
          rintro k st ⟨j, rfl, hj6, hj, rfl⟩
          have hwj := i64_succ (show j < 1000000000 by omega)
          by_cases hltj : j < x.matches_.length ∧ j < 5
          · obtain ⟨y, hy⟩ := at_lt hltj.1
            have h1' : ((j : Int) < (x.matches_.length : Int)) = True := eq_true (by omega)
            have h2' : ((j : Int) < 5) = True := eq_true (by omega)
            have hlj : ((x.matches_.take j).map fewMatch).length ≤ j := by simp; omega
            have e2 : rows AMatch.pd ((x.matches_.take j).map fewMatch) ++ [[PD.raw (Value.int IntKind.i64 (fewMatch y).pkind), PD.raw (Value.string (fewMatch y).pval), PD.raw (Value.string (fewMatch y).method), PD.slice (rows APair.pd (fewMatch y).head), PD.slice (rows APair.pd (fewMatch y).query)]] = rows AMatch.pd ((x.matches_.take (j + 1)).map fewMatch) := few_step hy
            simp only [go_sem, contS_seq, simprocAttr, rows_len, rows_get hx, rows_get hy, h1', h2']
            repeat' (first | (refine (law6_Few y).callX (enters_of Tryz.func49 rfl rfl) _ rfl rfl ?_; rintro _ rfl; simp only [go_sem, contS_seq, simprocAttr, rows_len, rows_get hx, rows_get hy]))
            simp only [go_sem, contS_seq, simprocAttr, hwj, e2]
            refine ⟨by simp, by unfold maxLen; omega, by omega, 5 - (j + 1), _, by omega, ?_, j + 1, rfl, by omega, by omega, rfl⟩
            exact lessA
          · have h3 := few_end (g := fewMatch) hj6 hj hltj
            rw [h3]
            by_cases h1 : j < x.matches_.length
            · have h1' : ((j : Int) < (x.matches_.length : Int)) = True := eq_true (by omega)
              have h2 : ((j : Int) < 5) = False := eq_false (by omega)
              simp only [go_sem, contS_seq, simprocAttr, rows_len, rows_get hx, h1', h2]
              exact hK _ ⟨j, rfl⟩
            · have h1' : ((j : Int) < (x.matches_.length : Int)) = False := eq_false (by omega)
              simp only [go_sem, contS_seq, simprocAttr, rows_len, rows_get hx, h1']
              exact hK _ ⟨j, rfl⟩
        rintro s ⟨_, rfl⟩
        refine run_cutJ (fun s => ∃ j : Nat, s = ⟨[(210, bln false), (1, .ptr 1 0), (2, .ptr 2 0), (3, .ptr 3 0), (10, int i), (11, .ptr 11 0), (13, int j), (210, bln false)], [(1, [int o.ref.kind, str o.ref.space, str o.ref.name, bln o.good, .pd (.slice (rows APair.pd o.labels)), .pd (.slice (ints o.ports)), str o.cls, .pd (.slice (rows AListener.pd o.listeners)), .pd (.slice (rows AParent.pd o.parents)), .pd (.slice (strs o.hosts)), .pd (.slice (rows ARule.pd o.rules)), .pd (.slice (rows ASide.pd o.from_)), .pd (.slice (rows ASide.pd o.to_))]), (2, [int 0, str ⟨#[]⟩, str ⟨#[]⟩, bln false, .nils, .nils, str ⟨#[]⟩, .nils, .nils, .nils, .nils, .nils, .nils]), (3, [int (fewRef o.ref).kind, str (fewRef o.ref).space, str (fewRef o.ref).name, bln o.good, .pd (.slice (rows APair.pd (fewPairs o.labels))), .own 3 1 (rows cInt ((o.ports.take 9).map id)) 52, str (few o.cls), .own 78 9 (rows AListener.pd ((o.listeners.take 9).map fewListener)) 92, .own 81 4 (rows AParent.pd ((o.parents.take 5).map fewParent)) 125, .own 9 1 (rows cStr ((o.hosts.take 5).map few)) 147, .own 66 3 (rows ARule.pd ((o.rules.take i).map fewRule)) 239, .pd (.slice (rows ASide.pd (fewSides o.from_))), .pd (.slice (rows ASide.pd (fewSides o.to_)))]), (11, [.own 86 5 (rows AMatch.pd ((x.matches_.take 5).map fewMatch)) 196, .pd (.slice (rows AFilter.pd (fewFilters x.filters))), .own 68 5 (rows ABackend.pd ((x.backends.take 5).map fewBackend)) 233])], [], .no⟩) ?_ ?_
        · intro K' hK
          simp only [go_sem, contS_seq, simprocAttr, rows_len, rows_get hx]
          refine loopS (fun k st => ∃ j : Nat, k = 5 - j ∧ j ≤ 5 ∧ j ≤ x.backends.length ∧
            st = ⟨[(1, .ptr 1 0), (2, .ptr 2 0), (3, .ptr 3 0), (10, int i), (11, .ptr 11 0), (13, int j)], [(1, [int o.ref.kind, str o.ref.space, str o.ref.name, bln o.good, .pd (.slice (rows APair.pd o.labels)), .pd (.slice (ints o.ports)), str o.cls, .pd (.slice (rows AListener.pd o.listeners)), .pd (.slice (rows AParent.pd o.parents)), .pd (.slice (strs o.hosts)), .pd (.slice (rows ARule.pd o.rules)), .pd (.slice (rows ASide.pd o.from_)), .pd (.slice (rows ASide.pd o.to_))]), (2, [int 0, str ⟨#[]⟩, str ⟨#[]⟩, bln false, .nils, .nils, str ⟨#[]⟩, .nils, .nils, .nils, .nils, .nils, .nils]), (3, [int (fewRef o.ref).kind, str (fewRef o.ref).space, str (fewRef o.ref).name, bln o.good, .pd (.slice (rows APair.pd (fewPairs o.labels))), .own 3 1 (rows cInt ((o.ports.take 9).map id)) 52, str (few o.cls), .own 78 9 (rows AListener.pd ((o.listeners.take 9).map fewListener)) 92, .own 81 4 (rows AParent.pd ((o.parents.take 5).map fewParent)) 125, .own 9 1 (rows cStr ((o.hosts.take 5).map few)) 147, .own 66 3 (rows ARule.pd ((o.rules.take i).map fewRule)) 239, .pd (.slice (rows ASide.pd (fewSides o.from_))), .pd (.slice (rows ASide.pd (fewSides o.to_)))]), (11, [.own 86 5 (rows AMatch.pd ((x.matches_.take 5).map fewMatch)) 196, .pd (.slice (rows AFilter.pd (fewFilters x.filters))), .own 68 5 (rows ABackend.pd ((x.backends.take j).map fewBackend)) 233])], [], .no⟩) 5 _
            ?_ ⟨0, rfl, by omega, by omega, rfl⟩ ?_
          · exact Weak.ownB 11 2 233 68 5 (by kernel_rfl) (by decide) rfl rfl (by simp [lessL, lk, St.purge, D.purge, rows]) (by simp [lessL, lk, St.purge, D.purges, D.purge, rows]) (by simp [lessL]) rfl
          rintro k st ⟨j, rfl, hj6, hj, rfl⟩
          have hwj := i64_succ (show j < 1000000000 by omega)
          by_cases hltj : j < x.backends.length ∧ j < 5
          · obtain ⟨y, hy⟩ := at_lt hltj.1
            have h1' : ((j : Int) < (x.backends.length : Int)) = True := eq_true (by omega)
            have h2' : ((j : Int) < 5) = True := eq_true (by omega)
            have hlj : ((x.backends.take j).map fewBackend).length ≤ j := by simp; omega
            have e2 : rows ABackend.pd ((x.backends.take j).map fewBackend) ++ [[PD.raw (Value.int IntKind.i64 (fewRef y.ref).kind), PD.raw (Value.string (fewRef y.ref).space), PD.raw (Value.string (fewRef y.ref).name), PD.raw (Value.int IntKind.i64 y.port), PD.raw (Value.int IntKind.i64 y.weight)]] = rows ABackend.pd ((x.backends.take (j + 1)).map fewBackend) := few_step hy
            simp only [go_sem, contS_seq, simprocAttr, rows_len, rows_get hx, rows_get hy, h1', h2']
            repeat' (first | (refine (law9_FewRef y.ref).callX (enters_of Tryz.func9 rfl rfl) _ rfl rfl ?_; rintro _ rfl; simp only [go_sem, contS_seq, simprocAttr, rows_len, rows_get hx, rows_get hy]))
            simp only [go_sem, contS_seq, simprocAttr, hwj, e2]
            refine ⟨by simp, by unfold maxLen; omega, by omega, 5 - (j + 1), _, by omega, ?_, j + 1, rfl, by omega, by omega, rfl⟩
            exact lessA
          · have h3 := few_end (g := fewBackend) hj6 hj hltj
            rw [h3]
            by_cases h1 : j < x.backends.length
            · have h1' : ((j : Int) < (x.backends.length : Int)) = True := eq_true (by omega)
              have h2 : ((j : Int) < 5) = False := eq_false (by omega)
              simp only [go_sem, contS_seq, simprocAttr, rows_len, rows_get hx, h1', h2]
              exact hK _ ⟨j, rfl⟩
            · have h1' : ((j : Int) < (x.backends.length : Int)) = False := eq_false (by omega)
              simp only [go_sem, contS_seq, simprocAttr, rows_len, rows_get hx, h1']
              exact hK _ ⟨j, rfl⟩
        rintro s ⟨_, rfl⟩
        simp only [go_sem, contS_seq, simprocAttr, rows_len, e1]
        refine ⟨by simp, by unfold maxLen; omega, by omega, ?_⟩
        exact hK
      simp only [go_sem, contS_seq, simprocAttr, hw]
      refine ⟨7 - (i + 1), _, by omega, ?_, i + 1, rfl, by omega, by omega, rfl⟩
      exact lessA
    · have h3 := few_end (g := fewRule) hi6 hi hlt
      rw [h3]
      by_cases h1 : i < o.rules.length
      · have h1' : ((i : Int) < (o.rules.length : Int)) = True := eq_true (by omega)
        have h2 : ((i : Int) < 7) = False := eq_false (by omega)
        simp only [go_sem, contS_seq, simprocAttr, rows_len, h1', h2]
        exact hK _ ⟨i, rfl⟩
      · have h1' : ((i : Int) < (o.rules.length : Int)) = False := eq_false (by omega)
        simp only [go_sem, contS_seq, simprocAttr, rows_len, h1']
        exact hK _ ⟨i, rfl⟩
  rintro s ⟨_, rfl⟩
  simp only [go_sem, contS_seq, simprocAttr]
  simp only [retK, resD, resA, AOp.ex, St.ev, St.get, lk, oneD, D.pub, D.pubs, retL, reduceIte, Nat.reduceEqDiff, Nat.reduceAdd, Nat.reduceLeDiff, ret_z8s55, List.map_id]
  exact ⟨_, rfl, rfl, rfl⟩


def fewObjs (l : List AObj) : List AObj := (l.take 24).map fewObj

theorem take_map_mem {α β : Type} {g : α → β} {l : List α} {n : Nat} {y : β} (h : y ∈ (l.take n).map g) : ∃ x, x ∈ l ∧ g x = y := by
  obtain ⟨x, hx, rfl⟩ := List.mem_map.1 h
  exact ⟨x, List.mem_of_mem_take hx, rfl⟩

theorem fewPairs_ok {l : List APair} : ∀ p ∈ fewPairs l, p.ok := fun p hp => by
  obtain ⟨x, _, rfl⟩ := take_map_mem hp
  exact fewPair_ok x

theorem fewPairs_len (l : List APair) : (fewPairs l).length ≤ 1000000 := by simp [fewPairs]; omega

theorem fewMatch_ok (m : AMatch) : (fewMatch m).ok := ⟨fewPairs_len _, fewPairs_len _, fewPairs_ok, fewPairs_ok⟩

theorem fewFilter_ok (f : AFilter) : (fewFilter f).ok := ⟨by have := few_size f.name; simp [fewFilter]; omega, by have := few_size f.val; simp [fewFilter]; omega⟩

theorem fewNeed_ok (n : ANeed) : (fewNeed n).ok := by simp [ANeed.ok, fewNeed]; omega

theorem fewListener_ok (l : AListener) : (fewListener l).ok := ⟨by simp [fewListener, fewNeeds]; omega, fun x hx => by
  obtain ⟨y, _, rfl⟩ := take_map_mem hx
  exact fewNeed_ok y⟩

theorem fewRule_ok (r : ARule) : (fewRule r).ok := ⟨by simp [fewRule]; omega, by simp [fewRule, fewFilters]; omega, by simp [fewRule]; omega, fun x hx => by
  obtain ⟨y, _, rfl⟩ := take_map_mem hx
  exact fewMatch_ok y, fun x hx => by
  obtain ⟨y, _, rfl⟩ := take_map_mem hx
  exact fewFilter_ok y⟩

theorem fewObj_ok (o : AObj) : (fewObj o).ok where
  la := fewPairs_len _
  po := by simp [fewObj]; omega
  li := by simp [fewObj]; omega
  pa := by simp [fewObj]; omega
  ho := by simp [fewObj]; omega
  ru := by simp [fewObj]; omega
  fr := by simp [fewObj, fewSides]; omega
  to := by simp [fewObj, fewSides]; omega
  lis := fun x hx => by
    obtain ⟨y, _, rfl⟩ := take_map_mem hx
    exact fewListener_ok y
  rus := fun x hx => by
    obtain ⟨y, _, rfl⟩ := take_map_mem hx
    exact fewRule_ok y

theorem fewObjs_ok {l : List AObj} : ∀ o ∈ fewObjs l, o.ok := fun o ho => by
  obtain ⟨x, _, rfl⟩ := take_map_mem ho
  exact fewObj_ok x

theorem fewObjs_len (l : List AObj) : (fewObjs l).length ≤ 24 := by simp [fewObjs]; omega

theorem law11_Some (l : List AObj) : Pure Tryz.prog 26 [.pd (.slice (rows AObj.pd l))] (fun d => d = .pd (.slice (rows AObj.pd (fewObjs l)))) := by
  refine pure_of_run follows an_zh218 Tryz.func26 rfl ok_zh218.1 ok_zh218.2 (by simp [Tryz.ntmps26]) ?_
  rw [run_start]
  simp only [ac_zh218, oo, og, tp, ci, cq, mq, lq, fi, sr, go_sem, contS_seq, simprocAttr, rows_len]
  refine loopS (fun k st => ∃ i : Nat, k = 24 - i ∧ i ≤ 24 ∧ i ≤ l.length ∧
    st = ⟨[(0, .pd (.slice (rows AObj.pd l))), (3, .own 32 13 (rows AObj.pd ((l.take i).map fewObj)) 22), (4, int i)], [], [], .no⟩) 24 _
    ?_ ⟨0, rfl, by omega, by omega, rfl⟩ ?_
  · exact Weak.own1 3 22 32 13 (by kernel_rfl) (by decide) rfl (by simp [lessL, lk, St.purge, St.put, D.purge, rows]) (by simp [lessL, lk, St.purge, D.purges, D.purge]) (by simp [lessL]) rfl
  rintro k st ⟨i, rfl, hi6, hi, rfl⟩
  have hw := i64_succ (show i < 1000000000 by omega)
  by_cases hlt : i < l.length ∧ i < 24
  · obtain ⟨x, hx⟩ := at_lt hlt.1
    have h1 : ((i : Int) < (l.length : Int)) = True := eq_true (by omega)
    have h2 : ((i : Int) < 24) = True := eq_true (by omega)
    simp only [go_sem, contS_seq, simprocAttr, rows_len, rows_get hx, h1, h2]
    refine (law9_Few x).callW (enters_of Tryz.func8 rfl rfl) _ rfl rfl ?_
    rintro d rfl
    have hl' : ((l.take i).map fewObj).length ≤ i := by simp; omega
    have e1 : rows AObj.pd ((l.take i).map fewObj) ++ [AObj.pd (fewObj x)] = rows AObj.pd ((l.take (i + 1)).map fewObj) := few_step hx
    simp only [go_sem, contS_seq, simprocAttr, rows_len, hw]
    rw [e1]
    refine ⟨by simp, by unfold maxLen; omega, by omega, 24 - (i + 1), _, by omega, ?_, i + 1, rfl, by omega, by omega, rfl⟩
    exact lessA
  · have h3 := few_end (g := fewObj) hi6 hi hlt
    rw [h3]
    by_cases h1 : i < l.length
    · have h1' : ((i : Int) < (l.length : Int)) = True := eq_true (by omega)
      have h2 : ((i : Int) < 24) = False := eq_false (by omega)
      simp only [go_sem, contS_seq, simprocAttr, rows_len, h1', h2]
      simp only [retK, resD, St.get, lk, oneD, D.pub, D.pubs, retL, reduceIte, Nat.reduceEqDiff, Nat.reduceAdd, Nat.reduceLeDiff, Tryz.results26]
      exact ⟨_, rfl, rfl, rfl⟩
    · have h1' : ((i : Int) < (l.length : Int)) = False := eq_false (by omega)
      simp only [go_sem, contS_seq, simprocAttr, rows_len, h1']
      simp only [retK, resD, St.get, lk, oneD, D.pub, D.pubs, retL, reduceIte, Nat.reduceEqDiff, Nat.reduceAdd, Nat.reduceLeDiff, Tryz.results26]
      exact ⟨_, rfl, rfl, rfl⟩


theorem res_no {p : Prop} [Decidable p] (h : ¬p) : bln false = bln (decide p) := by rw [decide_eq_false h]
theorem res_yes {p : Prop} [Decidable p] (h : p) : bln true = bln (decide p) := by rw [decide_eq_true h]
theorem take_step {α : Type} {l m : List α} {i : Nat} {x y : α} (h : l.take i = m.take i) (hx : l[i]? = some x) (hy : m[i]? = some y) (e : x = y) : l.take (i + 1) = m.take (i + 1) := by
  rw [take_at hx, take_at hy, h, e]
theorem take_end {α : Type} {l m : List α} {i : Nat} (h : l.take i = m.take i) (hl : l.length = m.length) (hi : ¬ i < l.length) : l = m := by
  rwa [List.take_of_length_le (by omega), List.take_of_length_le (by omega)] at h

set_option maxHeartbeats 2000000 in
theorem ref1_Same (a b : List ByteArray) (ha : a.length ≤ 1000000) : Pure Tryz.prog 66 [.pd (.slice (rows cStr a)), .pd (.slice (rows cStr b))] (fun d => d = bln (decide (a = b))) := by
  refine pure_of_run follows an_zjxe8 Tryz.func66 rfl ok_zjxe8.1 ok_zjxe8.2 (by simp [Tryz.ntmps66]) ?_
  rw [run_start]
  simp only [ac_zjxe8, oo, og, tp, ci, cq, mq, lq, fi, sr, go_sem, contS_seq, simprocAttr, rows_len]
  refine GifP.mk (fun hl => ?_) (fun hl => ?_)
  rotate_left
  · simp only [retK, resD, St.get, lk, oneD, D.pub, D.pubs, retL, reduceIte, Nat.reduceEqDiff, Nat.reduceAdd, Nat.reduceLeDiff, Tryz.results66]
    exact ⟨_, rfl, rfl, res_no (fun e => hl (by rw [e]))⟩
  have hL : a.length = b.length := by omega
  refine loopS (fun k st => ∃ i : Nat, k = a.length - i ∧ i ≤ a.length ∧ a.take i = b.take i ∧ st = ⟨[(0, .pd (.slice (rows cStr a))), (1, .pd (.slice (rows cStr b))), (5, int i)], [], [], .no⟩) a.length _ ?_ ⟨0, rfl, by omega, rfl, rfl⟩ ?_
  · exact lessA
  rintro k st ⟨i, rfl, hi, hT, rfl⟩
  have hw := i64_succ (show i < 1000000000 by omega)
  by_cases hlt : i < a.length
  · obtain ⟨x, hx⟩ := at_lt hlt
    obtain ⟨y, hy⟩ := at_lt (show i < b.length by omega)
    have h1 : ((i : Int) < (a.length : Int)) = True := eq_true (by omega)
    simp only [go_sem, contS_seq, simprocAttr, rows_len, rows_get hx, rows_get hy, h1, hw]
    · repeat' (first | refine GifP.mk (fun _ => ?_) (fun _ => ?_) | refine Gif.mk (fun _ => ?_) (fun _ => ?_) | refine And.intro ?_ ?_)
      all_goals first
        | (refine ⟨a.length - (i + 1), _, by omega, ?_, i + 1, rfl, by omega, take_step hT hx hy (by first | assumption | (cases x; cases y; simp_all)), rfl⟩; exact lessA)
        | (simp only [retK, resD, St.get, lk, oneD, D.pub, D.pubs, retL, reduceIte, Nat.reduceEqDiff, Nat.reduceAdd, Nat.reduceLeDiff, Tryz.results66]; exact ⟨_, rfl, rfl, res_no (fun e => by subst e; have hxy := Option.some.inj (hx.symm.trans hy); subst hxy; first | contradiction | simp_all)⟩)
  have h1 : ((i : Int) < (a.length : Int)) = False := eq_false (by omega)
  have hE := take_end hT (by omega) hlt
  clear hT hi hw
  simp only [go_sem, contS_seq, simprocAttr, rows_len, h1]
  clear h1 hlt i
  simp only [retK, resD, St.get, lk, oneD, D.pub, D.pubs, retL, reduceIte, Nat.reduceEqDiff, Nat.reduceAdd, Nat.reduceLeDiff, Tryz.results66]
  exact ⟨_, rfl, rfl, res_yes hE⟩

set_option maxHeartbeats 2000000 in
theorem ref4_Same (a b : List APair) (ha : a.length ≤ 1000000) : Pure Tryz.prog 65 [.pd (.slice (rows APair.pd a)), .pd (.slice (rows APair.pd b))] (fun d => d = bln (decide (a = b))) := by
  refine pure_of_run follows an_zk76r Tryz.func65 rfl ok_zk76r.1 ok_zk76r.2 (by simp [Tryz.ntmps65]) ?_
  rw [run_start]
  simp only [ac_zk76r, oo, og, tp, ci, cq, mq, lq, fi, sr, go_sem, contS_seq, simprocAttr, rows_len]
  refine GifP.mk (fun hl => ?_) (fun hl => ?_)
  rotate_left
  · simp only [retK, resD, St.get, lk, oneD, D.pub, D.pubs, retL, reduceIte, Nat.reduceEqDiff, Nat.reduceAdd, Nat.reduceLeDiff, Tryz.results65]
    exact ⟨_, rfl, rfl, res_no (fun e => hl (by rw [e]))⟩
  have hL : a.length = b.length := by omega
  refine loopS (fun k st => ∃ i : Nat, k = a.length - i ∧ i ≤ a.length ∧ a.take i = b.take i ∧ st = ⟨[(0, .pd (.slice (rows APair.pd a))), (1, .pd (.slice (rows APair.pd b))), (5, int i)], [], [], .no⟩) a.length _ ?_ ⟨0, rfl, by omega, rfl, rfl⟩ ?_
  · exact lessA
  rintro k st ⟨i, rfl, hi, hT, rfl⟩
  have hw := i64_succ (show i < 1000000000 by omega)
  by_cases hlt : i < a.length
  · obtain ⟨x, hx⟩ := at_lt hlt
    obtain ⟨y, hy⟩ := at_lt (show i < b.length by omega)
    have h1 : ((i : Int) < (a.length : Int)) = True := eq_true (by omega)
    simp only [go_sem, contS_seq, simprocAttr, rows_len, rows_get hx, rows_get hy, h1, hw, eqVs, eqV, eq_Pair]
    · repeat' (first | refine GifP.mk (fun _ => ?_) (fun _ => ?_) | refine Gif.mk (fun _ => ?_) (fun _ => ?_) | refine And.intro ?_ ?_)
      all_goals first
        | (refine ⟨a.length - (i + 1), _, by omega, ?_, i + 1, rfl, by omega, take_step hT hx hy (by first | assumption | (cases x; cases y; simp_all)), rfl⟩; exact lessA)
        | (simp only [retK, resD, St.get, lk, oneD, D.pub, D.pubs, retL, reduceIte, Nat.reduceEqDiff, Nat.reduceAdd, Nat.reduceLeDiff, Tryz.results65]; exact ⟨_, rfl, rfl, res_no (fun e => by subst e; have hxy := Option.some.inj (hx.symm.trans hy); subst hxy; first | contradiction | simp_all)⟩)
  have h1 : ((i : Int) < (a.length : Int)) = False := eq_false (by omega)
  have hE := take_end hT (by omega) hlt
  clear hT hi hw
  simp only [go_sem, contS_seq, simprocAttr, rows_len, h1]
  clear h1 hlt i
  simp only [retK, resD, St.get, lk, oneD, D.pub, D.pubs, retL, reduceIte, Nat.reduceEqDiff, Nat.reduceAdd, Nat.reduceLeDiff, Tryz.results65]
  exact ⟨_, rfl, rfl, res_yes hE⟩

set_option maxHeartbeats 2000000 in
theorem ref8_Same (a b : List ANeed) (ha : a.length ≤ 1000000) (hb : ∀ x ∈ a, x.vals.length ≤ 1000000) : Pure Tryz.prog 67 [.pd (.slice (rows ANeed.pd a)), .pd (.slice (rows ANeed.pd b))] (fun d => d = bln (decide (a = b))) := by
  refine pure_of_run follows an_zgrh4 Tryz.func67 rfl ok_zgrh4.1 ok_zgrh4.2 (by simp [Tryz.ntmps67]) ?_
  rw [run_start]
  simp only [ac_zgrh4, oo, og, tp, ci, cq, mq, lq, fi, sr, go_sem, contS_seq, simprocAttr, rows_len]
  refine GifP.mk (fun hl => ?_) (fun hl => ?_)
  rotate_left
  · simp only [retK, resD, St.get, lk, oneD, D.pub, D.pubs, retL, reduceIte, Nat.reduceEqDiff, Nat.reduceAdd, Nat.reduceLeDiff, Tryz.results67]
    exact ⟨_, rfl, rfl, res_no (fun e => hl (by rw [e]))⟩
  have hL : a.length = b.length := by omega
  refine loopS (fun k st => ∃ i : Nat, k = a.length - i ∧ i ≤ a.length ∧ a.take i = b.take i ∧ st = ⟨[(0, .pd (.slice (rows ANeed.pd a))), (1, .pd (.slice (rows ANeed.pd b))), (5, int i)], [], [], .no⟩) a.length _ ?_ ⟨0, rfl, by omega, rfl, rfl⟩ ?_
  · exact lessA
  rintro k st ⟨i, rfl, hi, hT, rfl⟩
  have hw := i64_succ (show i < 1000000000 by omega)
  by_cases hlt : i < a.length
  · obtain ⟨x, hx⟩ := at_lt hlt
    obtain ⟨y, hy⟩ := at_lt (show i < b.length by omega)
    have h1 : ((i : Int) < (a.length : Int)) = True := eq_true (by omega)
    simp only [go_sem, contS_seq, simprocAttr, rows_len, rows_get hx, rows_get hy, h1, hw]
    · repeat' (first | refine GifP.mk (fun _ => ?_) (fun _ => ?_) | refine Gif.mk (fun _ => ?_) (fun _ => ?_) | (refine (ref1_Same x.vals y.vals (hb x (List.mem_of_getElem? hx))).callX (enters_of Tryz.func66 rfl rfl) _ rfl rfl ?_; rintro _ rfl; simp only [go_sem, contS_seq, simprocAttr, rows_len, rows_get hx, rows_get hy, hw]) | refine And.intro ?_ ?_)
      all_goals first
        | (refine ⟨a.length - (i + 1), _, by omega, ?_, i + 1, rfl, by omega, take_step hT hx hy (by first | assumption | (cases x; cases y; simp_all)), rfl⟩; exact lessA)
        | (simp only [retK, resD, St.get, lk, oneD, D.pub, D.pubs, retL, reduceIte, Nat.reduceEqDiff, Nat.reduceAdd, Nat.reduceLeDiff, Tryz.results67]; exact ⟨_, rfl, rfl, res_no (fun e => by subst e; have hxy := Option.some.inj (hx.symm.trans hy); subst hxy; first | contradiction | simp_all)⟩)
  have h1 : ((i : Int) < (a.length : Int)) = False := eq_false (by omega)
  have hE := take_end hT (by omega) hlt
  clear hT hi hw
  simp only [go_sem, contS_seq, simprocAttr, rows_len, h1]
  clear h1 hlt i
  simp only [retK, resD, St.get, lk, oneD, D.pub, D.pubs, retL, reduceIte, Nat.reduceEqDiff, Nat.reduceAdd, Nat.reduceLeDiff, Tryz.results67]
  exact ⟨_, rfl, rfl, res_yes hE⟩

theorem ref6_Same (a b : AMatch) (h1 : a.head.length ≤ 1000000) (h2 : a.query.length ≤ 1000000) : Pure Tryz.prog 98 [.agg [int a.pkind, str a.pval, str a.method, .pd (.slice (rows APair.pd a.head)), .pd (.slice (rows APair.pd a.query))], .agg [int b.pkind, str b.pval, str b.method, .pd (.slice (rows APair.pd b.head)), .pd (.slice (rows APair.pd b.query))]] (fun d => d = bln (decide (a = b))) := by
  refine pure_of_run follows an_zlug8 Tryz.func98 rfl ok_zlug8.1 ok_zlug8.2 (by simp [Tryz.ntmps98]) ?_
  rw [run_start]
  simp only [ac_zlug8, oo, og, tp, ci, cq, mq, lq, fi, sr, go_sem, contS_seq, simprocAttr, eqVs, eqV]
  (repeat' (first | (refine GifP.mk (fun _ => ?_) (fun _ => ?_)) | (refine Gif.mk (fun _ => ?_) (fun _ => ?_)) | ((first | refine (ref4_Same a.head b.head h1).callW (enters_of Tryz.func65 rfl rfl) _ rfl rfl ?_ | refine (ref4_Same a.query b.query h2).callW (enters_of Tryz.func65 rfl rfl) _ rfl rfl ?_); rintro _ rfl; try simp only [go_sem, contS_seq, simprocAttr, eqVs, eqV]))) <;> (simp only [retK, resD, St.get, lk, oneD, D.pub, D.pubs, retL, reduceIte, Nat.reduceEqDiff, Nat.reduceAdd, Nat.reduceLeDiff, Tryz.results98]; exact ⟨_, rfl, rfl, congrArg bln (by cases a; cases b; rw [Bool.eq_iff_iff]; simp_all)⟩)

set_option maxHeartbeats 2000000 in
theorem ref9_SameRule (a b : ARule) (h1 : a.matches_.length ≤ 1000000) (h2 : a.filters.length ≤ 1000000) (h3 : a.backends.length ≤ 1000000) (h4 : ∀ m ∈ a.matches_, m.head.length ≤ 1000000 ∧ m.query.length ≤ 1000000) :
    Pure Tryz.prog 68 [.agg [.pd (.slice (rows AMatch.pd a.matches_)), .pd (.slice (rows AFilter.pd a.filters)), .pd (.slice (rows ABackend.pd a.backends))], .agg [.pd (.slice (rows AMatch.pd b.matches_)), .pd (.slice (rows AFilter.pd b.filters)), .pd (.slice (rows ABackend.pd b.backends))]] (fun d => d = bln (decide (a = b))) := by
  refine pure_of_run follows an_zt6t3 Tryz.func68 rfl ok_zt6t3.1 ok_zt6t3.2 (by simp [Tryz.ntmps68]) ?_
  rw [run_start]
  simp only [ac_zt6t3, oo, og, tp, ci, cq, mq, lq, fi, sr, go_sem, contS_seq, simprocAttr, rows_len]
  repeat' (refine GifP.mk (fun _ => ?_) (fun _ => ?_))
  all_goals first
    | (simp only [retK, resD, St.get, lk, oneD, D.pub, D.pubs, retL, reduceIte, Nat.reduceEqDiff, Nat.reduceAdd, Nat.reduceLeDiff, Tryz.results68]; exact ⟨_, rfl, rfl, res_no (fun e => by subst e; contradiction)⟩)
    | skip
  refine loopS (fun k st => ∃ i : Nat, k = a.matches_.length - i ∧ i ≤ a.matches_.length ∧ a.matches_.take i = b.matches_.take i ∧ st = ⟨[(2, .ptr 2 0), (3, .ptr 3 0), (5, int i)], [(2, [.pd (.slice (rows AMatch.pd a.matches_)), .pd (.slice (rows AFilter.pd a.filters)), .pd (.slice (rows ABackend.pd a.backends))]), (3, [.pd (.slice (rows AMatch.pd b.matches_)), .pd (.slice (rows AFilter.pd b.filters)), .pd (.slice (rows ABackend.pd b.backends))])], [], .no⟩) a.matches_.length _ ?_ ⟨0, rfl, by omega, rfl, rfl⟩ ?_
  · exact lessA
  rintro k st ⟨i, rfl, hi, hT, rfl⟩
  have hw := i64_succ (show i < 1000000000 by omega)
  by_cases hlt : i < a.matches_.length
  · obtain ⟨x, hx⟩ := at_lt hlt
    obtain ⟨y, hy⟩ := at_lt (show i < b.matches_.length by omega)
    have h1 : ((i : Int) < (a.matches_.length : Int)) = True := eq_true (by omega)
    simp only [go_sem, contS_seq, simprocAttr, rows_len, rows_get hx, rows_get hy, h1, hw]
    · repeat' (first | refine GifP.mk (fun _ => ?_) (fun _ => ?_) | refine Gif.mk (fun _ => ?_) (fun _ => ?_) | (refine (ref6_Same x y (h4 x (List.mem_of_getElem? hx)).1 (h4 x (List.mem_of_getElem? hx)).2).callX (enters_of Tryz.func98 rfl rfl) _ rfl rfl ?_; rintro _ rfl; simp only [go_sem, contS_seq, simprocAttr, rows_len, rows_get hx, rows_get hy, hw]) | refine And.intro ?_ ?_)
      all_goals first
        | (refine ⟨a.matches_.length - (i + 1), _, by omega, ?_, i + 1, rfl, by omega, take_step hT hx hy (by first | assumption | (cases x; cases y; simp_all)), rfl⟩; exact lessA)
        | (simp only [retK, resD, St.get, lk, oneD, D.pub, D.pubs, retL, reduceIte, Nat.reduceEqDiff, Nat.reduceAdd, Nat.reduceLeDiff, Tryz.results68]; exact ⟨_, rfl, rfl, res_no (fun e => by subst e; have hxy := Option.some.inj (hx.symm.trans hy); subst hxy; first | contradiction | simp_all)⟩)
  have h1 : ((i : Int) < (a.matches_.length : Int)) = False := eq_false (by omega)
  have hM := take_end hT (by omega) hlt
  clear hT hi hw
  simp only [go_sem, contS_seq, simprocAttr, rows_len, h1]
  clear h1 hlt i
  refine loopS (fun k st => ∃ i : Nat, k = a.filters.length - i ∧ i ≤ a.filters.length ∧ a.filters.take i = b.filters.take i ∧ st = ⟨[(2, .ptr 2 0), (3, .ptr 3 0), (6, int i)], [(2, [.pd (.slice (rows AMatch.pd a.matches_)), .pd (.slice (rows AFilter.pd a.filters)), .pd (.slice (rows ABackend.pd a.backends))]), (3, [.pd (.slice (rows AMatch.pd b.matches_)), .pd (.slice (rows AFilter.pd b.filters)), .pd (.slice (rows ABackend.pd b.backends))])], [], .no⟩) a.filters.length _ ?_ ⟨0, rfl, by omega, rfl, rfl⟩ ?_
  · exact lessA
  rintro k st ⟨i, rfl, hi, hT, rfl⟩
  have hw := i64_succ (show i < 1000000000 by omega)
  by_cases hlt : i < a.filters.length
  · obtain ⟨x, hx⟩ := at_lt hlt
    obtain ⟨y, hy⟩ := at_lt (show i < b.filters.length by omega)
    have h1 : ((i : Int) < (a.filters.length : Int)) = True := eq_true (by omega)
    simp only [go_sem, contS_seq, simprocAttr, rows_len, rows_get hx, rows_get hy, h1, hw, eqVs, eqV, eq_Filter]
    · repeat' (first | refine GifP.mk (fun _ => ?_) (fun _ => ?_) | refine Gif.mk (fun _ => ?_) (fun _ => ?_) | refine And.intro ?_ ?_)
      all_goals first
        | (refine ⟨a.filters.length - (i + 1), _, by omega, ?_, i + 1, rfl, by omega, take_step hT hx hy (by first | assumption | (cases x; cases y; simp_all)), rfl⟩; exact lessA)
        | (simp only [retK, resD, St.get, lk, oneD, D.pub, D.pubs, retL, reduceIte, Nat.reduceEqDiff, Nat.reduceAdd, Nat.reduceLeDiff, Tryz.results68]; exact ⟨_, rfl, rfl, res_no (fun e => by subst e; have hxy := Option.some.inj (hx.symm.trans hy); subst hxy; first | contradiction | simp_all)⟩)
  have h1 : ((i : Int) < (a.filters.length : Int)) = False := eq_false (by omega)
  have hF := take_end hT (by omega) hlt
  clear hT hi hw
  simp only [go_sem, contS_seq, simprocAttr, rows_len, h1]
  clear h1 hlt i
  refine loopS (fun k st => ∃ i : Nat, k = a.backends.length - i ∧ i ≤ a.backends.length ∧ a.backends.take i = b.backends.take i ∧ st = ⟨[(2, .ptr 2 0), (3, .ptr 3 0), (7, int i)], [(2, [.pd (.slice (rows AMatch.pd a.matches_)), .pd (.slice (rows AFilter.pd a.filters)), .pd (.slice (rows ABackend.pd a.backends))]), (3, [.pd (.slice (rows AMatch.pd b.matches_)), .pd (.slice (rows AFilter.pd b.filters)), .pd (.slice (rows ABackend.pd b.backends))])], [], .no⟩) a.backends.length _ ?_ ⟨0, rfl, by omega, rfl, rfl⟩ ?_
  · exact lessA
  rintro k st ⟨i, rfl, hi, hT, rfl⟩
  have hw := i64_succ (show i < 1000000000 by omega)
  by_cases hlt : i < a.backends.length
  · obtain ⟨x, hx⟩ := at_lt hlt
    obtain ⟨y, hy⟩ := at_lt (show i < b.backends.length by omega)
    have h1 : ((i : Int) < (a.backends.length : Int)) = True := eq_true (by omega)
    simp only [go_sem, contS_seq, simprocAttr, rows_len, rows_get hx, rows_get hy, h1, hw, eqVs, eqV, eq_Backend]
    · repeat' (first | refine GifP.mk (fun _ => ?_) (fun _ => ?_) | refine Gif.mk (fun _ => ?_) (fun _ => ?_) | refine And.intro ?_ ?_)
      all_goals first
        | (refine ⟨a.backends.length - (i + 1), _, by omega, ?_, i + 1, rfl, by omega, take_step hT hx hy (by first | assumption | (cases x; cases y; simp_all)), rfl⟩; exact lessA)
        | (simp only [retK, resD, St.get, lk, oneD, D.pub, D.pubs, retL, reduceIte, Nat.reduceEqDiff, Nat.reduceAdd, Nat.reduceLeDiff, Tryz.results68]; exact ⟨_, rfl, rfl, res_no (fun e => by subst e; have hxy := Option.some.inj (hx.symm.trans hy); subst hxy; first | contradiction | simp_all)⟩)
  have h1 : ((i : Int) < (a.backends.length : Int)) = False := eq_false (by omega)
  have hB := take_end hT (by omega) hlt
  clear hT hi hw
  simp only [go_sem, contS_seq, simprocAttr, rows_len, h1]
  clear h1 hlt i
  simp only [retK, resD, St.get, lk, oneD, D.pub, D.pubs, retL, reduceIte, Nat.reduceEqDiff, Nat.reduceAdd, Nat.reduceLeDiff, Tryz.results68]
  exact ⟨_, rfl, rfl, res_yes (by cases a; cases b; simp_all)⟩

set_option maxHeartbeats 8000000 in
theorem ref9_Same (a b : AObj) (ha : a.ok) : Pure Tryz.prog 19 [a.d, b.d] (fun d => d = bln (decide (a = b))) := by
  have hla := ha.la
  have hpo := ha.po
  have hli := ha.li
  have hpa := ha.pa
  have hho := ha.ho
  have hru := ha.ru
  have hfr := ha.fr
  have hto := ha.to
  refine pure_of_run follows an_zwcd Tryz.func19 rfl ok_zwcd.1 ok_zwcd.2 (by simp [Tryz.ntmps19]) ?_
  rw [run_start]
  simp only [ac_zwcd, oo, og, tp, ci, cq, mq, lq, fi, sr, go_sem, contS_seq, simprocAttr, rows_len, eqVs, eqV, eq_Ref]
  repeat' (first | refine GifP.mk (fun _ => ?_) (fun _ => ?_) | refine Gif.mk (fun _ => ?_) (fun _ => ?_) | (refine (ref4_Same a.labels b.labels hla).callW (enters_of Tryz.func65 rfl rfl) _ rfl rfl ?_; rintro _ rfl; simp only [go_sem, contS_seq, simprocAttr, rows_len]) | (refine (ref1_Same a.hosts b.hosts hho).callW (enters_of Tryz.func66 rfl rfl) _ rfl rfl ?_; rintro _ rfl; simp only [go_sem, contS_seq, simprocAttr, rows_len]))
  all_goals first
    | (simp only [retK, resD, St.get, lk, oneD, D.pub, D.pubs, retL, reduceIte, Nat.reduceEqDiff, Nat.reduceAdd, Nat.reduceLeDiff, Tryz.results19]; exact ⟨_, rfl, rfl, res_no (fun e => by subst e; first | contradiction | simp_all)⟩)
    | skip
  refine loopS (fun k st => ∃ i : Nat, k = a.ports.length - i ∧ i ≤ a.ports.length ∧ a.ports.take i = b.ports.take i ∧ st = ⟨[(2, .ptr 2 0), (3, .ptr 3 0), (5, int i)], [(2, a.ds), (3, b.ds)], [], .no⟩) a.ports.length _ ?_ ⟨0, rfl, by omega, rfl, rfl⟩ ?_
  · exact lessA
  rintro k st ⟨i, rfl, hi, hT, rfl⟩
  have hw := i64_succ (show i < 1000000000 by omega)
  by_cases hlt : i < a.ports.length
  · obtain ⟨x, hx⟩ := at_lt hlt
    obtain ⟨y, hy⟩ := at_lt (show i < b.ports.length by omega)
    have h1 : ((i : Int) < (a.ports.length : Int)) = True := eq_true (by omega)
    simp only [go_sem, contS_seq, simprocAttr, rows_len, rows_get hx, rows_get hy, h1, hw]
    · repeat' (first | refine GifP.mk (fun _ => ?_) (fun _ => ?_) | refine Gif.mk (fun _ => ?_) (fun _ => ?_) | refine And.intro ?_ ?_)
      all_goals first
        | (refine ⟨a.ports.length - (i + 1), _, by omega, ?_, i + 1, rfl, by omega, take_step hT hx hy (by first | assumption | (cases x; cases y; simp_all)), rfl⟩; exact lessA)
        | (simp only [retK, resD, St.get, lk, oneD, D.pub, D.pubs, retL, reduceIte, Nat.reduceEqDiff, Nat.reduceAdd, Nat.reduceLeDiff, Tryz.results19]; exact ⟨_, rfl, rfl, res_no (fun e => by subst e; have hxy := Option.some.inj (hx.symm.trans hy); subst hxy; first | contradiction | simp_all)⟩)
  have h1 : ((i : Int) < (a.ports.length : Int)) = False := eq_false (by omega)
  have hE1 := take_end hT (by omega) hlt
  clear hT hi hw
  simp only [go_sem, contS_seq, simprocAttr, rows_len, h1]
  clear h1 hlt i
  refine loopS (fun k st => ∃ i : Nat, k = a.listeners.length - i ∧ i ≤ a.listeners.length ∧ a.listeners.take i = b.listeners.take i ∧ st = ⟨[(2, .ptr 2 0), (3, .ptr 3 0), (6, int i)], [(2, a.ds), (3, b.ds)], [], .no⟩) a.listeners.length _ ?_ ⟨0, rfl, by omega, rfl, rfl⟩ ?_
  · exact lessA
  rintro k st ⟨i, rfl, hi, hT, rfl⟩
  have hw := i64_succ (show i < 1000000000 by omega)
  by_cases hlt : i < a.listeners.length
  · obtain ⟨x, hx⟩ := at_lt hlt
    obtain ⟨y, hy⟩ := at_lt (show i < b.listeners.length by omega)
    have h1 : ((i : Int) < (a.listeners.length : Int)) = True := eq_true (by omega)
    simp only [go_sem, contS_seq, simprocAttr, rows_len, rows_get hx, rows_get hy, h1, hw, eqVs, eqV, eq_Ref]
    · repeat' (first | refine GifP.mk (fun _ => ?_) (fun _ => ?_) | refine Gif.mk (fun _ => ?_) (fun _ => ?_) | (refine (ref8_Same x.needs y.needs (ha.lis x (List.mem_of_getElem? hx)).nl (fun n hn => ((ha.lis x (List.mem_of_getElem? hx)).n n hn))).callW (enters_of Tryz.func67 rfl rfl) _ rfl rfl ?_; rintro _ rfl; simp only [go_sem, contS_seq, simprocAttr, rows_len, rows_get hx, rows_get hy, hw, eqVs, eqV, eq_Ref]) | refine And.intro ?_ ?_)
      all_goals first
        | (refine ⟨a.listeners.length - (i + 1), _, by omega, ?_, i + 1, rfl, by omega, take_step hT hx hy (by first | assumption | (cases x; cases y; simp_all)), rfl⟩; exact lessA)
        | (simp only [retK, resD, St.get, lk, oneD, D.pub, D.pubs, retL, reduceIte, Nat.reduceEqDiff, Nat.reduceAdd, Nat.reduceLeDiff, Tryz.results19]; exact ⟨_, rfl, rfl, res_no (fun e => by subst e; have hxy := Option.some.inj (hx.symm.trans hy); subst hxy; first | contradiction | simp_all)⟩)
  have h1 : ((i : Int) < (a.listeners.length : Int)) = False := eq_false (by omega)
  have hE2 := take_end hT (by omega) hlt
  clear hT hi hw
  simp only [go_sem, contS_seq, simprocAttr, rows_len, h1]
  clear h1 hlt i
  refine loopS (fun k st => ∃ i : Nat, k = a.parents.length - i ∧ i ≤ a.parents.length ∧ a.parents.take i = b.parents.take i ∧ st = ⟨[(2, .ptr 2 0), (3, .ptr 3 0), (9, int i)], [(2, a.ds), (3, b.ds)], [], .no⟩) a.parents.length _ ?_ ⟨0, rfl, by omega, rfl, rfl⟩ ?_
  · exact lessA
  rintro k st ⟨i, rfl, hi, hT, rfl⟩
  have hw := i64_succ (show i < 1000000000 by omega)
  by_cases hlt : i < a.parents.length
  · obtain ⟨x, hx⟩ := at_lt hlt
    obtain ⟨y, hy⟩ := at_lt (show i < b.parents.length by omega)
    have h1 : ((i : Int) < (a.parents.length : Int)) = True := eq_true (by omega)
    simp only [go_sem, contS_seq, simprocAttr, rows_len, rows_get hx, rows_get hy, h1, hw, eqVs, eqV, eq_Parent]
    · repeat' (first | refine GifP.mk (fun _ => ?_) (fun _ => ?_) | refine Gif.mk (fun _ => ?_) (fun _ => ?_) | refine And.intro ?_ ?_)
      all_goals first
        | (refine ⟨a.parents.length - (i + 1), _, by omega, ?_, i + 1, rfl, by omega, take_step hT hx hy (by first | assumption | (cases x; cases y; simp_all)), rfl⟩; exact lessA)
        | (simp only [retK, resD, St.get, lk, oneD, D.pub, D.pubs, retL, reduceIte, Nat.reduceEqDiff, Nat.reduceAdd, Nat.reduceLeDiff, Tryz.results19]; exact ⟨_, rfl, rfl, res_no (fun e => by subst e; have hxy := Option.some.inj (hx.symm.trans hy); subst hxy; first | contradiction | simp_all)⟩)
  have h1 : ((i : Int) < (a.parents.length : Int)) = False := eq_false (by omega)
  have hE3 := take_end hT (by omega) hlt
  clear hT hi hw
  simp only [go_sem, contS_seq, simprocAttr, rows_len, h1]
  clear h1 hlt i
  refine loopS (fun k st => ∃ i : Nat, k = a.from_.length - i ∧ i ≤ a.from_.length ∧ a.from_.take i = b.from_.take i ∧ st = ⟨[(2, .ptr 2 0), (3, .ptr 3 0), (10, int i)], [(2, a.ds), (3, b.ds)], [], .no⟩) a.from_.length _ ?_ ⟨0, rfl, by omega, rfl, rfl⟩ ?_
  · exact lessA
  rintro k st ⟨i, rfl, hi, hT, rfl⟩
  have hw := i64_succ (show i < 1000000000 by omega)
  by_cases hlt : i < a.from_.length
  · obtain ⟨x, hx⟩ := at_lt hlt
    obtain ⟨y, hy⟩ := at_lt (show i < b.from_.length by omega)
    have h1 : ((i : Int) < (a.from_.length : Int)) = True := eq_true (by omega)
    simp only [go_sem, contS_seq, simprocAttr, rows_len, rows_get hx, rows_get hy, h1, hw, eqVs, eqV, eq_Side]
    · repeat' (first | refine GifP.mk (fun _ => ?_) (fun _ => ?_) | refine Gif.mk (fun _ => ?_) (fun _ => ?_) | refine And.intro ?_ ?_)
      all_goals first
        | (refine ⟨a.from_.length - (i + 1), _, by omega, ?_, i + 1, rfl, by omega, take_step hT hx hy (by first | assumption | (cases x; cases y; simp_all)), rfl⟩; exact lessA)
        | (simp only [retK, resD, St.get, lk, oneD, D.pub, D.pubs, retL, reduceIte, Nat.reduceEqDiff, Nat.reduceAdd, Nat.reduceLeDiff, Tryz.results19]; exact ⟨_, rfl, rfl, res_no (fun e => by subst e; have hxy := Option.some.inj (hx.symm.trans hy); subst hxy; first | contradiction | simp_all)⟩)
  have h1 : ((i : Int) < (a.from_.length : Int)) = False := eq_false (by omega)
  have hE4 := take_end hT (by omega) hlt
  clear hT hi hw
  simp only [go_sem, contS_seq, simprocAttr, rows_len, h1]
  clear h1 hlt i
  refine loopS (fun k st => ∃ i : Nat, k = a.to_.length - i ∧ i ≤ a.to_.length ∧ a.to_.take i = b.to_.take i ∧ st = ⟨[(2, .ptr 2 0), (3, .ptr 3 0), (11, int i)], [(2, a.ds), (3, b.ds)], [], .no⟩) a.to_.length _ ?_ ⟨0, rfl, by omega, rfl, rfl⟩ ?_
  · exact lessA
  rintro k st ⟨i, rfl, hi, hT, rfl⟩
  have hw := i64_succ (show i < 1000000000 by omega)
  by_cases hlt : i < a.to_.length
  · obtain ⟨x, hx⟩ := at_lt hlt
    obtain ⟨y, hy⟩ := at_lt (show i < b.to_.length by omega)
    have h1 : ((i : Int) < (a.to_.length : Int)) = True := eq_true (by omega)
    simp only [go_sem, contS_seq, simprocAttr, rows_len, rows_get hx, rows_get hy, h1, hw, eqVs, eqV, eq_Side]
    · repeat' (first | refine GifP.mk (fun _ => ?_) (fun _ => ?_) | refine Gif.mk (fun _ => ?_) (fun _ => ?_) | refine And.intro ?_ ?_)
      all_goals first
        | (refine ⟨a.to_.length - (i + 1), _, by omega, ?_, i + 1, rfl, by omega, take_step hT hx hy (by first | assumption | (cases x; cases y; simp_all)), rfl⟩; exact lessA)
        | (simp only [retK, resD, St.get, lk, oneD, D.pub, D.pubs, retL, reduceIte, Nat.reduceEqDiff, Nat.reduceAdd, Nat.reduceLeDiff, Tryz.results19]; exact ⟨_, rfl, rfl, res_no (fun e => by subst e; have hxy := Option.some.inj (hx.symm.trans hy); subst hxy; first | contradiction | simp_all)⟩)
  have h1 : ((i : Int) < (a.to_.length : Int)) = False := eq_false (by omega)
  have hE5 := take_end hT (by omega) hlt
  clear hT hi hw
  simp only [go_sem, contS_seq, simprocAttr, rows_len, h1]
  clear h1 hlt i
  refine loopS (fun k st => ∃ i : Nat, k = a.rules.length - i ∧ i ≤ a.rules.length ∧ a.rules.take i = b.rules.take i ∧ st = ⟨[(2, .ptr 2 0), (3, .ptr 3 0), (12, int i)], [(2, a.ds), (3, b.ds)], [], .no⟩) a.rules.length _ ?_ ⟨0, rfl, by omega, rfl, rfl⟩ ?_
  · exact lessA
  rintro k st ⟨i, rfl, hi, hT, rfl⟩
  have hw := i64_succ (show i < 1000000000 by omega)
  by_cases hlt : i < a.rules.length
  · obtain ⟨x, hx⟩ := at_lt hlt
    obtain ⟨y, hy⟩ := at_lt (show i < b.rules.length by omega)
    have h1 : ((i : Int) < (a.rules.length : Int)) = True := eq_true (by omega)
    simp only [go_sem, contS_seq, simprocAttr, rows_len, rows_get hx, rows_get hy, h1, hw]
    · repeat' (first | refine GifP.mk (fun _ => ?_) (fun _ => ?_) | refine Gif.mk (fun _ => ?_) (fun _ => ?_) | (refine (ref9_SameRule x y (ha.rus x (List.mem_of_getElem? hx)).ml (ha.rus x (List.mem_of_getElem? hx)).fl (ha.rus x (List.mem_of_getElem? hx)).bl (fun m hm => ⟨((ha.rus x (List.mem_of_getElem? hx)).m m hm).hl, ((ha.rus x (List.mem_of_getElem? hx)).m m hm).ql⟩)).callX (enters_of Tryz.func68 rfl rfl) _ rfl rfl ?_; rintro _ rfl; simp only [go_sem, contS_seq, simprocAttr, rows_len, rows_get hx, rows_get hy, hw]) | refine And.intro ?_ ?_)
      all_goals first
        | (refine ⟨a.rules.length - (i + 1), _, by omega, ?_, i + 1, rfl, by omega, take_step hT hx hy (by first | assumption | (cases x; cases y; simp_all)), rfl⟩; exact lessA)
        | (simp only [retK, resD, St.get, lk, oneD, D.pub, D.pubs, retL, reduceIte, Nat.reduceEqDiff, Nat.reduceAdd, Nat.reduceLeDiff, Tryz.results19]; exact ⟨_, rfl, rfl, res_no (fun e => by subst e; have hxy := Option.some.inj (hx.symm.trans hy); subst hxy; first | contradiction | simp_all)⟩)
  have h1 : ((i : Int) < (a.rules.length : Int)) = False := eq_false (by omega)
  have hE6 := take_end hT (by omega) hlt
  clear hT hi hw
  simp only [go_sem, contS_seq, simprocAttr, rows_len, h1]
  clear h1 hlt i
  simp only [retK, resD, St.get, lk, oneD, D.pub, D.pubs, retL, reduceIte, Nat.reduceEqDiff, Nat.reduceAdd, Nat.reduceLeDiff, Tryz.results19]
  exact ⟨_, rfl, rfl, res_yes (by cases a; cases b; simp_all)⟩

end Go.Proofs.YtklolokoaooppaaGreatDoor


