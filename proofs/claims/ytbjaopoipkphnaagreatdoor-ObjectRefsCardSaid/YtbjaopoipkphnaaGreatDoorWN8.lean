/- Texts of the prover's, joined: J8 J9 J5 JK J6 QB JM Q9 QC. -/
import Derived.Test.YtbjaopoipkphnaaGreatDoorWN7

namespace Go.Proofs.YtbjaopoipkphnaaGreatDoor
open Go Go.RowKit
set_option linter.unusedSimpArgs false
set_option linter.unusedVariables false
set_option maxRecDepth 100000

theorem ref7_turns (f : AFilter) : Pure Tryz.prog 226 [f.d] (fun d => d = bln (fturns f)) := by
 refine pure_of_run follows an_zarsw Tryz.func226 rfl ok_zarsw.1 ok_zarsw.2 (by simp [Tryz.ntmps226]) ?_
 rw [run_start]
 simp only [ac_zarsw, go_sem, simprocAttr]
 (repeat' (first | (refine GifP.mk (fun _ => ?_) (fun _ => ?_)) | (refine Gif.mk (fun _ => ?_) (fun _ => ?_)) | ((first | refine (ref1_Name _).callW (enters_of Tryz.func73 rfl rfl) _ rfl rfl ?_ | refine (ref3_Is _).callW (enters_of Tryz.func228 rfl rfl) _ rfl rfl ?_ | refine (ref3_Above _).callW (enters_of Tryz.func229 rfl rfl) _ rfl rfl ?_); rintro _ rfl; try simp only [go_sem, simprocAttr]))) <;> (simp only [retK, resD, retL, oneD, simprocAttr, Tryz.results226]; exact ⟨_, rfl, rfl, congrArg bln (by simp_all [fturns, pathMay, pathAbove])⟩)

theorem app_empty (a b : ByteArray) : a ++ b = ⟨#[]⟩ ↔ a = ⟨#[]⟩ ∧ b = ⟨#[]⟩ := by
 rw [size0, size0, size0, ByteArray.size_append]
 omega

set_option maxHeartbeats 4000000 in
theorem ref7_May (f : AFilter) (h : f.ok) (hs : f.host.size ≤ 1000000 ∧ f.path.size ≤ 1000000) : Pure Tryz.prog 195 [f.d] (fun d => d = bln (filterMay f)) := by
 have hcat : (f.host.size + f.path.size ≤ 9223372036854775807) = True := eq_true (by omega)
 refine pure_of_run follows an_z6xll Tryz.func195 rfl ok_z6xll.1 ok_z6xll.2 (by simp [Tryz.ntmps195]) ?_
 rw [run_start]
 simp only [ac_z6xll, go_sem, simprocAttr, hcat]
 (repeat' (first | (refine GifP.mk (fun _ => ?_) (fun _ => ?_)) | (refine Gif.mk (fun _ => ?_) (fun _ => ?_)) | ((first | refine (ref5_Token _ h.1).callW (enters_of Tryz.func200 rfl rfl) _ rfl rfl ?_ | refine (ref5_Value _ h.2).callW (enters_of Tryz.func201 rfl rfl) _ rfl rfl ?_ | refine (ref7_turns f).callW (enters_of Tryz.func226 rfl rfl) _ rfl rfl ?_); rintro _ rfl; try simp only [go_sem, simprocAttr, hcat]))) <;> (simp only [retK, resD, retL, oneD, simprocAttr, Tryz.results195]; exact ⟨_, rfl, rfl, congrArg bln (by simp_all [filterMay, fzero, app_empty] <;> (intros; omega))⟩)

theorem filters_from {l : List AFilter} : ∀ {k i : Nat}, filtersFrom l k i = true ↔ ∀ (j : Nat) (x : AFilter), i ≤ j → j < i + k → l[j]? = some x → filterMay x = true ∧ (l.take j).any (likeF x) = false
 | 0, i => by
   simp only [filtersFrom, true_iff]
   intro j x h1 h2; omega
 | k + 1, i => by
   simp only [filtersFrom, Bool.and_eq_true, filters_from]
   constructor
   ·rintro ⟨h1, h2⟩ j x hj hk hx
    rcases Nat.eq_or_lt_of_le hj with e | e
    ·subst e; rw [hx] at h1; simpa using h1
    ·exact h2 j x e (by omega) hx
   ·intro h
    refine ⟨?_, fun j x hj hk hx => h j x (by omega) (by omega) hx⟩
    cases hx : l[i]? with
    | none => rfl
    | some x => simpa using h i x (Nat.le_refl _) (by omega) hx

def turning (f : AFilter) : Bool := decide (3 < f.kind)

theorem turner_of {f : AFilter} (h : filterMay f = true) : fturner f = turning f := by
 unfold filterMay at h
 simp only [fturner, turning]
 rw [Bool.eq_iff_iff]
 simp only [Bool.or_eq_true, decide_eq_true_eq]
 repeat' split at h
 all_goals first | omega | cases h

theorem count_one {α : Type} {p : α → Bool} : ∀ {l : List α}, l.countP p ≤ 1 ↔ l.Pairwise (fun a b => ¬ (p a = true ∧ p b = true))
 | [] => by simp
 | a :: l => by
   rw [List.pairwise_cons, ← count_one (l := l)]
   by_cases ha : p a = true
   ·rw [List.countP_cons_of_pos ha]
    have h0 : l.countP p = 0 ↔ ∀ b ∈ l, ¬ (p a = true ∧ p b = true) := by
     rw [List.countP_eq_zero]
     simp [ha]
    rw [← h0]
    omega
   ·rw [List.countP_cons_of_neg ha]
    simp [ha]

theorem filtersAll_iff (l : List AFilter) : filtersAll l = true ↔ (l.countP turning ≤ 1 ∧ l.length ≤ 8) ∧
 ∀ (j : Nat) (x : AFilter), l[j]? = some x → filterMay x = true ∧ ∀ (k : Nat) (y : AFilter), k < j → l[k]? = some y → ¬ (y.kind = x.kind ∧ foldSame y.name x.name = true) := by
 simp only [filtersAll, Bool.and_eq_true, decide_eq_true_eq, filters_from]
 have hpw : l.countP turning ≤ 1 ↔ ∀ (j : Nat) (x : AFilter), l[j]? = some x → ∀ (k : Nat) (y : AFilter), k < j → l[k]? = some y → ¬ (turning y = true ∧ turning x = true) := by
  rw [count_one, List.pairwise_iff_getElem]
  constructor
  ·intro h j x hx k y hk hy
   obtain ⟨h1, rfl⟩ := List.getElem?_eq_some_iff.1 hx
   obtain ⟨h2, rfl⟩ := List.getElem?_eq_some_iff.1 hy
   exact h k j h2 h1 hk
  ·intro h k j h2 h1 hk
   exact h j _ (List.getElem?_eq_getElem h1) k _ hk (List.getElem?_eq_getElem h2)
 rw [hpw]
 have hany : ∀ (j : Nat) (x : AFilter), (l.take j).any (likeF x) = false ↔ ∀ (k : Nat) (y : AFilter), k < j → l[k]? = some y → likeF x y = false := fun j x => by
  rw [any_at]
  constructor
  ·intro h k y hk hy
   exact h k y (by rw [List.getElem?_take, if_pos hk]; exact hy)
  ·intro h k y hy
   rw [List.getElem?_take] at hy
   split at hy
   ·exact h k y (by assumption) hy
   ·cases hy
 constructor
 ·rintro ⟨h1, h2⟩
  have h3 : ∀ (j : Nat) (x : AFilter), l[j]? = some x → filterMay x = true ∧ ∀ (k : Nat) (y : AFilter), k < j → l[k]? = some y → likeF x y = false := fun j x hx => by
   have h4 := h1 j x (Nat.zero_le _) (by have := (List.getElem?_eq_some_iff.1 hx).1; omega) hx
   exact ⟨h4.1, (hany j x).1 h4.2⟩
  refine ⟨⟨fun j x hx k y hk hy e => ?_, h2⟩, fun j x hx => ⟨(h3 j x hx).1, fun k y hk hy e => ?_⟩⟩
  ·have h5 := (h3 j x hx).2 k y hk hy
   rw [likeF, turner_of (h3 j x hx).1, turner_of (h3 k y hy).1, e.1, e.2] at h5
   simp at h5
  ·have h5 := (h3 j x hx).2 k y hk hy
   rw [likeF, e.2] at h5
   simp [e.1] at h5
 ·rintro ⟨⟨h1, h2⟩, h3⟩
  refine ⟨fun j x _ _ hx => ⟨(h3 j x hx).1, (hany j x).2 fun k y hk hy => ?_⟩, h2⟩
  have h4 := (h3 j x hx).2 k y hk hy
  have h5 := h1 j x hx k y hk hy
  rw [likeF, turner_of (h3 j x hx).1, turner_of (h3 k y hy).1]
  cases ht : turning y <;> cases ht' : turning x <;> cases hf : foldSame y.name x.name <;> simp_all

set_option maxHeartbeats 4000000 in
theorem ref7_All (l : List AFilter) (hl : l.length ≤ 1000000) (h : ∀ f ∈ l, f.ok) (hs : ∀ f ∈ l, f.host.size ≤ 1000000 ∧ f.path.size ≤ 1000000) : Pure Tryz.prog 150 [.pd (.slice (rows AFilter.pd l))] (fun d => d = bln (filtersAll l)) := by
 refine pure_of_run follows an_z3gij Tryz.func150 rfl ok_z3gij.1 ok_z3gij.2 (by simp [Tryz.ntmps150]) ?_
 rw [run_start]
 simp only [ac_z3gij, go_sem, simprocAttr]
 refine loopS (fun k st => ∃ i : Nat, k = l.length - i ∧ i ≤ l.length ∧ (∀ (j : Nat) (x : AFilter), j < i → l[j]? = some x → filterMay x = true ∧ ∀ (k : Nat) (y : AFilter), k < (j) → l[k]? = some y → ¬ (y.kind = x.kind ∧ foldSame y.name x.name = true)) ∧ st = ⟨[(0, .pd (.slice (rows AFilter.pd l))), (3, int ((l.take i).countP turning : Nat)), (4, int i)], [], [], .no⟩) l.length _ ?_ ⟨0, rfl, by omega, fun _ _ h => absurd h (Nat.not_lt_zero _), rfl⟩ ?_
 ·exact lessA
 rintro k st ⟨i, rfl, hi, hT, rfl⟩
 have hw := i64_succ (show i < 1000000000 by omega)
 obtain ⟨c, hc⟩ : ∃ c, (l.take i).countP turning = c := ⟨_, rfl⟩
 have hcl : c ≤ i := by
  rw [← hc]
  have := List.countP_le_length (p := turning) (l := l.take i)
  rw [List.length_take] at this
  omega
 have hwc := i64_succ (show c < 1000000000 by omega)
 by_cases hlt : i < l.length
 ·obtain ⟨x, hx⟩ := at_lt hlt
  have hmem := List.mem_of_getElem? hx
  have h1 : ((i : Int) < (l.length : Int)) = True := eq_true (by omega)
  have hst : (l.take (i + 1)).countP turning = c + (if turning x = true then 1 else 0) := by
   rw [take_at hx, List.countP_append, hc, List.countP_singleton]
  have bad : ¬ (filterMay x = true ∧ ∀ (k : Nat) (y : AFilter), k < i → l[k]? = some y → ¬ (y.kind = x.kind ∧ foldSame y.name x.name = true)) → bln false = bln (filtersAll l) := fun h => bool_no fun e => h (((filtersAll_iff l).1 e).2 i x hx)
  have good : (filterMay x = true ∧ ∀ (k : Nat) (y : AFilter), k < i → l[k]? = some y → ¬ (y.kind = x.kind ∧ foldSame y.name x.name = true)) → ∀ c' st, c' = c + (if turning x = true then 1 else 0) → Weak Tryz.prog st ⟨[(0, .pd (.slice (rows AFilter.pd l))), (3, int (c' : Nat)), (4, int (i + 1 : Nat))], [], [], .no⟩ → Round Tryz.prog (fun k st => ∃ i : Nat, k = l.length - i ∧ i ≤ l.length ∧ (∀ (j : Nat) (x : AFilter), j < i → l[j]? = some x → filterMay x = true ∧ ∀ (k : Nat) (y : AFilter), k < (j) → l[k]? = some y → ¬ (y.kind = x.kind ∧ foldSame y.name x.name = true)) ∧ st = ⟨[(0, .pd (.slice (rows AFilter.pd l))), (3, int ((l.take i).countP turning : Nat)), (4, int i)], [], [], .no⟩) (l.length - i) st := fun h c' st hc' hw =>
   ⟨l.length - (i + 1), _, by omega, hw, i + 1, rfl, by omega, snoc_all hT hx h, by rw [hst, ← hc']⟩
  rw [hc]
  simp only [go_sem, simprocAttr, rows_get hx, h1, hw]
  refine (ref7_May x (h x hmem) (hs x hmem)).callW (enters_of Tryz.func195 rfl rfl) _ rfl rfl ?_
  rintro _ rfl
  simp only [go_sem, simprocAttr, rows_get hx, hw]
  refine Gif.mk (fun hmay => ?_) (fun hmay => ?_)
  rotate_left
  ·simp only [retK, resD, retL, oneD, simprocAttr, Tryz.results150]
   exact ⟨_, rfl, rfl, bad (fun e => by rw [e.1] at hmay; cases hmay)⟩
  refine GifP.mk (fun htn => ?_) (fun htn => ?_)
  ·have ht : turning x = true := decide_eq_true htn
   obtain ⟨c', hc'⟩ : ∃ c', c' = c + 1 := ⟨_, rfl⟩
   simp only [hwc, ← hc']
   refine loopS (fun n st => ∃ k : Nat, n = i - k ∧ k ≤ i ∧ (∀ (k' : Nat) (y : AFilter), k' < k → l[k']? = some y → ¬ (y.kind = x.kind ∧ foldSame y.name x.name = true)) ∧ st = ⟨[(0, .pd (.slice (rows AFilter.pd l))), (3, int c'), (4, int i), (5, int k)], [], [], .no⟩) i _ ?_ ⟨0, rfl, by omega, fun _ _ h => absurd h (Nat.not_lt_zero _), rfl⟩ ?_
   ·exact lessA
   rintro n st ⟨k, rfl, hk, hS, rfl⟩
   have hwk := i64_succ (show k < 1000000000 by omega)
   by_cases hki : k < i
   ·obtain ⟨y, hy⟩ := at_lt (show k < l.length by omega)
    have hmy := List.mem_of_getElem? hy
    have h2 : ((k : Int) < (i : Int)) = True := eq_true (by omega)
    have goodk : (¬ (y.kind = x.kind ∧ foldSame y.name x.name = true)) → ∀ st, Weak Tryz.prog st ⟨[(0, .pd (.slice (rows AFilter.pd l))), (3, int c'), (4, int i), (5, int (k + 1 : Nat))], [], [], .no⟩ → Round Tryz.prog (fun n st => ∃ k : Nat, n = i - k ∧ k ≤ i ∧ (∀ (k' : Nat) (y : AFilter), k' < k → l[k']? = some y → ¬ (y.kind = x.kind ∧ foldSame y.name x.name = true)) ∧ st = ⟨[(0, .pd (.slice (rows AFilter.pd l))), (3, int c'), (4, int i), (5, int k)], [], [], .no⟩) (i - k) st := fun h st hw => ⟨i - (k + 1), _, by omega, hw, k + 1, rfl, by omega, snoc_all hS hy h, rfl⟩
    have badk : ¬ (¬ (y.kind = x.kind ∧ foldSame y.name x.name = true)) → bln false = bln (filtersAll l) := fun h => bad (fun e => h (e.2 k y hki hy))
    simp only [go_sem, simprocAttr, rows_get hx, rows_get hy, h2, hwk]
    repeat' (first | refine GifP.mk (fun _ => ?_) (fun _ => ?_) | refine Gif.mk (fun _ => ?_) (fun _ => ?_) | (refine (ref5_Same y.name x.name (h y hmy).1 (h x hmem).1).callX (enters_of Tryz.func196 rfl rfl) _ rfl rfl ?_; rintro _ rfl; simp only [go_sem, simprocAttr, rows_get hx, rows_get hy, hwk]) | refine And.intro ?_ ?_)
    all_goals first
     | (refine goodk (by first | omega | (simp_all; done) | (simp_all; omega)) _ ?_; exact lessA)
     | (simp only [retK, resD, retL, oneD, simprocAttr, Tryz.results150]; exact ⟨_, rfl, rfl, badk (by first | omega | (simp_all; done) | (simp_all; omega))⟩)
   have h2 : ((k : Int) < (i : Int)) = False := eq_false (by omega)
   have hIn : ∀ (k : Nat) (y : AFilter), k < i → l[k]? = some y → ¬ (y.kind = x.kind ∧ foldSame y.name x.name = true) := fun k' y hk' hy => hS k' y (by omega) hy
   clear hS hwk hk
   simp only [go_sem, simprocAttr, rows_get hx, h2, hw]
   first | clear h2 hki k | clear h2 hki

   refine good ⟨hmay, hIn⟩ c' _ (by rw [ht, hc']; rfl) ?_
   exact lessA
  ·have ht : turning x = false := decide_eq_false htn
   refine loopS (fun n st => ∃ k : Nat, n = i - k ∧ k ≤ i ∧ (∀ (k' : Nat) (y : AFilter), k' < k → l[k']? = some y → ¬ (y.kind = x.kind ∧ foldSame y.name x.name = true)) ∧ st = ⟨[(0, .pd (.slice (rows AFilter.pd l))), (3, int c), (4, int i), (5, int k)], [], [], .no⟩) i _ ?_ ⟨0, rfl, by omega, fun _ _ h => absurd h (Nat.not_lt_zero _), rfl⟩ ?_
   ·exact lessA
   rintro n st ⟨k, rfl, hk, hS, rfl⟩
   have hwk := i64_succ (show k < 1000000000 by omega)
   by_cases hki : k < i
   ·obtain ⟨y, hy⟩ := at_lt (show k < l.length by omega)
    have hmy := List.mem_of_getElem? hy
    have h2 : ((k : Int) < (i : Int)) = True := eq_true (by omega)
    have goodk : (¬ (y.kind = x.kind ∧ foldSame y.name x.name = true)) → ∀ st, Weak Tryz.prog st ⟨[(0, .pd (.slice (rows AFilter.pd l))), (3, int c), (4, int i), (5, int (k + 1 : Nat))], [], [], .no⟩ → Round Tryz.prog (fun n st => ∃ k : Nat, n = i - k ∧ k ≤ i ∧ (∀ (k' : Nat) (y : AFilter), k' < k → l[k']? = some y → ¬ (y.kind = x.kind ∧ foldSame y.name x.name = true)) ∧ st = ⟨[(0, .pd (.slice (rows AFilter.pd l))), (3, int c), (4, int i), (5, int k)], [], [], .no⟩) (i - k) st := fun h st hw => ⟨i - (k + 1), _, by omega, hw, k + 1, rfl, by omega, snoc_all hS hy h, rfl⟩
    have badk : ¬ (¬ (y.kind = x.kind ∧ foldSame y.name x.name = true)) → bln false = bln (filtersAll l) := fun h => bad (fun e => h (e.2 k y hki hy))
    simp only [go_sem, simprocAttr, rows_get hx, rows_get hy, h2, hwk]
    repeat' (first | refine GifP.mk (fun _ => ?_) (fun _ => ?_) | refine Gif.mk (fun _ => ?_) (fun _ => ?_) | (refine (ref5_Same y.name x.name (h y hmy).1 (h x hmem).1).callX (enters_of Tryz.func196 rfl rfl) _ rfl rfl ?_; rintro _ rfl; simp only [go_sem, simprocAttr, rows_get hx, rows_get hy, hwk]) | refine And.intro ?_ ?_)
    all_goals first
     | (refine goodk (by first | omega | (simp_all; done) | (simp_all; omega)) _ ?_; exact lessA)
     | (simp only [retK, resD, retL, oneD, simprocAttr, Tryz.results150]; exact ⟨_, rfl, rfl, badk (by first | omega | (simp_all; done) | (simp_all; omega))⟩)
   have h2 : ((k : Int) < (i : Int)) = False := eq_false (by omega)
   have hIn : ∀ (k : Nat) (y : AFilter), k < i → l[k]? = some y → ¬ (y.kind = x.kind ∧ foldSame y.name x.name = true) := fun k' y hk' hy => hS k' y (by omega) hy
   clear hS hwk hk
   simp only [go_sem, simprocAttr, rows_get hx, h2, hw]
   first | clear h2 hki k | clear h2 hki

   refine good ⟨hmay, hIn⟩ c _ (by rw [ht]; rfl) ?_
   exact lessA
 have h1 : ((i : Int) < (l.length : Int)) = False := eq_false (by omega)
 have hall : ∀ (j : Nat) (x : AFilter), l[j]? = some x → filterMay x = true ∧ ∀ (k : Nat) (y : AFilter), k < (j) → l[k]? = some y → ¬ (y.kind = x.kind ∧ foldSame y.name x.name = true) := fun j x hx => hT j x (by have := (List.getElem?_eq_some_iff.1 hx).1; omega) hx
 rw [List.take_of_length_le (by omega)] at hc ⊢
 rw [hc]
 clear hT hw hwc
 simp only [go_sem, simprocAttr, h1]
 repeat' (first | refine GifP.mk (fun _ => ?_) (fun _ => ?_) | refine Gif.mk (fun _ => ?_) (fun _ => ?_))
 all_goals
  simp only [retK, resD, retL, oneD, simprocAttr, Tryz.results150]
  first
   | exact ⟨_, rfl, rfl, bool_no fun e => by have := ((filtersAll_iff l).1 e).1.1; rw [hc] at this; omega⟩
   | exact ⟨_, rfl, rfl, bool_dec ⟨fun h => (filtersAll_iff l).2 ⟨⟨by rw [hc]; omega, by omega⟩, hall⟩, fun h => by have := ((filtersAll_iff l).1 h).1.2; omega⟩⟩


theorem ref8_value (s : ByteArray) (hs : s.size ≤ 1000000) : Pure Tryz.prog 100 [str s] (fun d => d = bln (labValue s)) := by
 refine pure_of_run follows an_z1s4w Tryz.func100 rfl ok_z1s4w.1 ok_z1s4w.2 (by simp [Tryz.ntmps100]) ?_
 rw [run_start]
 simp only [ac_z1s4w, go_sem, simprocAttr]
 (repeat' (first | (refine GifP.mk (fun _ => ?_) (fun _ => ?_)) | (refine Gif.mk (fun _ => ?_) (fun _ => ?_)) | (refine (ref1_Label _ hs).callW (enters_of Tryz.func74 rfl rfl) _ rfl rfl ?_; rintro _ rfl; try simp only [go_sem, simprocAttr]))) <;> (simp only [retK, resD, retL, oneD, simprocAttr, Tryz.results100]; exact ⟨_, rfl, rfl, congrArg bln (by first | rfl | (rw [Bool.eq_iff_iff]; simp only [labValue]; (first | (simp; done) | (simp; omega) | (simp [*]; done) | (simp [*]; omega))) | (simp_all [labValue]; done) | (exfalso; omega))⟩)

theorem askMay_iff (n : ANeed) : askMay n = true ↔ (dname n.name = true ∧ (((n.kind = 1 ∨ n.kind = 2) ∧ 1 ≤ n.vals.length ∧ n.vals.length ≤ 8) ∨ ((n.kind = 3 ∨ n.kind = 4) ∧ n.vals.length = 0))) ∧ ∀ (j : Nat) (x : ByteArray), n.vals[j]? = some x → labValue x = true := by
 simp only [askMay, fewVals, Bool.and_eq_true, Bool.or_eq_true, decide_eq_true_eq, Bool.not_eq_true', any_at, Bool.not_eq_false']
 constructor
 ·rintro ⟨h1, h2⟩
  rcases h2 with ((⟨h2, ⟨h3, h4⟩, h5⟩ | ⟨h2, ⟨h3, h4⟩, h5⟩) | ⟨h2, h3⟩) | ⟨h2, h3⟩
  ·exact ⟨⟨h1, .inl ⟨.inl h2, h3, h4⟩⟩, h5⟩
  ·exact ⟨⟨h1, .inl ⟨.inr h2, h3, h4⟩⟩, h5⟩
  ·exact ⟨⟨h1, .inr ⟨.inl h2, h3⟩⟩, fun j x hx => by have := (List.getElem?_eq_some_iff.1 hx).1; omega⟩
  ·exact ⟨⟨h1, .inr ⟨.inr h2, h3⟩⟩, fun j x hx => by have := (List.getElem?_eq_some_iff.1 hx).1; omega⟩
 ·rintro ⟨⟨h1, h2⟩, h5⟩
  refine ⟨h1, ?_⟩
  rcases h2 with ⟨h2 | h2, h3, h4⟩ | ⟨h2 | h2, h3⟩
  ·exact .inl (.inl (.inl ⟨h2, ⟨h3, h4⟩, h5⟩))
  ·exact .inl (.inl (.inr ⟨h2, ⟨h3, h4⟩, h5⟩))
  ·exact .inl (.inr ⟨h2, h3⟩)
  ·exact .inr ⟨h2, h3⟩

theorem needsMay_iff (l : List ANeed) : needsMay l = true ↔ l.length ≤ 8 ∧ ∀ (j : Nat) (x : ANeed), l[j]? = some x → askMay x = true := by
 simp only [needsMay, Bool.and_eq_true, decide_eq_true_eq, Bool.not_eq_true', any_at, Bool.not_eq_false']

theorem labels_from {l : List APair} : ∀ {k i : Nat}, labelsFrom l k i = true ↔ ∀ (j : Nat) (x : APair), i ≤ j → j < i + k → l[j]? = some x → (dname x.name = true ∧ labValue x.val = true) ∧ ∀ y : APair, 0 < j → l[j - 1]? = some y → Op.bytesLess y.name.toList x.name.toList = true
 | 0, i => by
   simp only [labelsFrom, true_iff]
   intro j x h1 h2; omega
 | k + 1, i => by
   simp only [labelsFrom, Bool.and_eq_true, labels_from]
   have one : ∀ x : APair, l[i]? = some x → ((dname x.name && labValue x.val && (decide (i = 0) || (match l[i - 1]? with | some q => Op.bytesLess q.name.toList x.name.toList | none => false))) = true ↔ (dname x.name = true ∧ labValue x.val = true) ∧ ∀ y : APair, 0 < i → l[i - 1]? = some y → Op.bytesLess y.name.toList x.name.toList = true) := fun x hx => by
    simp only [Bool.and_eq_true, Bool.or_eq_true, decide_eq_true_eq]
    refine and_congr_right fun _ => ?_
    have hlt := (List.getElem?_eq_some_iff.1 hx).1
    constructor
    ·rintro (h | h) y h0 hy
     ·omega
     ·rw [hy] at h; exact h
    ·intro h
     by_cases h0 : i = 0
     ·exact .inl h0
     ·right
      obtain ⟨y, hy⟩ := at_lt (show i - 1 < l.length by omega)
      rw [hy]
      exact h y (by omega) hy
   constructor
   ·rintro ⟨h1, h2⟩ j x hj hk hx
    rcases Nat.eq_or_lt_of_le hj with e | e
    ·subst e
     rw [hx] at h1
     exact (one x hx).1 h1
    ·exact h2 j x e (by omega) hx
   ·intro h
    refine ⟨?_, fun j x hj hk hx => h j x (by omega) (by omega) hx⟩
    cases hx : l[i]? with
    | none => rfl
    | some x => exact (one x hx).2 (h i x (Nat.le_refl _) (by omega) hx)

theorem labelsMay_iff (l : List APair) : labelsMay l = true ↔ l.length ≤ 8 ∧ ∀ (j : Nat) (x : APair), l[j]? = some x → (dname x.name = true ∧ labValue x.val = true) ∧ ∀ y : APair, 0 < j → l[j - 1]? = some y → Op.bytesLess y.name.toList x.name.toList = true := by
 simp only [labelsMay, Bool.and_eq_true, decide_eq_true_eq, labels_from]
 constructor
 ·rintro ⟨h1, h2⟩
  exact ⟨h2, fun j x hx => h1 j x (Nat.zero_le _) (by have := (List.getElem?_eq_some_iff.1 hx).1; omega) hx⟩
 ·rintro ⟨h1, h2⟩
  exact ⟨fun j x _ _ hx => h2 j x hx, h1⟩

set_option maxHeartbeats 2000000 in
theorem ref8_One (n : ANeed) (hn : n.vals.length ≤ 1000000) (hv : ∀ s ∈ n.vals, s.size ≤ 1000000) : Pure Tryz.prog 149 [n.d] (fun d => d = bln (askMay n)) := by
 refine pure_of_run follows an_zqap2 Tryz.func149 rfl ok_zqap2.1 ok_zqap2.2 (by simp [Tryz.ntmps149]) ?_
 rw [run_start]
 simp only [ac_zqap2, go_sem, simprocAttr]
 refine loopS (fun k st => ∃ i : Nat, k = n.vals.length - i ∧ i ≤ n.vals.length ∧ (∀ (j : Nat) (x : ByteArray), j < i → n.vals[j]? = some x → labValue x = true) ∧ st = ⟨[(1, .ptr 1 0), (3, int i)], [(1, [int n.kind, str n.name, .pd (.slice (strs n.vals))])], [], .no⟩) n.vals.length _ ?_ ⟨0, rfl, by omega, fun _ _ h => absurd h (Nat.not_lt_zero _), rfl⟩ ?_
 ·exact lessA
 rintro k st ⟨i, rfl, hi, hT, rfl⟩
 have hw := i64_succ (show i < 1000000000 by omega)
 by_cases hlt : i < n.vals.length
 ·obtain ⟨x, hx⟩ := at_lt hlt
  have hmem := List.mem_of_getElem? hx
  have h1 : ((i : Int) < (n.vals.length : Int)) = True := eq_true (by omega)
  have good : (labValue x = true) → ∀ st, Weak Tryz.prog st ⟨[(1, .ptr 1 0), (3, int (i + 1 : Nat))], [(1, [int n.kind, str n.name, .pd (.slice (strs n.vals))])], [], .no⟩ → Round Tryz.prog (fun k st => ∃ i : Nat, k = n.vals.length - i ∧ i ≤ n.vals.length ∧ (∀ (j : Nat) (x : ByteArray), j < i → n.vals[j]? = some x → labValue x = true) ∧ st = ⟨[(1, .ptr 1 0), (3, int i)], [(1, [int n.kind, str n.name, .pd (.slice (strs n.vals))])], [], .no⟩) (n.vals.length - i) st := fun h st hw => ⟨n.vals.length - (i + 1), _, by omega, hw, i + 1, rfl, by omega, snoc_all hT hx h, rfl⟩
  have bad : ¬ (labValue x = true) → bln false = bln (askMay n) := fun h => bool_no fun e => h (((askMay_iff n).1 e).2 i x hx)
  simp only [go_sem, simprocAttr, rows_get hx, h1, hw]
  repeat' (first | refine GifP.mk (fun _ => ?_) (fun _ => ?_) | refine Gif.mk (fun _ => ?_) (fun _ => ?_) | (refine (ref8_value x (hv x hmem)).callW (enters_of Tryz.func100 rfl rfl) _ rfl rfl ?_; rintro _ rfl; simp only [go_sem, simprocAttr, rows_get hx, hw]) | refine And.intro ?_ ?_)
  all_goals first
   | (refine good (by assumption) _ ?_; exact lessA)
   | (simp only [retK, resD, retL, oneD, simprocAttr, Tryz.results149]; exact ⟨_, rfl, rfl, bad (by simp_all)⟩)
 have h1 : ((i : Int) < (n.vals.length : Int)) = False := eq_false (by omega)
 have hall : ∀ (j : Nat) (x : ByteArray), n.vals[j]? = some x → labValue x = true := fun j x hx => hT j x (by have := (List.getElem?_eq_some_iff.1 hx).1; omega) hx
 clear hT hw hi
 simp only [go_sem, simprocAttr, h1]
 first | clear h1 hlt i | clear h1 hlt
 repeat' (first | refine GifP.mk (fun _ => ?_) (fun _ => ?_) | refine Gif.mk (fun _ => ?_) (fun _ => ?_) | (refine (ref1_Name n.name).callW (enters_of Tryz.func73 rfl rfl) _ rfl rfl ?_; rintro _ rfl; simp only [go_sem, simprocAttr]) | refine And.intro ?_ ?_)
 all_goals
  simp only [retK, resD, retL, oneD, simprocAttr, Tryz.results149]
  refine ⟨_, rfl, rfl, congrArg bln ?_⟩
  rw [Bool.eq_iff_iff, askMay_iff, eq_true hall, and_true]
  clear hall hv
  first
   | (simp_all; done)
   | (simp_all; omega)
   | (simp only [decide_eq_true_eq, *]; omega)
   | (simp [*]; omega)
   | trace_state

theorem ref8_Needs (l : List ANeed) (hl : l.length ≤ 1000000) (h : ∀ n ∈ l, n.vals.length ≤ 1000000) (hv : ∀ n ∈ l, ∀ s ∈ n.vals, s.size ≤ 1000000) : Pure Tryz.prog 102 [.pd (.slice (rows ANeed.pd l))] (fun d => d = bln (needsMay l)) := by
 refine pure_of_run follows an_zc60e Tryz.func102 rfl ok_zc60e.1 ok_zc60e.2 (by simp [Tryz.ntmps102]) ?_
 rw [run_start]
 simp only [ac_zc60e, go_sem, simprocAttr]
 refine loopS (fun k st => ∃ i : Nat, k = l.length - i ∧ i ≤ l.length ∧ (∀ (j : Nat) (x : ANeed), j < i → l[j]? = some x → askMay x = true) ∧ st = ⟨[(0, .pd (.slice (rows ANeed.pd l))), (3, int i)], [], [], .no⟩) l.length _ ?_ ⟨0, rfl, by omega, fun _ _ h => absurd h (Nat.not_lt_zero _), rfl⟩ ?_
 ·exact lessA
 rintro k st ⟨i, rfl, hi, hT, rfl⟩
 have hw := i64_succ (show i < 1000000000 by omega)
 by_cases hlt : i < l.length
 ·obtain ⟨x, hx⟩ := at_lt hlt
  have hmem := List.mem_of_getElem? hx
  have h1 : ((i : Int) < (l.length : Int)) = True := eq_true (by omega)
  have good : (askMay x = true) → ∀ st, Weak Tryz.prog st ⟨[(0, .pd (.slice (rows ANeed.pd l))), (3, int (i + 1 : Nat))], [], [], .no⟩ → Round Tryz.prog (fun k st => ∃ i : Nat, k = l.length - i ∧ i ≤ l.length ∧ (∀ (j : Nat) (x : ANeed), j < i → l[j]? = some x → askMay x = true) ∧ st = ⟨[(0, .pd (.slice (rows ANeed.pd l))), (3, int i)], [], [], .no⟩) (l.length - i) st := fun h st hw => ⟨l.length - (i + 1), _, by omega, hw, i + 1, rfl, by omega, snoc_all hT hx h, rfl⟩
  have bad : ¬ (askMay x = true) → bln false = bln (needsMay l) := fun h => bool_no fun e => h (((needsMay_iff l).1 e).2 i x hx)
  simp only [go_sem, simprocAttr, rows_get hx, h1, hw]
  repeat' (first | refine GifP.mk (fun _ => ?_) (fun _ => ?_) | refine Gif.mk (fun _ => ?_) (fun _ => ?_) | (refine (ref8_One x (h x hmem) (hv x hmem)).callW (enters_of Tryz.func149 rfl rfl) _ rfl rfl ?_; rintro _ rfl; simp only [go_sem, simprocAttr, rows_get hx, hw]) | refine And.intro ?_ ?_)
  all_goals first
   | (refine good (by assumption) _ ?_; exact lessA)
   | (simp only [retK, resD, retL, oneD, simprocAttr, Tryz.results102]; exact ⟨_, rfl, rfl, bad (by simp_all)⟩)
 have h1 : ((i : Int) < (l.length : Int)) = False := eq_false (by omega)
 have hall : ∀ (j : Nat) (x : ANeed), l[j]? = some x → askMay x = true := fun j x hx => hT j x (by have := (List.getElem?_eq_some_iff.1 hx).1; omega) hx
 clear hT hw hi
 simp only [go_sem, simprocAttr, h1]
 first | clear h1 hlt i | clear h1 hlt
 simp only [retK, resD, retL, oneD, simprocAttr, Tryz.results102]
 exact ⟨_, rfl, rfl, bool_dec ⟨fun h => (needsMay_iff l).2 ⟨by omega, hall⟩, fun h => by have := ((needsMay_iff l).1 h).1; omega⟩⟩

set_option maxHeartbeats 2000000 in
theorem ref8_May (l : List APair) (hl : l.length ≤ 1000000) (hv : ∀ p ∈ l, p.val.size ≤ 1000000) : Pure Tryz.prog 40 [.pd (.slice (rows APair.pd l))] (fun d => d = bln (labelsMay l)) := by
 refine pure_of_run follows an_zgvgo Tryz.func40 rfl ok_zgvgo.1 ok_zgvgo.2 (by simp [Tryz.ntmps40]) ?_
 rw [run_start]
 simp only [ac_zgvgo, go_sem, simprocAttr]
 refine loopS (fun k st => ∃ i : Nat, k = l.length - i ∧ i ≤ l.length ∧ (∀ (j : Nat) (x : APair), j < i → l[j]? = some x → (dname x.name = true ∧ labValue x.val = true) ∧ ∀ y : APair, 0 < (j) → l[(j) - 1]? = some y → Op.bytesLess y.name.toList x.name.toList = true) ∧ st = ⟨[(0, .pd (.slice (rows APair.pd l))), (3, int i)], [], [], .no⟩) l.length _ ?_ ⟨0, rfl, by omega, fun _ _ h => absurd h (Nat.not_lt_zero _), rfl⟩ ?_
 ·exact lessA
 rintro k st ⟨i, rfl, hi, hT, rfl⟩
 have hw := i64_succ (show i < 1000000000 by omega)
 by_cases hlt : i < l.length
 ·obtain ⟨x, hx⟩ := at_lt hlt
  have hmem := List.mem_of_getElem? hx
  have h1 : ((i : Int) < (l.length : Int)) = True := eq_true (by omega)
  have good : ((dname x.name = true ∧ labValue x.val = true) ∧ ∀ y : APair, 0 < i → l[i - 1]? = some y → Op.bytesLess y.name.toList x.name.toList = true) → ∀ st, Weak Tryz.prog st ⟨[(0, .pd (.slice (rows APair.pd l))), (3, int (i + 1 : Nat))], [], [], .no⟩ → Round Tryz.prog (fun k st => ∃ i : Nat, k = l.length - i ∧ i ≤ l.length ∧ (∀ (j : Nat) (x : APair), j < i → l[j]? = some x → (dname x.name = true ∧ labValue x.val = true) ∧ ∀ y : APair, 0 < (j) → l[(j) - 1]? = some y → Op.bytesLess y.name.toList x.name.toList = true) ∧ st = ⟨[(0, .pd (.slice (rows APair.pd l))), (3, int i)], [], [], .no⟩) (l.length - i) st := fun h st hw => ⟨l.length - (i + 1), _, by omega, hw, i + 1, rfl, by omega, snoc_all hT hx h, rfl⟩
  have bad : ¬ ((dname x.name = true ∧ labValue x.val = true) ∧ ∀ y : APair, 0 < i → l[i - 1]? = some y → Op.bytesLess y.name.toList x.name.toList = true) → bln false = bln (labelsMay l) := fun h => bool_no fun e => h (((labelsMay_iff l).1 e).2 i x hx)
  have hw1 : IntKind.i64.wrap ((i : Int) - 1) = (i : Int) - 1 := IntWalk.i64_in _ (by omega)
  by_cases h0 : i = 0
  ·subst h0
   have hw0 : IntKind.i64.wrap 1 = 1 := rfl
   simp only [go_sem, simprocAttr, rows_get hx, h1, hw, hw0]
   repeat' (first | refine GifP.mk (fun _ => ?_) (fun _ => ?_) | refine Gif.mk (fun _ => ?_) (fun _ => ?_) | (refine (ref1_Name x.name).callX (enters_of Tryz.func73 rfl rfl) _ rfl rfl ?_; rintro _ rfl; simp only [go_sem, simprocAttr, rows_get hx, h1, hw, hw0]) | (refine (ref8_value x.val (hv x hmem)).callX (enters_of Tryz.func100 rfl rfl) _ rfl rfl ?_; rintro _ rfl; simp only [go_sem, simprocAttr, rows_get hx, h1, hw, hw0]) | refine And.intro ?_ ?_)
   all_goals first
    | (refine good ⟨⟨by assumption, by assumption⟩, fun _ h => absurd h (Nat.lt_irrefl _)⟩ _ ?_; exact lessA)
    | (simp only [retK, resD, retL, oneD, simprocAttr, Tryz.results40]; exact ⟨_, rfl, rfl, bad (by simp_all)⟩)
    | (exfalso; omega)
  ·obtain ⟨y, hy⟩ := at_lt (show i - 1 < l.length by omega)
   have hi1 : ((i : Int) - 1).toNat = i - 1 := by omega
   have hi2 : (0 ≤ (i : Int) - 1) = True := eq_true (by omega)
   have hi3 : ((0 : Int) < (i : Int)) = True := eq_true (by omega)
   have hq : (∀ y : APair, 0 < i → l[i - 1]? = some y → Op.bytesLess y.name.toList x.name.toList = true) ↔ Op.bytesLess y.name.toList x.name.toList = true := ⟨fun h => h y (by omega) hy, fun h y' _ hy' => by rw [hy] at hy'; cases hy'; exact h⟩
   rw [hq] at good bad
   simp only [go_sem, simprocAttr, rows_get hx, h1, hw, hw1, hi1, hi2, hi3, rows_get hy, less_total]
   repeat' (first | refine GifP.mk (fun _ => ?_) (fun _ => ?_) | refine Gif.mk (fun _ => ?_) (fun _ => ?_) | (refine (ref1_Name x.name).callX (enters_of Tryz.func73 rfl rfl) _ rfl rfl ?_; rintro _ rfl; simp only [go_sem, simprocAttr, rows_get hx, h1, hw, hw1, hi1, hi2, hi3, rows_get hy, less_total]) | (refine (ref8_value x.val (hv x hmem)).callX (enters_of Tryz.func100 rfl rfl) _ rfl rfl ?_; rintro _ rfl; simp only [go_sem, simprocAttr, rows_get hx, h1, hw, hw1, hi1, hi2, hi3, rows_get hy, less_total]) | refine And.intro ?_ ?_)
   all_goals first
    | (refine good ⟨⟨by assumption, by assumption⟩, by simp_all⟩ _ ?_; exact lessA)
    | (simp only [retK, resD, retL, oneD, simprocAttr, Tryz.results40]; exact ⟨_, rfl, rfl, bad (by simp_all)⟩)
 have h1 : ((i : Int) < (l.length : Int)) = False := eq_false (by omega)
 have hall : ∀ (j : Nat) (x : APair), l[j]? = some x → (dname x.name = true ∧ labValue x.val = true) ∧ ∀ y : APair, 0 < (j) → l[(j) - 1]? = some y → Op.bytesLess y.name.toList x.name.toList = true := fun j x hx => hT j x (by have := (List.getElem?_eq_some_iff.1 hx).1; omega) hx
 clear hT hw hi
 simp only [go_sem, simprocAttr, h1]
 first | clear h1 hlt i | clear h1 hlt
 simp only [retK, resD, retL, oneD, simprocAttr, Tryz.results40]
 exact ⟨_, rfl, rfl, bool_dec ⟨fun h => (labelsMay_iff l).2 ⟨by omega, hall⟩, fun h => by have := ((labelsMay_iff l).1 h).1; omega⟩⟩


structure AObj.sok (o : AObj) : Prop where
 rs : o.ref.space.size ≤ 1000000
 rn : o.ref.name.size ≤ 1000000
 lv : ∀ p ∈ o.labels, p.val.size ≤ 1000000
 ln : ∀ l ∈ o.listeners, l.name.size ≤ 1000000 ∧ l.cert.space.size ≤ 1000000 ∧ ∀ n ∈ l.needs, ∀ s ∈ n.vals, s.size ≤ 1000000
 pa : ∀ p ∈ o.parents, p.space.size ≤ 1000000 ∧ p.section_.size ≤ 1000000
 ru : ∀ r ∈ o.rules, (∀ m ∈ r.matches_, m.method.size ≤ 1000000) ∧ (∀ f ∈ r.filters, f.host.size ≤ 1000000 ∧ f.path.size ≤ 1000000) ∧ ∀ b ∈ r.backends, b.ref.space.size ≤ 1000000
 si : ∀ s ∈ o.from_, s.space.size ≤ 1000000

theorem ref9_kind (n : Int) : Pure Tryz.prog 105 [int n] (fun d => d = bln (okind n)) := by
 refine pure_of_run follows an_zotge Tryz.func105 rfl ok_zotge.1 ok_zotge.2 (by simp [Tryz.ntmps105]) ?_
 rw [run_start]
 simp only [ac_zotge, go_sem, simprocAttr]
 (repeat' (first | (refine GifP.mk (fun _ => ?_) (fun _ => ?_)) | (refine Gif.mk (fun _ => ?_) (fun _ => ?_)))) <;> (simp only [retK, resD, retL, oneD, simprocAttr, Tryz.results105]; exact ⟨_, rfl, rfl, congrArg bln (by first | rfl | (rw [Bool.eq_iff_iff]; simp only [okind]; (first | (simp; done) | (simp; omega) | (simp [*]; done) | (simp [*]; omega))) | (simp_all [okind]; done) | (exfalso; omega))⟩)
theorem ref9_port (n : Int) : Pure Tryz.prog 41 [int n] (fun d => d = bln (oport n)) := by
 refine pure_of_run follows an_ztb7v Tryz.func41 rfl ok_ztb7v.1 ok_ztb7v.2 (by simp [Tryz.ntmps41]) ?_
 rw [run_start]
 simp only [ac_ztb7v, go_sem, simprocAttr]
 (repeat' (first | (refine GifP.mk (fun _ => ?_) (fun _ => ?_)) | (refine Gif.mk (fun _ => ?_) (fun _ => ?_)))) <;> (simp only [retK, resD, retL, oneD, simprocAttr, Tryz.results41]; exact ⟨_, rfl, rfl, congrArg bln (by first | rfl | (rw [Bool.eq_iff_iff]; simp only [oport]; (first | (simp; done) | (simp; omega) | (simp [*]; done) | (simp [*]; omega))) | (simp_all [oport]; done) | (exfalso; omega))⟩)
theorem ref9_near (s : ByteArray) (hs : s.size ≤ 1000000) : Pure Tryz.prog 103 [str s] (fun d => d = bln (labValue s)) := by
 refine pure_of_run follows an_z84ie Tryz.func103 rfl ok_z84ie.1 ok_z84ie.2 (by simp [Tryz.ntmps103]) ?_
 rw [run_start]
 simp only [ac_z84ie, go_sem, simprocAttr]
 (repeat' (first | (refine GifP.mk (fun _ => ?_) (fun _ => ?_)) | (refine Gif.mk (fun _ => ?_) (fun _ => ?_)) | (refine (ref1_Label _ hs).callW (enters_of Tryz.func74 rfl rfl) _ rfl rfl ?_; rintro _ rfl; try simp only [go_sem, simprocAttr]))) <;> (simp only [retK, resD, retL, oneD, simprocAttr, Tryz.results103]; exact ⟨_, rfl, rfl, congrArg bln (by first | rfl | (rw [Bool.eq_iff_iff]; simp only [labValue]; (first | (simp; done) | (simp; omega) | (simp [*]; done) | (simp [*]; omega))) | (simp_all [labValue]; done) | (exfalso; omega))⟩)

theorem mayRef_iff (r : ARef) : mayRef r = true ↔ (r.kind = 1 ∧ r.space = ⟨#[]⟩ ∧ dname r.name = true) ∨ (r.kind = 2 ∧ r.space = ⟨#[]⟩ ∧ label r.name = true) ∨ (3 ≤ r.kind ∧ r.kind ≤ 7 ∧ label r.space = true ∧ dname r.name = true) := by
 unfold mayRef
 split
 ·rename_i h
  simp [h]
 ·split
  ·rename_i h1 h
   simp [h]
  ·rename_i h1 h2
   simp only [okind, Bool.and_eq_true, decide_eq_true_eq]
   constructor
   ·rintro ⟨⟨⟨h3, h4⟩, h5⟩, h6⟩
    exact .inr (.inr ⟨by omega, h4, h5, h6⟩)
   ·rintro (⟨h3, _⟩ | ⟨h3, _⟩ | ⟨h3, h4, h5, h6⟩)
    ·exact absurd h3 h1
    ·exact absurd h3 h2
    ·exact ⟨⟨⟨by omega, h4⟩, h5⟩, h6⟩

set_option maxHeartbeats 2000000 in
theorem ref9_MayRef (r : ARef) (h1 : r.space.size ≤ 1000000) (h2 : r.name.size ≤ 1000000) : Pure Tryz.prog 26 [r.d] (fun d => d = bln (mayRef r)) := by
 refine pure_of_run follows an_zvuu8 Tryz.func26 rfl ok_zvuu8.1 ok_zvuu8.2 (by simp [Tryz.ntmps26]) ?_
 rw [run_start]
 simp only [ac_zvuu8, go_sem, simprocAttr]
 (repeat' (first | (refine GifP.mk (fun _ => ?_) (fun _ => ?_)) | (refine Gif.mk (fun _ => ?_) (fun _ => ?_)) | ((first | refine (ref1_Label r.name h2).callW (enters_of Tryz.func74 rfl rfl) _ rfl rfl ?_ | refine (ref1_Label r.space h1).callW (enters_of Tryz.func74 rfl rfl) _ rfl rfl ?_ | refine (ref1_Name r.name).callW (enters_of Tryz.func73 rfl rfl) _ rfl rfl ?_); rintro _ rfl; try simp only [go_sem, simprocAttr]))) <;> (simp only [retK, resD, retL, oneD, simprocAttr, Tryz.results26]; exact ⟨_, rfl, rfl, congrArg bln (by rw [Bool.eq_iff_iff, mayRef_iff]; first | (simp_all; done) | (simp_all; omega) | (have q1 : ¬ r.kind = 1 ∧ ¬ r.kind = 2 ∧ 3 ≤ r.kind ∧ r.kind ≤ 7 := (by omega); simp_all; done) | (have q1 : ¬ r.kind = 1 ∧ ¬ r.kind = 2 ∧ ¬ 3 ≤ r.kind := (by omega); simp_all; done))⟩)

theorem listenerMay_iff (l : AListener) : listenerMay l = true ↔ ((l.tls = true → l.cert.kind = 4 ∧ labValue l.cert.space = true ∧ dname l.cert.name = true) ∧ (l.tls = false → l.cert.kind = 0 ∧ l.cert.space = ⟨#[]⟩ ∧ l.cert.name = ⟨#[]⟩)) ∧
 label l.name = true ∧ oport l.port = true ∧ hostMay l.host = true ∧ 0 ≤ l.from_ ∧ l.from_ ≤ 2 ∧ needsMay l.needs = true ∧ (l.from_ = 2 ∨ l.needs.length = 0) := by
 simp only [listenerMay, Bool.and_eq_true, Bool.or_eq_true, decide_eq_true_eq]
 cases htls : l.tls <;> simp [and_assoc]

theorem every_iff {α : Type} (p : α → Bool) (l : List α) (n : Int) : every p l n = true ↔ (l.length : Int) ≤ n ∧ ∀ (j : Nat) (x : α), l[j]? = some x → p x = true := by
 simp only [every, Bool.and_eq_true, decide_eq_true_eq, all_at]

theorem gatewayMay_iff (s : ByteArray) (l : List AListener) : gatewayMay s l = true ↔ (dname s = true ∧ 0 < l.length ∧ l.length ≤ 8) ∧
 ∀ (j : Nat) (x : AListener), l[j]? = some x → listenerMay x = true ∧ ∀ (k : Nat) (y : AListener), k < j → l[k]? = some y → ¬ y.name = x.name := by
 simp only [gatewayMay, Bool.and_eq_true, decide_eq_true_eq, every_iff, Bool.not_eq_true', tw_iff, lisName, decide_eq_false_iff_not]
 constructor
 ·rintro ⟨⟨⟨h1, h2⟩, h3, h4⟩, h5⟩
  exact ⟨⟨h1, h2, by omega⟩, fun j x hx => ⟨h4 j x hx, fun k y hk hy e => h5 j x hx k y hk hy e.symm⟩⟩
 ·rintro ⟨⟨h1, h2, h3⟩, h4⟩
  exact ⟨⟨⟨h1, h2⟩, by omega, fun j x hx => (h4 j x hx).1⟩, fun j x hx k y hk hy e => (h4 j x hx).2 k y hk hy e.symm⟩

theorem routeMay_iff (ps : List AParent) (hs : List ByteArray) (rs : List ARule) : routeMay ps hs rs = true ↔ (ps.length ≤ 4 ∧ hs.length ≤ 4 ∧ rs.length ≤ 6) ∧
 (∀ (j : Nat) (x : AParent), ps[j]? = some x → parentMay x = true ∧ ∀ (k : Nat) (y : AParent), k < j → ps[k]? = some y → ¬ y = x) ∧
 (∀ (j : Nat) (x : ByteArray), hs[j]? = some x → patMay x = true ∧ ∀ (k : Nat) (y : ByteArray), k < j → hs[k]? = some y → ¬ y = x) ∧
 ∀ (j : Nat) (x : ARule), rs[j]? = some x → ruleMay x = true := by
 simp only [routeMay, Bool.and_eq_true, every_iff, Bool.not_eq_true', Bool.or_eq_false_iff, tw_iff, parSame, strSame, decide_eq_false_iff_not]
 constructor
 ·rintro ⟨⟨⟨⟨h1, h2⟩, h3, h4⟩, h5, h6⟩, h7, h8⟩
  exact ⟨⟨by omega, by omega, by omega⟩, fun j x hx => ⟨h4 j x hx, fun k y hk hy e => h1 j x hx k y hk hy e.symm⟩, fun j x hx => ⟨h6 j x hx, fun k y hk hy e => h2 j x hx k y hk hy e.symm⟩, h8⟩
 ·rintro ⟨⟨h1, h2, h3⟩, h4, h5, h6⟩
  exact ⟨⟨⟨⟨fun j x hx k y hk hy e => (h4 j x hx).2 k y hk hy e.symm, fun j x hx k y hk hy e => (h5 j x hx).2 k y hk hy e.symm⟩, by omega, fun j x hx => (h4 j x hx).1⟩, by omega, fun j x hx => (h5 j x hx).1⟩, by omega, h6⟩

theorem ruleMay_iff (r : ARule) : ruleMay r = true ↔ (r.matches_.length ≤ 4 ∧ r.backends.length ≤ 4 ∧ filtersAll r.filters = true) ∧ (∀ (j : Nat) (x : AMatch), r.matches_[j]? = some x → matchMay x = true) ∧ ∀ (j : Nat) (x : ABackend), r.backends[j]? = some x → backendMay x = true := by
 simp only [ruleMay, Bool.and_eq_true, every_iff]
 constructor
 ·rintro ⟨⟨⟨h1, h2⟩, h3⟩, h4, h5⟩; exact ⟨⟨by omega, by omega, h3⟩, h2, h5⟩
 ·rintro ⟨⟨h1, h2, h3⟩, h4, h5⟩; exact ⟨⟨⟨by omega, h4⟩, h3⟩, by omega, h5⟩

theorem grantMay_iff (f t : List ASide) : grantMay f t = true ↔ (0 < f.length ∧ f.length ≤ 4 ∧ 0 < t.length ∧ t.length ≤ 4) ∧ (∀ (j : Nat) (x : ASide), f[j]? = some x → sideFrom x = true) ∧ ∀ (j : Nat) (x : ASide), t[j]? = some x → sideTo x = true := by
 simp only [grantMay, Bool.and_eq_true, every_iff, decide_eq_true_eq]
 constructor
 ·rintro ⟨⟨⟨h1, h2⟩, h3, h4⟩, h5, h6⟩; exact ⟨⟨h1, by omega, h2, by omega⟩, h4, h6⟩
 ·rintro ⟨⟨h1, h2, h3, h4⟩, h5, h6⟩; exact ⟨⟨⟨h1, h3⟩, by omega, h5⟩, by omega, h6⟩

theorem backendMay_iff (b : ABackend) : backendMay b = true ↔ okind b.ref.kind = true ∧ labValue b.ref.space = true ∧ dname b.ref.name = true ∧ (b.port = 0 ∨ oport b.port = true) ∧ 0 ≤ b.weight ∧ b.weight ≤ 1000 := by
 simp only [backendMay, Bool.and_eq_true, Bool.or_eq_true, decide_eq_true_eq, and_assoc]

theorem parentMay_iff (p : AParent) : parentMay p = true ↔ labValue p.space = true ∧ dname p.name = true ∧ labValue p.section_ = true ∧ (p.port = 0 ∨ oport p.port = true) := by
 simp only [parentMay, Bool.and_eq_true, Bool.or_eq_true, decide_eq_true_eq, and_assoc]

theorem sideFrom_iff (s : ASide) : sideFrom s = true ↔ okind s.kind = true ∧ label s.space = true ∧ s.name = ⟨#[]⟩ := by
 simp only [sideFrom, Bool.and_eq_true, decide_eq_true_eq, and_assoc]

theorem sideTo_iff (s : ASide) : sideTo s = true ↔ okind s.kind = true ∧ s.space = ⟨#[]⟩ ∧ (s.name = ⟨#[]⟩ ∨ dname s.name = true) := by
 simp only [sideTo, Bool.and_eq_true, Bool.or_eq_true, decide_eq_true_eq, and_assoc]

theorem patMay_iff (s : ByteArray) : patMay s = true ↔ ¬ s = ⟨#[]⟩ ∧ hostMay s = true := by
 simp only [patMay, Bool.and_eq_true, Bool.not_eq_true', decide_eq_false_iff_not]

set_option maxHeartbeats 4000000 in
theorem ref9_rule (r : ARule) (h : r.ok) (hm : ∀ m ∈ r.matches_, m.method.size ≤ 1000000) (hf : ∀ f ∈ r.filters, f.host.size ≤ 1000000 ∧ f.path.size ≤ 1000000) (hb : ∀ b ∈ r.backends, b.ref.space.size ≤ 1000000) : Pure Tryz.prog 104 [r.d] (fun d => d = bln (ruleMay r)) := by
 have hml := h.ml
 have hfl := h.fl
 have hbl := h.bl
 refine pure_of_run follows an_zn5zf Tryz.func104 rfl ok_zn5zf.1 ok_zn5zf.2 (by simp [Tryz.ntmps104]) ?_
 rw [run_start]
 have key : ¬ (r.matches_.length ≤ 4 ∧ r.backends.length ≤ 4 ∧ filtersAll r.filters = true) → bln false = bln (ruleMay r) := fun hn => bool_no fun e => hn ((ruleMay_iff r).1 e).1
 simp only [ac_zn5zf, go_sem, simprocAttr]
 repeat' (first | refine GifP.mk (fun _ => ?_) (fun _ => ?_) | refine Gif.mk (fun _ => ?_) (fun _ => ?_) | (refine (ref7_All r.filters hfl h.f hf).callW (enters_of Tryz.func150 rfl rfl) _ rfl rfl ?_; rintro _ rfl; simp only [go_sem, simprocAttr]) | refine And.intro ?_ ?_)
 all_goals first
  | (simp only [retK, resD, retL, oneD, simprocAttr, Tryz.results104]; exact ⟨_, rfl, rfl, key (by first | omega | (simp_all; done) | (simp_all; omega))⟩)
  | skip
 have hA : r.matches_.length ≤ 4 ∧ r.backends.length ≤ 4 ∧ filtersAll r.filters = true := ⟨by omega, by omega, by assumption⟩
 clear key
 refine loopS (fun k st => ∃ i : Nat, k = r.matches_.length - i ∧ i ≤ r.matches_.length ∧ (∀ (j : Nat) (x : AMatch), j < i → r.matches_[j]? = some x → matchMay x = true) ∧ st = ⟨[(1, .ptr 1 0), (3, int i)], [(1, [.pd (.slice (rows AMatch.pd r.matches_)), .pd (.slice (rows AFilter.pd r.filters)), .pd (.slice (rows ABackend.pd r.backends))])], [], .no⟩) r.matches_.length _ ?_ ⟨0, rfl, by omega, fun _ _ h => absurd h (Nat.not_lt_zero _), rfl⟩ ?_
 ·exact lessA
 rintro k st ⟨i, rfl, hi, hT, rfl⟩
 have hw := i64_succ (show i < 1000000000 by omega)
 by_cases hlt : i < r.matches_.length
 ·obtain ⟨x, hx⟩ := at_lt hlt
  have hmem := List.mem_of_getElem? hx
  have h1 : ((i : Int) < (r.matches_.length : Int)) = True := eq_true (by omega)
  have good : (matchMay x = true) → ∀ st, Weak Tryz.prog st ⟨[(1, .ptr 1 0), (3, int (i + 1 : Nat))], [(1, [.pd (.slice (rows AMatch.pd r.matches_)), .pd (.slice (rows AFilter.pd r.filters)), .pd (.slice (rows ABackend.pd r.backends))])], [], .no⟩ → Round Tryz.prog (fun k st => ∃ i : Nat, k = r.matches_.length - i ∧ i ≤ r.matches_.length ∧ (∀ (j : Nat) (x : AMatch), j < i → r.matches_[j]? = some x → matchMay x = true) ∧ st = ⟨[(1, .ptr 1 0), (3, int i)], [(1, [.pd (.slice (rows AMatch.pd r.matches_)), .pd (.slice (rows AFilter.pd r.filters)), .pd (.slice (rows ABackend.pd r.backends))])], [], .no⟩) (r.matches_.length - i) st := fun h st hw => ⟨r.matches_.length - (i + 1), _, by omega, hw, i + 1, rfl, by omega, snoc_all hT hx h, rfl⟩
  have bad : ¬ (matchMay x = true) → bln false = bln (ruleMay r) := fun h => bool_no fun e => h (((ruleMay_iff r).1 e).2.1 i x hx)
  simp only [go_sem, simprocAttr, rows_get hx, h1, hw]
  repeat' (first | refine GifP.mk (fun _ => ?_) (fun _ => ?_) | refine Gif.mk (fun _ => ?_) (fun _ => ?_) | (refine (ref6_May x (h.m x hmem) (hm x hmem)).callW (enters_of Tryz.func151 rfl rfl) _ rfl rfl ?_; rintro _ rfl; simp only [go_sem, simprocAttr, rows_get hx, hw]) | refine And.intro ?_ ?_)
  all_goals first
   | (refine good (by assumption) _ ?_; exact lessA)
   | (simp only [retK, resD, retL, oneD, simprocAttr, Tryz.results104]; exact ⟨_, rfl, rfl, bad (by simp_all)⟩)
 have h1 : ((i : Int) < (r.matches_.length : Int)) = False := eq_false (by omega)
 have hMatch : ∀ (j : Nat) (x : AMatch), r.matches_[j]? = some x → matchMay x = true := fun j x hx => hT j x (by have := (List.getElem?_eq_some_iff.1 hx).1; omega) hx
 clear hT hw hi
 simp only [go_sem, simprocAttr, h1]
 first | clear h1 hlt i | clear h1 hlt
 refine loopS (fun k st => ∃ i : Nat, k = r.backends.length - i ∧ i ≤ r.backends.length ∧ (∀ (j : Nat) (x : ABackend), j < i → r.backends[j]? = some x → backendMay x = true) ∧ st = ⟨[(1, .ptr 1 0), (4, int i)], [(1, [.pd (.slice (rows AMatch.pd r.matches_)), .pd (.slice (rows AFilter.pd r.filters)), .pd (.slice (rows ABackend.pd r.backends))])], [], .no⟩) r.backends.length _ ?_ ⟨0, rfl, by omega, fun _ _ h => absurd h (Nat.not_lt_zero _), rfl⟩ ?_
 ·exact lessA
 rintro k st ⟨i, rfl, hi, hT, rfl⟩
 have hw := i64_succ (show i < 1000000000 by omega)
 by_cases hlt : i < r.backends.length
 ·obtain ⟨x, hx⟩ := at_lt hlt
  have hmem := List.mem_of_getElem? hx
  have h1 : ((i : Int) < (r.backends.length : Int)) = True := eq_true (by omega)
  have good : (backendMay x = true) → ∀ st, Weak Tryz.prog st ⟨[(1, .ptr 1 0), (4, int (i + 1 : Nat))], [(1, [.pd (.slice (rows AMatch.pd r.matches_)), .pd (.slice (rows AFilter.pd r.filters)), .pd (.slice (rows ABackend.pd r.backends))])], [], .no⟩ → Round Tryz.prog (fun k st => ∃ i : Nat, k = r.backends.length - i ∧ i ≤ r.backends.length ∧ (∀ (j : Nat) (x : ABackend), j < i → r.backends[j]? = some x → backendMay x = true) ∧ st = ⟨[(1, .ptr 1 0), (4, int i)], [(1, [.pd (.slice (rows AMatch.pd r.matches_)), .pd (.slice (rows AFilter.pd r.filters)), .pd (.slice (rows ABackend.pd r.backends))])], [], .no⟩) (r.backends.length - i) st := fun h st hw => ⟨r.backends.length - (i + 1), _, by omega, hw, i + 1, rfl, by omega, snoc_all hT hx h, rfl⟩
  have bad : ¬ (backendMay x = true) → bln false = bln (ruleMay r) := fun h => bool_no fun e => h (((ruleMay_iff r).1 e).2.2 i x hx)
  simp only [go_sem, simprocAttr, rows_get hx, h1, hw]
  repeat' (first | refine GifP.mk (fun _ => ?_) (fun _ => ?_) | refine Gif.mk (fun _ => ?_) (fun _ => ?_) | (refine (ref9_kind x.ref.kind).callW (enters_of Tryz.func105 rfl rfl) _ rfl rfl ?_; rintro _ rfl; simp only [go_sem, simprocAttr, rows_get hx, hw]) | (refine (ref9_near x.ref.space (hb x hmem)).callW (enters_of Tryz.func103 rfl rfl) _ rfl rfl ?_; rintro _ rfl; simp only [go_sem, simprocAttr, rows_get hx, hw]) | (refine (ref1_Name x.ref.name).callW (enters_of Tryz.func73 rfl rfl) _ rfl rfl ?_; rintro _ rfl; simp only [go_sem, simprocAttr, rows_get hx, hw]) | (refine (ref9_port x.port).callW (enters_of Tryz.func41 rfl rfl) _ rfl rfl ?_; rintro _ rfl; simp only [go_sem, simprocAttr, rows_get hx, hw]) | refine And.intro ?_ ?_)
  all_goals first
   | (refine good ((backendMay_iff x).2 (by first | (simp_all; done) | (simp_all; omega))) _ ?_; exact lessA)
   | (simp only [retK, resD, retL, oneD, simprocAttr, Tryz.results104]; exact ⟨_, rfl, rfl, bad (by rw [backendMay_iff]; first | (simp_all; done) | (simp_all; omega) | (intro hh; simp_all; omega))⟩)
 have h1 : ((i : Int) < (r.backends.length : Int)) = False := eq_false (by omega)
 have hBack : ∀ (j : Nat) (x : ABackend), r.backends[j]? = some x → backendMay x = true := fun j x hx => hT j x (by have := (List.getElem?_eq_some_iff.1 hx).1; omega) hx
 clear hT hw hi
 simp only [go_sem, simprocAttr, h1]
 first | clear h1 hlt i | clear h1 hlt
 simp only [retK, resD, retL, oneD, simprocAttr, Tryz.results104]
 exact ⟨_, rfl, rfl, bool_yes ((ruleMay_iff r).2 ⟨hA, hMatch, hBack⟩)⟩

set_option maxHeartbeats 4000000 in
theorem ref9_grant (o : AObj) (h : o.ok) (hs : ∀ s ∈ o.from_, s.space.size ≤ 1000000) : Pure Tryz.prog 44 [o.d] (fun d => d = bln (grantMay o.from_ o.to_)) := by
 have hfr := h.fr
 have hto := h.to
 refine pure_of_run follows an_zrloc Tryz.func44 rfl ok_zrloc.1 ok_zrloc.2 (by simp [Tryz.ntmps44]) ?_
 rw [run_start]
 simp only [ac_zrloc, go_sem, simprocAttr]
 refine loopS (fun k st => ∃ i : Nat, k = o.from_.length - i ∧ i ≤ o.from_.length ∧ (∀ (j : Nat) (x : ASide), j < i → o.from_[j]? = some x → sideFrom x = true) ∧ st = ⟨[(1, .ptr 1 0), (3, int i)], [(1, o.ds)], [], .no⟩) o.from_.length _ ?_ ⟨0, rfl, by omega, fun _ _ h => absurd h (Nat.not_lt_zero _), rfl⟩ ?_
 ·exact lessA
 rintro k st ⟨i, rfl, hi, hT, rfl⟩
 have hw := i64_succ (show i < 1000000000 by omega)
 by_cases hlt : i < o.from_.length
 ·obtain ⟨x, hx⟩ := at_lt hlt
  have hmem := List.mem_of_getElem? hx
  have h1 : ((i : Int) < (o.from_.length : Int)) = True := eq_true (by omega)
  have good : (sideFrom x = true) → ∀ st, Weak Tryz.prog st ⟨[(1, .ptr 1 0), (3, int (i + 1 : Nat))], [(1, o.ds)], [], .no⟩ → Round Tryz.prog (fun k st => ∃ i : Nat, k = o.from_.length - i ∧ i ≤ o.from_.length ∧ (∀ (j : Nat) (x : ASide), j < i → o.from_[j]? = some x → sideFrom x = true) ∧ st = ⟨[(1, .ptr 1 0), (3, int i)], [(1, o.ds)], [], .no⟩) (o.from_.length - i) st := fun h st hw => ⟨o.from_.length - (i + 1), _, by omega, hw, i + 1, rfl, by omega, snoc_all hT hx h, rfl⟩
  have bad : ¬ (sideFrom x = true) → bln false = bln (grantMay o.from_ o.to_) := fun h => bool_no fun e => h (((grantMay_iff _ _).1 e).2.1 i x hx)
  simp only [go_sem, simprocAttr, rows_get hx, h1, hw]
  repeat' (first | refine GifP.mk (fun _ => ?_) (fun _ => ?_) | refine Gif.mk (fun _ => ?_) (fun _ => ?_) | (refine (ref9_kind x.kind).callW (enters_of Tryz.func105 rfl rfl) _ rfl rfl ?_; rintro _ rfl; simp only [go_sem, simprocAttr, rows_get hx, hw]) | (refine (ref1_Label x.space (hs x hmem)).callW (enters_of Tryz.func74 rfl rfl) _ rfl rfl ?_; rintro _ rfl; simp only [go_sem, simprocAttr, rows_get hx, hw]) | refine And.intro ?_ ?_)
  all_goals first
   | (refine good ((sideFrom_iff x).2 (by simp_all)) _ ?_; exact lessA)
   | (simp only [retK, resD, retL, oneD, simprocAttr, Tryz.results44]; exact ⟨_, rfl, rfl, bad (by rw [sideFrom_iff]; simp_all)⟩)
 have h1 : ((i : Int) < (o.from_.length : Int)) = False := eq_false (by omega)
 have hFrom : ∀ (j : Nat) (x : ASide), o.from_[j]? = some x → sideFrom x = true := fun j x hx => hT j x (by have := (List.getElem?_eq_some_iff.1 hx).1; omega) hx
 clear hT hw hi
 simp only [go_sem, simprocAttr, h1]
 first | clear h1 hlt i | clear h1 hlt
 refine loopS (fun k st => ∃ i : Nat, k = o.to_.length - i ∧ i ≤ o.to_.length ∧ (∀ (j : Nat) (x : ASide), j < i → o.to_[j]? = some x → sideTo x = true) ∧ st = ⟨[(1, .ptr 1 0), (4, int i)], [(1, o.ds)], [], .no⟩) o.to_.length _ ?_ ⟨0, rfl, by omega, fun _ _ h => absurd h (Nat.not_lt_zero _), rfl⟩ ?_
 ·exact lessA
 rintro k st ⟨i, rfl, hi, hT, rfl⟩
 have hw := i64_succ (show i < 1000000000 by omega)
 by_cases hlt : i < o.to_.length
 ·obtain ⟨x, hx⟩ := at_lt hlt
  have hmem := List.mem_of_getElem? hx
  have h1 : ((i : Int) < (o.to_.length : Int)) = True := eq_true (by omega)
  have good : (sideTo x = true) → ∀ st, Weak Tryz.prog st ⟨[(1, .ptr 1 0), (4, int (i + 1 : Nat))], [(1, o.ds)], [], .no⟩ → Round Tryz.prog (fun k st => ∃ i : Nat, k = o.to_.length - i ∧ i ≤ o.to_.length ∧ (∀ (j : Nat) (x : ASide), j < i → o.to_[j]? = some x → sideTo x = true) ∧ st = ⟨[(1, .ptr 1 0), (4, int i)], [(1, o.ds)], [], .no⟩) (o.to_.length - i) st := fun h st hw => ⟨o.to_.length - (i + 1), _, by omega, hw, i + 1, rfl, by omega, snoc_all hT hx h, rfl⟩
  have bad : ¬ (sideTo x = true) → bln false = bln (grantMay o.from_ o.to_) := fun h => bool_no fun e => h (((grantMay_iff _ _).1 e).2.2 i x hx)
  simp only [go_sem, simprocAttr, rows_get hx, h1, hw]
  repeat' (first | refine GifP.mk (fun _ => ?_) (fun _ => ?_) | refine Gif.mk (fun _ => ?_) (fun _ => ?_) | (refine (ref9_kind x.kind).callW (enters_of Tryz.func105 rfl rfl) _ rfl rfl ?_; rintro _ rfl; simp only [go_sem, simprocAttr, rows_get hx, hw]) | (refine (ref1_Name x.name).callW (enters_of Tryz.func73 rfl rfl) _ rfl rfl ?_; rintro _ rfl; simp only [go_sem, simprocAttr, rows_get hx, hw]) | refine And.intro ?_ ?_)
  all_goals first
   | (refine good ((sideTo_iff x).2 (by simp_all)) _ ?_; exact lessA)
   | (simp only [retK, resD, retL, oneD, simprocAttr, Tryz.results44]; exact ⟨_, rfl, rfl, bad (by rw [sideTo_iff]; simp_all)⟩)
 have h1 : ((i : Int) < (o.to_.length : Int)) = False := eq_false (by omega)
 have hTo : ∀ (j : Nat) (x : ASide), o.to_[j]? = some x → sideTo x = true := fun j x hx => hT j x (by have := (List.getElem?_eq_some_iff.1 hx).1; omega) hx
 clear hT hw hi
 simp only [go_sem, simprocAttr, h1]
 first | clear h1 hlt i | clear h1 hlt
 repeat' (first | refine GifP.mk (fun _ => ?_) (fun _ => ?_) | refine Gif.mk (fun _ => ?_) (fun _ => ?_))
 all_goals
  simp only [retK, resD, retL, oneD, simprocAttr, Tryz.results44]
  first
   | exact ⟨_, rfl, rfl, bool_no fun e => by have := ((grantMay_iff _ _).1 e).1; omega⟩
   | exact ⟨_, rfl, rfl, bool_dec ⟨fun h => (grantMay_iff _ _).2 ⟨by omega, hFrom, hTo⟩, fun h => by have := ((grantMay_iff _ _).1 h).1; omega⟩⟩

set_option maxHeartbeats 8000000 in
theorem ref9_gateway (o : AObj) (h : o.ok) (hs : ∀ l ∈ o.listeners, l.name.size ≤ 1000000 ∧ l.cert.space.size ≤ 1000000 ∧ ∀ n ∈ l.needs, ∀ s ∈ n.vals, s.size ≤ 1000000) : Pure Tryz.prog 42 [o.d] (fun d => d = bln (gatewayMay o.cls o.listeners)) := by
 have hli := h.li
 refine pure_of_run follows an_zlyo9 Tryz.func42 rfl ok_zlyo9.1 ok_zlyo9.2 (by simp [Tryz.ntmps42]) ?_
 rw [run_start]
 simp only [ac_zlyo9, go_sem, simprocAttr]
 refine loopS (fun k st => ∃ i : Nat, k = o.listeners.length - i ∧ i ≤ o.listeners.length ∧ (∀ (j : Nat) (x : AListener), j < i → o.listeners[j]? = some x → listenerMay x = true ∧ ∀ (k : Nat) (y : AListener), k < (j) → o.listeners[k]? = some y → ¬ y.name = x.name) ∧ st = ⟨[(1, .ptr 1 0), (3, .pd (.slice (rows AListener.pd o.listeners))), (4, int i)], [(1, o.ds)], [], .no⟩) o.listeners.length _ ?_ ⟨0, rfl, by omega, fun _ _ h => absurd h (Nat.not_lt_zero _), rfl⟩ ?_
 ·exact lessA
 rintro k st ⟨i, rfl, hi, hT, rfl⟩
 have hw := i64_succ (show i < 1000000000 by omega)
 by_cases hlt : i < o.listeners.length
 ·obtain ⟨x, hx⟩ := at_lt hlt
  have hmem := List.mem_of_getElem? hx
  have h1 : ((i : Int) < (o.listeners.length : Int)) = True := eq_true (by omega)
  have good : (listenerMay x = true ∧ ∀ (k : Nat) (y : AListener), k < i → o.listeners[k]? = some y → ¬ y.name = x.name) → ∀ st, Weak Tryz.prog st ⟨[(1, .ptr 1 0), (3, .pd (.slice (rows AListener.pd o.listeners))), (4, int (i + 1 : Nat))], [(1, o.ds)], [], .no⟩ → Round Tryz.prog (fun k st => ∃ i : Nat, k = o.listeners.length - i ∧ i ≤ o.listeners.length ∧ (∀ (j : Nat) (x : AListener), j < i → o.listeners[j]? = some x → listenerMay x = true ∧ ∀ (k : Nat) (y : AListener), k < (j) → o.listeners[k]? = some y → ¬ y.name = x.name) ∧ st = ⟨[(1, .ptr 1 0), (3, .pd (.slice (rows AListener.pd o.listeners))), (4, int i)], [(1, o.ds)], [], .no⟩) (o.listeners.length - i) st := fun h st hw => ⟨o.listeners.length - (i + 1), _, by omega, hw, i + 1, rfl, by omega, snoc_all hT hx h, rfl⟩
  have bad : ¬ (listenerMay x = true ∧ ∀ (k : Nat) (y : AListener), k < i → o.listeners[k]? = some y → ¬ y.name = x.name) → bln false = bln (gatewayMay o.cls o.listeners) := fun h => bool_no fun e => h (((gatewayMay_iff _ _).1 e).2 i x hx)
  simp only [go_sem, simprocAttr, rows_get hx, h1, hw]
  refine loopS (fun n st => ∃ k : Nat, n = i - k ∧ k ≤ i ∧ (∀ (k' : Nat) (y : AListener), k' < k → o.listeners[k']? = some y → ¬ y.name = x.name) ∧ st = ⟨[(1, .ptr 1 0), (3, .pd (.slice (rows AListener.pd o.listeners))), (4, int i), (5, .ptr 5 0), (6, int k)], [(1, o.ds), (5, x.ds)], [], .no⟩) i _ ?_ ⟨0, rfl, by omega, fun _ _ h => absurd h (Nat.not_lt_zero _), rfl⟩ ?_
  ·exact lessA
  rintro n st ⟨k, rfl, hk, hS, rfl⟩
  have hwk := i64_succ (show k < 1000000000 by omega)
  by_cases hki : k < i
  ·obtain ⟨y, hy⟩ := at_lt (show k < o.listeners.length by omega)
   have hmy := List.mem_of_getElem? hy
   have h2 : ((k : Int) < (i : Int)) = True := eq_true (by omega)
   have goodk : (¬ y.name = x.name) → ∀ st, Weak Tryz.prog st ⟨[(1, .ptr 1 0), (3, .pd (.slice (rows AListener.pd o.listeners))), (4, int i), (5, .ptr 5 0), (6, int (k + 1 : Nat))], [(1, o.ds), (5, x.ds)], [], .no⟩ → Round Tryz.prog (fun n st => ∃ k : Nat, n = i - k ∧ k ≤ i ∧ (∀ (k' : Nat) (y : AListener), k' < k → o.listeners[k']? = some y → ¬ y.name = x.name) ∧ st = ⟨[(1, .ptr 1 0), (3, .pd (.slice (rows AListener.pd o.listeners))), (4, int i), (5, .ptr 5 0), (6, int k)], [(1, o.ds), (5, x.ds)], [], .no⟩) (i - k) st := fun h st hw => ⟨i - (k + 1), _, by omega, hw, k + 1, rfl, by omega, snoc_all hS hy h, rfl⟩
   have badk : ¬ (¬ y.name = x.name) → bln false = bln (gatewayMay o.cls o.listeners) := fun h => bad (fun e => h (e.2 k y hki hy))
   simp only [go_sem, simprocAttr, rows_get hx, rows_get hy, h2, hwk]
   repeat' (first | refine GifP.mk (fun _ => ?_) (fun _ => ?_) | refine Gif.mk (fun _ => ?_) (fun _ => ?_) | refine And.intro ?_ ?_)
   all_goals first
    | (refine goodk (by first | omega | (simp_all; done) | (simp_all; omega)) _ ?_; exact lessA)
    | (simp only [retK, resD, retL, oneD, simprocAttr, Tryz.results42]; exact ⟨_, rfl, rfl, badk (by first | omega | (simp_all; done) | (simp_all; omega))⟩)
  have h2 : ((k : Int) < (i : Int)) = False := eq_false (by omega)
  have hIn : ∀ (k : Nat) (y : AListener), k < i → o.listeners[k]? = some y → ¬ y.name = x.name := fun k' y hk' hy => hS k' y (by omega) hy
  clear hS hwk hk
  simp only [go_sem, simprocAttr, rows_get hx, h2, hw]
  first | clear h2 hki k | clear h2 hki
  repeat' (first | refine GifP.mk (fun _ => ?_) (fun _ => ?_) | refine Gif.mk (fun _ => ?_) (fun _ => ?_) | (refine (ref1_Label x.name (hs x hmem).1).callW (enters_of Tryz.func74 rfl rfl) _ rfl rfl ?_; rintro _ rfl; simp only [go_sem, simprocAttr, rows_get hx, hw, eqVs, eqV]) | (refine (ref9_port x.port).callW (enters_of Tryz.func41 rfl rfl) _ rfl rfl ?_; rintro _ rfl; simp only [go_sem, simprocAttr, rows_get hx, hw, eqVs, eqV]) | (refine (ref2_May x.host).callW (enters_of Tryz.func101 rfl rfl) _ rfl rfl ?_; rintro _ rfl; simp only [go_sem, simprocAttr, rows_get hx, hw, eqVs, eqV]) | (refine (ref8_Needs x.needs (h.lis x hmem).nl (h.lis x hmem).n (hs x hmem).2.2).callW (enters_of Tryz.func102 rfl rfl) _ rfl rfl ?_; rintro _ rfl; simp only [go_sem, simprocAttr, rows_get hx, hw, eqVs, eqV]) | (refine (ref9_near x.cert.space (hs x hmem).2.1).callW (enters_of Tryz.func103 rfl rfl) _ rfl rfl ?_; rintro _ rfl; simp only [go_sem, simprocAttr, rows_get hx, hw, eqVs, eqV]) | (refine (ref1_Name x.cert.name).callW (enters_of Tryz.func73 rfl rfl) _ rfl rfl ?_; rintro _ rfl; simp only [go_sem, simprocAttr, rows_get hx, hw, eqVs, eqV]) | refine And.intro ?_ ?_)
  all_goals first
   | (refine good (⟨(listenerMay_iff x).2 (by first | (simp_all; done) | (simp_all; omega)), hIn⟩) _ ?_; exact lessA)
   | (simp only [retK, resD, retL, oneD, simprocAttr, Tryz.results42]; exact ⟨_, rfl, rfl, bad (fun e => by have e1 := (listenerMay_iff x).1 e.1; clear e; first | omega | (simp_all; done) | (simp_all; omega))⟩)
 have h1 : ((i : Int) < (o.listeners.length : Int)) = False := eq_false (by omega)
 have hall : ∀ (j : Nat) (x : AListener), o.listeners[j]? = some x → listenerMay x = true ∧ ∀ (k : Nat) (y : AListener), k < (j) → o.listeners[k]? = some y → ¬ y.name = x.name := fun j x hx => hT j x (by have := (List.getElem?_eq_some_iff.1 hx).1; omega) hx
 clear hT hw hi
 simp only [go_sem, simprocAttr, h1]
 first | clear h1 hlt i | clear h1 hlt
 repeat' (first | refine GifP.mk (fun _ => ?_) (fun _ => ?_) | refine Gif.mk (fun _ => ?_) (fun _ => ?_) | (refine (ref1_Name o.cls).callW (enters_of Tryz.func73 rfl rfl) _ rfl rfl ?_; rintro _ rfl; simp only [go_sem, simprocAttr]) | refine And.intro ?_ ?_)
 all_goals
  simp only [retK, resD, retL, oneD, simprocAttr, Tryz.results42]
  first
   | exact ⟨_, rfl, rfl, bool_no fun e => by have := ((gatewayMay_iff _ _).1 e).1; first | omega | (simp_all; done)⟩
   | exact ⟨_, rfl, rfl, bool_dec ⟨fun h => (gatewayMay_iff _ _).2 ⟨⟨by assumption, by omega, by omega⟩, hall⟩, fun h => by have := ((gatewayMay_iff _ _).1 h).1; omega⟩⟩

set_option maxHeartbeats 8000000 in
theorem ref9_route (o : AObj) (h : o.ok) (hp : ∀ p ∈ o.parents, p.space.size ≤ 1000000 ∧ p.section_.size ≤ 1000000)
 (hr : ∀ r ∈ o.rules, (∀ m ∈ r.matches_, m.method.size ≤ 1000000) ∧ (∀ f ∈ r.filters, f.host.size ≤ 1000000 ∧ f.path.size ≤ 1000000) ∧ ∀ b ∈ r.backends, b.ref.space.size ≤ 1000000) : Pure Tryz.prog 43 [o.d] (fun d => d = bln (routeMay o.parents o.hosts o.rules)) := by
 have hpa := h.pa
 have hho := h.ho
 have hru := h.ru
 refine pure_of_run follows an_zgo5l Tryz.func43 rfl ok_zgo5l.1 ok_zgo5l.2 (by simp [Tryz.ntmps43]) ?_
 rw [run_start]
 simp only [ac_zgo5l, go_sem, simprocAttr]
 refine loopS (fun k st => ∃ i : Nat, k = o.parents.length - i ∧ i ≤ o.parents.length ∧ (∀ (j : Nat) (x : AParent), j < i → o.parents[j]? = some x → parentMay x = true ∧ ∀ (k : Nat) (y : AParent), k < (j) → o.parents[k]? = some y → ¬ y = x) ∧ st = ⟨[(1, .ptr 1 0), (3, int i)], [(1, o.ds)], [], .no⟩) o.parents.length _ ?_ ⟨0, rfl, by omega, fun _ _ h => absurd h (Nat.not_lt_zero _), rfl⟩ ?_
 ·exact lessA
 rintro k st ⟨i, rfl, hi, hT, rfl⟩
 have hw := i64_succ (show i < 1000000000 by omega)
 by_cases hlt : i < o.parents.length
 ·obtain ⟨x, hx⟩ := at_lt hlt
  have hmem := List.mem_of_getElem? hx
  have h1 : ((i : Int) < (o.parents.length : Int)) = True := eq_true (by omega)
  have good : (parentMay x = true ∧ ∀ (k : Nat) (y : AParent), k < i → o.parents[k]? = some y → ¬ y = x) → ∀ st, Weak Tryz.prog st ⟨[(1, .ptr 1 0), (3, int (i + 1 : Nat))], [(1, o.ds)], [], .no⟩ → Round Tryz.prog (fun k st => ∃ i : Nat, k = o.parents.length - i ∧ i ≤ o.parents.length ∧ (∀ (j : Nat) (x : AParent), j < i → o.parents[j]? = some x → parentMay x = true ∧ ∀ (k : Nat) (y : AParent), k < (j) → o.parents[k]? = some y → ¬ y = x) ∧ st = ⟨[(1, .ptr 1 0), (3, int i)], [(1, o.ds)], [], .no⟩) (o.parents.length - i) st := fun h st hw => ⟨o.parents.length - (i + 1), _, by omega, hw, i + 1, rfl, by omega, snoc_all hT hx h, rfl⟩
  have bad : ¬ (parentMay x = true ∧ ∀ (k : Nat) (y : AParent), k < i → o.parents[k]? = some y → ¬ y = x) → bln false = bln (routeMay o.parents o.hosts o.rules) := fun h => bool_no fun e => h (((routeMay_iff _ _ _).1 e).2.1 i x hx)
  simp only [go_sem, simprocAttr, rows_get hx, h1, hw]
  repeat' (first | refine GifP.mk (fun _ => ?_) (fun _ => ?_) | refine Gif.mk (fun _ => ?_) (fun _ => ?_) | (refine (ref9_near x.space (hp x hmem).1).callW (enters_of Tryz.func103 rfl rfl) _ rfl rfl ?_; rintro _ rfl; simp only [go_sem, simprocAttr, rows_get hx, hw]) | (refine (ref1_Name x.name).callW (enters_of Tryz.func73 rfl rfl) _ rfl rfl ?_; rintro _ rfl; simp only [go_sem, simprocAttr, rows_get hx, hw]) | (refine (ref9_near x.section_ (hp x hmem).2).callW (enters_of Tryz.func103 rfl rfl) _ rfl rfl ?_; rintro _ rfl; simp only [go_sem, simprocAttr, rows_get hx, hw]) | (refine (ref9_port x.port).callW (enters_of Tryz.func41 rfl rfl) _ rfl rfl ?_; rintro _ rfl; simp only [go_sem, simprocAttr, rows_get hx, hw]) | refine And.intro ?_ ?_)
  all_goals first
   | (simp only [retK, resD, retL, oneD, simprocAttr, Tryz.results43]; exact ⟨_, rfl, rfl, bad (fun e => by have e1 := (parentMay_iff x).1 e.1; clear e; first | omega | (simp_all; done) | (simp_all; omega))⟩)
   | skip
  all_goals
   have hmay : parentMay x = true := (parentMay_iff x).2 (by simp_all)
   refine loopS (fun n st => ∃ k : Nat, n = i - k ∧ k ≤ i ∧ (∀ (k' : Nat) (y : AParent), k' < k → o.parents[k']? = some y → ¬ y = x) ∧ st = ⟨[(1, .ptr 1 0), (3, int i), (4, .ptr 4 0), (5, int k)], [(1, o.ds), (4, x.ds)], [], .no⟩) i _ ?_ ⟨0, rfl, by omega, fun _ _ h => absurd h (Nat.not_lt_zero _), rfl⟩ ?_
   ·exact lessA
   rintro n st ⟨k, rfl, hk, hS, rfl⟩
   have hwk := i64_succ (show k < 1000000000 by omega)
   by_cases hki : k < i
   ·obtain ⟨y, hy⟩ := at_lt (show k < o.parents.length by omega)
    have hmy := List.mem_of_getElem? hy
    have h2 : ((k : Int) < (i : Int)) = True := eq_true (by omega)
    have goodk : (¬ y = x) → ∀ st, Weak Tryz.prog st ⟨[(1, .ptr 1 0), (3, int i), (4, .ptr 4 0), (5, int (k + 1 : Nat))], [(1, o.ds), (4, x.ds)], [], .no⟩ → Round Tryz.prog (fun n st => ∃ k : Nat, n = i - k ∧ k ≤ i ∧ (∀ (k' : Nat) (y : AParent), k' < k → o.parents[k']? = some y → ¬ y = x) ∧ st = ⟨[(1, .ptr 1 0), (3, int i), (4, .ptr 4 0), (5, int k)], [(1, o.ds), (4, x.ds)], [], .no⟩) (i - k) st := fun h st hw => ⟨i - (k + 1), _, by omega, hw, k + 1, rfl, by omega, snoc_all hS hy h, rfl⟩
    have badk : ¬ (¬ y = x) → bln false = bln (routeMay o.parents o.hosts o.rules) := fun h => bad (fun e => h (e.2 k y hki hy))
    simp only [go_sem, simprocAttr, rows_get hx, rows_get hy, h2, hwk, eqVs, eqV, eq_Parent]
    repeat' (first | refine GifP.mk (fun _ => ?_) (fun _ => ?_) | refine Gif.mk (fun _ => ?_) (fun _ => ?_) | refine And.intro ?_ ?_)
    all_goals first
     | (refine goodk (by first | omega | (simp_all; done) | (simp_all; omega)) _ ?_; exact lessA)
     | (simp only [retK, resD, retL, oneD, simprocAttr, Tryz.results43]; exact ⟨_, rfl, rfl, badk (by first | omega | (simp_all; done) | (simp_all; omega))⟩)
   have h2 : ((k : Int) < (i : Int)) = False := eq_false (by omega)
   have hIn : ∀ (k : Nat) (y : AParent), k < i → o.parents[k]? = some y → ¬ y = x := fun k' y hk' hy => hS k' y (by omega) hy
   clear hS hwk hk
   simp only [go_sem, simprocAttr, rows_get hx, h2, hw, eqVs, eqV, eq_Parent]
   first | clear h2 hki k | clear h2 hki
   refine good ⟨hmay, hIn⟩ _ ?_
   exact lessA
 have h1 : ((i : Int) < (o.parents.length : Int)) = False := eq_false (by omega)
 have hPar : ∀ (j : Nat) (x : AParent), o.parents[j]? = some x → parentMay x = true ∧ ∀ (k : Nat) (y : AParent), k < (j) → o.parents[k]? = some y → ¬ y = x := fun j x hx => hT j x (by have := (List.getElem?_eq_some_iff.1 hx).1; omega) hx
 clear hT hw hi
 simp only [go_sem, simprocAttr, h1]
 first | clear h1 hlt i | clear h1 hlt
 refine loopS (fun k st => ∃ i : Nat, k = o.hosts.length - i ∧ i ≤ o.hosts.length ∧ (∀ (j : Nat) (x : ByteArray), j < i → o.hosts[j]? = some x → patMay x = true ∧ ∀ (k : Nat) (y : ByteArray), k < (j) → o.hosts[k]? = some y → ¬ y = x) ∧ st = ⟨[(1, .ptr 1 0), (6, int i)], [(1, o.ds)], [], .no⟩) o.hosts.length _ ?_ ⟨0, rfl, by omega, fun _ _ h => absurd h (Nat.not_lt_zero _), rfl⟩ ?_
 ·exact lessA
 rintro k st ⟨i, rfl, hi, hT, rfl⟩
 have hw := i64_succ (show i < 1000000000 by omega)
 by_cases hlt : i < o.hosts.length
 ·obtain ⟨x, hx⟩ := at_lt hlt
  have hmem := List.mem_of_getElem? hx
  have h1 : ((i : Int) < (o.hosts.length : Int)) = True := eq_true (by omega)
  have good : (patMay x = true ∧ ∀ (k : Nat) (y : ByteArray), k < i → o.hosts[k]? = some y → ¬ y = x) → ∀ st, Weak Tryz.prog st ⟨[(1, .ptr 1 0), (6, int (i + 1 : Nat))], [(1, o.ds)], [], .no⟩ → Round Tryz.prog (fun k st => ∃ i : Nat, k = o.hosts.length - i ∧ i ≤ o.hosts.length ∧ (∀ (j : Nat) (x : ByteArray), j < i → o.hosts[j]? = some x → patMay x = true ∧ ∀ (k : Nat) (y : ByteArray), k < (j) → o.hosts[k]? = some y → ¬ y = x) ∧ st = ⟨[(1, .ptr 1 0), (6, int i)], [(1, o.ds)], [], .no⟩) (o.hosts.length - i) st := fun h st hw => ⟨o.hosts.length - (i + 1), _, by omega, hw, i + 1, rfl, by omega, snoc_all hT hx h, rfl⟩
  have bad : ¬ (patMay x = true ∧ ∀ (k : Nat) (y : ByteArray), k < i → o.hosts[k]? = some y → ¬ y = x) → bln false = bln (routeMay o.parents o.hosts o.rules) := fun h => bool_no fun e => h (((routeMay_iff _ _ _).1 e).2.2.1 i x hx)
  simp only [go_sem, simprocAttr, rows_get hx, h1, hw]
  repeat' (first | refine GifP.mk (fun _ => ?_) (fun _ => ?_) | refine Gif.mk (fun _ => ?_) (fun _ => ?_) | (refine (ref2_May x).callW (enters_of Tryz.func101 rfl rfl) _ rfl rfl ?_; rintro _ rfl; simp only [go_sem, simprocAttr, rows_get hx, hw]) | refine And.intro ?_ ?_)
  all_goals first
   | (simp only [retK, resD, retL, oneD, simprocAttr, Tryz.results43]; exact ⟨_, rfl, rfl, bad (fun e => by have e1 := (patMay_iff x).1 e.1; clear e; simp_all)⟩)
   | skip
  all_goals
   have hmay : patMay x = true := (patMay_iff x).2 (by simp_all)
   refine loopS (fun n st => ∃ k : Nat, n = i - k ∧ k ≤ i ∧ (∀ (k' : Nat) (y : ByteArray), k' < k → o.hosts[k']? = some y → ¬ y = x) ∧ st = ⟨[(1, .ptr 1 0), (6, int i), (7, int k)], [(1, o.ds)], [], .no⟩) i _ ?_ ⟨0, rfl, by omega, fun _ _ h => absurd h (Nat.not_lt_zero _), rfl⟩ ?_
   ·exact lessA
   rintro n st ⟨k, rfl, hk, hS, rfl⟩
   have hwk := i64_succ (show k < 1000000000 by omega)
   by_cases hki : k < i
   ·obtain ⟨y, hy⟩ := at_lt (show k < o.hosts.length by omega)
    have hmy := List.mem_of_getElem? hy
    have h2 : ((k : Int) < (i : Int)) = True := eq_true (by omega)
    have goodk : (¬ y = x) → ∀ st, Weak Tryz.prog st ⟨[(1, .ptr 1 0), (6, int i), (7, int (k + 1 : Nat))], [(1, o.ds)], [], .no⟩ → Round Tryz.prog (fun n st => ∃ k : Nat, n = i - k ∧ k ≤ i ∧ (∀ (k' : Nat) (y : ByteArray), k' < k → o.hosts[k']? = some y → ¬ y = x) ∧ st = ⟨[(1, .ptr 1 0), (6, int i), (7, int k)], [(1, o.ds)], [], .no⟩) (i - k) st := fun h st hw => ⟨i - (k + 1), _, by omega, hw, k + 1, rfl, by omega, snoc_all hS hy h, rfl⟩
    have badk : ¬ (¬ y = x) → bln false = bln (routeMay o.parents o.hosts o.rules) := fun h => bad (fun e => h (e.2 k y hki hy))
    simp only [go_sem, simprocAttr, rows_get hx, rows_get hy, h2, hwk]
    repeat' (first | refine GifP.mk (fun _ => ?_) (fun _ => ?_) | refine Gif.mk (fun _ => ?_) (fun _ => ?_) | refine And.intro ?_ ?_)
    all_goals first
     | (refine goodk (by first | omega | (simp_all; done) | (simp_all; omega)) _ ?_; exact lessA)
     | (simp only [retK, resD, retL, oneD, simprocAttr, Tryz.results43]; exact ⟨_, rfl, rfl, badk (by first | omega | (simp_all; done) | (simp_all; omega))⟩)
   have h2 : ((k : Int) < (i : Int)) = False := eq_false (by omega)
   have hIn : ∀ (k : Nat) (y : ByteArray), k < i → o.hosts[k]? = some y → ¬ y = x := fun k' y hk' hy => hS k' y (by omega) hy
   clear hS hwk hk
   simp only [go_sem, simprocAttr, rows_get hx, h2, hw]
   first | clear h2 hki k | clear h2 hki
   refine good ⟨hmay, hIn⟩ _ ?_
   exact lessA
 have h1 : ((i : Int) < (o.hosts.length : Int)) = False := eq_false (by omega)
 have hHosts : ∀ (j : Nat) (x : ByteArray), o.hosts[j]? = some x → patMay x = true ∧ ∀ (k : Nat) (y : ByteArray), k < (j) → o.hosts[k]? = some y → ¬ y = x := fun j x hx => hT j x (by have := (List.getElem?_eq_some_iff.1 hx).1; omega) hx
 clear hT hw hi
 simp only [go_sem, simprocAttr, h1]
 first | clear h1 hlt i | clear h1 hlt
 refine loopS (fun k st => ∃ i : Nat, k = o.rules.length - i ∧ i ≤ o.rules.length ∧ (∀ (j : Nat) (x : ARule), j < i → o.rules[j]? = some x → ruleMay x = true) ∧ st = ⟨[(1, .ptr 1 0), (8, int i)], [(1, o.ds)], [], .no⟩) o.rules.length _ ?_ ⟨0, rfl, by omega, fun _ _ h => absurd h (Nat.not_lt_zero _), rfl⟩ ?_
 ·exact lessA
 rintro k st ⟨i, rfl, hi, hT, rfl⟩
 have hw := i64_succ (show i < 1000000000 by omega)
 by_cases hlt : i < o.rules.length
 ·obtain ⟨x, hx⟩ := at_lt hlt
  have hmem := List.mem_of_getElem? hx
  have h1 : ((i : Int) < (o.rules.length : Int)) = True := eq_true (by omega)
  have good : (ruleMay x = true) → ∀ st, Weak Tryz.prog st ⟨[(1, .ptr 1 0), (8, int (i + 1 : Nat))], [(1, o.ds)], [], .no⟩ → Round Tryz.prog (fun k st => ∃ i : Nat, k = o.rules.length - i ∧ i ≤ o.rules.length ∧ (∀ (j : Nat) (x : ARule), j < i → o.rules[j]? = some x → ruleMay x = true) ∧ st = ⟨[(1, .ptr 1 0), (8, int i)], [(1, o.ds)], [], .no⟩) (o.rules.length - i) st := fun h st hw => ⟨o.rules.length - (i + 1), _, by omega, hw, i + 1, rfl, by omega, snoc_all hT hx h, rfl⟩
  have bad : ¬ (ruleMay x = true) → bln false = bln (routeMay o.parents o.hosts o.rules) := fun h => bool_no fun e => h (((routeMay_iff _ _ _).1 e).2.2.2 i x hx)
  simp only [go_sem, simprocAttr, rows_get hx, h1, hw]
  repeat' (first | refine GifP.mk (fun _ => ?_) (fun _ => ?_) | refine Gif.mk (fun _ => ?_) (fun _ => ?_) | (refine (ref9_rule x (h.rus x hmem) (hr x hmem).1 (hr x hmem).2.1 (hr x hmem).2.2).callW (enters_of Tryz.func104 rfl rfl) _ rfl rfl ?_; rintro _ rfl; simp only [go_sem, simprocAttr, rows_get hx, hw]) | refine And.intro ?_ ?_)
  all_goals first
   | (refine good (by assumption) _ ?_; exact lessA)
   | (simp only [retK, resD, retL, oneD, simprocAttr, Tryz.results43]; exact ⟨_, rfl, rfl, bad (by simp_all)⟩)
 have h1 : ((i : Int) < (o.rules.length : Int)) = False := eq_false (by omega)
 have hRules : ∀ (j : Nat) (x : ARule), o.rules[j]? = some x → ruleMay x = true := fun j x hx => hT j x (by have := (List.getElem?_eq_some_iff.1 hx).1; omega) hx
 clear hT hw hi
 simp only [go_sem, simprocAttr, h1]
 first | clear h1 hlt i | clear h1 hlt
 repeat' (first | refine GifP.mk (fun _ => ?_) (fun _ => ?_) | refine Gif.mk (fun _ => ?_) (fun _ => ?_))
 all_goals
  simp only [retK, resD, retL, oneD, simprocAttr, Tryz.results43]
  first
   | exact ⟨_, rfl, rfl, bool_no fun e => by have := ((routeMay_iff _ _ _).1 e).1; omega⟩
   | exact ⟨_, rfl, rfl, bool_dec ⟨fun h => (routeMay_iff _ _ _).2 ⟨⟨by omega, by omega, by omega⟩, hPar, hHosts, hRules⟩, fun h => by have := ((routeMay_iff _ _ _).1 h).1; omega⟩⟩


theorem eqf_dec {α : Type} [DecidableEq α] {q : α → α → Bool} (h : ∀ x y, q x y = decide (x = y)) : ∀ l m : List α, eqf q l m = decide (l = m)
 | [], [] => rfl
 | [], _ :: _ => rfl
 | _ :: _, [] => rfl
 | x :: l, y :: m => by
   simp only [eqf, h, eqf_dec h l m]
   rw [Bool.eq_iff_iff]
   simp

theorem needSame_dec (a b : ANeed) : needSame a b = decide (a = b) := by
 cases a; cases b
 rw [Bool.eq_iff_iff]
 simp [needSame, and_assoc]

theorem listenerSame_dec (a b : AListener) : listenerSame a b = decide (a = b) := by
 simp only [listenerSame, eqf_dec needSame_dec]
 cases a; cases b
 rw [Bool.eq_iff_iff]
 simp [and_assoc]

theorem matchSame_dec (a b : AMatch) : matchSame a b = decide (a = b) := by
 cases a; cases b
 rw [Bool.eq_iff_iff]
 simp [matchSame, and_assoc]

theorem ruleSame_dec (a b : ARule) : ruleSame a b = decide (a = b) := by
 simp only [ruleSame, eqf_dec matchSame_dec]
 cases a; cases b
 rw [Bool.eq_iff_iff]
 simp [and_assoc]

theorem objSame_iff (a b : AObj) : objSame a b = true ↔ a = b := by
 simp only [objSame, eqf_dec listenerSame_dec, eqf_dec ruleSame_dec]
 cases a; cases b
 simp [and_assoc]
 intro _ _
 constructor
 ·rintro ⟨h1, h2, h3, h4, h5, h6, h7, h8, h9⟩
  exact ⟨h2, h3, h1, h8, h5, h4, h9, h6, h7⟩
 ·rintro ⟨h2, h3, h1, h8, h5, h4, h9, h6, h7⟩
  exact ⟨h1, h2, h3, h4, h5, h6, h7, h8, h9⟩

def AObj.keep (o : AObj) : AObj :=
 if o.ref.kind = 1 ∨ o.ref.kind = 4 then { AObj.zero o.ref with good := o.good }
 else if o.ref.kind = 2 then { AObj.zero o.ref with labels := o.labels }
 else if o.ref.kind = 3 then { AObj.zero o.ref with ports := o.ports }
 else if o.ref.kind = 5 then { AObj.zero o.ref with listeners := o.listeners, cls := o.cls }
 else if o.ref.kind = 6 then { AObj.zero o.ref with parents := o.parents, hosts := o.hosts, rules := o.rules }
 else { AObj.zero o.ref with from_ := o.from_, to_ := o.to_ }

theorem keep_iff (o : AObj) : o.keep = o ↔ o.strip = AObj.zero o.ref := by
 obtain ⟨r, gd, la, po, cl, li, pa, ho, ru, fr, to⟩ := o
 unfold AObj.keep AObj.strip
 simp only [AObj.zero]
 repeat' split
 all_goals
  simp only [AObj.mk.injEq]
  constructor
  ·intro h; simp_all
  ·intro h; simp_all

theorem objMay_keep (o : AObj) : objMay o = (mayRef o.ref && (kindMay o && decide (o.keep = o))) := by
 rw [Bool.eq_iff_iff]
 simp only [objMay, Bool.and_eq_true, objSame_iff, decide_eq_true_eq, keep_iff, and_assoc]

theorem keep_ok {o : AObj} (h : o.ok) : o.keep.ok := by
 unfold AObj.keep
 repeat' split
 all_goals exact ⟨by first | exact h.la | simp [AObj.zero], by first | exact h.po | simp [AObj.zero], by first | exact h.li | simp [AObj.zero], by first | exact h.pa | simp [AObj.zero], by first | exact h.ho | simp [AObj.zero], by first | exact h.ru | simp [AObj.zero], by first | exact h.fr | simp [AObj.zero], by first | exact h.to | simp [AObj.zero], by first | exact h.lis | simp [AObj.zero], by first | exact h.rus | simp [AObj.zero]⟩

theorem sort_from {l : List Int} : ∀ {n : Nat}, sortFrom l n = true ↔ ∀ (i : Nat) (a b : Int), i < n → l[i + 1]? = some a → l[i]? = some b → b ≤ a
 | 0 => by simp [sortFrom]
 | n + 1 => by
   simp only [sortFrom, Bool.and_eq_true, sort_from]
   constructor
   ·rintro ⟨h1, h2⟩ i a b hi ha hb
    rcases Nat.eq_or_lt_of_le (Nat.le_of_lt_succ hi) with e | e
    ·subst e
     rw [ha, hb] at h1
     simp [intLess] at h1
     exact h1
    ·exact h2 i a b e ha hb
   ·intro h
    refine ⟨?_, fun i a b hi => h i a b (by omega)⟩
    cases ha : l[n + 1]? with
    | none => rfl
    | some a =>
      cases hb : l[n]? with
      | none => rfl
      | some b =>
        have := h n a b (Nat.lt_succ_self _) ha hb
        simp [intLess]
        exact this

theorem serviceMay_iff (l : List Int) : serviceMay l = true ↔ (0 < l.length ∧ l.length ≤ 8) ∧ ∀ (j : Nat) (x : Int), l[j]? = some x → oport x = true ∧ ∀ y : Int, 0 < j → l[j - 1]? = some y → y < x := by
 simp only [serviceMay, Bool.and_eq_true, decide_eq_true_eq, every_iff, sortedInts, sort_from, Bool.not_eq_true', tw_iff, intSame, decide_eq_false_iff_not]
 constructor
 ·rintro ⟨⟨⟨h1, h2, h3⟩, h4⟩, h5⟩
  refine ⟨⟨h1, by omega⟩, fun j x hx => ⟨h3 j x hx, fun y h0 hy => ?_⟩⟩
  have hlt := (List.getElem?_eq_some_iff.1 hx).1
  obtain ⟨i, rfl⟩ : ∃ i, j = i + 1 := ⟨j - 1, by omega⟩
  have h6 := h4 i x y (by omega) hx hy
  have h7 := h5 (i + 1) x hx i y (Nat.lt_succ_self _) hy
  omega
 ·rintro ⟨⟨h1, h2⟩, h3⟩
  have up : ∀ (j : Nat) (x : Int), l[j]? = some x → ∀ (k : Nat) (y : Int), k < j → l[k]? = some y → y < x := by
   intro j
   induction j with
   | zero => intro x _ k y hk; omega
   | succ i ih =>
     intro x hx k y hk hy
     have hlt := (List.getElem?_eq_some_iff.1 hx).1
     obtain ⟨z, hz⟩ := at_lt (show i < l.length by omega)
     have h4 := (h3 (i + 1) x hx).2 z (Nat.succ_pos _) hz
     rcases Nat.eq_or_lt_of_le (Nat.le_of_lt_succ hk) with e | e
     ·subst e
      rw [hz] at hy; cases hy; exact h4
     ·have := ih z hz k y e hy
      omega
  refine ⟨⟨⟨h1, by omega, fun j x hx => (h3 j x hx).1⟩, fun i a b _ ha hb => ?_⟩, fun j x hx k y hk hy e => ?_⟩
  ·have := up (i + 1) a ha i b (Nat.lt_succ_self _) hb
   omega
  ·have := up j x hx k y hk hy
   omega

set_option maxHeartbeats 8000000 in
theorem ref9_May (o : AObj) (h : o.ok) (hs : o.sok) : Pure Tryz.prog 12 [o.d] (fun d => d = bln (objMay o)) := by
 refine pure_of_run follows an_zboc8 Tryz.func12 rfl ok_zboc8.1 ok_zboc8.2 (by simp [Tryz.ntmps12]) ?_
 rw [run_start]
 simp (maxSteps := 5000000) only [ac_zboc8, go_sem, simprocAttr, go_sem]
 refine (ref9_MayRef o.ref hs.rs hs.rn).callW (enters_of Tryz.func26 rfl rfl) _ rfl rfl ?_
 rintro _ rfl
 simp (maxSteps := 5000000) only [go_sem, simprocAttr, go_sem]
 refine Gif.mk (fun hm => ?_) (fun hm => ?_)
 rotate_left
 ·simp only [retK, resD, retL, oneD, simprocAttr, Tryz.results12]
  exact ⟨_, rfl, rfl, by rw [objMay_keep, hm, Bool.false_and]; try rfl⟩
 ·rcases mayRef_kind hm with hk | hk | hk | hk | hk | hk | hk
  ·obtain ⟨⟨kd, sp, nm⟩, gd, la, po, cl, li, pa, ho, ru, fr, to⟩ := o
   simp only at hk
   subst hk
   have hob : (⟨⟨1, sp, nm⟩, gd, la, po, cl, li, pa, ho, ru, fr, to⟩ : AObj).ok := h
   have hkp := keep_ok h
   have hke : (⟨⟨1, sp, nm⟩, gd, la, po, cl, li, pa, ho, ru, fr, to⟩ : AObj).keep = { AObj.zero ⟨1, sp, nm⟩ with good := gd } := by simp [AObj.keep]
   have hkm : kindMay (⟨⟨1, sp, nm⟩, gd, la, po, cl, li, pa, ho, ru, fr, to⟩ : AObj) = true := by simp [kindMay]
   rw [hke] at hkp
   have fin : ∀ b : Bool, b = true → bln (b && decide (({ AObj.zero ⟨1, sp, nm⟩ with good := gd } : AObj) = (⟨⟨1, sp, nm⟩, gd, la, po, cl, li, pa, ho, ru, fr, to⟩ : AObj))) = bln (objMay (⟨⟨1, sp, nm⟩, gd, la, po, cl, li, pa, ho, ru, fr, to⟩ : AObj)) := fun b e => by
    rw [objMay_keep, hm, Bool.true_and, hkm, hke, e]
   simp (maxSteps := 5000000) only [go_sem, simprocAttr, go_sem, rows_len]
   refine (ref9_Same ({ AObj.zero ⟨1, sp, nm⟩ with good := gd } : AObj) (⟨⟨1, sp, nm⟩, gd, la, po, cl, li, pa, ho, ru, fr, to⟩ : AObj) hkp).callW (enters_of Tryz.func14 rfl rfl) _ rfl rfl ?_
   rintro _ rfl
   simp (maxSteps := 5000000) only [go_sem, simprocAttr, go_sem]
   simp only [retK, resD, retL, oneD, simprocAttr, Tryz.results12]
   exact ⟨_, rfl, rfl, by rw [← fin _ rfl, Bool.true_and]; try rfl⟩
  ·obtain ⟨⟨kd, sp, nm⟩, gd, la, po, cl, li, pa, ho, ru, fr, to⟩ := o
   simp only at hk
   subst hk
   have hob : (⟨⟨2, sp, nm⟩, gd, la, po, cl, li, pa, ho, ru, fr, to⟩ : AObj).ok := h
   have hkp := keep_ok h
   have hke : (⟨⟨2, sp, nm⟩, gd, la, po, cl, li, pa, ho, ru, fr, to⟩ : AObj).keep = { AObj.zero ⟨2, sp, nm⟩ with labels := la } := by simp [AObj.keep]
   have hkm : kindMay (⟨⟨2, sp, nm⟩, gd, la, po, cl, li, pa, ho, ru, fr, to⟩ : AObj) = labelsMay la := by simp [kindMay]
   rw [hke] at hkp
   have fin : ∀ b : Bool, b = labelsMay la → bln (b && decide (({ AObj.zero ⟨2, sp, nm⟩ with labels := la } : AObj) = (⟨⟨2, sp, nm⟩, gd, la, po, cl, li, pa, ho, ru, fr, to⟩ : AObj))) = bln (objMay (⟨⟨2, sp, nm⟩, gd, la, po, cl, li, pa, ho, ru, fr, to⟩ : AObj)) := fun b e => by
    rw [objMay_keep, hm, Bool.true_and, hkm, hke, e]
   simp (maxSteps := 5000000) only [go_sem, simprocAttr, go_sem, rows_len]
   refine (ref8_May la h.la hs.lv).callW (enters_of Tryz.func40 rfl rfl) _ rfl rfl ?_
   rintro _ rfl
   simp (maxSteps := 5000000) only [go_sem, simprocAttr, go_sem]
   refine Gif.mk (fun hg => ?_) (fun hg => ?_)
   ·refine (ref9_Same ({ AObj.zero ⟨2, sp, nm⟩ with labels := la } : AObj) (⟨⟨2, sp, nm⟩, gd, la, po, cl, li, pa, ho, ru, fr, to⟩ : AObj) hkp).callW (enters_of Tryz.func14 rfl rfl) _ rfl rfl ?_
    rintro _ rfl
    simp (maxSteps := 5000000) only [go_sem, simprocAttr, go_sem]
    simp only [retK, resD, retL, oneD, simprocAttr, Tryz.results12]
    exact ⟨_, rfl, rfl, by rw [← fin _ rfl, hg, Bool.true_and]; try rfl⟩
   ·simp only [retK, resD, retL, oneD, simprocAttr, Tryz.results12]
    exact ⟨_, rfl, rfl, by rw [← fin _ rfl, hg, Bool.false_and]; try rfl⟩
  ·obtain ⟨⟨kd, sp, nm⟩, gd, la, po, cl, li, pa, ho, ru, fr, to⟩ := o
   simp only at hk
   subst hk
   have hob : (⟨⟨3, sp, nm⟩, gd, la, po, cl, li, pa, ho, ru, fr, to⟩ : AObj).ok := h
   have hkp := keep_ok h
   have hke : (⟨⟨3, sp, nm⟩, gd, la, po, cl, li, pa, ho, ru, fr, to⟩ : AObj).keep = { AObj.zero ⟨3, sp, nm⟩ with ports := po } := by simp [AObj.keep]
   have hkm : kindMay (⟨⟨3, sp, nm⟩, gd, la, po, cl, li, pa, ho, ru, fr, to⟩ : AObj) = serviceMay po := by simp [kindMay]
   rw [hke] at hkp
   have fin : ∀ b : Bool, b = serviceMay po → bln (b && decide (({ AObj.zero ⟨3, sp, nm⟩ with ports := po } : AObj) = (⟨⟨3, sp, nm⟩, gd, la, po, cl, li, pa, ho, ru, fr, to⟩ : AObj))) = bln (objMay (⟨⟨3, sp, nm⟩, gd, la, po, cl, li, pa, ho, ru, fr, to⟩ : AObj)) := fun b e => by
    rw [objMay_keep, hm, Bool.true_and, hkm, hke, e]
   simp (maxSteps := 5000000) only [go_sem, simprocAttr, go_sem, rows_len]
   have hpl : po.length ≤ 1000000 := hob.po
   repeat' (first | refine GifP.mk (fun _ => ?_) (fun _ => ?_) | refine Gif.mk (fun _ => ?_) (fun _ => ?_))
   all_goals
    refine loopS (fun k st => ∃ (i : Nat) (g : Bool), k = po.length - i ∧ i ≤ po.length ∧ (g = true ↔ (0 < po.length ∧ po.length ≤ 8) ∧ ∀ (j : Nat) (x : Int), j < i → po[j]? = some x → (oport x = true ∧ ∀ y : Int, 0 < (j) → po[(j) - 1]? = some y → y < x)) ∧ st = ⟨[(1, .ptr 1 0), (3, .ptr 3 0), (4, bln g), (5, int i)], [(1, ((⟨⟨3, sp, nm⟩, gd, la, po, cl, li, pa, ho, ru, fr, to⟩ : AObj)).ds), (3, [int 3, str sp, str nm, bln false, .nils, .pd (.slice (ints po)), str ⟨#[]⟩, .nils, .nils, .nils, .nils, .nils, .nils])], [], .no⟩) po.length (⟨[(1, .ptr 1 0), (3, .ptr 3 0), (4, bln (decide (0 < po.length ∧ po.length ≤ 8))), (5, int (0 : Nat))], [(1, ((⟨⟨3, sp, nm⟩, gd, la, po, cl, li, pa, ho, ru, fr, to⟩ : AObj)).ds), (3, [int 3, str sp, str nm, bln false, .nils, .pd (.slice (ints po)), str ⟨#[]⟩, .nils, .nils, .nils, .nils, .nils, .nils])], [], .no⟩) ?_ ⟨0, _, rfl, Nat.zero_le _, ?_, rfl⟩ ?_
    ·exact Weak.less ⟨rfl, rfl, congrArg (fun b => some (bln b)) (by first | (rw [decide_eq_decide]; omega) | (rw [eq_comm, decide_eq_false_iff_not]; omega) | (rw [eq_comm, decide_eq_true_eq]; omega)), rfl, trivial⟩ (by simp [lessL, lk]) (by simp [lessL, lk]) rfl
    ·simp only [Nat.not_lt_zero, false_implies, implies_true, and_true, decide_eq_true_eq]
    rintro k st ⟨i, g, rfl, hi, hT, rfl⟩
    have hw := i64_succ (show i < 1000000000 by omega)
    by_cases hlt : i < po.length
    ·obtain ⟨x, hx⟩ := at_lt hlt
     have h1 : ((i : Int) < (po.length : Int)) = True := eq_true (by omega)
     have step : ∀ (g' : Bool) (st : St), (g' = true ↔ g = true ∧ (oport x = true ∧ ∀ y : Int, 0 < i → po[i - 1]? = some y → y < x)) → Weak Tryz.prog st ⟨[(1, .ptr 1 0), (3, .ptr 3 0), (4, bln g'), (5, int (i + 1 : Nat))], [(1, ((⟨⟨3, sp, nm⟩, gd, la, po, cl, li, pa, ho, ru, fr, to⟩ : AObj)).ds), (3, [int 3, str sp, str nm, bln false, .nils, .pd (.slice (ints po)), str ⟨#[]⟩, .nils, .nils, .nils, .nils, .nils, .nils])], [], .no⟩ → Round Tryz.prog (fun k st => ∃ (i : Nat) (g : Bool), k = po.length - i ∧ i ≤ po.length ∧ (g = true ↔ (0 < po.length ∧ po.length ≤ 8) ∧ ∀ (j : Nat) (x : Int), j < i → po[j]? = some x → (oport x = true ∧ ∀ y : Int, 0 < (j) → po[(j) - 1]? = some y → y < x)) ∧ st = ⟨[(1, .ptr 1 0), (3, .ptr 3 0), (4, bln g), (5, int i)], [(1, ((⟨⟨3, sp, nm⟩, gd, la, po, cl, li, pa, ho, ru, fr, to⟩ : AObj)).ds), (3, [int 3, str sp, str nm, bln false, .nils, .pd (.slice (ints po)), str ⟨#[]⟩, .nils, .nils, .nils, .nils, .nils, .nils])], [], .no⟩) (po.length - i) st := fun g' st hg hw =>
      ⟨po.length - (i + 1), _, by omega, hw, i + 1, g', rfl, by omega, by
       rw [hg, hT]
       constructor
       ·rintro ⟨⟨e1, e2⟩, e3⟩
        exact ⟨e1, snoc_all e2 hx e3⟩
       ·rintro ⟨e1, e2⟩
        exact ⟨⟨e1, fun j x hj => e2 j x (by omega)⟩, e2 i x (Nat.lt_succ_self _) hx⟩, rfl⟩
     by_cases h0 : i = 0
     ·subst h0
      have hw0 : IntKind.i64.wrap 1 = 1 := IntWalk.i64_in _ (by omega)
      simp (maxSteps := 5000000) only [go_sem, simprocAttr, go_sem, rows_len, rows_get hx, h1, hw, hw0]
      repeat' (first | refine GifP.mk (fun _ => ?_) (fun _ => ?_) | refine Gif.mk (fun _ => ?_) (fun _ => ?_) | (refine (ref9_port x).callX (enters_of Tryz.func41 rfl rfl) _ rfl rfl ?_; rintro _ rfl; simp (maxSteps := 5000000) only [go_sem, simprocAttr, go_sem, rows_len, rows_get hx, hw, hw0]) | refine And.intro ?_ ?_)
      all_goals first
       | (refine step true _ ?_ ?_ <;> first | exact lessA | (simp_all; done))
       | (refine step false _ ?_ ?_ <;> first | exact lessA | (simp_all; done))
       | (exfalso; omega)
       | trace_state
     ·obtain ⟨y, hy⟩ := at_lt (show i - 1 < po.length by omega)
      have hw1 : IntKind.i64.wrap ((i : Int) - 1) = (i : Int) - 1 := IntWalk.i64_in _ (by omega)
      have hi1 : ((i : Int) - 1).toNat = i - 1 := by omega
      have hi2 : (0 ≤ (i : Int) - 1) = True := eq_true (by omega)
      have hi3 : ((i : Int) = 0) = False := eq_false (by omega)
      have hq : (∀ y : Int, 0 < i → po[i - 1]? = some y → y < x) ↔ y < x := ⟨fun h => h y (by omega) hy, fun h y' _ hy' => by rw [hy] at hy'; cases hy'; exact h⟩
      rw [hq] at step
      simp (maxSteps := 5000000) only [go_sem, simprocAttr, go_sem, rows_len, rows_get hx, rows_get hy, h1, hw, hw1, hi1, hi2, hi3]
      repeat' (first | refine GifP.mk (fun _ => ?_) (fun _ => ?_) | refine Gif.mk (fun _ => ?_) (fun _ => ?_) | (refine (ref9_port x).callX (enters_of Tryz.func41 rfl rfl) _ rfl rfl ?_; rintro _ rfl; simp (maxSteps := 5000000) only [go_sem, simprocAttr, go_sem, rows_len, rows_get hx, rows_get hy, hw, hw1, hi1, hi2, hi3]) | refine And.intro ?_ ?_)
      all_goals first
       | (refine step (decide (y < x)) _ ?_ ?_ <;> first | exact lessA | (simp_all; done))
       | (refine step true _ ?_ ?_ <;> first | exact lessA | (simp_all; done))
       | (refine step false _ ?_ ?_ <;> first | exact lessA | (simp_all; done))
       | trace_state
    have h1 : ((i : Int) < (po.length : Int)) = False := eq_false (by omega)
    have hgs : g = serviceMay po := by
     rw [Bool.eq_iff_iff, serviceMay_iff, hT]
     exact and_congr_right fun _ => ⟨fun h j x hx => h j x (by have := (List.getElem?_eq_some_iff.1 hx).1; omega) hx, fun h j x _ hx => h j x hx⟩
    clear hT hw hi
    simp (maxSteps := 5000000) only [go_sem, simprocAttr, go_sem, rows_len, h1]
    first | clear h1 hlt i | clear h1 hlt
    refine Gif.mk (fun hg => ?_) (fun hg => ?_)
    ·refine (ref9_Same ({ AObj.zero ⟨3, sp, nm⟩ with ports := po } : AObj) (⟨⟨3, sp, nm⟩, gd, la, po, cl, li, pa, ho, ru, fr, to⟩ : AObj) hkp).callW (enters_of Tryz.func14 rfl rfl) _ rfl rfl ?_
     rintro _ rfl
     simp (maxSteps := 5000000) only [go_sem, simprocAttr, go_sem]
     simp only [retK, resD, retL, oneD, simprocAttr, Tryz.results12]
     exact ⟨_, rfl, rfl, by rw [← fin g hgs, hg, Bool.true_and]; try rfl⟩
    ·simp only [retK, resD, retL, oneD, simprocAttr, Tryz.results12]
     exact ⟨_, rfl, rfl, by rw [← fin g hgs, hg, Bool.false_and]; try rfl⟩
  ·obtain ⟨⟨kd, sp, nm⟩, gd, la, po, cl, li, pa, ho, ru, fr, to⟩ := o
   simp only at hk
   subst hk
   have hob : (⟨⟨4, sp, nm⟩, gd, la, po, cl, li, pa, ho, ru, fr, to⟩ : AObj).ok := h
   have hkp := keep_ok h
   have hke : (⟨⟨4, sp, nm⟩, gd, la, po, cl, li, pa, ho, ru, fr, to⟩ : AObj).keep = { AObj.zero ⟨4, sp, nm⟩ with good := gd } := by simp [AObj.keep]
   have hkm : kindMay (⟨⟨4, sp, nm⟩, gd, la, po, cl, li, pa, ho, ru, fr, to⟩ : AObj) = true := by simp [kindMay]
   rw [hke] at hkp
   have fin : ∀ b : Bool, b = true → bln (b && decide (({ AObj.zero ⟨4, sp, nm⟩ with good := gd } : AObj) = (⟨⟨4, sp, nm⟩, gd, la, po, cl, li, pa, ho, ru, fr, to⟩ : AObj))) = bln (objMay (⟨⟨4, sp, nm⟩, gd, la, po, cl, li, pa, ho, ru, fr, to⟩ : AObj)) := fun b e => by
    rw [objMay_keep, hm, Bool.true_and, hkm, hke, e]
   simp (maxSteps := 5000000) only [go_sem, simprocAttr, go_sem, rows_len]
   refine (ref9_Same ({ AObj.zero ⟨4, sp, nm⟩ with good := gd } : AObj) (⟨⟨4, sp, nm⟩, gd, la, po, cl, li, pa, ho, ru, fr, to⟩ : AObj) hkp).callW (enters_of Tryz.func14 rfl rfl) _ rfl rfl ?_
   rintro _ rfl
   simp (maxSteps := 5000000) only [go_sem, simprocAttr, go_sem]
   simp only [retK, resD, retL, oneD, simprocAttr, Tryz.results12]
   exact ⟨_, rfl, rfl, by rw [← fin _ rfl, Bool.true_and]; try rfl⟩
  ·obtain ⟨⟨kd, sp, nm⟩, gd, la, po, cl, li, pa, ho, ru, fr, to⟩ := o
   simp only at hk
   subst hk
   have hob : (⟨⟨5, sp, nm⟩, gd, la, po, cl, li, pa, ho, ru, fr, to⟩ : AObj).ok := h
   have hkp := keep_ok h
   have hke : (⟨⟨5, sp, nm⟩, gd, la, po, cl, li, pa, ho, ru, fr, to⟩ : AObj).keep = { AObj.zero ⟨5, sp, nm⟩ with listeners := li, cls := cl } := by simp [AObj.keep]
   have hkm : kindMay (⟨⟨5, sp, nm⟩, gd, la, po, cl, li, pa, ho, ru, fr, to⟩ : AObj) = gatewayMay cl li := by simp [kindMay]
   rw [hke] at hkp
   have fin : ∀ b : Bool, b = gatewayMay cl li → bln (b && decide (({ AObj.zero ⟨5, sp, nm⟩ with listeners := li, cls := cl } : AObj) = (⟨⟨5, sp, nm⟩, gd, la, po, cl, li, pa, ho, ru, fr, to⟩ : AObj))) = bln (objMay (⟨⟨5, sp, nm⟩, gd, la, po, cl, li, pa, ho, ru, fr, to⟩ : AObj)) := fun b e => by
    rw [objMay_keep, hm, Bool.true_and, hkm, hke, e]
   simp (maxSteps := 5000000) only [go_sem, simprocAttr, go_sem, rows_len]
   refine (ref9_gateway (⟨⟨5, sp, nm⟩, gd, la, po, cl, li, pa, ho, ru, fr, to⟩ : AObj) h hs.ln).callW (enters_of Tryz.func42 rfl rfl) _ rfl rfl ?_
   rintro _ rfl
   simp (maxSteps := 5000000) only [go_sem, simprocAttr, go_sem]
   refine Gif.mk (fun hg => ?_) (fun hg => ?_)
   ·refine (ref9_Same ({ AObj.zero ⟨5, sp, nm⟩ with listeners := li, cls := cl } : AObj) (⟨⟨5, sp, nm⟩, gd, la, po, cl, li, pa, ho, ru, fr, to⟩ : AObj) hkp).callW (enters_of Tryz.func14 rfl rfl) _ rfl rfl ?_
    rintro _ rfl
    simp (maxSteps := 5000000) only [go_sem, simprocAttr, go_sem]
    simp only [retK, resD, retL, oneD, simprocAttr, Tryz.results12]
    exact ⟨_, rfl, rfl, by rw [← fin _ rfl, hg, Bool.true_and]; try rfl⟩
   ·simp only [retK, resD, retL, oneD, simprocAttr, Tryz.results12]
    exact ⟨_, rfl, rfl, by rw [← fin _ rfl, hg, Bool.false_and]; try rfl⟩
  ·obtain ⟨⟨kd, sp, nm⟩, gd, la, po, cl, li, pa, ho, ru, fr, to⟩ := o
   simp only at hk
   subst hk
   have hob : (⟨⟨6, sp, nm⟩, gd, la, po, cl, li, pa, ho, ru, fr, to⟩ : AObj).ok := h
   have hkp := keep_ok h
   have hke : (⟨⟨6, sp, nm⟩, gd, la, po, cl, li, pa, ho, ru, fr, to⟩ : AObj).keep = { AObj.zero ⟨6, sp, nm⟩ with parents := pa, hosts := ho, rules := ru } := by simp [AObj.keep]
   have hkm : kindMay (⟨⟨6, sp, nm⟩, gd, la, po, cl, li, pa, ho, ru, fr, to⟩ : AObj) = routeMay pa ho ru := by simp [kindMay]
   rw [hke] at hkp
   have fin : ∀ b : Bool, b = routeMay pa ho ru → bln (b && decide (({ AObj.zero ⟨6, sp, nm⟩ with parents := pa, hosts := ho, rules := ru } : AObj) = (⟨⟨6, sp, nm⟩, gd, la, po, cl, li, pa, ho, ru, fr, to⟩ : AObj))) = bln (objMay (⟨⟨6, sp, nm⟩, gd, la, po, cl, li, pa, ho, ru, fr, to⟩ : AObj)) := fun b e => by
    rw [objMay_keep, hm, Bool.true_and, hkm, hke, e]
   simp (maxSteps := 5000000) only [go_sem, simprocAttr, go_sem, rows_len]
   refine (ref9_route (⟨⟨6, sp, nm⟩, gd, la, po, cl, li, pa, ho, ru, fr, to⟩ : AObj) h hs.pa hs.ru).callW (enters_of Tryz.func43 rfl rfl) _ rfl rfl ?_
   rintro _ rfl
   simp (maxSteps := 5000000) only [go_sem, simprocAttr, go_sem]
   refine Gif.mk (fun hg => ?_) (fun hg => ?_)
   ·refine (ref9_Same ({ AObj.zero ⟨6, sp, nm⟩ with parents := pa, hosts := ho, rules := ru } : AObj) (⟨⟨6, sp, nm⟩, gd, la, po, cl, li, pa, ho, ru, fr, to⟩ : AObj) hkp).callW (enters_of Tryz.func14 rfl rfl) _ rfl rfl ?_
    rintro _ rfl
    simp (maxSteps := 5000000) only [go_sem, simprocAttr, go_sem]
    simp only [retK, resD, retL, oneD, simprocAttr, Tryz.results12]
    exact ⟨_, rfl, rfl, by rw [← fin _ rfl, hg, Bool.true_and]; try rfl⟩
   ·simp only [retK, resD, retL, oneD, simprocAttr, Tryz.results12]
    exact ⟨_, rfl, rfl, by rw [← fin _ rfl, hg, Bool.false_and]; try rfl⟩
  ·obtain ⟨⟨kd, sp, nm⟩, gd, la, po, cl, li, pa, ho, ru, fr, to⟩ := o
   simp only at hk
   subst hk
   have hob : (⟨⟨7, sp, nm⟩, gd, la, po, cl, li, pa, ho, ru, fr, to⟩ : AObj).ok := h
   have hkp := keep_ok h
   have hke : (⟨⟨7, sp, nm⟩, gd, la, po, cl, li, pa, ho, ru, fr, to⟩ : AObj).keep = { AObj.zero ⟨7, sp, nm⟩ with from_ := fr, to_ := to } := by simp [AObj.keep]
   have hkm : kindMay (⟨⟨7, sp, nm⟩, gd, la, po, cl, li, pa, ho, ru, fr, to⟩ : AObj) = grantMay fr to := by simp [kindMay]
   rw [hke] at hkp
   have fin : ∀ b : Bool, b = grantMay fr to → bln (b && decide (({ AObj.zero ⟨7, sp, nm⟩ with from_ := fr, to_ := to } : AObj) = (⟨⟨7, sp, nm⟩, gd, la, po, cl, li, pa, ho, ru, fr, to⟩ : AObj))) = bln (objMay (⟨⟨7, sp, nm⟩, gd, la, po, cl, li, pa, ho, ru, fr, to⟩ : AObj)) := fun b e => by
    rw [objMay_keep, hm, Bool.true_and, hkm, hke, e]
   simp (maxSteps := 5000000) only [go_sem, simprocAttr, go_sem, rows_len]
   refine (ref9_grant (⟨⟨7, sp, nm⟩, gd, la, po, cl, li, pa, ho, ru, fr, to⟩ : AObj) h hs.si).callW (enters_of Tryz.func44 rfl rfl) _ rfl rfl ?_
   rintro _ rfl
   simp (maxSteps := 5000000) only [go_sem, simprocAttr, go_sem]
   refine Gif.mk (fun hg => ?_) (fun hg => ?_)
   ·refine (ref9_Same ({ AObj.zero ⟨7, sp, nm⟩ with from_ := fr, to_ := to } : AObj) (⟨⟨7, sp, nm⟩, gd, la, po, cl, li, pa, ho, ru, fr, to⟩ : AObj) hkp).callW (enters_of Tryz.func14 rfl rfl) _ rfl rfl ?_
    rintro _ rfl
    simp (maxSteps := 5000000) only [go_sem, simprocAttr, go_sem]
    simp only [retK, resD, retL, oneD, simprocAttr, Tryz.results12]
    exact ⟨_, rfl, rfl, by rw [← fin _ rfl, hg, Bool.true_and]; try rfl⟩
   ·simp only [retK, resD, retL, oneD, simprocAttr, Tryz.results12]
    exact ⟨_, rfl, rfl, by rw [← fin _ rfl, hg, Bool.false_and]; try rfl⟩


theorem refCmp_neg (a b : ARef) : (refCmp a b < 0) = (refLt a b = true) := by
 have := refCmp_lt a b
 unfold ltOf at this
 rw [← this, decide_eq_true_eq]

theorem refCmp_pos (a b : ARef) : (0 < refCmp a b) = (refLt b a = true) := by
 unfold refCmp
 by_cases h : a = b
 ·subst h; simp [refLt_self]
 ·rw [if_neg h]
  cases k1 : refLt a b with
  | true => rw [refLt_asym k1]; simp
  | false =>
    cases k2 : refLt b a with
    | true => simp
    | false => exact absurd (refLt_tri k1 k2) h

theorem ref9_Order (a b : ARef) : Pure Tryz.prog 27 [a.d, b.d] (fun d => d = int (refCmp a b)) := by
 refine pure_of_run follows an_z2cvg Tryz.func27 rfl ok_z2cvg.1 ok_z2cvg.2 (by simp [Tryz.ntmps27]) ?_
 rw [run_start]
 simp only [ac_z2cvg, go_sem, simprocAttr, eqVs, eqV, eq_Ref]
 refine GifP.mk (fun h => ?_) (fun h => ?_)
 ·simp only [retK, resD, retL, oneD, simprocAttr, Tryz.results27]
  exact ⟨_, rfl, rfl, by unfold refCmp; rw [if_pos h]; rfl⟩
 have e : refCmp a b = if refLt a b = true then -1 else 1 := if_neg h
 rw [e]
 unfold refLt bl
 clear e
 by_cases h1 : a.kind = b.kind
 ·have h1' := eq_true h1
  by_cases h2 : a.space = b.space
  ·have h2' := eq_true h2
   simp only [go_sem, simprocAttr, h1', h2', if_true]
   refine Gif.mk (fun h3 => ?_) (fun h3 => ?_)
   ·simp only [retK, resD, retL, oneD, simprocAttr, Tryz.results27]
    exact ⟨_, rfl, rfl, by rw [h3]; rfl⟩
   ·simp only [retK, resD, retL, oneD, simprocAttr, Tryz.results27]
    exact ⟨_, rfl, rfl, by rw [h3]; rfl⟩
  ·have h2' := eq_false h2
   simp only [go_sem, simprocAttr, h1', h2', if_true, if_false]
   refine Gif.mk (fun h3 => ?_) (fun h3 => ?_)
   ·simp only [retK, resD, retL, oneD, simprocAttr, Tryz.results27]
    exact ⟨_, rfl, rfl, by rw [h3]; rfl⟩
   ·simp only [retK, resD, retL, oneD, simprocAttr, Tryz.results27]
    exact ⟨_, rfl, rfl, by rw [h3]; rfl⟩
 ·have h1' := eq_false h1
  simp only [go_sem, simprocAttr, h1', if_false]
  repeat' (first | refine GifP.mk (fun _ => ?_) (fun _ => ?_) | refine Gif.mk (fun _ => ?_) (fun _ => ?_))
  all_goals
   simp only [retK, resD, retL, oneD, simprocAttr, Tryz.results27]
   exact ⟨_, rfl, rfl, by simp [*, D.pub]⟩

theorem ref9_NearR (r : ARef) (s : ByteArray) : Pure Tryz.prog 63 [r.d, str s] (fun d => d = (nearR r s).d) := by
 refine pure_of_run follows an_z8x60 Tryz.func63 rfl ok_z8x60.1 ok_z8x60.2 (by simp [Tryz.ntmps63]) ?_
 rw [run_start]
 simp only [ac_z8x60, go_sem, simprocAttr]
 repeat' (first | refine GifP.mk (fun _ => ?_) (fun _ => ?_) | refine Gif.mk (fun _ => ?_) (fun _ => ?_))
 all_goals
  simp only [retK, resD, resA, AOp.ex, St.ev, retL, oneD, simprocAttr, ret_z8x60]
  first
   | exact ⟨_, rfl, rfl, by unfold nearR; rw [if_pos ⟨by assumption, by omega⟩]; rfl⟩
   | exact ⟨_, rfl, rfl, by unfold nearR; rw [if_neg (by rintro ⟨h1, h2⟩; first | contradiction | omega)]; rfl⟩

theorem insR_len (l : List ARef) (r : ARef) : (insR l r).length ≤ l.length + 1 := by
 have h : ∀ m : List ARef, (m.filter fun x => refLt x r).length + (m.filter fun x => refLt r x).length ≤ m.length := fun m => by
  induction m with
  | nil => simp
  | cons x m ih =>
    simp only [List.filter_cons, List.length_cons]
    cases k1 : refLt x r with
    | true => rw [refLt_asym k1]; simp; omega
    | false => cases refLt r x <;> simp <;> omega
 have := h l
 unfold insR
 simp only [List.length_append, List.length_singleton]
 omega

theorem fstep2 {α : Type} {p : α → Bool} {l : List α} {i : Nat} {x : α} (hx : l[i]? = some x) : (l.take (i + 1)).filter p = (l.take i).filter p ++ if p x = true then [x] else [] := by
 rw [take_at hx, List.filter_append]
 cases h : p x <;> simp [h]

set_option maxHeartbeats 4000000 in
theorem ref9_in (l : List ARef) (hl : l.length ≤ 1000000) (r : ARef) : Pure Tryz.prog 62 [.pd (.slice (rows ARef.pd l)), r.d] (fun d => d = .pd (.slice (rows ARef.pd (insR l r)))) := by
 refine pure_of_run follows an_z9r1p Tryz.func62 rfl ok_z9r1p.1 ok_z9r1p.2 (by simp [Tryz.ntmps62]) ?_
 rw [run_start]
 simp only [ac_z9r1p, go_sem, simprocAttr]
 refine loopS (fun k st => ∃ i : Nat, k = l.length - i ∧ i ≤ l.length ∧
  st = ⟨[(0, .pd (.slice (rows ARef.pd l))), (3, .ptr 3 0), (5, .own 23 3 (rows ARef.pd ((l.take i).filter fun x => refLt x r)) 27), (6, int i)], [(3, [int r.kind, str r.space, str r.name])], [], .no⟩) l.length _ ?_ ⟨0, rfl, by omega, rfl⟩ ?_
 ·exact Weak.own1 5 27 23 3 (by kernel_rfl) (by decide) rfl (by simp [lessL, lk, St.purge, St.put, D.purge, rows]) (by simp [lessL, lk, St.purge, D.purges, D.purge]) (by simp [lessL]) rfl
 rintro k st ⟨i, rfl, hi, rfl⟩
 have hw := i64_succ (show i < 1000000000 by omega)
 by_cases hlt : i < l.length
 ·obtain ⟨x, hx⟩ := at_lt hlt
  have h1 : ((i : Int) < (l.length : Int)) = True := eq_true (by omega)
  have hfs := fstep2 (p := fun x => refLt x r) hx
  have hfl : ((l.take i).filter fun x => refLt x r).length ≤ i := Nat.le_trans (List.length_filter_le _ _) (by simp; omega)
  have hc := refCmp_neg x r
  simp only [go_sem, simprocAttr, rows_get hx, h1]
  refine (ref9_Order x r).callX (enters_of Tryz.func27 rfl rfl) _ rfl rfl ?_
  rintro _ rfl
  cases hq : refLt x r
  ·rw [hq] at hc hfs
   rw [if_neg (by simp), List.append_nil] at hfs
   have hc' : (refCmp x r < 0) = False := by rw [hc]; simp
   simp only [go_sem, simprocAttr, hc', hw]
   rw [← hfs]
   refine ⟨l.length - (i + 1), _, by omega, ?_, i + 1, rfl, by omega, rfl⟩
   exact lessA
  ·rw [hq] at hc hfs
   rw [if_pos rfl] at hfs
   have hc' : (refCmp x r < 0) = True := by rw [hc]; simp
   simp only [go_sem, simprocAttr, rows_get hx, hc', hw]
   rw [rows_one _ x, ← hfs]
   refine ⟨by simp, by unfold maxLen; omega, by omega, l.length - (i + 1), _, by omega, ?_, i + 1, rfl, by omega, rfl⟩
   exact lessA
 have h1 : ((i : Int) < (l.length : Int)) = False := eq_false (by omega)
 rw [List.take_of_length_le (by omega)]
 have hAl : (l.filter fun x => refLt x r).length ≤ l.length := List.length_filter_le _ _
 generalize hA : (l.filter fun x => refLt x r) = A at hAl ⊢
 simp only [go_sem, simprocAttr, h1]
 rw [show rows ARef.pd A ++ [[PD.raw (Value.int IntKind.i64 r.kind), PD.raw (Value.string r.space), PD.raw (Value.string r.name)]] = rows ARef.pd (A ++ [r]) from rows_one A r]
 refine ⟨by simp, by unfold maxLen; omega, by omega, ?_⟩
 refine loopS (fun k st => ∃ (i tok : Nat), k = l.length - i ∧ i ≤ l.length ∧ (tok = 31 ∨ tok = 51) ∧
  st = ⟨[(0, .pd (.slice (rows ARef.pd l))), (3, .ptr 3 0), (5, .own 23 3 (rows ARef.pd (A ++ [r] ++ ((l.take i).filter fun x => refLt r x))) tok), (7, int i)], [(3, [int r.kind, str r.space, str r.name])], [], .no⟩) l.length _ ?_ ⟨0, 31, rfl, by omega, .inl rfl, rfl⟩ ?_
 ·rw [List.take_zero, List.filter_nil, List.append_nil]
  exact lessA
 rintro k st ⟨i, tok, rfl, hi, htok, rfl⟩
 have hw := i64_succ (show i < 1000000000 by omega)
 by_cases hlt : i < l.length
 ·obtain ⟨x, hx⟩ := at_lt hlt
  have h1 : ((i : Int) < (l.length : Int)) = True := eq_true (by omega)
  have hfs := fstep2 (p := fun x => refLt r x) hx
  have hfl : ((l.take i).filter fun x => refLt r x).length ≤ i := Nat.le_trans (List.length_filter_le _ _) (by simp; omega)
  have hBl : (A ++ [r] ++ ((l.take i).filter fun x => refLt r x)).length ≤ 2000002 := by simp only [List.length_append, List.length_singleton]; omega
  have hc := refCmp_pos x r
  generalize hB : A ++ [r] ++ ((l.take i).filter fun x => refLt r x) = B at hBl ⊢
  simp only [go_sem, simprocAttr, rows_get hx, h1]
  refine (ref9_Order x r).callX (enters_of Tryz.func27 rfl rfl) _ rfl rfl ?_
  rintro _ rfl
  cases hq : refLt r x
  ·rw [hq] at hc hfs
   rw [if_neg (by simp), List.append_nil] at hfs
   have hc' : (0 < refCmp x r) = False := by rw [hc]; simp
   simp only [go_sem, simprocAttr, hc', hw]
   refine ⟨l.length - (i + 1), _, by omega, ?_, i + 1, tok, rfl, by omega, htok, rfl⟩
   rw [hfs, hB]
   exact lessA
  ·rw [hq] at hc hfs
   rw [if_pos rfl] at hfs
   have hc' : (0 < refCmp x r) = True := by rw [hc]; simp
   have hB' : B ++ [x] = A ++ [r] ++ ((l.take (i + 1)).filter fun x => refLt r x) := by rw [hfs, ← hB, List.append_assoc _ _ [x]]
   rcases htok with rfl | rfl
   all_goals
    simp only [go_sem, simprocAttr, rows_get hx, hc', hw]
    rw [rows_one _ x]
    refine ⟨by simp, by unfold maxLen; omega, by omega, l.length - (i + 1), _, by omega, ?_, i + 1, 51, rfl, by omega, .inr rfl, rfl⟩
    rw [← hB']
    exact lessA
 have h1 : ((i : Int) < (l.length : Int)) = False := eq_false (by omega)
 rw [List.take_of_length_le (by omega)]
 have hE : insR l r = A ++ [r] ++ (l.filter fun x => refLt r x) := by unfold insR; rw [hA]
 rw [hE]
 rcases htok with rfl | rfl
 all_goals
  simp only [go_sem, simprocAttr, h1]
  simp only [retK, resD, retL, oneD, simprocAttr, Tryz.results62]
  exact ⟨_, rfl, rfl, rfl⟩

def docList (o : AObj) : List ARef := (if o.ref.kind = 5 then [⟨1, ⟨#[]⟩, o.cls⟩] else []) ++ refsLis o.ref.space o.listeners ++ (if o.ref.kind = 6 then [⟨2, ⟨#[]⟩, o.ref.space⟩] else []) ++ refsPar o.ref.space o.parents ++ refsRul o.ref.space o.rules

theorem insAll_snoc (l : List ARef) (r : ARef) : insAll (l ++ [r]) = insR (insAll l) r := by unfold insAll; rw [List.foldl_append]; rfl

theorem insAll_len : ∀ (m l : List ARef), (m.foldl insR l).length ≤ l.length + m.length
 | [], _ => by simp
 | r :: m, l => by
   have h1 := insAll_len m (insR l r)
   have h2 := insR_len l r
   rw [List.foldl_cons, List.length_cons]
   omega

theorem Weak.purge9 {P : Program} {st st' : St} (t : Nat) (hf : lessL st'.fr (st.purge t).fr) (hb : lessL st'.bs (st.purge t).bs) (hm : lessL st'.ms st.ms) (hh : st'.hs = st.hs) : Weak P st st' :=
 fun _ _ _ _ _ hs => ⟨_, (hs.purge t).less (fun i d hd => .inl (lessL_lk hf i d hd)) (lessL_lk hb) (lessL_lk hm) hh⟩

set_option maxHeartbeats 8000000 in
theorem ref9_Refs (o : AObj) (h : o.ok) (hs : o.sok) (hf : o.few) : Pure Tryz.prog 18 [o.d] (fun d => d = .pd (.slice (rows ARef.pd (if objMay o = true then insAll (docList o) else [])))) := by
 have hl1 := hf.li
 have hl2 := hf.pa
 have hl3 := hf.ru
 have hin := fun (L : List ARef) (r : ARef) (hL : L.length ≤ 1000000) => ref9_in (insAll L) (by have := insAll_len L []; unfold insAll; rw [List.length_nil] at this; omega) r
 refine pure_of_run follows an_zlwv2 Tryz.func18 rfl ok_zlwv2.1 ok_zlwv2.2 (by simp [Tryz.ntmps18]) ?_
 rw [run_start]
 simp only [ac_zlwv2, go_sem, simprocAttr]
 refine (ref9_May o h hs).callW (enters_of Tryz.func12 rfl rfl) _ rfl rfl ?_
 rintro _ rfl
 cases objMay o
 ·simp only [go_sem, simprocAttr]
  simp only [retK, resD, retL, oneD, simprocAttr, Tryz.results18]
  exact ⟨_, rfl, rfl, rfl⟩
 rw [if_pos rfl]
 obtain ⟨A, hA⟩ : ∃ A : List ARef, A = if o.ref.kind = 5 then [⟨1, ⟨#[]⟩, o.cls⟩] else [] := ⟨_, rfl⟩
 have hAl : A.length ≤ 1 := by rw [hA]; split <;> simp
 by_cases h5 : o.ref.kind = 5
 case' pos =>
  have h5' := eq_true h5
  have hA0 : A = [⟨1, ⟨#[]⟩, o.cls⟩] := by rw [hA, if_pos h5]
  simp only [go_sem, simprocAttr, h5']
  refine (hin [] ⟨1, ⟨#[]⟩, o.cls⟩ (by simp)).callW (enters_of Tryz.func62 rfl rfl) _ rfl rfl ?_
  rintro _ rfl
  rw [← insAll_snoc, List.nil_append, ← hA0]
  simp only [go_sem, simprocAttr]
 case' neg =>
  have h5' := eq_false h5
  have hA0 : A = [] := by rw [hA, if_neg h5]
  simp only [go_sem, simprocAttr, h5']
 all_goals
  refine loopS (fun k st => ∃ (i : Nat) (L : List ARef), k = o.listeners.length - i ∧ i ≤ o.listeners.length ∧ L = A ++ refsLis o.ref.space (o.listeners.take i) ∧ L.length ≤ 1 + i ∧
   st = ⟨[(1, .ptr 1 0), (3, .pd (.slice (rows ARef.pd (insAll L)))), (4, int i)], [(1, o.ds)], [], .no⟩) o.listeners.length _ ?_ ⟨0, A, rfl, by omega, by simp [refsLis], by omega, rfl⟩ ?_
  ·by_cases hd : o.ref.kind = 5
   ·first
     | exact absurd hd h5
     | exact lessA
   ·first
     | exact absurd h5 hd
     | (rw [show A = [] by rw [hA, if_neg hd]]
        refine Weak.trans (s2 := ⟨[(1, .ptr 1 0), (3, .own 23 3 (rows ARef.pd []) 77), (4, int (0 : Nat))], [(1, o.ds)], [], .no⟩) ?_ ?_
        ·exact Weak.own1 3 77 23 3 (by kernel_rfl) (by decide) rfl (by simp [lessL, lk, St.purge, St.put, D.purge, rows]) (by simp [lessL, lk, St.purge, D.purges, D.purge]) (by simp [lessL]) rfl
        ·exact Weak.purge9 77 (by simp [lessL, lk, St.purge, D.purge, insAll]) (by simp [lessL, lk, St.purge, D.purges, D.purge]) (by simp [lessL]) rfl)
  rintro k st ⟨i, L, rfl, hi, hL, hLl, rfl⟩
  have hw := i64_succ (show i < 1000000000 by omega)
  by_cases hlt : i < o.listeners.length
  ·obtain ⟨x, hx⟩ := at_lt hlt
   have h1 : ((i : Int) < (o.listeners.length : Int)) = True := eq_true (by omega)
   have hfs := fstep (p := fun x : AListener => x.tls) hx
   cases ht : x.tls
   ·have hL' : L = A ++ refsLis o.ref.space (o.listeners.take (i + 1)) := by rw [hL]; unfold refsLis; rw [hfs, ht, if_neg (by simp), List.append_nil]
    simp only [go_sem, simprocAttr, rows_get hx, h1, ht, hw]
    refine ⟨o.listeners.length - (i + 1), _, by omega, ?_, i + 1, L, rfl, by omega, hL', by omega, rfl⟩
    exact lessA
   ·have hL' : L ++ [nearR x.cert o.ref.space] = A ++ refsLis o.ref.space (o.listeners.take (i + 1)) := by rw [hL]; unfold refsLis; rw [hfs, ht, if_pos rfl, List.map_append, List.append_assoc]; rfl
    simp only [go_sem, simprocAttr, rows_get hx, h1, ht]
    refine (ref9_NearR x.cert o.ref.space).callX (enters_of Tryz.func63 rfl rfl) _ rfl rfl ?_
    rintro _ rfl
    simp only [go_sem, simprocAttr]
    refine (hin L (nearR x.cert o.ref.space) (by omega)).callX (enters_of Tryz.func62 rfl rfl) _ rfl rfl ?_
    rintro _ rfl
    rw [← insAll_snoc]
    simp only [go_sem, simprocAttr, hw]
    refine ⟨o.listeners.length - (i + 1), _, by omega, ?_, i + 1, _, rfl, by omega, hL', by simp; omega, rfl⟩
    exact lessA
  have h1 : ((i : Int) < (o.listeners.length : Int)) = False := eq_false (by omega)
  rw [List.take_of_length_le (by omega)] at hL
  obtain ⟨B, hB⟩ : ∃ B : List ARef, B = L ++ if o.ref.kind = 6 then [⟨2, ⟨#[]⟩, o.ref.space⟩] else [] := ⟨_, rfl⟩
  have hBl : B.length ≤ 102 := by rw [hB]; split <;> simp <;> omega
  by_cases h6 : o.ref.kind = 6
  case' pos =>
   have h6' := eq_true h6
   have hB0 : B = L ++ [⟨2, ⟨#[]⟩, o.ref.space⟩] := by rw [hB, if_pos h6]
   simp only [go_sem, simprocAttr, h1, h6']
   refine (hin L ⟨2, ⟨#[]⟩, o.ref.space⟩ (by omega)).callW (enters_of Tryz.func62 rfl rfl) _ rfl rfl ?_
   rintro _ rfl
   rw [← insAll_snoc, ← hB0]
   simp only [go_sem, simprocAttr]
  case' neg =>
   have h6' := eq_false h6
   have hB0 : L = B := by rw [hB, if_neg h6, List.append_nil]
   simp only [go_sem, simprocAttr, h1, h6']
   rw [hB0]
  all_goals
   refine loopS (fun k st => ∃ (i : Nat) (L : List ARef), k = o.parents.length - i ∧ i ≤ o.parents.length ∧ L = B ++ refsPar o.ref.space (o.parents.take i) ∧ L.length ≤ 102 + i ∧
    st = ⟨[(1, .ptr 1 0), (3, .pd (.slice (rows ARef.pd (insAll L)))), (5, int i)], [(1, o.ds)], [], .no⟩) o.parents.length _ ?_ ⟨0, B, rfl, by omega, by simp [refsPar], by omega, rfl⟩ ?_
   ·exact lessA
   rintro k st ⟨i, M, rfl, hi, hM, hMl, rfl⟩
   have hw := i64_succ (show i < 1000000000 by omega)
   by_cases hlt : i < o.parents.length
   ·obtain ⟨x, hx⟩ := at_lt hlt
    have h1 : ((i : Int) < (o.parents.length : Int)) = True := eq_true (by omega)
    have hM' : M ++ [nearR ⟨5, x.space, x.name⟩ o.ref.space] = B ++ refsPar o.ref.space (o.parents.take (i + 1)) := by rw [hM]; unfold refsPar; rw [take_at hx, List.map_append, List.append_assoc]; rfl
    simp only [go_sem, simprocAttr, rows_get hx, h1]
    refine (ref9_NearR ⟨5, x.space, x.name⟩ o.ref.space).callX (enters_of Tryz.func63 rfl rfl) _ rfl rfl ?_
    rintro _ rfl
    simp only [go_sem, simprocAttr]
    refine (hin M (nearR ⟨5, x.space, x.name⟩ o.ref.space) (by omega)).callX (enters_of Tryz.func62 rfl rfl) _ rfl rfl ?_
    rintro _ rfl
    rw [← insAll_snoc]
    simp only [go_sem, simprocAttr, hw]
    refine ⟨o.parents.length - (i + 1), _, by omega, ?_, i + 1, _, rfl, by omega, hM', by simp; omega, rfl⟩
    exact lessA
   have h1 : ((i : Int) < (o.parents.length : Int)) = False := eq_false (by omega)
   rw [List.take_of_length_le (by omega)] at hM
   simp only [go_sem, simprocAttr, h1]
   refine loopS (fun k st => ∃ (i : Nat) (L : List ARef), k = o.rules.length - i ∧ i ≤ o.rules.length ∧ L = M ++ refsRul o.ref.space (o.rules.take i) ∧ L.length ≤ 202 + i * 100 ∧
    st = ⟨[(1, .ptr 1 0), (3, .pd (.slice (rows ARef.pd (insAll L)))), (6, int i)], [(1, o.ds)], [], .no⟩) o.rules.length _ ?_ ⟨0, M, rfl, by omega, by simp [refsRul], by omega, rfl⟩ ?_
   ·exact lessA
   rintro k st ⟨i, N, rfl, hi, hN, hNl, rfl⟩
   have hw := i64_succ (show i < 1000000000 by omega)
   by_cases hlt : i < o.rules.length
   ·obtain ⟨x, hx⟩ := at_lt hlt
    have h1 : ((i : Int) < (o.rules.length : Int)) = True := eq_true (by omega)
    have hb := hf.ba x (List.mem_of_getElem? hx)
    have hN' : N ++ refsBack o.ref.space x.backends = M ++ refsRul o.ref.space (o.rules.take (i + 1)) := by rw [hN]; unfold refsRul; rw [take_at hx, List.flatMap_append, List.append_assoc]; simp
    simp only [go_sem, simprocAttr, h1]
    refine loopS (fun k st => ∃ (j : Nat) (L : List ARef), k = x.backends.length - j ∧ j ≤ x.backends.length ∧ L = N ++ refsBack o.ref.space (x.backends.take j) ∧ L.length ≤ 202 + i * 100 + j ∧
     st = ⟨[(1, .ptr 1 0), (3, .pd (.slice (rows ARef.pd (insAll L)))), (6, int i), (7, int j)], [(1, o.ds)], [], .no⟩) x.backends.length _ ?_ ⟨0, N, rfl, by omega, by simp [refsBack], by omega, rfl⟩ ?_
    ·exact lessA
    rintro k st ⟨j, L2, rfl, hj, hL2, hL2l, rfl⟩
    have hwj := i64_succ (show j < 1000000000 by omega)
    by_cases hjl : j < x.backends.length
    ·obtain ⟨y, hy⟩ := at_lt hjl
     have h2 : ((j : Int) < (x.backends.length : Int)) = True := eq_true (by omega)
     have hM2 : L2 ++ [nearR y.ref o.ref.space] = N ++ refsBack o.ref.space (x.backends.take (j + 1)) := by rw [hL2]; unfold refsBack; rw [take_at hy, List.map_append, List.append_assoc]; rfl
     simp only [go_sem, simprocAttr, rows_get hx, rows_get hy, h2]
     refine (ref9_NearR y.ref o.ref.space).callX (enters_of Tryz.func63 rfl rfl) _ rfl rfl ?_
     rintro _ rfl
     simp only [go_sem, simprocAttr]
     refine (hin L2 (nearR y.ref o.ref.space) (by omega)).callX (enters_of Tryz.func62 rfl rfl) _ rfl rfl ?_
     rintro _ rfl
     rw [← insAll_snoc]
     simp only [go_sem, simprocAttr, hwj]
     refine ⟨x.backends.length - (j + 1), _, by omega, ?_, j + 1, _, rfl, by omega, hM2, by simp; omega, rfl⟩
     exact lessA
    have h2 : ((j : Int) < (x.backends.length : Int)) = False := eq_false (by omega)
    rw [List.take_of_length_le (by omega)] at hL2
    simp only [go_sem, simprocAttr, rows_get hx, h2, hw]
    refine ⟨o.rules.length - (i + 1), _, by omega, ?_, i + 1, L2, rfl, by omega, hL2.trans hN', by omega, rfl⟩
    exact lessA
   have h1 : ((i : Int) < (o.rules.length : Int)) = False := eq_false (by omega)
   rw [List.take_of_length_le (by omega)] at hN
   have hall : docList o = N := by unfold docList; rw [hN, hM, hB, hL, hA]
   rw [hall]
   simp only [go_sem, simprocAttr, h1]
   simp only [retK, resD, retL, oneD, simprocAttr, Tryz.results18]
   exact ⟨_, rfl, rfl, rfl⟩


theorem fewObj_sok (o : AObj) : (fewObj o).sok where
 rs := Nat.le_trans (few_size _) (by decide)
 rn := Nat.le_trans (few_size _) (by decide)
 lv := fun p hp => by
  obtain ⟨x, _, rfl⟩ := List.mem_map.1 hp
  exact Nat.le_trans (few_size _) (by decide)
 ln := fun l hl => by
  obtain ⟨x, _, rfl⟩ := List.mem_map.1 hl
  refine ⟨Nat.le_trans (few_size _) (by decide), Nat.le_trans (few_size _) (by decide), fun n hn s hs => ?_⟩
  obtain ⟨y, _, rfl⟩ := List.mem_map.1 hn
  obtain ⟨z, _, rfl⟩ := List.mem_map.1 hs
  exact Nat.le_trans (few_size _) (by decide)
 pa := fun p hp => by
  obtain ⟨x, _, rfl⟩ := List.mem_map.1 hp
  exact ⟨Nat.le_trans (few_size _) (by decide), Nat.le_trans (few_size _) (by decide)⟩
 ru := fun r hr => by
  obtain ⟨x, _, rfl⟩ := List.mem_map.1 hr
  refine ⟨fun m hm => ?_, fun f hf => ?_, fun b hb => ?_⟩
  ·obtain ⟨y, _, rfl⟩ := List.mem_map.1 hm
   exact Nat.le_trans (few_size _) (by decide)
  ·obtain ⟨y, _, rfl⟩ := List.mem_map.1 hf
   exact ⟨Nat.le_trans (few_size _) (by decide), Nat.le_trans (few_size _) (by decide)⟩
  ·obtain ⟨y, _, rfl⟩ := List.mem_map.1 hb
   exact Nat.le_trans (few_size _) (by decide)
 si := fun s hs => by
  obtain ⟨y, _, rfl⟩ := List.mem_map.1 hs
  exact Nat.le_trans (few_size _) (by decide)


theorem fewObj_few (o : AObj) : (fewObj o).few where
 li := by simp [fewObj]; omega
 pa := by simp [fewObj]; omega
 ru := by simp [fewObj]; omega
 ba := fun r hr => by
  obtain ⟨y, _, rfl⟩ := take_map_mem hr
  simp [fewRule]; omega


theorem dname_nil : dname ⟨#[]⟩ = false := by decide +kernel
theorem near1 (n s : ByteArray) : nearR ⟨1, ⟨#[]⟩, n⟩ s = ⟨1, ⟨#[]⟩, n⟩ := by unfold nearR; rw [if_neg (by simp)]
theorem near2 (n s : ByteArray) : nearR ⟨2, ⟨#[]⟩, n⟩ s = ⟨2, ⟨#[]⟩, n⟩ := by unfold nearR; rw [if_neg (by simp)]

theorem may_cls {o : AObj} (h : objMay o = true) : (o.cls = ⟨#[]⟩) ↔ ¬ o.ref.kind = 5 := by
 rw [objMay_keep] at h
 simp only [Bool.and_eq_true, decide_eq_true_eq] at h
 obtain ⟨_, hk, he⟩ := h
 constructor
 ·intro hc h5
  unfold kindMay at hk
  rw [if_neg (by omega), if_neg (by omega), if_neg (by omega), if_pos h5] at hk
  unfold gatewayMay at hk
  rw [hc, dname_nil] at hk
  simp at hk
 ·intro h5
  rw [← he]
  unfold AObj.keep
  repeat' split
  all_goals first
   | exact absurd ‹_› h5
   | rfl

theorem refsCls_doc {o : AObj} (h : objMay o = true) : refsCls o = if o.ref.kind = 5 then [⟨1, ⟨#[]⟩, o.cls⟩] else [] := by
 have := may_cls h
 unfold refsCls
 by_cases h5 : o.ref.kind = 5
 ·rw [if_neg (fun hc => this.1 hc h5), if_pos h5, near1]
 ·rw [if_pos (this.2 h5), if_neg h5]

theorem refsOwn_doc (o : AObj) : refsOwn o = if o.ref.kind = 6 then [⟨2, ⟨#[]⟩, o.ref.space⟩] else [] := by unfold refsOwn; rw [near2]

theorem docList_mem {o : AObj} (h : objMay o = true) (x : ARef) : x ∈ docList o ↔ x ∈ refsList o := by
 unfold docList refsList
 rw [refsCls_doc h, refsOwn_doc]
 simp only [List.mem_append]
 constructor
 ·rintro ((((h | h) | h) | h) | h) <;> simp only [h, true_or, or_true]
 ·rintro ((((h | h) | h) | h) | h) <;> simp only [h, true_or, or_true]

theorem refs_doc (o : AObj) : (if objMay o = true then insAll (docList o) else []) = refsOf o := by
 unfold refsOf
 by_cases h : objMay o = true
 ·rw [if_pos h, if_pos h]; exact insAll_eq (docList_mem h)
 ·rw [if_neg h, if_neg h]

theorem refsRul_len (s : ByteArray) : ∀ (l : List ARule), (∀ r ∈ l, r.backends.length ≤ 100) → (refsRul s l).length ≤ 100 * l.length
 | [], _ => by simp [refsRul]
 | r :: l, h => by
   have h1 := refsRul_len s l fun x hx => h x (List.mem_cons_of_mem _ hx)
   have h2 := h r List.mem_cons_self
   unfold refsRul at *
   rw [List.flatMap_cons, List.length_append, List.length_cons]
   have : (refsBack s r.backends).length = r.backends.length := by unfold refsBack; exact List.length_map _
   omega

theorem docList_len {o : AObj} (hf : o.few) : (docList o).length ≤ 20000 := by
 have hl1 := hf.li
 have hl2 := hf.pa
 have hl3 := hf.ru
 have h4 := refsRul_len o.ref.space o.rules hf.ba
 have h5 : (refsLis o.ref.space o.listeners).length ≤ o.listeners.length := by unfold refsLis; rw [List.length_map]; exact List.length_filter_le _ _
 have h6 : (refsPar o.ref.space o.parents).length = o.parents.length := by unfold refsPar; exact List.length_map _
 have h7 : (if o.ref.kind = 5 then [(⟨1, ⟨#[]⟩, o.cls⟩ : ARef)] else []).length ≤ 1 := by split <;> simp
 have h8 : (if o.ref.kind = 6 then [(⟨2, ⟨#[]⟩, o.ref.space⟩ : ARef)] else []).length ≤ 1 := by split <;> simp
 unfold docList
 simp only [List.length_append]
 omega

theorem refsOf_len {o : AObj} (hf : o.few) : (refsOf o).length ≤ 20000 := by
 rw [← refs_doc]
 split
 ·have := insAll_len (docList o) []
  have h2 := docList_len hf
  unfold insAll
  rw [List.length_nil] at this
  omega
 ·simp

set_option maxHeartbeats 4000000 in
theorem law_ObjectRefs (o : AObj) : Pure Tryz.prog 4 [o.d] (fun d => d = bln true) := by
 refine pure_of_run follows an_zjwn6 Tryz.func4 rfl ok_zjwn6.1 ok_zjwn6.2 (by simp [Tryz.ntmps4]) ?_
 rw [run_start]
 simp only [ac_zjwn6, go_sem, simprocAttr]
 refine (law9_Few o).callW (enters_of Tryz.func10 rfl rfl) _ rfl rfl ?_
 rintro _ rfl
 have ho := fewObj_ok o
 have hs := fewObj_sok o
 have hf := fewObj_few o
 generalize fewObj o = o at ho hs hf ⊢
 have cR := ref9_Refs o ho hs hf
 rw [refs_doc] at cR
 have cS := ref9_SameRefs (refsOf o) (refsOf o) (by have := refsOf_len hf; omega)
 rw [decide_eq_true rfl] at cS
 simp only [go_sem, simprocAttr]
 repeat' (with_reducible refine And.intro ?_ ?_)
 all_goals
  refine (object_Refs o ho hf).callX (enters_of Tryz.func17 rfl rfl) _ rfl rfl ?_
  rintro _ rfl
  simp only [go_sem, simprocAttr]
  refine cR.callX (enters_of Tryz.func18 rfl rfl) _ rfl rfl ?_
  rintro _ rfl
  simp only [go_sem, simprocAttr]
  refine cS.callX (enters_of Tryz.func16 rfl rfl) _ rfl rfl ?_
  rintro _ rfl
  simp only [go_sem, simprocAttr]
  refine awake9.callX (enters_of Tryz.func15 rfl rfl) _ rfl rfl ?_
  rintro _ rfl
  simp only [go_sem, simprocAttr]
  simp only [retK, resD, retL, oneD, simprocAttr, Tryz.results4]
  exact ⟨_, rfl, rfl, rfl⟩

end Go.Proofs.YtbjaopoipkphnaaGreatDoor


