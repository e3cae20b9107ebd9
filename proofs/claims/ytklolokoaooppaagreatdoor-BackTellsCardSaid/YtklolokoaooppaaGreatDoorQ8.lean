/- Texts of the prover's, joined: J5 J6 D1 E4 FD FK E2 E3 E6 E5 FE FJ D8 EF J7 DC K1 E9 D7 K2. -/
import Derived.Test.YtklolokoaooppaaGreatDoorQ7
import Derived.Test.YtklolokoaooppaaGreatDoorProg
import Derived.KernelRfl

namespace Go.Proofs.YtklolokoaooppaaGreatDoor
open Go Go.RowKit
set_option linter.unusedSimpArgs false
set_option linter.unusedVariables false
set_option maxRecDepth 100000

structure AObj.sok (o : AObj) : Prop where
  rs : o.ref.space.size ≤ 1000000
  rn : o.ref.name.size ≤ 1000000
  lv : ∀ p ∈ o.labels, p.val.size ≤ 1000000
  ln : ∀ l ∈ o.listeners, l.name.size ≤ 1000000 ∧ l.cert.space.size ≤ 1000000 ∧ ∀ n ∈ l.needs, ∀ s ∈ n.vals, s.size ≤ 1000000
  pa : ∀ p ∈ o.parents, p.space.size ≤ 1000000 ∧ p.section_.size ≤ 1000000
  ru : ∀ r ∈ o.rules, (∀ m ∈ r.matches_, m.method.size ≤ 1000000) ∧ (∀ f ∈ r.filters, f.host.size ≤ 1000000 ∧ f.path.size ≤ 1000000) ∧ ∀ b ∈ r.backends, b.ref.space.size ≤ 1000000
  si : ∀ s ∈ o.from_, s.space.size ≤ 1000000

theorem ref9_kind (n : Int) : Pure Tryz.prog 95 [int n] (fun d => d = bln (okind n)) := by
  refine pure_of_run follows an_zotge Tryz.func95 rfl ok_zotge.1 ok_zotge.2 (by simp [Tryz.ntmps95]) ?_
  rw [run_start]
  simp only [ac_zotge, oo, og, tp, ci, cq, mq, lq, fi, sr, go_sem, contS_seq, simprocAttr]
  (repeat' (first | (refine GifP.mk (fun _ => ?_) (fun _ => ?_)) | (refine Gif.mk (fun _ => ?_) (fun _ => ?_)))) <;> (simp only [retK, fullK, iterK, resD, resA, AOp.ex, St.ev, St.get, lk, oneD, D.pub, D.pubs, retL, reduceIte, Nat.reduceEqDiff, Nat.reduceAdd, Nat.reduceLeDiff, Tryz.results95]; exact ⟨_, rfl, rfl, congrArg bln (by first | rfl | (rw [Bool.eq_iff_iff]; simp only [okind]; simp; done) | (rw [Bool.eq_iff_iff]; simp only [okind]; simp; omega) | (rw [Bool.eq_iff_iff]; simp only [okind]; simp [*]; done) | (rw [Bool.eq_iff_iff]; simp only [okind]; simp [*]; omega) | (simp_all [okind]; done) | (exfalso; omega))⟩)
theorem ref9_port (n : Int) : Pure Tryz.prog 56 [int n] (fun d => d = bln (oport n)) := by
  refine pure_of_run follows an_ztb7v Tryz.func56 rfl ok_ztb7v.1 ok_ztb7v.2 (by simp [Tryz.ntmps56]) ?_
  rw [run_start]
  simp only [ac_ztb7v, oo, og, tp, ci, cq, mq, lq, fi, sr, go_sem, contS_seq, simprocAttr]
  (repeat' (first | (refine GifP.mk (fun _ => ?_) (fun _ => ?_)) | (refine Gif.mk (fun _ => ?_) (fun _ => ?_)))) <;> (simp only [retK, fullK, iterK, resD, resA, AOp.ex, St.ev, St.get, lk, oneD, D.pub, D.pubs, retL, reduceIte, Nat.reduceEqDiff, Nat.reduceAdd, Nat.reduceLeDiff, Tryz.results56]; exact ⟨_, rfl, rfl, congrArg bln (by first | rfl | (rw [Bool.eq_iff_iff]; simp only [oport]; simp; done) | (rw [Bool.eq_iff_iff]; simp only [oport]; simp; omega) | (rw [Bool.eq_iff_iff]; simp only [oport]; simp [*]; done) | (rw [Bool.eq_iff_iff]; simp only [oport]; simp [*]; omega) | (simp_all [oport]; done) | (exfalso; omega))⟩)
theorem ref9_near (s : ByteArray) (hs : s.size ≤ 1000000) : Pure Tryz.prog 93 [str s] (fun d => d = bln (labValue s)) := by
  refine pure_of_run follows an_z84ie Tryz.func93 rfl ok_z84ie.1 ok_z84ie.2 (by simp [Tryz.ntmps93]) ?_
  rw [run_start]
  simp only [ac_z84ie, oo, og, tp, ci, cq, mq, lq, fi, sr, go_sem, contS_seq, simprocAttr]
  (repeat' (first | (refine GifP.mk (fun _ => ?_) (fun _ => ?_)) | (refine Gif.mk (fun _ => ?_) (fun _ => ?_)) | (refine (ref1_Label _ hs).callW (enters_of Tryz.func89 rfl rfl) _ rfl rfl ?_; rintro _ rfl; try simp only [go_sem, contS_seq, simprocAttr]))) <;> (simp only [retK, fullK, iterK, resD, resA, AOp.ex, St.ev, St.get, lk, oneD, D.pub, D.pubs, retL, reduceIte, Nat.reduceEqDiff, Nat.reduceAdd, Nat.reduceLeDiff, Tryz.results93]; exact ⟨_, rfl, rfl, congrArg bln (by first | rfl | (rw [Bool.eq_iff_iff]; simp only [labValue]; simp; done) | (rw [Bool.eq_iff_iff]; simp only [labValue]; simp; omega) | (rw [Bool.eq_iff_iff]; simp only [labValue]; simp [*]; done) | (rw [Bool.eq_iff_iff]; simp only [labValue]; simp [*]; omega) | (simp_all [labValue]; done) | (exfalso; omega))⟩)

theorem mayRef_iff (r : ARef) : mayRef r = true ↔ (r.kind = 1 ∧ r.space = ⟨#[]⟩ ∧ dname r.name = true) ∨ (r.kind = 2 ∧ r.space = ⟨#[]⟩ ∧ label r.name = true) ∨ (3 ≤ r.kind ∧ r.kind ≤ 7 ∧ label r.space = true ∧ dname r.name = true) := by
  unfold mayRef
  split
  · rename_i h
    simp [h]
  · split
    · rename_i h1 h
      simp [h]
    · rename_i h1 h2
      simp only [okind, Bool.and_eq_true, decide_eq_true_eq]
      constructor
      · rintro ⟨⟨⟨h3, h4⟩, h5⟩, h6⟩
        exact .inr (.inr ⟨by omega, h4, h5, h6⟩)
      · rintro (⟨h3, _⟩ | ⟨h3, _⟩ | ⟨h3, h4, h5, h6⟩)
        · exact absurd h3 h1
        · exact absurd h3 h2
        · exact ⟨⟨⟨by omega, h4⟩, h5⟩, h6⟩

set_option maxHeartbeats 2000000 in
theorem ref9_MayRef (r : ARef) (h1 : r.space.size ≤ 1000000) (h2 : r.name.size ≤ 1000000) : Pure Tryz.prog 54 [r.d] (fun d => d = bln (mayRef r)) := by
  refine pure_of_run follows an_zvuu8 Tryz.func54 rfl ok_zvuu8.1 ok_zvuu8.2 (by simp [Tryz.ntmps54]) ?_
  rw [run_start]
  simp only [ac_zvuu8, oo, og, tp, ci, cq, mq, lq, fi, sr, go_sem, contS_seq, simprocAttr]
  (repeat' (first | (refine GifP.mk (fun _ => ?_) (fun _ => ?_)) | (refine Gif.mk (fun _ => ?_) (fun _ => ?_)) | ((first | refine (ref1_Label r.name h2).callW (enters_of Tryz.func89 rfl rfl) _ rfl rfl ?_ | refine (ref1_Label r.space h1).callW (enters_of Tryz.func89 rfl rfl) _ rfl rfl ?_ | refine (ref1_Name r.name).callW (enters_of Tryz.func88 rfl rfl) _ rfl rfl ?_); rintro _ rfl; try simp only [go_sem, contS_seq, simprocAttr]))) <;> (simp only [retK, fullK, iterK, resD, resA, AOp.ex, St.ev, St.get, lk, oneD, D.pub, D.pubs, retL, reduceIte, Nat.reduceEqDiff, Nat.reduceAdd, Nat.reduceLeDiff, Tryz.results54]; exact ⟨_, rfl, rfl, congrArg bln (by rw [Bool.eq_iff_iff, mayRef_iff]; first | (simp_all; done) | (simp_all; omega) | (have q1 : ¬ r.kind = 1 ∧ ¬ r.kind = 2 ∧ 3 ≤ r.kind ∧ r.kind ≤ 7 := (by omega); simp_all; done) | (have q1 : ¬ r.kind = 1 ∧ ¬ r.kind = 2 ∧ ¬ 3 ≤ r.kind := (by omega); simp_all; done))⟩)

theorem listenerMay_iff (l : AListener) : listenerMay l = true ↔ ((l.tls = true → l.cert.kind = 4 ∧ labValue l.cert.space = true ∧ dname l.cert.name = true) ∧ (l.tls = false → l.cert.kind = 0 ∧ l.cert.space = ⟨#[]⟩ ∧ l.cert.name = ⟨#[]⟩)) ∧
    label l.name = true ∧ oport l.port = true ∧ hostMay l.host = true ∧ 0 ≤ l.from_ ∧ l.from_ ≤ 2 ∧ needsMay l.needs = true ∧ (l.from_ = 2 ∨ l.needs.length = 0) := by
  simp only [listenerMay, Bool.and_eq_true, Bool.or_eq_true, decide_eq_true_eq]
  cases htls : l.tls <;> simp [and_assoc]

theorem every_iff {α : Type} (p : α → Bool) (l : List α) (n : Int) : every p l n = true ↔ (l.length : Int) ≤ n ∧ ∀ (j : Nat) (x : α), l[j]? = some x → p x = true := by
  simp only [every, Bool.and_eq_true, decide_eq_true_eq, all_at]

theorem gatewayMay_iff (s : ByteArray) (l : List AListener) : gatewayMay s l = true ↔ (dname s = true ∧ 0 < l.length ∧ l.length ≤ 8) ∧
    ∀ (j : Nat) (x : AListener), l[j]? = some x → listenerMay x = true ∧ ∀ (k : Nat) (y : AListener), k < j → l[k]? = some y → ¬ y.name = x.name := by
  simp only [gatewayMay, Bool.and_eq_true, decide_eq_true_eq, every_iff, Bool.not_eq_true', tw_iff, lisName, decide_eq_false_iff_not]
  constructor
  · rintro ⟨⟨⟨h1, h2⟩, h3, h4⟩, h5⟩
    exact ⟨⟨h1, h2, by omega⟩, fun j x hx => ⟨h4 j x hx, fun k y hk hy e => h5 j x hx k y hk hy e.symm⟩⟩
  · rintro ⟨⟨h1, h2, h3⟩, h4⟩
    exact ⟨⟨⟨h1, h2⟩, by omega, fun j x hx => (h4 j x hx).1⟩, fun j x hx k y hk hy e => (h4 j x hx).2 k y hk hy e.symm⟩

theorem routeMay_iff (ps : List AParent) (hs : List ByteArray) (rs : List ARule) : routeMay ps hs rs = true ↔ (ps.length ≤ 4 ∧ hs.length ≤ 4 ∧ rs.length ≤ 6) ∧
    (∀ (j : Nat) (x : AParent), ps[j]? = some x → parentMay x = true ∧ ∀ (k : Nat) (y : AParent), k < j → ps[k]? = some y → ¬ y = x) ∧
    (∀ (j : Nat) (x : ByteArray), hs[j]? = some x → patMay x = true ∧ ∀ (k : Nat) (y : ByteArray), k < j → hs[k]? = some y → ¬ y = x) ∧
    ∀ (j : Nat) (x : ARule), rs[j]? = some x → ruleMay x = true := by
  simp only [routeMay, Bool.and_eq_true, every_iff, Bool.not_eq_true', Bool.or_eq_false_iff, tw_iff, parSame, strSame, decide_eq_false_iff_not]
  constructor
  · rintro ⟨⟨⟨⟨h1, h2⟩, h3, h4⟩, h5, h6⟩, h7, h8⟩
    exact ⟨⟨by omega, by omega, by omega⟩, fun j x hx => ⟨h4 j x hx, fun k y hk hy e => h1 j x hx k y hk hy e.symm⟩, fun j x hx => ⟨h6 j x hx, fun k y hk hy e => h2 j x hx k y hk hy e.symm⟩, h8⟩
  · rintro ⟨⟨h1, h2, h3⟩, h4, h5, h6⟩
    exact ⟨⟨⟨⟨fun j x hx k y hk hy e => (h4 j x hx).2 k y hk hy e.symm, fun j x hx k y hk hy e => (h5 j x hx).2 k y hk hy e.symm⟩, by omega, fun j x hx => (h4 j x hx).1⟩, by omega, fun j x hx => (h5 j x hx).1⟩, by omega, h6⟩

theorem ruleMay_iff (r : ARule) : ruleMay r = true ↔ (r.matches_.length ≤ 4 ∧ r.backends.length ≤ 4 ∧ filtersAll r.filters = true) ∧ (∀ (j : Nat) (x : AMatch), r.matches_[j]? = some x → matchMay x = true) ∧ ∀ (j : Nat) (x : ABackend), r.backends[j]? = some x → backendMay x = true := by
  simp only [ruleMay, Bool.and_eq_true, every_iff]
  constructor
  · rintro ⟨⟨⟨h1, h2⟩, h3⟩, h4, h5⟩; exact ⟨⟨by omega, by omega, h3⟩, h2, h5⟩
  · rintro ⟨⟨h1, h2, h3⟩, h4, h5⟩; exact ⟨⟨⟨by omega, h4⟩, h3⟩, by omega, h5⟩

theorem grantMay_iff (f t : List ASide) : grantMay f t = true ↔ (0 < f.length ∧ f.length ≤ 4 ∧ 0 < t.length ∧ t.length ≤ 4) ∧ (∀ (j : Nat) (x : ASide), f[j]? = some x → sideFrom x = true) ∧ ∀ (j : Nat) (x : ASide), t[j]? = some x → sideTo x = true := by
  simp only [grantMay, Bool.and_eq_true, every_iff, decide_eq_true_eq]
  constructor
  · rintro ⟨⟨⟨h1, h2⟩, h3, h4⟩, h5, h6⟩; exact ⟨⟨h1, by omega, h2, by omega⟩, h4, h6⟩
  · rintro ⟨⟨h1, h2, h3, h4⟩, h5, h6⟩; exact ⟨⟨⟨h1, h3⟩, by omega, h5⟩, by omega, h6⟩

theorem backendMay_iff (b : ABackend) : backendMay b = true ↔ okind b.ref.kind = true ∧ labValue b.ref.space = true ∧ dname b.ref.name = true ∧ (b.port = 0 ∨ oport b.port = true) ∧ 0 ≤ b.weight ∧ b.weight ≤ 1000 := by
  simp only [backendMay, Bool.and_eq_true, Bool.or_eq_true, decide_eq_true_eq, and_assoc]

theorem parentMay_iff (p : AParent) : parentMay p = true ↔ labValue p.space = true ∧ dname p.name = true ∧ labValue p.section_ = true ∧ (p.port = 0 ∨ oport p.port = true) := by
  simp only [parentMay, Bool.and_eq_true, Bool.or_eq_true, decide_eq_true_eq, and_assoc]

theorem sideFrom_iff (s : ASide) : sideFrom s = true ↔ okind s.kind = true ∧ label s.space = true ∧ s.name = ⟨#[]⟩ := by
  simp only [sideFrom, Bool.and_eq_true, decide_eq_true_eq, and_assoc]

theorem sideTo_iff (s : ASide) : sideTo s = true ↔ okind s.kind = true ∧ s.space = ⟨#[]⟩ ∧ (s.name = ⟨#[]⟩ ∨ dname s.name = true) := by
  simp only [sideTo, Bool.and_eq_true, Bool.or_eq_true, decide_eq_true_eq, and_assoc]

theorem patMay_iff (s : ByteArray) : patMay s = true ↔ ¬ s = ⟨#[]⟩ ∧ hostMay s = true := by
  simp only [patMay, Bool.and_eq_true, Bool.not_eq_true', decide_eq_false_iff_not]

set_option maxHeartbeats 4000000 in
theorem ref9_rule (r : ARule) (h : r.ok) (hm : ∀ m ∈ r.matches_, m.method.size ≤ 1000000) (hf : ∀ f ∈ r.filters, f.host.size ≤ 1000000 ∧ f.path.size ≤ 1000000) (hb : ∀ b ∈ r.backends, b.ref.space.size ≤ 1000000) : Pure Tryz.prog 94 [r.d] (fun d => d = bln (ruleMay r)) := by
  have hml := h.ml
  have hfl := h.fl
  have hbl := h.bl
  refine pure_of_run follows an_zn5zf Tryz.func94 rfl ok_zn5zf.1 ok_zn5zf.2 (by simp [Tryz.ntmps94]) ?_
  rw [run_start]
  have key : ¬ (r.matches_.length ≤ 4 ∧ r.backends.length ≤ 4 ∧ filtersAll r.filters = true) → bln false = bln (ruleMay r) := fun hn => bool_no fun e => hn ((ruleMay_iff r).1 e).1
  simp only [ac_zn5zf, oo, og, tp, ci, cq, mq, lq, fi, sr, go_sem, contS_seq, simprocAttr, rows_len]
  repeat' (first | refine GifP.mk (fun _ => ?_) (fun _ => ?_) | refine Gif.mk (fun _ => ?_) (fun _ => ?_) | (refine (ref7_All r.filters hfl h.f hf).callW (enters_of Tryz.func141 rfl rfl) _ rfl rfl ?_; rintro _ rfl; simp only [go_sem, contS_seq, simprocAttr, rows_len]) | refine And.intro ?_ ?_)
  all_goals first
    | (simp only [retK, fullK, iterK, resD, resA, AOp.ex, St.ev, St.get, lk, oneD, D.pub, D.pubs, retL, reduceIte, Nat.reduceEqDiff, Nat.reduceAdd, Nat.reduceLeDiff, Tryz.results94]; exact ⟨_, rfl, rfl, key (by first | omega | (simp_all; done) | (simp_all; omega))⟩)
    | skip
  have hA : r.matches_.length ≤ 4 ∧ r.backends.length ≤ 4 ∧ filtersAll r.filters = true := ⟨by omega, by omega, by assumption⟩
  clear key
  refine loopS (fun k st => ∃ i : Nat, k = r.matches_.length - i ∧ i ≤ r.matches_.length ∧ (∀ (j : Nat) (x : AMatch), j < i → r.matches_[j]? = some x → matchMay x = true) ∧ st = ⟨[(1, .ptr 1 0), (3, int i)], [(1, [.pd (.slice (rows AMatch.pd r.matches_)), .pd (.slice (rows AFilter.pd r.filters)), .pd (.slice (rows ABackend.pd r.backends))])], [], .no⟩) r.matches_.length _ ?_ ⟨0, rfl, by omega, fun _ _ h => absurd h (Nat.not_lt_zero _), rfl⟩ ?_
  · exact Weak.less (by simp [lessL, lk]) (by simp [lessL, lk]) (by simp [lessL, lk]) rfl
  rintro k st ⟨i, rfl, hi, hT, rfl⟩
  have hw := i64_succ (show i < 1000000000 by omega)
  by_cases hlt : i < r.matches_.length
  · obtain ⟨x, hx⟩ := at_lt hlt
    have hmem := List.mem_of_getElem? hx
    have h1 : ((i : Int) < (r.matches_.length : Int)) = True := eq_true (by omega)
    have good : (matchMay x = true) → ∀ st, Weak Tryz.prog st ⟨[(1, .ptr 1 0), (3, int (i + 1 : Nat))], [(1, [.pd (.slice (rows AMatch.pd r.matches_)), .pd (.slice (rows AFilter.pd r.filters)), .pd (.slice (rows ABackend.pd r.backends))])], [], .no⟩ → Round Tryz.prog (fun k st => ∃ i : Nat, k = r.matches_.length - i ∧ i ≤ r.matches_.length ∧ (∀ (j : Nat) (x : AMatch), j < i → r.matches_[j]? = some x → matchMay x = true) ∧ st = ⟨[(1, .ptr 1 0), (3, int i)], [(1, [.pd (.slice (rows AMatch.pd r.matches_)), .pd (.slice (rows AFilter.pd r.filters)), .pd (.slice (rows ABackend.pd r.backends))])], [], .no⟩) (r.matches_.length - i) st := fun h st hw => ⟨r.matches_.length - (i + 1), _, by omega, hw, i + 1, rfl, by omega, snoc_all hT hx h, rfl⟩
    have bad : ¬ (matchMay x = true) → bln false = bln (ruleMay r) := fun h => bool_no fun e => h (((ruleMay_iff r).1 e).2.1 i x hx)
    simp only [go_sem, contS_seq, simprocAttr, rows_len, rows_get hx, h1, hw]
    repeat' (first | refine GifP.mk (fun _ => ?_) (fun _ => ?_) | refine Gif.mk (fun _ => ?_) (fun _ => ?_) | (refine (ref6_May x (h.m x hmem) (hm x hmem)).callW (enters_of Tryz.func142 rfl rfl) _ rfl rfl ?_; rintro _ rfl; simp only [go_sem, contS_seq, simprocAttr, rows_len, rows_get hx, hw]) | refine And.intro ?_ ?_)
    all_goals first
      | (refine good (by assumption) _ ?_; exact Weak.less (by simp [lessL, lk]) (by simp [lessL, lk]) (by simp [lessL, lk]) rfl)
      | (simp only [retK, fullK, iterK, resD, resA, AOp.ex, St.ev, St.get, lk, oneD, D.pub, D.pubs, retL, reduceIte, Nat.reduceEqDiff, Nat.reduceAdd, Nat.reduceLeDiff, Tryz.results94]; exact ⟨_, rfl, rfl, bad (by simp_all)⟩)
  have h1 : ((i : Int) < (r.matches_.length : Int)) = False := eq_false (by omega)
  have hMatch : ∀ (j : Nat) (x : AMatch), r.matches_[j]? = some x → matchMay x = true := fun j x hx => hT j x (by have := (List.getElem?_eq_some_iff.1 hx).1; omega) hx
  clear hT hw hi
  simp only [go_sem, contS_seq, simprocAttr, rows_len, h1]
  first | clear h1 hlt i | clear h1 hlt
  refine loopS (fun k st => ∃ i : Nat, k = r.backends.length - i ∧ i ≤ r.backends.length ∧ (∀ (j : Nat) (x : ABackend), j < i → r.backends[j]? = some x → backendMay x = true) ∧ st = ⟨[(1, .ptr 1 0), (4, int i)], [(1, [.pd (.slice (rows AMatch.pd r.matches_)), .pd (.slice (rows AFilter.pd r.filters)), .pd (.slice (rows ABackend.pd r.backends))])], [], .no⟩) r.backends.length _ ?_ ⟨0, rfl, by omega, fun _ _ h => absurd h (Nat.not_lt_zero _), rfl⟩ ?_
  · exact Weak.less (by simp [lessL, lk]) (by simp [lessL, lk]) (by simp [lessL, lk]) rfl
  rintro k st ⟨i, rfl, hi, hT, rfl⟩
  have hw := i64_succ (show i < 1000000000 by omega)
  by_cases hlt : i < r.backends.length
  · obtain ⟨x, hx⟩ := at_lt hlt
    have hmem := List.mem_of_getElem? hx
    have h1 : ((i : Int) < (r.backends.length : Int)) = True := eq_true (by omega)
    have good : (backendMay x = true) → ∀ st, Weak Tryz.prog st ⟨[(1, .ptr 1 0), (4, int (i + 1 : Nat))], [(1, [.pd (.slice (rows AMatch.pd r.matches_)), .pd (.slice (rows AFilter.pd r.filters)), .pd (.slice (rows ABackend.pd r.backends))])], [], .no⟩ → Round Tryz.prog (fun k st => ∃ i : Nat, k = r.backends.length - i ∧ i ≤ r.backends.length ∧ (∀ (j : Nat) (x : ABackend), j < i → r.backends[j]? = some x → backendMay x = true) ∧ st = ⟨[(1, .ptr 1 0), (4, int i)], [(1, [.pd (.slice (rows AMatch.pd r.matches_)), .pd (.slice (rows AFilter.pd r.filters)), .pd (.slice (rows ABackend.pd r.backends))])], [], .no⟩) (r.backends.length - i) st := fun h st hw => ⟨r.backends.length - (i + 1), _, by omega, hw, i + 1, rfl, by omega, snoc_all hT hx h, rfl⟩
    have bad : ¬ (backendMay x = true) → bln false = bln (ruleMay r) := fun h => bool_no fun e => h (((ruleMay_iff r).1 e).2.2 i x hx)
    simp only [go_sem, contS_seq, simprocAttr, rows_len, rows_get hx, h1, hw]
    repeat' (first | refine GifP.mk (fun _ => ?_) (fun _ => ?_) | refine Gif.mk (fun _ => ?_) (fun _ => ?_) | (refine (ref9_kind x.ref.kind).callW (enters_of Tryz.func95 rfl rfl) _ rfl rfl ?_; rintro _ rfl; simp only [go_sem, contS_seq, simprocAttr, rows_len, rows_get hx, hw]) | (refine (ref9_near x.ref.space (hb x hmem)).callW (enters_of Tryz.func93 rfl rfl) _ rfl rfl ?_; rintro _ rfl; simp only [go_sem, contS_seq, simprocAttr, rows_len, rows_get hx, hw]) | (refine (ref1_Name x.ref.name).callW (enters_of Tryz.func88 rfl rfl) _ rfl rfl ?_; rintro _ rfl; simp only [go_sem, contS_seq, simprocAttr, rows_len, rows_get hx, hw]) | (refine (ref9_port x.port).callW (enters_of Tryz.func56 rfl rfl) _ rfl rfl ?_; rintro _ rfl; simp only [go_sem, contS_seq, simprocAttr, rows_len, rows_get hx, hw]) | refine And.intro ?_ ?_)
    all_goals first
      | (refine good ((backendMay_iff x).2 (by first | (simp_all; done) | (simp_all; omega))) _ ?_; exact Weak.less (by simp [lessL, lk]) (by simp [lessL, lk]) (by simp [lessL, lk]) rfl)
      | (simp only [retK, fullK, iterK, resD, resA, AOp.ex, St.ev, St.get, lk, oneD, D.pub, D.pubs, retL, reduceIte, Nat.reduceEqDiff, Nat.reduceAdd, Nat.reduceLeDiff, Tryz.results94]; exact ⟨_, rfl, rfl, bad (by rw [backendMay_iff]; first | (simp_all; done) | (simp_all; omega) | (intro hh; simp_all; omega))⟩)
  have h1 : ((i : Int) < (r.backends.length : Int)) = False := eq_false (by omega)
  have hBack : ∀ (j : Nat) (x : ABackend), r.backends[j]? = some x → backendMay x = true := fun j x hx => hT j x (by have := (List.getElem?_eq_some_iff.1 hx).1; omega) hx
  clear hT hw hi
  simp only [go_sem, contS_seq, simprocAttr, rows_len, h1]
  first | clear h1 hlt i | clear h1 hlt
  simp only [retK, fullK, iterK, resD, resA, AOp.ex, St.ev, St.get, lk, oneD, D.pub, D.pubs, retL, reduceIte, Nat.reduceEqDiff, Nat.reduceAdd, Nat.reduceLeDiff, Tryz.results94]
  exact ⟨_, rfl, rfl, bool_yes ((ruleMay_iff r).2 ⟨hA, hMatch, hBack⟩)⟩

set_option maxHeartbeats 4000000 in
theorem ref9_grant (o : AObj) (h : o.ok) (hs : ∀ s ∈ o.from_, s.space.size ≤ 1000000) : Pure Tryz.prog 59 [o.d] (fun d => d = bln (grantMay o.from_ o.to_)) := by
  have hfr := h.fr
  have hto := h.to
  refine pure_of_run follows an_zrloc Tryz.func59 rfl ok_zrloc.1 ok_zrloc.2 (by simp [Tryz.ntmps59]) ?_
  rw [run_start]
  simp only [ac_zrloc, oo, og, tp, ci, cq, mq, lq, fi, sr, go_sem, contS_seq, simprocAttr, rows_len]
  refine loopS (fun k st => ∃ i : Nat, k = o.from_.length - i ∧ i ≤ o.from_.length ∧ (∀ (j : Nat) (x : ASide), j < i → o.from_[j]? = some x → sideFrom x = true) ∧ st = ⟨[(1, .ptr 1 0), (3, int i)], [(1, o.ds)], [], .no⟩) o.from_.length _ ?_ ⟨0, rfl, by omega, fun _ _ h => absurd h (Nat.not_lt_zero _), rfl⟩ ?_
  · exact Weak.less (by simp [lessL, lk]) (by simp [lessL, lk]) (by simp [lessL, lk]) rfl
  rintro k st ⟨i, rfl, hi, hT, rfl⟩
  have hw := i64_succ (show i < 1000000000 by omega)
  by_cases hlt : i < o.from_.length
  · obtain ⟨x, hx⟩ := at_lt hlt
    have hmem := List.mem_of_getElem? hx
    have h1 : ((i : Int) < (o.from_.length : Int)) = True := eq_true (by omega)
    have good : (sideFrom x = true) → ∀ st, Weak Tryz.prog st ⟨[(1, .ptr 1 0), (3, int (i + 1 : Nat))], [(1, o.ds)], [], .no⟩ → Round Tryz.prog (fun k st => ∃ i : Nat, k = o.from_.length - i ∧ i ≤ o.from_.length ∧ (∀ (j : Nat) (x : ASide), j < i → o.from_[j]? = some x → sideFrom x = true) ∧ st = ⟨[(1, .ptr 1 0), (3, int i)], [(1, o.ds)], [], .no⟩) (o.from_.length - i) st := fun h st hw => ⟨o.from_.length - (i + 1), _, by omega, hw, i + 1, rfl, by omega, snoc_all hT hx h, rfl⟩
    have bad : ¬ (sideFrom x = true) → bln false = bln (grantMay o.from_ o.to_) := fun h => bool_no fun e => h (((grantMay_iff _ _).1 e).2.1 i x hx)
    simp only [go_sem, contS_seq, simprocAttr, rows_len, rows_get hx, h1, hw]
    repeat' (first | refine GifP.mk (fun _ => ?_) (fun _ => ?_) | refine Gif.mk (fun _ => ?_) (fun _ => ?_) | (refine (ref9_kind x.kind).callW (enters_of Tryz.func95 rfl rfl) _ rfl rfl ?_; rintro _ rfl; simp only [go_sem, contS_seq, simprocAttr, rows_len, rows_get hx, hw]) | (refine (ref1_Label x.space (hs x hmem)).callW (enters_of Tryz.func89 rfl rfl) _ rfl rfl ?_; rintro _ rfl; simp only [go_sem, contS_seq, simprocAttr, rows_len, rows_get hx, hw]) | refine And.intro ?_ ?_)
    all_goals first
      | (refine good ((sideFrom_iff x).2 (by simp_all)) _ ?_; exact Weak.less (by simp [lessL, lk]) (by simp [lessL, lk]) (by simp [lessL, lk]) rfl)
      | (simp only [retK, fullK, iterK, resD, resA, AOp.ex, St.ev, St.get, lk, oneD, D.pub, D.pubs, retL, reduceIte, Nat.reduceEqDiff, Nat.reduceAdd, Nat.reduceLeDiff, Tryz.results59]; exact ⟨_, rfl, rfl, bad (by rw [sideFrom_iff]; simp_all)⟩)
  have h1 : ((i : Int) < (o.from_.length : Int)) = False := eq_false (by omega)
  have hFrom : ∀ (j : Nat) (x : ASide), o.from_[j]? = some x → sideFrom x = true := fun j x hx => hT j x (by have := (List.getElem?_eq_some_iff.1 hx).1; omega) hx
  clear hT hw hi
  simp only [go_sem, contS_seq, simprocAttr, rows_len, h1]
  first | clear h1 hlt i | clear h1 hlt
  refine loopS (fun k st => ∃ i : Nat, k = o.to_.length - i ∧ i ≤ o.to_.length ∧ (∀ (j : Nat) (x : ASide), j < i → o.to_[j]? = some x → sideTo x = true) ∧ st = ⟨[(1, .ptr 1 0), (4, int i)], [(1, o.ds)], [], .no⟩) o.to_.length _ ?_ ⟨0, rfl, by omega, fun _ _ h => absurd h (Nat.not_lt_zero _), rfl⟩ ?_
  · exact Weak.less (by simp [lessL, lk]) (by simp [lessL, lk]) (by simp [lessL, lk]) rfl
  rintro k st ⟨i, rfl, hi, hT, rfl⟩
  have hw := i64_succ (show i < 1000000000 by omega)
  by_cases hlt : i < o.to_.length
  · obtain ⟨x, hx⟩ := at_lt hlt
    have hmem := List.mem_of_getElem? hx
    have h1 : ((i : Int) < (o.to_.length : Int)) = True := eq_true (by omega)
    have good : (sideTo x = true) → ∀ st, Weak Tryz.prog st ⟨[(1, .ptr 1 0), (4, int (i + 1 : Nat))], [(1, o.ds)], [], .no⟩ → Round Tryz.prog (fun k st => ∃ i : Nat, k = o.to_.length - i ∧ i ≤ o.to_.length ∧ (∀ (j : Nat) (x : ASide), j < i → o.to_[j]? = some x → sideTo x = true) ∧ st = ⟨[(1, .ptr 1 0), (4, int i)], [(1, o.ds)], [], .no⟩) (o.to_.length - i) st := fun h st hw => ⟨o.to_.length - (i + 1), _, by omega, hw, i + 1, rfl, by omega, snoc_all hT hx h, rfl⟩
    have bad : ¬ (sideTo x = true) → bln false = bln (grantMay o.from_ o.to_) := fun h => bool_no fun e => h (((grantMay_iff _ _).1 e).2.2 i x hx)
    simp only [go_sem, contS_seq, simprocAttr, rows_len, rows_get hx, h1, hw]
    repeat' (first | refine GifP.mk (fun _ => ?_) (fun _ => ?_) | refine Gif.mk (fun _ => ?_) (fun _ => ?_) | (refine (ref9_kind x.kind).callW (enters_of Tryz.func95 rfl rfl) _ rfl rfl ?_; rintro _ rfl; simp only [go_sem, contS_seq, simprocAttr, rows_len, rows_get hx, hw]) | (refine (ref1_Name x.name).callW (enters_of Tryz.func88 rfl rfl) _ rfl rfl ?_; rintro _ rfl; simp only [go_sem, contS_seq, simprocAttr, rows_len, rows_get hx, hw]) | refine And.intro ?_ ?_)
    all_goals first
      | (refine good ((sideTo_iff x).2 (by simp_all)) _ ?_; exact Weak.less (by simp [lessL, lk]) (by simp [lessL, lk]) (by simp [lessL, lk]) rfl)
      | (simp only [retK, fullK, iterK, resD, resA, AOp.ex, St.ev, St.get, lk, oneD, D.pub, D.pubs, retL, reduceIte, Nat.reduceEqDiff, Nat.reduceAdd, Nat.reduceLeDiff, Tryz.results59]; exact ⟨_, rfl, rfl, bad (by rw [sideTo_iff]; simp_all)⟩)
  have h1 : ((i : Int) < (o.to_.length : Int)) = False := eq_false (by omega)
  have hTo : ∀ (j : Nat) (x : ASide), o.to_[j]? = some x → sideTo x = true := fun j x hx => hT j x (by have := (List.getElem?_eq_some_iff.1 hx).1; omega) hx
  clear hT hw hi
  simp only [go_sem, contS_seq, simprocAttr, rows_len, h1]
  first | clear h1 hlt i | clear h1 hlt
  repeat' (first | refine GifP.mk (fun _ => ?_) (fun _ => ?_) | refine Gif.mk (fun _ => ?_) (fun _ => ?_))
  all_goals
    simp only [retK, fullK, iterK, resD, resA, AOp.ex, St.ev, St.get, lk, oneD, D.pub, D.pubs, retL, reduceIte, Nat.reduceEqDiff, Nat.reduceAdd, Nat.reduceLeDiff, Tryz.results59]
    first
      | exact ⟨_, rfl, rfl, bool_no fun e => by have := ((grantMay_iff _ _).1 e).1; omega⟩
      | exact ⟨_, rfl, rfl, bool_dec ⟨fun h => (grantMay_iff _ _).2 ⟨by omega, hFrom, hTo⟩, fun h => by have := ((grantMay_iff _ _).1 h).1; omega⟩⟩

set_option maxHeartbeats 8000000 in
theorem ref9_gateway (o : AObj) (h : o.ok) (hs : ∀ l ∈ o.listeners, l.name.size ≤ 1000000 ∧ l.cert.space.size ≤ 1000000 ∧ ∀ n ∈ l.needs, ∀ s ∈ n.vals, s.size ≤ 1000000) : Pure Tryz.prog 57 [o.d] (fun d => d = bln (gatewayMay o.cls o.listeners)) := by
  have hli := h.li
  refine pure_of_run follows an_zlyo9 Tryz.func57 rfl ok_zlyo9.1 ok_zlyo9.2 (by simp [Tryz.ntmps57]) ?_
  rw [run_start]
  simp only [ac_zlyo9, oo, og, tp, ci, cq, mq, lq, fi, sr, go_sem, contS_seq, simprocAttr, rows_len]
  refine loopS (fun k st => ∃ i : Nat, k = o.listeners.length - i ∧ i ≤ o.listeners.length ∧ (∀ (j : Nat) (x : AListener), j < i → o.listeners[j]? = some x → listenerMay x = true ∧ ∀ (k : Nat) (y : AListener), k < (j) → o.listeners[k]? = some y → ¬ y.name = x.name) ∧ st = ⟨[(1, .ptr 1 0), (3, .pd (.slice (rows AListener.pd o.listeners))), (4, int i)], [(1, o.ds)], [], .no⟩) o.listeners.length _ ?_ ⟨0, rfl, by omega, fun _ _ h => absurd h (Nat.not_lt_zero _), rfl⟩ ?_
  · exact Weak.less (by simp [lessL, lk]) (by simp [lessL, lk]) (by simp [lessL, lk]) rfl
  rintro k st ⟨i, rfl, hi, hT, rfl⟩
  have hw := i64_succ (show i < 1000000000 by omega)
  by_cases hlt : i < o.listeners.length
  · obtain ⟨x, hx⟩ := at_lt hlt
    have hmem := List.mem_of_getElem? hx
    have h1 : ((i : Int) < (o.listeners.length : Int)) = True := eq_true (by omega)
    have good : (listenerMay x = true ∧ ∀ (k : Nat) (y : AListener), k < i → o.listeners[k]? = some y → ¬ y.name = x.name) → ∀ st, Weak Tryz.prog st ⟨[(1, .ptr 1 0), (3, .pd (.slice (rows AListener.pd o.listeners))), (4, int (i + 1 : Nat))], [(1, o.ds)], [], .no⟩ → Round Tryz.prog (fun k st => ∃ i : Nat, k = o.listeners.length - i ∧ i ≤ o.listeners.length ∧ (∀ (j : Nat) (x : AListener), j < i → o.listeners[j]? = some x → listenerMay x = true ∧ ∀ (k : Nat) (y : AListener), k < (j) → o.listeners[k]? = some y → ¬ y.name = x.name) ∧ st = ⟨[(1, .ptr 1 0), (3, .pd (.slice (rows AListener.pd o.listeners))), (4, int i)], [(1, o.ds)], [], .no⟩) (o.listeners.length - i) st := fun h st hw => ⟨o.listeners.length - (i + 1), _, by omega, hw, i + 1, rfl, by omega, snoc_all hT hx h, rfl⟩
    have bad : ¬ (listenerMay x = true ∧ ∀ (k : Nat) (y : AListener), k < i → o.listeners[k]? = some y → ¬ y.name = x.name) → bln false = bln (gatewayMay o.cls o.listeners) := fun h => bool_no fun e => h (((gatewayMay_iff _ _).1 e).2 i x hx)
    simp only [go_sem, contS_seq, simprocAttr, rows_len, rows_get hx, h1, hw]
    refine loopS (fun n st => ∃ k : Nat, n = i - k ∧ k ≤ i ∧ (∀ (k' : Nat) (y : AListener), k' < k → o.listeners[k']? = some y → ¬ y.name = x.name) ∧ st = ⟨[(1, .ptr 1 0), (3, .pd (.slice (rows AListener.pd o.listeners))), (4, int i), (5, .ptr 5 0), (6, int k)], [(1, o.ds), (5, x.ds)], [], .no⟩) i _ ?_ ⟨0, rfl, by omega, fun _ _ h => absurd h (Nat.not_lt_zero _), rfl⟩ ?_
    · exact Weak.less (by simp [lessL, lk]) (by simp [lessL, lk]) (by simp [lessL, lk]) rfl
    rintro n st ⟨k, rfl, hk, hS, rfl⟩
    have hwk := i64_succ (show k < 1000000000 by omega)
    by_cases hki : k < i
    · obtain ⟨y, hy⟩ := at_lt (show k < o.listeners.length by omega)
      have hmy := List.mem_of_getElem? hy
      have h2 : ((k : Int) < (i : Int)) = True := eq_true (by omega)
      have goodk : (¬ y.name = x.name) → ∀ st, Weak Tryz.prog st ⟨[(1, .ptr 1 0), (3, .pd (.slice (rows AListener.pd o.listeners))), (4, int i), (5, .ptr 5 0), (6, int (k + 1 : Nat))], [(1, o.ds), (5, x.ds)], [], .no⟩ → Round Tryz.prog (fun n st => ∃ k : Nat, n = i - k ∧ k ≤ i ∧ (∀ (k' : Nat) (y : AListener), k' < k → o.listeners[k']? = some y → ¬ y.name = x.name) ∧ st = ⟨[(1, .ptr 1 0), (3, .pd (.slice (rows AListener.pd o.listeners))), (4, int i), (5, .ptr 5 0), (6, int k)], [(1, o.ds), (5, x.ds)], [], .no⟩) (i - k) st := fun h st hw => ⟨i - (k + 1), _, by omega, hw, k + 1, rfl, by omega, snoc_all hS hy h, rfl⟩
      have badk : ¬ (¬ y.name = x.name) → bln false = bln (gatewayMay o.cls o.listeners) := fun h => bad (fun e => h (e.2 k y hki hy))
      simp only [go_sem, contS_seq, simprocAttr, rows_len, rows_get hx, rows_get hy, h2, hwk]
      repeat' (first | refine GifP.mk (fun _ => ?_) (fun _ => ?_) | refine Gif.mk (fun _ => ?_) (fun _ => ?_) | refine And.intro ?_ ?_)
      all_goals first
        | (refine goodk (by first | omega | (simp_all; done) | (simp_all; omega)) _ ?_; exact Weak.less (by simp [lessL, lk]) (by simp [lessL, lk]) (by simp [lessL, lk]) rfl)
        | (simp only [retK, fullK, iterK, resD, resA, AOp.ex, St.ev, St.get, lk, oneD, D.pub, D.pubs, retL, reduceIte, Nat.reduceEqDiff, Nat.reduceAdd, Nat.reduceLeDiff, Tryz.results57]; exact ⟨_, rfl, rfl, badk (by first | omega | (simp_all; done) | (simp_all; omega))⟩)
    have h2 : ((k : Int) < (i : Int)) = False := eq_false (by omega)
    have hIn : ∀ (k : Nat) (y : AListener), k < i → o.listeners[k]? = some y → ¬ y.name = x.name := fun k' y hk' hy => hS k' y (by omega) hy
    clear hS hwk hk
    simp only [go_sem, contS_seq, simprocAttr, rows_len, rows_get hx, h2, hw]
    first | clear h2 hki k | clear h2 hki
    repeat' (first | refine GifP.mk (fun _ => ?_) (fun _ => ?_) | refine Gif.mk (fun _ => ?_) (fun _ => ?_) | (refine (ref1_Label x.name (hs x hmem).1).callW (enters_of Tryz.func89 rfl rfl) _ rfl rfl ?_; rintro _ rfl; simp only [go_sem, contS_seq, simprocAttr, rows_len, rows_get hx, hw, eqVs, eqV]) | (refine (ref9_port x.port).callW (enters_of Tryz.func56 rfl rfl) _ rfl rfl ?_; rintro _ rfl; simp only [go_sem, contS_seq, simprocAttr, rows_len, rows_get hx, hw, eqVs, eqV]) | (refine (ref2_May x.host).callW (enters_of Tryz.func91 rfl rfl) _ rfl rfl ?_; rintro _ rfl; simp only [go_sem, contS_seq, simprocAttr, rows_len, rows_get hx, hw, eqVs, eqV]) | (refine (ref8_Needs x.needs (h.lis x hmem).nl (h.lis x hmem).n (hs x hmem).2.2).callW (enters_of Tryz.func92 rfl rfl) _ rfl rfl ?_; rintro _ rfl; simp only [go_sem, contS_seq, simprocAttr, rows_len, rows_get hx, hw, eqVs, eqV]) | (refine (ref9_near x.cert.space (hs x hmem).2.1).callW (enters_of Tryz.func93 rfl rfl) _ rfl rfl ?_; rintro _ rfl; simp only [go_sem, contS_seq, simprocAttr, rows_len, rows_get hx, hw, eqVs, eqV]) | (refine (ref1_Name x.cert.name).callW (enters_of Tryz.func88 rfl rfl) _ rfl rfl ?_; rintro _ rfl; simp only [go_sem, contS_seq, simprocAttr, rows_len, rows_get hx, hw, eqVs, eqV]) | refine And.intro ?_ ?_)
    all_goals first
      | (refine good (⟨(listenerMay_iff x).2 (by first | (simp_all; done) | (simp_all; omega)), hIn⟩) _ ?_; exact Weak.less (by simp [lessL, lk]) (by simp [lessL, lk]) (by simp [lessL, lk]) rfl)
      | (simp only [retK, fullK, iterK, resD, resA, AOp.ex, St.ev, St.get, lk, oneD, D.pub, D.pubs, retL, reduceIte, Nat.reduceEqDiff, Nat.reduceAdd, Nat.reduceLeDiff, Tryz.results57]; exact ⟨_, rfl, rfl, bad (fun e => by have e1 := (listenerMay_iff x).1 e.1; clear e; first | omega | (simp_all; done) | (simp_all; omega))⟩)
  have h1 : ((i : Int) < (o.listeners.length : Int)) = False := eq_false (by omega)
  have hall : ∀ (j : Nat) (x : AListener), o.listeners[j]? = some x → listenerMay x = true ∧ ∀ (k : Nat) (y : AListener), k < (j) → o.listeners[k]? = some y → ¬ y.name = x.name := fun j x hx => hT j x (by have := (List.getElem?_eq_some_iff.1 hx).1; omega) hx
  clear hT hw hi
  simp only [go_sem, contS_seq, simprocAttr, rows_len, h1]
  first | clear h1 hlt i | clear h1 hlt
  repeat' (first | refine GifP.mk (fun _ => ?_) (fun _ => ?_) | refine Gif.mk (fun _ => ?_) (fun _ => ?_) | (refine (ref1_Name o.cls).callW (enters_of Tryz.func88 rfl rfl) _ rfl rfl ?_; rintro _ rfl; simp only [go_sem, contS_seq, simprocAttr, rows_len]) | refine And.intro ?_ ?_)
  all_goals
    simp only [retK, fullK, iterK, resD, resA, AOp.ex, St.ev, St.get, lk, oneD, D.pub, D.pubs, retL, reduceIte, Nat.reduceEqDiff, Nat.reduceAdd, Nat.reduceLeDiff, Tryz.results57]
    first
      | exact ⟨_, rfl, rfl, bool_no fun e => by have := ((gatewayMay_iff _ _).1 e).1; first | omega | (simp_all; done)⟩
      | exact ⟨_, rfl, rfl, bool_dec ⟨fun h => (gatewayMay_iff _ _).2 ⟨⟨by assumption, by omega, by omega⟩, hall⟩, fun h => by have := ((gatewayMay_iff _ _).1 h).1; omega⟩⟩

set_option maxHeartbeats 8000000 in
theorem ref9_route (o : AObj) (h : o.ok) (hp : ∀ p ∈ o.parents, p.space.size ≤ 1000000 ∧ p.section_.size ≤ 1000000)
    (hr : ∀ r ∈ o.rules, (∀ m ∈ r.matches_, m.method.size ≤ 1000000) ∧ (∀ f ∈ r.filters, f.host.size ≤ 1000000 ∧ f.path.size ≤ 1000000) ∧ ∀ b ∈ r.backends, b.ref.space.size ≤ 1000000) : Pure Tryz.prog 58 [o.d] (fun d => d = bln (routeMay o.parents o.hosts o.rules)) := by
  have hpa := h.pa
  have hho := h.ho
  have hru := h.ru
  refine pure_of_run follows an_zgo5l Tryz.func58 rfl ok_zgo5l.1 ok_zgo5l.2 (by simp [Tryz.ntmps58]) ?_
  rw [run_start]
  simp only [ac_zgo5l, oo, og, tp, ci, cq, mq, lq, fi, sr, go_sem, contS_seq, simprocAttr, rows_len]
  refine loopS (fun k st => ∃ i : Nat, k = o.parents.length - i ∧ i ≤ o.parents.length ∧ (∀ (j : Nat) (x : AParent), j < i → o.parents[j]? = some x → parentMay x = true ∧ ∀ (k : Nat) (y : AParent), k < (j) → o.parents[k]? = some y → ¬ y = x) ∧ st = ⟨[(1, .ptr 1 0), (3, int i)], [(1, o.ds)], [], .no⟩) o.parents.length _ ?_ ⟨0, rfl, by omega, fun _ _ h => absurd h (Nat.not_lt_zero _), rfl⟩ ?_
  · exact Weak.less (by simp [lessL, lk]) (by simp [lessL, lk]) (by simp [lessL, lk]) rfl
  rintro k st ⟨i, rfl, hi, hT, rfl⟩
  have hw := i64_succ (show i < 1000000000 by omega)
  by_cases hlt : i < o.parents.length
  · obtain ⟨x, hx⟩ := at_lt hlt
    have hmem := List.mem_of_getElem? hx
    have h1 : ((i : Int) < (o.parents.length : Int)) = True := eq_true (by omega)
    have good : (parentMay x = true ∧ ∀ (k : Nat) (y : AParent), k < i → o.parents[k]? = some y → ¬ y = x) → ∀ st, Weak Tryz.prog st ⟨[(1, .ptr 1 0), (3, int (i + 1 : Nat))], [(1, o.ds)], [], .no⟩ → Round Tryz.prog (fun k st => ∃ i : Nat, k = o.parents.length - i ∧ i ≤ o.parents.length ∧ (∀ (j : Nat) (x : AParent), j < i → o.parents[j]? = some x → parentMay x = true ∧ ∀ (k : Nat) (y : AParent), k < (j) → o.parents[k]? = some y → ¬ y = x) ∧ st = ⟨[(1, .ptr 1 0), (3, int i)], [(1, o.ds)], [], .no⟩) (o.parents.length - i) st := fun h st hw => ⟨o.parents.length - (i + 1), _, by omega, hw, i + 1, rfl, by omega, snoc_all hT hx h, rfl⟩
    have bad : ¬ (parentMay x = true ∧ ∀ (k : Nat) (y : AParent), k < i → o.parents[k]? = some y → ¬ y = x) → bln false = bln (routeMay o.parents o.hosts o.rules) := fun h => bool_no fun e => h (((routeMay_iff _ _ _).1 e).2.1 i x hx)
    simp only [go_sem, contS_seq, simprocAttr, rows_len, rows_get hx, h1, hw]
    repeat' (first | refine GifP.mk (fun _ => ?_) (fun _ => ?_) | refine Gif.mk (fun _ => ?_) (fun _ => ?_) | (refine (ref9_near x.space (hp x hmem).1).callW (enters_of Tryz.func93 rfl rfl) _ rfl rfl ?_; rintro _ rfl; simp only [go_sem, contS_seq, simprocAttr, rows_len, rows_get hx, hw]) | (refine (ref1_Name x.name).callW (enters_of Tryz.func88 rfl rfl) _ rfl rfl ?_; rintro _ rfl; simp only [go_sem, contS_seq, simprocAttr, rows_len, rows_get hx, hw]) | (refine (ref9_near x.section_ (hp x hmem).2).callW (enters_of Tryz.func93 rfl rfl) _ rfl rfl ?_; rintro _ rfl; simp only [go_sem, contS_seq, simprocAttr, rows_len, rows_get hx, hw]) | (refine (ref9_port x.port).callW (enters_of Tryz.func56 rfl rfl) _ rfl rfl ?_; rintro _ rfl; simp only [go_sem, contS_seq, simprocAttr, rows_len, rows_get hx, hw]) | refine And.intro ?_ ?_)
    all_goals first
      | (simp only [retK, fullK, iterK, resD, resA, AOp.ex, St.ev, St.get, lk, oneD, D.pub, D.pubs, retL, reduceIte, Nat.reduceEqDiff, Nat.reduceAdd, Nat.reduceLeDiff, Tryz.results58]; exact ⟨_, rfl, rfl, bad (fun e => by have e1 := (parentMay_iff x).1 e.1; clear e; first | omega | (simp_all; done) | (simp_all; omega))⟩)
      | skip
    all_goals
      have hmay : parentMay x = true := (parentMay_iff x).2 (by simp_all)
      refine loopS (fun n st => ∃ k : Nat, n = i - k ∧ k ≤ i ∧ (∀ (k' : Nat) (y : AParent), k' < k → o.parents[k']? = some y → ¬ y = x) ∧ st = ⟨[(1, .ptr 1 0), (3, int i), (4, .ptr 4 0), (5, int k)], [(1, o.ds), (4, x.ds)], [], .no⟩) i _ ?_ ⟨0, rfl, by omega, fun _ _ h => absurd h (Nat.not_lt_zero _), rfl⟩ ?_
      · exact Weak.less (by simp [lessL, lk]) (by simp [lessL, lk]) (by simp [lessL, lk]) rfl
      rintro n st ⟨k, rfl, hk, hS, rfl⟩
      have hwk := i64_succ (show k < 1000000000 by omega)
      by_cases hki : k < i
      · obtain ⟨y, hy⟩ := at_lt (show k < o.parents.length by omega)
        have hmy := List.mem_of_getElem? hy
        have h2 : ((k : Int) < (i : Int)) = True := eq_true (by omega)
        have goodk : (¬ y = x) → ∀ st, Weak Tryz.prog st ⟨[(1, .ptr 1 0), (3, int i), (4, .ptr 4 0), (5, int (k + 1 : Nat))], [(1, o.ds), (4, x.ds)], [], .no⟩ → Round Tryz.prog (fun n st => ∃ k : Nat, n = i - k ∧ k ≤ i ∧ (∀ (k' : Nat) (y : AParent), k' < k → o.parents[k']? = some y → ¬ y = x) ∧ st = ⟨[(1, .ptr 1 0), (3, int i), (4, .ptr 4 0), (5, int k)], [(1, o.ds), (4, x.ds)], [], .no⟩) (i - k) st := fun h st hw => ⟨i - (k + 1), _, by omega, hw, k + 1, rfl, by omega, snoc_all hS hy h, rfl⟩
        have badk : ¬ (¬ y = x) → bln false = bln (routeMay o.parents o.hosts o.rules) := fun h => bad (fun e => h (e.2 k y hki hy))
        simp only [go_sem, contS_seq, simprocAttr, rows_len, rows_get hx, rows_get hy, h2, hwk, eqVs, eqV, eq_Parent]
        repeat' (first | refine GifP.mk (fun _ => ?_) (fun _ => ?_) | refine Gif.mk (fun _ => ?_) (fun _ => ?_) | refine And.intro ?_ ?_)
        all_goals first
          | (refine goodk (by first | omega | (simp_all; done) | (simp_all; omega)) _ ?_; exact Weak.less (by simp [lessL, lk]) (by simp [lessL, lk]) (by simp [lessL, lk]) rfl)
          | (simp only [retK, fullK, iterK, resD, resA, AOp.ex, St.ev, St.get, lk, oneD, D.pub, D.pubs, retL, reduceIte, Nat.reduceEqDiff, Nat.reduceAdd, Nat.reduceLeDiff, Tryz.results58]; exact ⟨_, rfl, rfl, badk (by first | omega | (simp_all; done) | (simp_all; omega))⟩)
      have h2 : ((k : Int) < (i : Int)) = False := eq_false (by omega)
      have hIn : ∀ (k : Nat) (y : AParent), k < i → o.parents[k]? = some y → ¬ y = x := fun k' y hk' hy => hS k' y (by omega) hy
      clear hS hwk hk
      simp only [go_sem, contS_seq, simprocAttr, rows_len, rows_get hx, h2, hw, eqVs, eqV, eq_Parent]
      first | clear h2 hki k | clear h2 hki
      refine good ⟨hmay, hIn⟩ _ ?_
      exact Weak.less (by simp [lessL, lk]) (by simp [lessL, lk]) (by simp [lessL, lk]) rfl
  have h1 : ((i : Int) < (o.parents.length : Int)) = False := eq_false (by omega)
  have hPar : ∀ (j : Nat) (x : AParent), o.parents[j]? = some x → parentMay x = true ∧ ∀ (k : Nat) (y : AParent), k < (j) → o.parents[k]? = some y → ¬ y = x := fun j x hx => hT j x (by have := (List.getElem?_eq_some_iff.1 hx).1; omega) hx
  clear hT hw hi
  simp only [go_sem, contS_seq, simprocAttr, rows_len, h1]
  first | clear h1 hlt i | clear h1 hlt
  refine loopS (fun k st => ∃ i : Nat, k = o.hosts.length - i ∧ i ≤ o.hosts.length ∧ (∀ (j : Nat) (x : ByteArray), j < i → o.hosts[j]? = some x → patMay x = true ∧ ∀ (k : Nat) (y : ByteArray), k < (j) → o.hosts[k]? = some y → ¬ y = x) ∧ st = ⟨[(1, .ptr 1 0), (6, int i)], [(1, o.ds)], [], .no⟩) o.hosts.length _ ?_ ⟨0, rfl, by omega, fun _ _ h => absurd h (Nat.not_lt_zero _), rfl⟩ ?_
  · exact Weak.less (by simp [lessL, lk]) (by simp [lessL, lk]) (by simp [lessL, lk]) rfl
  rintro k st ⟨i, rfl, hi, hT, rfl⟩
  have hw := i64_succ (show i < 1000000000 by omega)
  by_cases hlt : i < o.hosts.length
  · obtain ⟨x, hx⟩ := at_lt hlt
    have hmem := List.mem_of_getElem? hx
    have h1 : ((i : Int) < (o.hosts.length : Int)) = True := eq_true (by omega)
    have good : (patMay x = true ∧ ∀ (k : Nat) (y : ByteArray), k < i → o.hosts[k]? = some y → ¬ y = x) → ∀ st, Weak Tryz.prog st ⟨[(1, .ptr 1 0), (6, int (i + 1 : Nat))], [(1, o.ds)], [], .no⟩ → Round Tryz.prog (fun k st => ∃ i : Nat, k = o.hosts.length - i ∧ i ≤ o.hosts.length ∧ (∀ (j : Nat) (x : ByteArray), j < i → o.hosts[j]? = some x → patMay x = true ∧ ∀ (k : Nat) (y : ByteArray), k < (j) → o.hosts[k]? = some y → ¬ y = x) ∧ st = ⟨[(1, .ptr 1 0), (6, int i)], [(1, o.ds)], [], .no⟩) (o.hosts.length - i) st := fun h st hw => ⟨o.hosts.length - (i + 1), _, by omega, hw, i + 1, rfl, by omega, snoc_all hT hx h, rfl⟩
    have bad : ¬ (patMay x = true ∧ ∀ (k : Nat) (y : ByteArray), k < i → o.hosts[k]? = some y → ¬ y = x) → bln false = bln (routeMay o.parents o.hosts o.rules) := fun h => bool_no fun e => h (((routeMay_iff _ _ _).1 e).2.2.1 i x hx)
    simp only [go_sem, contS_seq, simprocAttr, rows_len, rows_get hx, h1, hw]
    repeat' (first | refine GifP.mk (fun _ => ?_) (fun _ => ?_) | refine Gif.mk (fun _ => ?_) (fun _ => ?_) | (refine (ref2_May x).callW (enters_of Tryz.func91 rfl rfl) _ rfl rfl ?_; rintro _ rfl; simp only [go_sem, contS_seq, simprocAttr, rows_len, rows_get hx, hw]) | refine And.intro ?_ ?_)
    all_goals first
      | (simp only [retK, fullK, iterK, resD, resA, AOp.ex, St.ev, St.get, lk, oneD, D.pub, D.pubs, retL, reduceIte, Nat.reduceEqDiff, Nat.reduceAdd, Nat.reduceLeDiff, Tryz.results58]; exact ⟨_, rfl, rfl, bad (fun e => by have e1 := (patMay_iff x).1 e.1; clear e; simp_all)⟩)
      | skip
    all_goals
      have hmay : patMay x = true := (patMay_iff x).2 (by simp_all)
      refine loopS (fun n st => ∃ k : Nat, n = i - k ∧ k ≤ i ∧ (∀ (k' : Nat) (y : ByteArray), k' < k → o.hosts[k']? = some y → ¬ y = x) ∧ st = ⟨[(1, .ptr 1 0), (6, int i), (7, int k)], [(1, o.ds)], [], .no⟩) i _ ?_ ⟨0, rfl, by omega, fun _ _ h => absurd h (Nat.not_lt_zero _), rfl⟩ ?_
      · exact Weak.less (by simp [lessL, lk]) (by simp [lessL, lk]) (by simp [lessL, lk]) rfl
      rintro n st ⟨k, rfl, hk, hS, rfl⟩
      have hwk := i64_succ (show k < 1000000000 by omega)
      by_cases hki : k < i
      · obtain ⟨y, hy⟩ := at_lt (show k < o.hosts.length by omega)
        have hmy := List.mem_of_getElem? hy
        have h2 : ((k : Int) < (i : Int)) = True := eq_true (by omega)
        have goodk : (¬ y = x) → ∀ st, Weak Tryz.prog st ⟨[(1, .ptr 1 0), (6, int i), (7, int (k + 1 : Nat))], [(1, o.ds)], [], .no⟩ → Round Tryz.prog (fun n st => ∃ k : Nat, n = i - k ∧ k ≤ i ∧ (∀ (k' : Nat) (y : ByteArray), k' < k → o.hosts[k']? = some y → ¬ y = x) ∧ st = ⟨[(1, .ptr 1 0), (6, int i), (7, int k)], [(1, o.ds)], [], .no⟩) (i - k) st := fun h st hw => ⟨i - (k + 1), _, by omega, hw, k + 1, rfl, by omega, snoc_all hS hy h, rfl⟩
        have badk : ¬ (¬ y = x) → bln false = bln (routeMay o.parents o.hosts o.rules) := fun h => bad (fun e => h (e.2 k y hki hy))
        simp only [go_sem, contS_seq, simprocAttr, rows_len, rows_get hx, rows_get hy, h2, hwk]
        repeat' (first | refine GifP.mk (fun _ => ?_) (fun _ => ?_) | refine Gif.mk (fun _ => ?_) (fun _ => ?_) | refine And.intro ?_ ?_)
        all_goals first
          | (refine goodk (by first | omega | (simp_all; done) | (simp_all; omega)) _ ?_; exact Weak.less (by simp [lessL, lk]) (by simp [lessL, lk]) (by simp [lessL, lk]) rfl)
          | (simp only [retK, fullK, iterK, resD, resA, AOp.ex, St.ev, St.get, lk, oneD, D.pub, D.pubs, retL, reduceIte, Nat.reduceEqDiff, Nat.reduceAdd, Nat.reduceLeDiff, Tryz.results58]; exact ⟨_, rfl, rfl, badk (by first | omega | (simp_all; done) | (simp_all; omega))⟩)
      have h2 : ((k : Int) < (i : Int)) = False := eq_false (by omega)
      have hIn : ∀ (k : Nat) (y : ByteArray), k < i → o.hosts[k]? = some y → ¬ y = x := fun k' y hk' hy => hS k' y (by omega) hy
      clear hS hwk hk
      simp only [go_sem, contS_seq, simprocAttr, rows_len, rows_get hx, h2, hw]
      first | clear h2 hki k | clear h2 hki
      refine good ⟨hmay, hIn⟩ _ ?_
      exact Weak.less (by simp [lessL, lk]) (by simp [lessL, lk]) (by simp [lessL, lk]) rfl
  have h1 : ((i : Int) < (o.hosts.length : Int)) = False := eq_false (by omega)
  have hHosts : ∀ (j : Nat) (x : ByteArray), o.hosts[j]? = some x → patMay x = true ∧ ∀ (k : Nat) (y : ByteArray), k < (j) → o.hosts[k]? = some y → ¬ y = x := fun j x hx => hT j x (by have := (List.getElem?_eq_some_iff.1 hx).1; omega) hx
  clear hT hw hi
  simp only [go_sem, contS_seq, simprocAttr, rows_len, h1]
  first | clear h1 hlt i | clear h1 hlt
  refine loopS (fun k st => ∃ i : Nat, k = o.rules.length - i ∧ i ≤ o.rules.length ∧ (∀ (j : Nat) (x : ARule), j < i → o.rules[j]? = some x → ruleMay x = true) ∧ st = ⟨[(1, .ptr 1 0), (8, int i)], [(1, o.ds)], [], .no⟩) o.rules.length _ ?_ ⟨0, rfl, by omega, fun _ _ h => absurd h (Nat.not_lt_zero _), rfl⟩ ?_
  · exact Weak.less (by simp [lessL, lk]) (by simp [lessL, lk]) (by simp [lessL, lk]) rfl
  rintro k st ⟨i, rfl, hi, hT, rfl⟩
  have hw := i64_succ (show i < 1000000000 by omega)
  by_cases hlt : i < o.rules.length
  · obtain ⟨x, hx⟩ := at_lt hlt
    have hmem := List.mem_of_getElem? hx
    have h1 : ((i : Int) < (o.rules.length : Int)) = True := eq_true (by omega)
    have good : (ruleMay x = true) → ∀ st, Weak Tryz.prog st ⟨[(1, .ptr 1 0), (8, int (i + 1 : Nat))], [(1, o.ds)], [], .no⟩ → Round Tryz.prog (fun k st => ∃ i : Nat, k = o.rules.length - i ∧ i ≤ o.rules.length ∧ (∀ (j : Nat) (x : ARule), j < i → o.rules[j]? = some x → ruleMay x = true) ∧ st = ⟨[(1, .ptr 1 0), (8, int i)], [(1, o.ds)], [], .no⟩) (o.rules.length - i) st := fun h st hw => ⟨o.rules.length - (i + 1), _, by omega, hw, i + 1, rfl, by omega, snoc_all hT hx h, rfl⟩
    have bad : ¬ (ruleMay x = true) → bln false = bln (routeMay o.parents o.hosts o.rules) := fun h => bool_no fun e => h (((routeMay_iff _ _ _).1 e).2.2.2 i x hx)
    simp only [go_sem, contS_seq, simprocAttr, rows_len, rows_get hx, h1, hw]
    repeat' (first | refine GifP.mk (fun _ => ?_) (fun _ => ?_) | refine Gif.mk (fun _ => ?_) (fun _ => ?_) | (refine (ref9_rule x (h.rus x hmem) (hr x hmem).1 (hr x hmem).2.1 (hr x hmem).2.2).callW (enters_of Tryz.func94 rfl rfl) _ rfl rfl ?_; rintro _ rfl; simp only [go_sem, contS_seq, simprocAttr, rows_len, rows_get hx, hw]) | refine And.intro ?_ ?_)
    all_goals first
      | (refine good (by assumption) _ ?_; exact Weak.less (by simp [lessL, lk]) (by simp [lessL, lk]) (by simp [lessL, lk]) rfl)
      | (simp only [retK, fullK, iterK, resD, resA, AOp.ex, St.ev, St.get, lk, oneD, D.pub, D.pubs, retL, reduceIte, Nat.reduceEqDiff, Nat.reduceAdd, Nat.reduceLeDiff, Tryz.results58]; exact ⟨_, rfl, rfl, bad (by simp_all)⟩)
  have h1 : ((i : Int) < (o.rules.length : Int)) = False := eq_false (by omega)
  have hRules : ∀ (j : Nat) (x : ARule), o.rules[j]? = some x → ruleMay x = true := fun j x hx => hT j x (by have := (List.getElem?_eq_some_iff.1 hx).1; omega) hx
  clear hT hw hi
  simp only [go_sem, contS_seq, simprocAttr, rows_len, h1]
  first | clear h1 hlt i | clear h1 hlt
  repeat' (first | refine GifP.mk (fun _ => ?_) (fun _ => ?_) | refine Gif.mk (fun _ => ?_) (fun _ => ?_))
  all_goals
    simp only [retK, fullK, iterK, resD, resA, AOp.ex, St.ev, St.get, lk, oneD, D.pub, D.pubs, retL, reduceIte, Nat.reduceEqDiff, Nat.reduceAdd, Nat.reduceLeDiff, Tryz.results58]
    first
      | exact ⟨_, rfl, rfl, bool_no fun e => by have := ((routeMay_iff _ _ _).1 e).1; omega⟩
      | exact ⟨_, rfl, rfl, bool_dec ⟨fun h => (routeMay_iff _ _ _).2 ⟨⟨by omega, by omega, by omega⟩, hPar, hHosts, hRules⟩, fun h => by have := ((routeMay_iff _ _ _).1 h).1; omega⟩⟩


theorem eqf_dec {α : Type} [DecidableEq α] {q : α → α → Bool} (h : ∀ x y, q x y = decide (x = y)) : ∀ l m : List α, eqf q l m = decide (l = m)
  | [], [] => rfl
  | [], _ :: _ => rfl
  | _ :: _, [] => rfl
  | x :: l, y :: m => by
    simp only [eqf, h, eqf_dec h l m]
    rw [Bool.eq_iff_iff]
    simp

theorem needSame_dec (a b : ANeed) : needSame a b = decide (a = b) := by
  cases a; cases b
  rw [Bool.eq_iff_iff]
  simp [needSame, and_assoc]

theorem listenerSame_dec (a b : AListener) : listenerSame a b = decide (a = b) := by
  simp only [listenerSame, eqf_dec needSame_dec]
  cases a; cases b
  rw [Bool.eq_iff_iff]
  simp [and_assoc]

theorem matchSame_dec (a b : AMatch) : matchSame a b = decide (a = b) := by
  cases a; cases b
  rw [Bool.eq_iff_iff]
  simp [matchSame, and_assoc]

theorem ruleSame_dec (a b : ARule) : ruleSame a b = decide (a = b) := by
  simp only [ruleSame, eqf_dec matchSame_dec]
  cases a; cases b
  rw [Bool.eq_iff_iff]
  simp [and_assoc]

theorem objSame_iff (a b : AObj) : objSame a b = true ↔ a = b := by
  simp only [objSame, eqf_dec listenerSame_dec, eqf_dec ruleSame_dec]
  cases a; cases b
  simp [and_assoc]
  intro _ _
  constructor
  · rintro ⟨h1, h2, h3, h4, h5, h6, h7, h8, h9⟩
    exact ⟨h2, h3, h1, h8, h5, h4, h9, h6, h7⟩
  · rintro ⟨h2, h3, h1, h8, h5, h4, h9, h6, h7⟩
    exact ⟨h1, h2, h3, h4, h5, h6, h7, h8, h9⟩

theorem sort_from {l : List Int} : ∀ {n : Nat}, sortFrom l n = true ↔ ∀ (i : Nat) (a b : Int), i < n → l[i + 1]? = some a → l[i]? = some b → b ≤ a
  | 0 => by simp [sortFrom]
  | n + 1 => by
    simp only [sortFrom, Bool.and_eq_true, sort_from]
    constructor
    · rintro ⟨h1, h2⟩ i a b hi ha hb
      rcases Nat.eq_or_lt_of_le (Nat.le_of_lt_succ hi) with e | e
      · subst e
        rw [ha, hb] at h1
        simp [intLess] at h1
        exact h1
      · exact h2 i a b e ha hb
    · intro h
      refine ⟨?_, fun i a b hi => h i a b (by omega)⟩
      cases ha : l[n + 1]? with
      | none => rfl
      | some a =>
        cases hb : l[n]? with
        | none => rfl
        | some b =>
          have := h n a b (Nat.lt_succ_self _) ha hb
          simp [intLess]
          exact this

theorem serviceMay_iff (l : List Int) : serviceMay l = true ↔ (0 < l.length ∧ l.length ≤ 8) ∧ ∀ (j : Nat) (x : Int), l[j]? = some x → oport x = true ∧ ∀ y : Int, 0 < j → l[j - 1]? = some y → y < x := by
  simp only [serviceMay, Bool.and_eq_true, decide_eq_true_eq, every_iff, sortedInts, sort_from, Bool.not_eq_true', tw_iff, intSame, decide_eq_false_iff_not]
  constructor
  · rintro ⟨⟨⟨h1, h2, h3⟩, h4⟩, h5⟩
    refine ⟨⟨h1, by omega⟩, fun j x hx => ⟨h3 j x hx, fun y h0 hy => ?_⟩⟩
    have hlt := (List.getElem?_eq_some_iff.1 hx).1
    obtain ⟨i, rfl⟩ : ∃ i, j = i + 1 := ⟨j - 1, by omega⟩
    have h6 := h4 i x y (by omega) hx hy
    have h7 := h5 (i + 1) x hx i y (Nat.lt_succ_self _) hy
    omega
  · rintro ⟨⟨h1, h2⟩, h3⟩
    have up : ∀ (j : Nat) (x : Int), l[j]? = some x → ∀ (k : Nat) (y : Int), k < j → l[k]? = some y → y < x := by
      intro j
      induction j with
      | zero => intro x _ k y hk; omega
      | succ i ih =>
        intro x hx k y hk hy
        have hlt := (List.getElem?_eq_some_iff.1 hx).1
        obtain ⟨z, hz⟩ := at_lt (show i < l.length by omega)
        have h4 := (h3 (i + 1) x hx).2 z (Nat.succ_pos _) hz
        rcases Nat.eq_or_lt_of_le (Nat.le_of_lt_succ hk) with e | e
        · subst e
          rw [hz] at hy; cases hy; exact h4
        · have := ih z hz k y e hy
          omega
    refine ⟨⟨⟨h1, by omega, fun j x hx => (h3 j x hx).1⟩, fun i a b _ ha hb => ?_⟩, fun j x hx k y hk hy e => ?_⟩
    · have := up (i + 1) a ha i b (Nat.lt_succ_self _) hb
      omega
    · have := up j x hx k y hk hy
      omega

def AObj.keep (o : AObj) : AObj :=
  if o.ref.kind = 1 ∨ o.ref.kind = 4 then { AObj.zero o.ref with good := o.good }
  else if o.ref.kind = 2 then { AObj.zero o.ref with labels := o.labels }
  else if o.ref.kind = 3 then { AObj.zero o.ref with ports := o.ports }
  else if o.ref.kind = 5 then { AObj.zero o.ref with listeners := o.listeners, cls := o.cls }
  else if o.ref.kind = 6 then { AObj.zero o.ref with parents := o.parents, hosts := o.hosts, rules := o.rules }
  else { AObj.zero o.ref with from_ := o.from_, to_ := o.to_ }

theorem keep_iff (o : AObj) : o.keep = o ↔ o.strip = AObj.zero o.ref := by
  obtain ⟨r, gd, la, po, cl, li, pa, ho, ru, fr, to⟩ := o
  unfold AObj.keep AObj.strip
  simp only [AObj.zero]
  repeat' split
  all_goals
    simp only [AObj.mk.injEq]
    constructor
    · intro h; simp_all
    · intro h; simp_all

theorem objMay_keep (o : AObj) : objMay o = (mayRef o.ref && (kindMay o && decide (o.keep = o))) := by
  rw [Bool.eq_iff_iff]
  simp only [objMay, Bool.and_eq_true, objSame_iff, decide_eq_true_eq, keep_iff, and_assoc]

theorem keep_ok {o : AObj} (h : o.ok) : o.keep.ok := by
  unfold AObj.keep
  repeat' split
  all_goals exact ⟨by first | exact h.la | simp [AObj.zero], by first | exact h.po | simp [AObj.zero], by first | exact h.li | simp [AObj.zero], by first | exact h.pa | simp [AObj.zero], by first | exact h.ho | simp [AObj.zero], by first | exact h.ru | simp [AObj.zero], by first | exact h.fr | simp [AObj.zero], by first | exact h.to | simp [AObj.zero], by first | exact h.lis | simp [AObj.zero], by first | exact h.rus | simp [AObj.zero]⟩

set_option maxHeartbeats 8000000 in
theorem ref9_May (o : AObj) (h : o.ok) (hs : o.sok) : Pure Tryz.prog 12 [o.d] (fun d => d = bln (objMay o)) := by
  refine pure_of_run follows an_zboc8 Tryz.func12 rfl ok_zboc8.1 ok_zboc8.2 (by simp [Tryz.ntmps12]) ?_
  rw [run_start]
  simp (maxSteps := 5000000) only [ac_zboc8, oo, og, tp, ci, cq, mq, lq, fi, sr, go_sem, contS_seq, simprocAttr, go_sem]
  refine (ref9_MayRef o.ref hs.rs hs.rn).callW (enters_of Tryz.func54 rfl rfl) _ rfl rfl ?_
  rintro _ rfl
  simp (maxSteps := 5000000) only [go_sem, contS_seq, simprocAttr, go_sem]
  refine Gif.mk (fun hm => ?_) (fun hm => ?_)
  rotate_left
  · simp only [retK, fullK, iterK, resD, resA, AOp.ex, St.ev, St.get, lk, oneD, D.pub, D.pubs, retL, reduceIte, Nat.reduceEqDiff, Nat.reduceAdd, Nat.reduceLeDiff, Tryz.results12]
    exact ⟨_, rfl, rfl, by rw [objMay_keep, hm, Bool.false_and]; try rfl⟩
  · rcases mayRef_kind hm with hk | hk | hk | hk | hk | hk | hk
    · obtain ⟨⟨kd, sp, nm⟩, gd, la, po, cl, li, pa, ho, ru, fr, to⟩ := o
      simp only at hk
      subst hk
      have hob : (⟨⟨1, sp, nm⟩, gd, la, po, cl, li, pa, ho, ru, fr, to⟩ : AObj).ok := h
      have hkp := keep_ok h
      have hke : (⟨⟨1, sp, nm⟩, gd, la, po, cl, li, pa, ho, ru, fr, to⟩ : AObj).keep = { AObj.zero ⟨1, sp, nm⟩ with good := gd } := by simp [AObj.keep]
      have hkm : kindMay (⟨⟨1, sp, nm⟩, gd, la, po, cl, li, pa, ho, ru, fr, to⟩ : AObj) = true := by simp [kindMay]
      rw [hke] at hkp
      have fin : ∀ b : Bool, b = true → bln (b && decide (({ AObj.zero ⟨1, sp, nm⟩ with good := gd } : AObj) = (⟨⟨1, sp, nm⟩, gd, la, po, cl, li, pa, ho, ru, fr, to⟩ : AObj))) = bln (objMay (⟨⟨1, sp, nm⟩, gd, la, po, cl, li, pa, ho, ru, fr, to⟩ : AObj)) := fun b e => by
        rw [objMay_keep, hm, Bool.true_and, hkm, hke, e]
      simp (maxSteps := 5000000) only [go_sem, contS_seq, simprocAttr, go_sem, rows_len]
      refine (ref9_Same ({ AObj.zero ⟨1, sp, nm⟩ with good := gd } : AObj) (⟨⟨1, sp, nm⟩, gd, la, po, cl, li, pa, ho, ru, fr, to⟩ : AObj) hkp).callW (enters_of Tryz.func19 rfl rfl) _ rfl rfl ?_
      rintro _ rfl
      simp (maxSteps := 5000000) only [go_sem, contS_seq, simprocAttr, go_sem]
      simp only [retK, fullK, iterK, resD, resA, AOp.ex, St.ev, St.get, lk, oneD, D.pub, D.pubs, retL, reduceIte, Nat.reduceEqDiff, Nat.reduceAdd, Nat.reduceLeDiff, Tryz.results12]
      exact ⟨_, rfl, rfl, by rw [← fin _ rfl, Bool.true_and]; try rfl⟩
    · obtain ⟨⟨kd, sp, nm⟩, gd, la, po, cl, li, pa, ho, ru, fr, to⟩ := o
      simp only at hk
      subst hk
      have hob : (⟨⟨2, sp, nm⟩, gd, la, po, cl, li, pa, ho, ru, fr, to⟩ : AObj).ok := h
      have hkp := keep_ok h
      have hke : (⟨⟨2, sp, nm⟩, gd, la, po, cl, li, pa, ho, ru, fr, to⟩ : AObj).keep = { AObj.zero ⟨2, sp, nm⟩ with labels := la } := by simp [AObj.keep]
      have hkm : kindMay (⟨⟨2, sp, nm⟩, gd, la, po, cl, li, pa, ho, ru, fr, to⟩ : AObj) = labelsMay la := by simp [kindMay]
      rw [hke] at hkp
      have fin : ∀ b : Bool, b = labelsMay la → bln (b && decide (({ AObj.zero ⟨2, sp, nm⟩ with labels := la } : AObj) = (⟨⟨2, sp, nm⟩, gd, la, po, cl, li, pa, ho, ru, fr, to⟩ : AObj))) = bln (objMay (⟨⟨2, sp, nm⟩, gd, la, po, cl, li, pa, ho, ru, fr, to⟩ : AObj)) := fun b e => by
        rw [objMay_keep, hm, Bool.true_and, hkm, hke, e]
      simp (maxSteps := 5000000) only [go_sem, contS_seq, simprocAttr, go_sem, rows_len]
      refine (ref8_May la h.la hs.lv).callW (enters_of Tryz.func55 rfl rfl) _ rfl rfl ?_
      rintro _ rfl
      simp (maxSteps := 5000000) only [go_sem, contS_seq, simprocAttr, go_sem]
      refine Gif.mk (fun hg => ?_) (fun hg => ?_)
      · refine (ref9_Same ({ AObj.zero ⟨2, sp, nm⟩ with labels := la } : AObj) (⟨⟨2, sp, nm⟩, gd, la, po, cl, li, pa, ho, ru, fr, to⟩ : AObj) hkp).callW (enters_of Tryz.func19 rfl rfl) _ rfl rfl ?_
        rintro _ rfl
        simp (maxSteps := 5000000) only [go_sem, contS_seq, simprocAttr, go_sem]
        simp only [retK, fullK, iterK, resD, resA, AOp.ex, St.ev, St.get, lk, oneD, D.pub, D.pubs, retL, reduceIte, Nat.reduceEqDiff, Nat.reduceAdd, Nat.reduceLeDiff, Tryz.results12]
        exact ⟨_, rfl, rfl, by rw [← fin _ rfl, hg, Bool.true_and]; try rfl⟩
      · simp only [retK, fullK, iterK, resD, resA, AOp.ex, St.ev, St.get, lk, oneD, D.pub, D.pubs, retL, reduceIte, Nat.reduceEqDiff, Nat.reduceAdd, Nat.reduceLeDiff, Tryz.results12]
        exact ⟨_, rfl, rfl, by rw [← fin _ rfl, hg, Bool.false_and]; try rfl⟩
    · obtain ⟨⟨kd, sp, nm⟩, gd, la, po, cl, li, pa, ho, ru, fr, to⟩ := o
      simp only at hk
      subst hk
      have hob : (⟨⟨3, sp, nm⟩, gd, la, po, cl, li, pa, ho, ru, fr, to⟩ : AObj).ok := h
      have hkp := keep_ok h
      have hke : (⟨⟨3, sp, nm⟩, gd, la, po, cl, li, pa, ho, ru, fr, to⟩ : AObj).keep = { AObj.zero ⟨3, sp, nm⟩ with ports := po } := by simp [AObj.keep]
      have hkm : kindMay (⟨⟨3, sp, nm⟩, gd, la, po, cl, li, pa, ho, ru, fr, to⟩ : AObj) = serviceMay po := by simp [kindMay]
      rw [hke] at hkp
      have fin : ∀ b : Bool, b = serviceMay po → bln (b && decide (({ AObj.zero ⟨3, sp, nm⟩ with ports := po } : AObj) = (⟨⟨3, sp, nm⟩, gd, la, po, cl, li, pa, ho, ru, fr, to⟩ : AObj))) = bln (objMay (⟨⟨3, sp, nm⟩, gd, la, po, cl, li, pa, ho, ru, fr, to⟩ : AObj)) := fun b e => by
        rw [objMay_keep, hm, Bool.true_and, hkm, hke, e]
      simp (maxSteps := 5000000) only [go_sem, contS_seq, simprocAttr, go_sem, rows_len]
      have hpl : po.length ≤ 1000000 := hob.po
      repeat' (first | refine GifP.mk (fun _ => ?_) (fun _ => ?_) | refine Gif.mk (fun _ => ?_) (fun _ => ?_))
      all_goals
        refine loopS (fun k st => ∃ (i : Nat) (g : Bool), k = po.length - i ∧ i ≤ po.length ∧ (g = true ↔ (0 < po.length ∧ po.length ≤ 8) ∧ ∀ (j : Nat) (x : Int), j < i → po[j]? = some x → (oport x = true ∧ ∀ y : Int, 0 < (j) → po[(j) - 1]? = some y → y < x)) ∧ st = ⟨[(1, .ptr 1 0), (3, .ptr 3 0), (4, bln g), (5, int i)], [(1, ((⟨⟨3, sp, nm⟩, gd, la, po, cl, li, pa, ho, ru, fr, to⟩ : AObj)).ds), (3, [int 3, str sp, str nm, bln false, .nils, .pd (.slice (ints po)), str ⟨#[]⟩, .nils, .nils, .nils, .nils, .nils, .nils])], [], .no⟩) po.length (⟨[(1, .ptr 1 0), (3, .ptr 3 0), (4, bln (decide (0 < po.length ∧ po.length ≤ 8))), (5, int (0 : Nat))], [(1, ((⟨⟨3, sp, nm⟩, gd, la, po, cl, li, pa, ho, ru, fr, to⟩ : AObj)).ds), (3, [int 3, str sp, str nm, bln false, .nils, .pd (.slice (ints po)), str ⟨#[]⟩, .nils, .nils, .nils, .nils, .nils, .nils])], [], .no⟩) ?_ ⟨0, _, rfl, Nat.zero_le _, ?_, rfl⟩ ?_
        · exact Weak.less ⟨rfl, rfl, congrArg (fun b => some (bln b)) (by first | (rw [decide_eq_decide]; omega) | (rw [eq_comm, decide_eq_false_iff_not]; omega) | (rw [eq_comm, decide_eq_true_eq]; omega)), rfl, trivial⟩ (by simp [lessL, lk]) (by simp [lessL, lk]) rfl
        · simp only [Nat.not_lt_zero, false_implies, implies_true, and_true, decide_eq_true_eq]
        rintro k st ⟨i, g, rfl, hi, hT, rfl⟩
        have hw := i64_succ (show i < 1000000000 by omega)
        by_cases hlt : i < po.length
        · obtain ⟨x, hx⟩ := at_lt hlt
          have h1 : ((i : Int) < (po.length : Int)) = True := eq_true (by omega)
          have step : ∀ (g' : Bool) (st : St), (g' = true ↔ g = true ∧ (oport x = true ∧ ∀ y : Int, 0 < i → po[i - 1]? = some y → y < x)) → Weak Tryz.prog st ⟨[(1, .ptr 1 0), (3, .ptr 3 0), (4, bln g'), (5, int (i + 1 : Nat))], [(1, ((⟨⟨3, sp, nm⟩, gd, la, po, cl, li, pa, ho, ru, fr, to⟩ : AObj)).ds), (3, [int 3, str sp, str nm, bln false, .nils, .pd (.slice (ints po)), str ⟨#[]⟩, .nils, .nils, .nils, .nils, .nils, .nils])], [], .no⟩ → Round Tryz.prog (fun k st => ∃ (i : Nat) (g : Bool), k = po.length - i ∧ i ≤ po.length ∧ (g = true ↔ (0 < po.length ∧ po.length ≤ 8) ∧ ∀ (j : Nat) (x : Int), j < i → po[j]? = some x → (oport x = true ∧ ∀ y : Int, 0 < (j) → po[(j) - 1]? = some y → y < x)) ∧ st = ⟨[(1, .ptr 1 0), (3, .ptr 3 0), (4, bln g), (5, int i)], [(1, ((⟨⟨3, sp, nm⟩, gd, la, po, cl, li, pa, ho, ru, fr, to⟩ : AObj)).ds), (3, [int 3, str sp, str nm, bln false, .nils, .pd (.slice (ints po)), str ⟨#[]⟩, .nils, .nils, .nils, .nils, .nils, .nils])], [], .no⟩) (po.length - i) st := fun g' st hg hw =>
            ⟨po.length - (i + 1), _, by omega, hw, i + 1, g', rfl, by omega, by
              rw [hg, hT]
              constructor
              · rintro ⟨⟨e1, e2⟩, e3⟩
                exact ⟨e1, snoc_all e2 hx e3⟩
              · rintro ⟨e1, e2⟩
                exact ⟨⟨e1, fun j x hj => e2 j x (by omega)⟩, e2 i x (Nat.lt_succ_self _) hx⟩, rfl⟩
          by_cases h0 : i = 0
          · subst h0
            have hw0 : IntKind.i64.wrap 1 = 1 := IntWalk.i64_in _ (by omega)
            simp (maxSteps := 5000000) only [go_sem, contS_seq, simprocAttr, go_sem, rows_len, rows_get hx, h1, hw, hw0]
            repeat' (first | refine GifP.mk (fun _ => ?_) (fun _ => ?_) | refine Gif.mk (fun _ => ?_) (fun _ => ?_) | (refine (ref9_port x).callX (enters_of Tryz.func56 rfl rfl) _ rfl rfl ?_; rintro _ rfl; simp (maxSteps := 5000000) only [go_sem, contS_seq, simprocAttr, go_sem, rows_len, rows_get hx, hw, hw0]) | refine And.intro ?_ ?_)
            all_goals first
              | (refine step true _ ?_ ?_ <;> first | exact Weak.less (by simp [lessL, lk]) (by simp [lessL, lk]) (by simp [lessL, lk]) rfl | (simp_all; done))
              | (refine step false _ ?_ ?_ <;> first | exact Weak.less (by simp [lessL, lk]) (by simp [lessL, lk]) (by simp [lessL, lk]) rfl | (simp_all; done))
              | (exfalso; omega)
              | trace_state
          · obtain ⟨y, hy⟩ := at_lt (show i - 1 < po.length by omega)
            have hw1 : IntKind.i64.wrap ((i : Int) - 1) = (i : Int) - 1 := IntWalk.i64_in _ (by omega)
            have hi1 : ((i : Int) - 1).toNat = i - 1 := by omega
            have hi2 : (0 ≤ (i : Int) - 1) = True := eq_true (by omega)
            have hi3 : ((i : Int) = 0) = False := eq_false (by omega)
            have hq : (∀ y : Int, 0 < i → po[i - 1]? = some y → y < x) ↔ y < x := ⟨fun h => h y (by omega) hy, fun h y' _ hy' => by rw [hy] at hy'; cases hy'; exact h⟩
            rw [hq] at step
            simp (maxSteps := 5000000) only [go_sem, contS_seq, simprocAttr, go_sem, rows_len, rows_get hx, rows_get hy, h1, hw, hw1, hi1, hi2, hi3]
            repeat' (first | refine GifP.mk (fun _ => ?_) (fun _ => ?_) | refine Gif.mk (fun _ => ?_) (fun _ => ?_) | (refine (ref9_port x).callX (enters_of Tryz.func56 rfl rfl) _ rfl rfl ?_; rintro _ rfl; simp (maxSteps := 5000000) only [go_sem, contS_seq, simprocAttr, go_sem, rows_len, rows_get hx, rows_get hy, hw, hw1, hi1, hi2, hi3]) | refine And.intro ?_ ?_)
            all_goals first
              | (refine step (decide (y < x)) _ ?_ ?_ <;> first | exact Weak.less (by simp [lessL, lk]) (by simp [lessL, lk]) (by simp [lessL, lk]) rfl | (simp_all; done))
              | (refine step true _ ?_ ?_ <;> first | exact Weak.less (by simp [lessL, lk]) (by simp [lessL, lk]) (by simp [lessL, lk]) rfl | (simp_all; done))
              | (refine step false _ ?_ ?_ <;> first | exact Weak.less (by simp [lessL, lk]) (by simp [lessL, lk]) (by simp [lessL, lk]) rfl | (simp_all; done))
              | trace_state
        have h1 : ((i : Int) < (po.length : Int)) = False := eq_false (by omega)
        have hgs : g = serviceMay po := by
          rw [Bool.eq_iff_iff, serviceMay_iff, hT]
          exact and_congr_right fun _ => ⟨fun h j x hx => h j x (by have := (List.getElem?_eq_some_iff.1 hx).1; omega) hx, fun h j x _ hx => h j x hx⟩
        clear hT hw hi
        simp (maxSteps := 5000000) only [go_sem, contS_seq, simprocAttr, go_sem, rows_len, h1]
        first | clear h1 hlt i | clear h1 hlt
        refine Gif.mk (fun hg => ?_) (fun hg => ?_)
        · refine (ref9_Same ({ AObj.zero ⟨3, sp, nm⟩ with ports := po } : AObj) (⟨⟨3, sp, nm⟩, gd, la, po, cl, li, pa, ho, ru, fr, to⟩ : AObj) hkp).callW (enters_of Tryz.func19 rfl rfl) _ rfl rfl ?_
          rintro _ rfl
          simp (maxSteps := 5000000) only [go_sem, contS_seq, simprocAttr, go_sem]
          simp only [retK, fullK, iterK, resD, resA, AOp.ex, St.ev, St.get, lk, oneD, D.pub, D.pubs, retL, reduceIte, Nat.reduceEqDiff, Nat.reduceAdd, Nat.reduceLeDiff, Tryz.results12]
          exact ⟨_, rfl, rfl, by rw [← fin g hgs, hg, Bool.true_and]; try rfl⟩
        · simp only [retK, fullK, iterK, resD, resA, AOp.ex, St.ev, St.get, lk, oneD, D.pub, D.pubs, retL, reduceIte, Nat.reduceEqDiff, Nat.reduceAdd, Nat.reduceLeDiff, Tryz.results12]
          exact ⟨_, rfl, rfl, by rw [← fin g hgs, hg, Bool.false_and]; try rfl⟩
    · obtain ⟨⟨kd, sp, nm⟩, gd, la, po, cl, li, pa, ho, ru, fr, to⟩ := o
      simp only at hk
      subst hk
      have hob : (⟨⟨4, sp, nm⟩, gd, la, po, cl, li, pa, ho, ru, fr, to⟩ : AObj).ok := h
      have hkp := keep_ok h
      have hke : (⟨⟨4, sp, nm⟩, gd, la, po, cl, li, pa, ho, ru, fr, to⟩ : AObj).keep = { AObj.zero ⟨4, sp, nm⟩ with good := gd } := by simp [AObj.keep]
      have hkm : kindMay (⟨⟨4, sp, nm⟩, gd, la, po, cl, li, pa, ho, ru, fr, to⟩ : AObj) = true := by simp [kindMay]
      rw [hke] at hkp
      have fin : ∀ b : Bool, b = true → bln (b && decide (({ AObj.zero ⟨4, sp, nm⟩ with good := gd } : AObj) = (⟨⟨4, sp, nm⟩, gd, la, po, cl, li, pa, ho, ru, fr, to⟩ : AObj))) = bln (objMay (⟨⟨4, sp, nm⟩, gd, la, po, cl, li, pa, ho, ru, fr, to⟩ : AObj)) := fun b e => by
        rw [objMay_keep, hm, Bool.true_and, hkm, hke, e]
      simp (maxSteps := 5000000) only [go_sem, contS_seq, simprocAttr, go_sem, rows_len]
      refine (ref9_Same ({ AObj.zero ⟨4, sp, nm⟩ with good := gd } : AObj) (⟨⟨4, sp, nm⟩, gd, la, po, cl, li, pa, ho, ru, fr, to⟩ : AObj) hkp).callW (enters_of Tryz.func19 rfl rfl) _ rfl rfl ?_
      rintro _ rfl
      simp (maxSteps := 5000000) only [go_sem, contS_seq, simprocAttr, go_sem]
      simp only [retK, fullK, iterK, resD, resA, AOp.ex, St.ev, St.get, lk, oneD, D.pub, D.pubs, retL, reduceIte, Nat.reduceEqDiff, Nat.reduceAdd, Nat.reduceLeDiff, Tryz.results12]
      exact ⟨_, rfl, rfl, by rw [← fin _ rfl, Bool.true_and]; try rfl⟩
    · obtain ⟨⟨kd, sp, nm⟩, gd, la, po, cl, li, pa, ho, ru, fr, to⟩ := o
      simp only at hk
      subst hk
      have hob : (⟨⟨5, sp, nm⟩, gd, la, po, cl, li, pa, ho, ru, fr, to⟩ : AObj).ok := h
      have hkp := keep_ok h
      have hke : (⟨⟨5, sp, nm⟩, gd, la, po, cl, li, pa, ho, ru, fr, to⟩ : AObj).keep = { AObj.zero ⟨5, sp, nm⟩ with listeners := li, cls := cl } := by simp [AObj.keep]
      have hkm : kindMay (⟨⟨5, sp, nm⟩, gd, la, po, cl, li, pa, ho, ru, fr, to⟩ : AObj) = gatewayMay cl li := by simp [kindMay]
      rw [hke] at hkp
      have fin : ∀ b : Bool, b = gatewayMay cl li → bln (b && decide (({ AObj.zero ⟨5, sp, nm⟩ with listeners := li, cls := cl } : AObj) = (⟨⟨5, sp, nm⟩, gd, la, po, cl, li, pa, ho, ru, fr, to⟩ : AObj))) = bln (objMay (⟨⟨5, sp, nm⟩, gd, la, po, cl, li, pa, ho, ru, fr, to⟩ : AObj)) := fun b e => by
        rw [objMay_keep, hm, Bool.true_and, hkm, hke, e]
      simp (maxSteps := 5000000) only [go_sem, contS_seq, simprocAttr, go_sem, rows_len]
      refine (ref9_gateway (⟨⟨5, sp, nm⟩, gd, la, po, cl, li, pa, ho, ru, fr, to⟩ : AObj) h hs.ln).callW (enters_of Tryz.func57 rfl rfl) _ rfl rfl ?_
      rintro _ rfl
      simp (maxSteps := 5000000) only [go_sem, contS_seq, simprocAttr, go_sem]
      refine Gif.mk (fun hg => ?_) (fun hg => ?_)
      · refine (ref9_Same ({ AObj.zero ⟨5, sp, nm⟩ with listeners := li, cls := cl } : AObj) (⟨⟨5, sp, nm⟩, gd, la, po, cl, li, pa, ho, ru, fr, to⟩ : AObj) hkp).callW (enters_of Tryz.func19 rfl rfl) _ rfl rfl ?_
        rintro _ rfl
        simp (maxSteps := 5000000) only [go_sem, contS_seq, simprocAttr, go_sem]
        simp only [retK, fullK, iterK, resD, resA, AOp.ex, St.ev, St.get, lk, oneD, D.pub, D.pubs, retL, reduceIte, Nat.reduceEqDiff, Nat.reduceAdd, Nat.reduceLeDiff, Tryz.results12]
        exact ⟨_, rfl, rfl, by rw [← fin _ rfl, hg, Bool.true_and]; try rfl⟩
      · simp only [retK, fullK, iterK, resD, resA, AOp.ex, St.ev, St.get, lk, oneD, D.pub, D.pubs, retL, reduceIte, Nat.reduceEqDiff, Nat.reduceAdd, Nat.reduceLeDiff, Tryz.results12]
        exact ⟨_, rfl, rfl, by rw [← fin _ rfl, hg, Bool.false_and]; try rfl⟩
    · obtain ⟨⟨kd, sp, nm⟩, gd, la, po, cl, li, pa, ho, ru, fr, to⟩ := o
      simp only at hk
      subst hk
      have hob : (⟨⟨6, sp, nm⟩, gd, la, po, cl, li, pa, ho, ru, fr, to⟩ : AObj).ok := h
      have hkp := keep_ok h
      have hke : (⟨⟨6, sp, nm⟩, gd, la, po, cl, li, pa, ho, ru, fr, to⟩ : AObj).keep = { AObj.zero ⟨6, sp, nm⟩ with parents := pa, hosts := ho, rules := ru } := by simp [AObj.keep]
      have hkm : kindMay (⟨⟨6, sp, nm⟩, gd, la, po, cl, li, pa, ho, ru, fr, to⟩ : AObj) = routeMay pa ho ru := by simp [kindMay]
      rw [hke] at hkp
      have fin : ∀ b : Bool, b = routeMay pa ho ru → bln (b && decide (({ AObj.zero ⟨6, sp, nm⟩ with parents := pa, hosts := ho, rules := ru } : AObj) = (⟨⟨6, sp, nm⟩, gd, la, po, cl, li, pa, ho, ru, fr, to⟩ : AObj))) = bln (objMay (⟨⟨6, sp, nm⟩, gd, la, po, cl, li, pa, ho, ru, fr, to⟩ : AObj)) := fun b e => by
        rw [objMay_keep, hm, Bool.true_and, hkm, hke, e]
      simp (maxSteps := 5000000) only [go_sem, contS_seq, simprocAttr, go_sem, rows_len]
      refine (ref9_route (⟨⟨6, sp, nm⟩, gd, la, po, cl, li, pa, ho, ru, fr, to⟩ : AObj) h hs.pa hs.ru).callW (enters_of Tryz.func58 rfl rfl) _ rfl rfl ?_
      rintro _ rfl
      simp (maxSteps := 5000000) only [go_sem, contS_seq, simprocAttr, go_sem]
      refine Gif.mk (fun hg => ?_) (fun hg => ?_)
      · refine (ref9_Same ({ AObj.zero ⟨6, sp, nm⟩ with parents := pa, hosts := ho, rules := ru } : AObj) (⟨⟨6, sp, nm⟩, gd, la, po, cl, li, pa, ho, ru, fr, to⟩ : AObj) hkp).callW (enters_of Tryz.func19 rfl rfl) _ rfl rfl ?_
        rintro _ rfl
        simp (maxSteps := 5000000) only [go_sem, contS_seq, simprocAttr, go_sem]
        simp only [retK, fullK, iterK, resD, resA, AOp.ex, St.ev, St.get, lk, oneD, D.pub, D.pubs, retL, reduceIte, Nat.reduceEqDiff, Nat.reduceAdd, Nat.reduceLeDiff, Tryz.results12]
        exact ⟨_, rfl, rfl, by rw [← fin _ rfl, hg, Bool.true_and]; try rfl⟩
      · simp only [retK, fullK, iterK, resD, resA, AOp.ex, St.ev, St.get, lk, oneD, D.pub, D.pubs, retL, reduceIte, Nat.reduceEqDiff, Nat.reduceAdd, Nat.reduceLeDiff, Tryz.results12]
        exact ⟨_, rfl, rfl, by rw [← fin _ rfl, hg, Bool.false_and]; try rfl⟩
    · obtain ⟨⟨kd, sp, nm⟩, gd, la, po, cl, li, pa, ho, ru, fr, to⟩ := o
      simp only at hk
      subst hk
      have hob : (⟨⟨7, sp, nm⟩, gd, la, po, cl, li, pa, ho, ru, fr, to⟩ : AObj).ok := h
      have hkp := keep_ok h
      have hke : (⟨⟨7, sp, nm⟩, gd, la, po, cl, li, pa, ho, ru, fr, to⟩ : AObj).keep = { AObj.zero ⟨7, sp, nm⟩ with from_ := fr, to_ := to } := by simp [AObj.keep]
      have hkm : kindMay (⟨⟨7, sp, nm⟩, gd, la, po, cl, li, pa, ho, ru, fr, to⟩ : AObj) = grantMay fr to := by simp [kindMay]
      rw [hke] at hkp
      have fin : ∀ b : Bool, b = grantMay fr to → bln (b && decide (({ AObj.zero ⟨7, sp, nm⟩ with from_ := fr, to_ := to } : AObj) = (⟨⟨7, sp, nm⟩, gd, la, po, cl, li, pa, ho, ru, fr, to⟩ : AObj))) = bln (objMay (⟨⟨7, sp, nm⟩, gd, la, po, cl, li, pa, ho, ru, fr, to⟩ : AObj)) := fun b e => by
        rw [objMay_keep, hm, Bool.true_and, hkm, hke, e]
      simp (maxSteps := 5000000) only [go_sem, contS_seq, simprocAttr, go_sem, rows_len]
      refine (ref9_grant (⟨⟨7, sp, nm⟩, gd, la, po, cl, li, pa, ho, ru, fr, to⟩ : AObj) h hs.si).callW (enters_of Tryz.func59 rfl rfl) _ rfl rfl ?_
      rintro _ rfl
      simp (maxSteps := 5000000) only [go_sem, contS_seq, simprocAttr, go_sem]
      refine Gif.mk (fun hg => ?_) (fun hg => ?_)
      · refine (ref9_Same ({ AObj.zero ⟨7, sp, nm⟩ with from_ := fr, to_ := to } : AObj) (⟨⟨7, sp, nm⟩, gd, la, po, cl, li, pa, ho, ru, fr, to⟩ : AObj) hkp).callW (enters_of Tryz.func19 rfl rfl) _ rfl rfl ?_
        rintro _ rfl
        simp (maxSteps := 5000000) only [go_sem, contS_seq, simprocAttr, go_sem]
        simp only [retK, fullK, iterK, resD, resA, AOp.ex, St.ev, St.get, lk, oneD, D.pub, D.pubs, retL, reduceIte, Nat.reduceEqDiff, Nat.reduceAdd, Nat.reduceLeDiff, Tryz.results12]
        exact ⟨_, rfl, rfl, by rw [← fin _ rfl, hg, Bool.true_and]; try rfl⟩
      · simp only [retK, fullK, iterK, resD, resA, AOp.ex, St.ev, St.get, lk, oneD, D.pub, D.pubs, retL, reduceIte, Nat.reduceEqDiff, Nat.reduceAdd, Nat.reduceLeDiff, Tryz.results12]
        exact ⟨_, rfl, rfl, by rw [← fin _ rfl, hg, Bool.false_and]; try rfl⟩

end Go.Proofs.YtklolokoaooppaaGreatDoor


namespace Go.Proofs.YtklolokoaooppaaGreatDoor
open Go

def ac_zuvzh : AC := (sr [oo 4 (.mv (ci 0)),oo 5 (.mv (cq false))] [0,1] (sr [mq 6 0,mq 7 1,oo 8 (.call 100 [tp 6,tp 7,.func 101]),oo 9 (.extract (tp 8) 0),oo 10 (.extract (tp 8) 1),mq 4 9,mq 5 10] [4,5] .ret))
def an_zuvzh : Ann := ann (List.range 2) ac_zuvzh
theorem ok_zuvzh : okd Tryz.prog an_zuvzh ac_zuvzh Tryz.f77 := ⟨by kernel_rfl, by kernel_rfl⟩

def ac_zhsg2 : AC := (sr [oo 5 (.box 141 (tp 2)),oo 6 (.mv (ci 0)),oo 7 (.mv (cq false))] [0,1,5] (sr [oo 15 (.mkfn 143 [tp 5]),mq 8 15] [0,1,8] (sr [oo 9 (.mv (.const (.int .u64 0)))] [0,1,8,9] (.seq (sr [mq 16 0,oo 17 (.len (tp 16) false),oo 18 (.mv (ci 0))] [0,1,8,9,16,17,18] (.block 0 (.loop (sr [oo 19 (.bin .lss (tp 18) (tp 17))] [0,1,8,9,16,17,18,19] (.seq (.cond (tp 19) .skip (.exit 0)) (.seq (.block 1 (sr [oo 20 (.idxA 1 (tp 16) (tp 18)),lq 21 20,mq 11 21] [0,1,8,9,11,16,17,18] (.region [mq 22 9,mq 23 8,mq 24 11,oo 25 (.callv (tp 23) [tp 24]),oo 26 (.bin .add (tp 22) (tp 25)),mq 9 26] (some [0,1,8,9,16,17,18])))) (.region [oo 27 (.bin .add (tp 18) (ci 1)),mq 18 27] (some [0,1,8,9,16,17,18])))))))) (.seq (sr [mq 28 9,oo 29 (.bin .eql (tp 28) (.const (.int .u64 0)))] [0,1,8,9,29] (.cond (tp 29) (sr [oo 6 (.mv (ci 0)),oo 7 (.mv (cq false))] [6,7] .ret) .skip)) (sr [mq 30 1,mq 31 9,oo 32 (.bin .rem (tp 30) (tp 31)),mq 1 32] [0,1,8] (.seq (sr [mq 33 0,oo 34 (.len (tp 33) false),oo 35 (.mv (ci 0))] [1,8,33,34,35] (.block 2 (.loop (sr [oo 36 (.bin .lss (tp 35) (tp 34))] [1,8,33,34,35,36] (.seq (.cond (tp 36) .skip (.exit 2)) (.seq (.block 3 (sr [mq 37 35,oo 38 (.idxA 1 (tp 33) (tp 35)),lq 39 38,mq 12 37,mq 13 39] [1,8,12,13,33,34,35] (sr [mq 40 8,mq 41 13,oo 42 (.callv (tp 40) [tp 41]),mq 14 42] [1,8,12,14,33,34,35] (.seq (sr [mq 43 1,mq 44 14,oo 45 (.bin .lss (tp 43) (tp 44))] [1,8,12,14,33,34,35,45] (.cond (tp 45) (sr [mq 46 12,mq 6 46,oo 7 (.mv (cq true))] [6,7] .ret) .skip)) (.region [mq 47 1,mq 48 14,oo 49 (.bin .sub (tp 47) (tp 48)),mq 1 49] (some [1,8,33,34,35])))))) (.region [oo 50 (.bin .add (tp 35) (ci 1)),mq 35 50] (some [1,8,33,34,35])))))))) (sr [oo 6 (.mv (ci 0)),oo 7 (.mv (cq false))] [6,7] .ret))))))))
def an_zhsg2 : Ann := ann (List.range 20) ac_zhsg2
theorem ok_zhsg2 : okd Tryz.prog an_zhsg2 ac_zhsg2 Tryz.f100 := ⟨by kernel_rfl, by kernel_rfl⟩

def ac_z886m : AC := (sr [oo 2 (.mv (ci 0))] [0] (sr [mq 3 0,mq 2 3] [2] .ret))
def an_z886m : Ann := ann (List.range 2) ac_z886m
theorem ok_z886m : okd Tryz.prog an_z886m ac_z886m Tryz.f101 := ⟨by kernel_rfl, by kernel_rfl⟩

def ac_z9f90 : AC := (sr [oo 3 (.mv (.const (.int .u64 0)))] [0,1] (sr [lq 4 1,mq 5 0,oo 6 (.callv (tp 4) [tp 5]),oo 7 (.minmax false (tp 6) (ci 1000)),oo 8 (.minmax true (ci 0) (tp 7)),oo 9 (.conv .u64 (tp 8)),mq 3 9] [3] .ret))
def an_z9f90 : Ann := ann (List.range 2) ac_z9f90
theorem ok_z9f90 : okd Tryz.prog an_z9f90 ac_z9f90 Tryz.f143 := ⟨by kernel_rfl, by kernel_rfl⟩

def ac_zfsgx : AC := (sr [oo 4 (.box 43 (tp 0)),oo 5 (.box 3 (tp 1)),oo 6 (.box 9 (tp 2)),oo 7 (.box 23 (tp 3)),oo 8 (.mv (.const .nilFunc))] [4,5,6,7] (sr [oo 9 (.mkfn 97 [tp 4,tp 5,tp 6,tp 7]),mq 8 9] [8] .ret))
def an_zfsgx : Ann := ann (List.range 2) ac_zfsgx
theorem ok_zfsgx : okd Tryz.prog an_zfsgx ac_zfsgx Tryz.f62 := ⟨by kernel_rfl, by kernel_rfl⟩

def ac_zvbe : AC := (sr [lq 8 1,oo 9 (.len (tp 8) false),oo 10 (.mv (ci 0))] [0,2,3,4,8,9,10] (.block 0 (.loop (sr [oo 11 (.bin .lss (tp 10) (tp 9))] [0,2,3,4,8,9,10,11] (.seq (.cond (tp 11) .skip (.exit 0)) (.seq (.block 1 (sr [oo 12 (.idxA 13 (tp 8) (tp 10)),oo 13 (.load (some 13) (tp 12)),oo 7 (.alloc 32 [.pd (.raw (.int .i64 0)),.pd (.raw (.string ⟨#[]⟩)),.pd (.raw (.string ⟨#[]⟩)),.pd (.raw (.bool false)),.nils,.nils,.pd (.raw (.string ⟨#[]⟩)),.nils,.nils,.nils,.nils,.nils,.nils]),.mk none none (.store 13 (tp 7) (tp 13))] [0,2,3,4,7,8,9,10] (sr [oo 14 (.load (some 13) (tp 7)),lq 15 2,lq 16 3,oo 17 (.load (some 3) (tp 4)),oo 18 (.call 11 [tp 14,tp 15,tp 16,tp 17]),mq 19 18,og 19 true 20 (.mv (tp 0)),og 19 true 21 (.fieldA 0 (tp 7)),og 19 true 22 (.load (some 3) (tp 21)),og 19 true 23 (.callv (tp 20) [tp 22]),og 19 true 24 (.un .not (tp 23)),oo 25 (.pick (tp 19) (tp 24) (cq false))] [0,2,3,4,8,9,10,25] (.cond (tp 25) .ret .skip)))) (.region [oo 26 (.bin .add (tp 10) (ci 1)),mq 10 26] (some [0,2,3,4,8,9,10]))))))))
def an_zvbe : Ann := ann (List.range 5) ac_zvbe
theorem ok_zvbe : okd Tryz.prog an_zvbe ac_zvbe Tryz.f97 := ⟨by kernel_rfl, by kernel_rfl⟩

def ac_zj2qb : AC := (sr [oo 7 (.box 23 (tp 3)),oo 8 (.alloc 4 [.pd (.raw (.bool false))])] [0,1,2,7,8] (.seq (sr [mq 9 0,mq 10 1,mq 11 2,oo 12 (.load (some 3) (tp 7)),oo 13 (.call 62 [tp 9,tp 10,tp 11,tp 12])] [2,7,8,13] (.block 0 (.rangeF [7,8] 14 none (tp 13) (.block 1 (sr [.mk none none (.store 1 (tp 8) (cq true))] [] .ret))))) (sr [mq 15 2,fi 16 1 7,lq 17 16,oo 18 (.bin .eql (tp 15) (tp 17)),.mk none none (.store 1 (tp 8) (tp 18))] [8] .ret)))
def an_zj2qb : Ann := ann (List.range 4) ac_zj2qb
theorem ok_zj2qb : okd Tryz.prog an_zj2qb ac_zj2qb Tryz.f16 := ⟨by kernel_rfl, by kernel_rfl⟩
theorem ret_zj2qb (st : St) : resD Tryz.prog st Tryz.f16.results.toList = resA st [.cell 8 none] := resD_of (by kernel_rfl)

end Go.Proofs.YtklolokoaooppaaGreatDoor


namespace Go.Proofs.YtklolokoaooppaaGreatDoor
open Go Go.RowKit
set_option linter.unusedSimpArgs false
set_option linter.unusedVariables false
set_option maxRecDepth 100000

def near (r : ARef) (s : ByteArray) : ARef := if r.space = ⟨#[]⟩ ∧ r.kind ≠ 1 ∧ r.kind ≠ 2 then { r with space := s } else r

set_option maxRecDepth 100000 in
theorem grant_Near (r : ARef) (s : ByteArray) : Pure Tryz.prog 20 [r.d, str s] (fun d => d = (near r s).d) := by
  refine pure_of_run follows an_zrkgf Tryz.func20 rfl ok_zrkgf.1 ok_zrkgf.2 (by simp [Tryz.ntmps20]) ?_
  rw [run_start]
  simp only [ac_zrkgf, oo, og, tp, ci, cq, mq, lq, fi, sr, go_sem, contS_seq, simprocAttr]
  simp only [retK, fullK, iterK, resD, resA, AOp.ex, St.ev, St.get, lk, oneD, D.pub, D.pubs, retL, reduceIte, Nat.reduceEqDiff, Nat.reduceAdd, Nat.reduceLeDiff, ret_zrkgf]
  refine ⟨fun h1 => ⟨fun h2 => ?_, fun h2 => ⟨fun h3 => ?_, fun h3 => ?_⟩⟩, fun h1 => ?_⟩
  · exact ⟨_, rfl, rfl, by simp [near, h1, h2, oneD, D.pub, D.pubs]⟩
  · exact ⟨_, rfl, rfl, by simp [near, h1, h3, oneD, D.pub, D.pubs]⟩
  · exact ⟨_, rfl, rfl, by simp [near, h1, h2, h3, oneD, D.pub, D.pubs]⟩
  · exact ⟨_, rfl, rfl, by simp [near, h1, oneD, D.pub, D.pubs]⟩

abbrev refVal (r : ARef) : Value := .agg #[.int .i64 r.kind, .string r.space, .string r.name]

theorem by_iter (p : AObj → Bool) (os : List AObj) (kind : Int) (space : ByteArray) (to_ : ARef) (hos : os.length ≤ 1000000)
    (hp : ∀ o ∈ os, Pure Tryz.prog 11 [o.d, int kind, str space, to_.d] (fun d => d = bln (p o))) :
    IterB Tryz.prog 97 [(500001, 0), (500002, 0), (500003, 0), (500004, 0)]
      [(500001, [.pd (.slice (rows AObj.pd os))]), (500002, [int kind]), (500003, [str space]), (500004, [int to_.kind, str to_.space, str to_.name])] ((os.filter p).map fun o => refVal o.ref) := by
  refine iter_of_run follows an_zvbe Tryz.func97 rfl ok_zvbe.1 ok_zvbe.2 (by simp [Tryz.ntmps97]) rfl ?_
  intro l
  rw [run_start]
  simp only [ac_zvbe, oo, og, tp, ci, cq, mq, lq, fi, sr, go_sem, contS_seq, simprocAttr, rows_len]
  have hb := hos
  refine loopS (fun k st => ∃ i : Nat, k = os.length - i ∧ i ≤ os.length ∧
    st = ⟨[(0, yieldD l), (2, .ptr 500002 0), (3, .ptr 500003 0), (4, .ptr 500004 0), (8, .pd (.slice (rows AObj.pd os))), (9, int os.length), (10, int i)],
      [(500001, [.pd (.slice (rows AObj.pd os))]), (500002, [int kind]), (500003, [str space]), (500004, [int to_.kind, str to_.space, str to_.name])], [], .it l (((os.filter p).map fun o => refVal o.ref).map ([·])) ((os.take i).filter p).length false⟩) os.length _
    (Weak.refl _ _) ⟨0, rfl, Nat.zero_le _, rfl⟩ ?_
  rintro k st ⟨i, rfl, hi, rfl⟩
  by_cases hlt : i < os.length
  · obtain ⟨o, ho⟩ := at_lt hlt
    have hlt' : (i : Int) < (os.length : Int) := by omega
    simp only [go_sem, contS_seq, simprocAttr, hlt', decide_true, rows_get ho]
    refine (hp o (List.mem_of_getElem? ho)).callW (enters_of Tryz.func11 rfl rfl) _ rfl rfl ?_
    rintro d rfl
    have hw : IntKind.i64.wrap ((i : Int) + 1) = ((i + 1 : Nat) : Int) := by rw [IntWalk.i64_in _ (by omega)]; omega
    cases hpo : p o with
    | true =>
      have hx : (((os.filter p).map fun o => refVal o.ref).map ([·]))[((os.take i).filter p).length]? = some [refVal o.ref] := by
        simp [List.getElem?_map, filter_at ho hpo]
      simp only [go_sem, contS_seq, simprocAttr, hx, hw]
      refine ⟨⟨_, _, ?_, ?_, i + 1, rfl, ?_, rfl⟩, ?_⟩
      · omega
      · rw [filter_yes ho hpo]; exact Weak.less (by simp [lessL, lk]) (by simp [lessL, lk]) (by simp [lessL, lk]) rfl
      · omega
      · exact ⟨[], _, _, rfl, rfl, fun h => by cases h⟩
    | false =>
      simp only [go_sem, contS_seq, simprocAttr, hw]
      refine ⟨_, _, ?_, ?_, i + 1, rfl, ?_, rfl⟩
      · omega
      · rw [filter_no ho hpo]; exact Weak.less (by simp [lessL, lk]) (by simp [lessL, lk]) (by simp [lessL, lk]) rfl
      · omega
  · have hlt' : ¬ (i : Int) < (os.length : Int) := by omega
    simp only [go_sem, contS_seq, simprocAttr, hlt', decide_false]
    exact ⟨[], _, _, rfl, rfl, fun _ => by rw [List.take_of_length_le (by omega)]; simp⟩

theorem grant_by (os : List AObj) (kind : Int) (space : ByteArray) (to_ : ARef) :
    Full Tryz.prog 62 [.pd (.slice (rows AObj.pd os)), int kind, str space, to_.d] [] true
      (fun d bs => d = .fn 97 [(4, 0), (5, 0), (6, 0), (7, 0)] ∧ bs = [(4, [.pd (.slice (rows AObj.pd os))]), (5, [int kind]), (6, [str space]), (7, [int to_.kind, str to_.space, str to_.name])]) := by
  refine full_of_run follows an_zfsgx Tryz.func62 rfl ok_zfsgx.1 ok_zfsgx.2 (by simp [Tryz.ntmps62]) (by simp [Tryz.ntmps62]) (.inl rfl) ?_
  rw [run_start]
  simp only [ac_zfsgx, oo, og, tp, ci, cq, mq, lq, fi, sr, go_sem, contS_seq, simprocAttr]
  simp only [retK, fullK, iterK, resD, resA, AOp.ex, St.ev, St.get, lk, oneD, D.pub, D.pubs, retL, reduceIte, Nat.reduceEqDiff, Nat.reduceAdd, Nat.reduceLeDiff, Tryz.results62]
  exact ⟨_, _, rfl, by simp [lessL, lk], rfl, rfl⟩

theorem grant_Permits (p : AObj → Bool) (os : List AObj) (kind : Int) (space : ByteArray) (to_ : ARef) (hos : os.length ≤ 1000000)
    (hp : ∀ o ∈ os, Pure Tryz.prog 11 [o.d, int kind, str space, to_.d] (fun d => d = bln (p o))) :
    Pure Tryz.prog 16 [.pd (.slice (rows AObj.pd os)), int kind, str space, to_.d] (fun d => d = bln (os.any p || decide (space = to_.space))) := by
  refine pure_of_run follows an_zj2qb Tryz.func16 rfl ok_zj2qb.1 ok_zj2qb.2 (by simp [Tryz.ntmps16]) ?_
  rw [run_start]
  simp only [ac_zj2qb, oo, og, tp, ci, cq, mq, lq, fi, sr, go_sem, contS_seq, simprocAttr]
  refine (grant_by os kind space to_).callW (enters_of Tryz.func62 rfl rfl) _ false [] [] [(4, 200001), (5, 200002), (6, 200003), (7, 200004)] [] rfl rfl rfl ?_
  rintro d bs ⟨rfl, rfl⟩
  simp only [go_sem, contS_seq, simprocAttr]
  refine rangeS ((os.filter p).map fun o => refVal o.ref) (fun i bs => i = 0 ∧ bs = [(7, [int to_.kind, str to_.space, str to_.name]), (8, [bln false])]) rfl rfl rfl
    ((by_iter p os kind space to_ hos hp).iterW (enters_of Tryz.func97 rfl rfl) false [(200001, 500001), (200002, 500002), (200003, 500003), (200004, 500004)] rfl rfl rfl) ⟨rfl, rfl⟩ ?_ ?_
  · rintro i v bs hv ⟨rfl, rfl⟩
    simp only [go_sem, contS_seq, simprocAttr]
    simp only [retK, fullK, iterK, resD, resA, AOp.ex, St.ev, St.get, lk, oneD, D.pub, D.pubs, retL, reduceIte, Nat.reduceEqDiff, Nat.reduceAdd, Nat.reduceLeDiff, ret_zj2qb]
    have hany : os.any p = true := by
      rw [List.getElem?_map] at hv
      obtain ⟨o, ho, _⟩ := Option.map_eq_some_iff.1 hv
      have := List.mem_filter.1 (List.mem_of_getElem? ho)
      exact List.any_eq_true.2 ⟨o, this.1, this.2⟩
    exact ⟨_, rfl, rfl, by simp [hany, oneD, D.pub]⟩
  · rintro bs ⟨hl, rfl⟩
    simp only [go_sem, contS_seq, simprocAttr]
    simp only [retK, fullK, iterK, resD, resA, AOp.ex, St.ev, St.get, lk, oneD, D.pub, D.pubs, retL, reduceIte, Nat.reduceEqDiff, Nat.reduceAdd, Nat.reduceLeDiff, ret_zj2qb]
    have hany : os.any p = false := by
      rw [List.length_map, List.length_eq_zero_iff, List.filter_eq_nil_iff] at hl
      exact List.any_eq_false.2 hl
    exact ⟨_, rfl, rfl, by simp [hany, oneD, D.pub]⟩


def sideIs (kind : Int) (space : ByteArray) (s : ASide) : Bool := decide (s.kind = kind) && decide (s.space = space)
def sideAt (t : ARef) (s : ASide) : Bool := decide (s.kind = t.kind) && (decide (s.name = ⟨#[]⟩) || decide (s.name = t.name))

theorem Lets_1 (kind : Int) (space : ByteArray) (s : ASide) : PureB Tryz.prog 50 [s.d, .ptr 1000001 0, .ptr 1000002 0] [(1000001, [int kind]), (1000002, [str space])] (fun d => d = bln (sideIs kind space s)) := by
  refine pureB_of_run follows an_z4wyn Tryz.func50 rfl ok_z4wyn.1 ok_z4wyn.2 (by simp [Tryz.ntmps50]) ?_
  rw [run_start]
  simp only [ac_z4wyn, oo, og, tp, ci, cq, mq, lq, fi, sr, go_sem, contS_seq, simprocAttr]
  (repeat' (first | (refine GifP.mk (fun _ => ?_) (fun _ => ?_)) | (refine Gif.mk (fun _ => ?_) (fun _ => ?_)))) <;> (simp only [retK, fullK, iterK, resD, resA, AOp.ex, St.ev, St.get, lk, oneD, D.pub, D.pubs, retL, reduceIte, Nat.reduceEqDiff, Nat.reduceAdd, Nat.reduceLeDiff, Tryz.results50]; exact ⟨_, rfl, rfl, congrArg bln (by first | rfl | (rw [Bool.eq_iff_iff]; simp only [sideIs]; simp; done) | (rw [Bool.eq_iff_iff]; simp only [sideIs]; simp; omega) | (rw [Bool.eq_iff_iff]; simp only [sideIs]; simp [*]; done) | (rw [Bool.eq_iff_iff]; simp only [sideIs]; simp [*]; omega) | (simp_all [sideIs]; done) | (exfalso; omega))⟩)

theorem Lets_2 (t : ARef) (s : ASide) : PureB Tryz.prog 51 [s.d, .ptr 1000001 0] [(1000001, [int t.kind, str t.space, str t.name])] (fun d => d = bln (sideAt t s)) := by
  refine pureB_of_run follows an_z3e5h Tryz.func51 rfl ok_z3e5h.1 ok_z3e5h.2 (by simp [Tryz.ntmps51]) ?_
  rw [run_start]
  simp only [ac_z3e5h, oo, og, tp, ci, cq, mq, lq, fi, sr, go_sem, contS_seq, simprocAttr]
  (repeat' (first | (refine GifP.mk (fun _ => ?_) (fun _ => ?_)) | (refine Gif.mk (fun _ => ?_) (fun _ => ?_)))) <;> (simp only [retK, fullK, iterK, resD, resA, AOp.ex, St.ev, St.get, lk, oneD, D.pub, D.pubs, retL, reduceIte, Nat.reduceEqDiff, Nat.reduceAdd, Nat.reduceLeDiff, Tryz.results51]; exact ⟨_, rfl, rfl, congrArg bln (by first | rfl | (rw [Bool.eq_iff_iff]; simp only [sideAt]; simp; done) | (rw [Bool.eq_iff_iff]; simp only [sideAt]; simp; omega) | (rw [Bool.eq_iff_iff]; simp only [sideAt]; simp [*]; done) | (rw [Bool.eq_iff_iff]; simp only [sideAt]; simp [*]; omega) | (simp_all [sideAt]; done) | (exfalso; omega))⟩)

def lets (kind : Int) (space : ByteArray) (t : ARef) (o : AObj) : Bool :=
  decide (o.ref.kind = 7) && decide (o.ref.space = t.space) && objMay o && o.from_.any (sideIs kind space) && o.to_.any (sideAt t)

theorem grant_Lets (o : AObj) (h : o.ok) (kind : Int) (space : ByteArray) (t : ARef) : Pure Tryz.prog 11 [o.d, int kind, str space, t.d] (fun d => d = bln (lets kind space t o)) := by
  refine pure_of_run follows an_zs3t2 Tryz.func11 rfl ok_zs3t2.1 ok_zs3t2.2 (by simp [Tryz.ntmps11]) ?_
  rw [run_start]
  simp only [ac_zs3t2, oo, og, tp, ci, cq, mq, lq, fi, sr, go_sem, contS_seq, simprocAttr]
  (repeat' (first | (refine GifP.mk (fun _ => ?_) (fun _ => ?_)) | (refine Gif.mk (fun _ => ?_) (fun _ => ?_)) | ((first | refine (object_May o h).callW (enters_of Tryz.func52 rfl rfl) _ rfl rfl ?_ | refine (ContainsFunc_Side (sideIs kind space) 50 (enters_of Tryz.func50 rfl rfl) [(1000001, 0), (1000002, 0)] [(1000001, [int kind]), (1000002, [str space])] (Cl.of rfl rfl rfl rfl rfl) o.from_ h.fr (fun s _ => Lets_1 kind space s)).callW (enters_of Tryz.func53 rfl rfl) _ [(5, 1000001), (6, 1000002)] rfl rfl rfl ?_ | refine (ContainsFunc_Side (sideAt t) 51 (enters_of Tryz.func51 rfl rfl) [(1000001, 0)] [(1000001, [int t.kind, str t.space, str t.name])] (Cl.of rfl rfl rfl rfl rfl) o.to_ h.to (fun s _ => Lets_2 t s)).callW (enters_of Tryz.func53 rfl rfl) _ [(7, 1000001)] rfl rfl rfl ?_); rintro _ rfl; try simp only [go_sem, contS_seq, simprocAttr]))) <;> (simp only [retK, fullK, iterK, resD, resA, AOp.ex, St.ev, St.get, lk, oneD, D.pub, D.pubs, retL, reduceIte, Nat.reduceEqDiff, Nat.reduceAdd, Nat.reduceLeDiff, Tryz.results11]; exact ⟨_, rfl, rfl, congrArg bln (by first | rfl | (rw [Bool.eq_iff_iff]; simp only [lets]; simp; done) | (rw [Bool.eq_iff_iff]; simp only [lets]; simp; omega) | (rw [Bool.eq_iff_iff]; simp only [lets]; simp [*]; done) | (rw [Bool.eq_iff_iff]; simp only [lets]; simp [*]; omega) | (simp_all [lets]; done) | (exfalso; omega))⟩)

def permits (os : List AObj) (kind : Int) (space : ByteArray) (t : ARef) : Bool := os.any (lets kind space t) || decide (space = t.space)

theorem grant_Permits' (os : List AObj) (hos : os.length ≤ 1000000) (h : ∀ o ∈ os, o.ok) (kind : Int) (space : ByteArray) (t : ARef) :
    Pure Tryz.prog 16 [.pd (.slice (rows AObj.pd os)), int kind, str space, t.d] (fun d => d = bln (permits os kind space t)) :=
  grant_Permits (lets kind space t) os kind space t hos (fun o ho => grant_Lets o (h o ho) kind space t)

def isRef (r : ARef) (o : AObj) : Bool := decide (o.ref = r)

theorem Find_1 (r : ARef) (o : AObj) : PureB Tryz.prog 64 [o.d, .ptr 1000001 0] [(1000001, [int r.kind, str r.space, str r.name])] (fun d => d = bln (isRef r o)) := by
  refine pureB_of_run follows an_zl31y Tryz.func64 rfl ok_zl31y.1 ok_zl31y.2 (by simp [Tryz.ntmps64]) ?_
  rw [run_start]
  simp only [ac_zl31y, oo, og, tp, ci, cq, mq, lq, fi, sr, go_sem, contS_seq, simprocAttr, eqVs, eqV, eq_Ref]
  simp only [retK, fullK, iterK, resD, resA, AOp.ex, St.ev, St.get, lk, oneD, D.pub, D.pubs, retL, reduceIte, Nat.reduceEqDiff, Nat.reduceAdd, Nat.reduceLeDiff, Tryz.results64]
  exact ⟨_, rfl, rfl, rfl⟩

theorem lidx_find {α : Type} (p : α → Bool) : ∀ (l : List α) (k : Nat), (l.find? p = none ∧ lidx p l k = -1) ∨ ∃ x j, l.find? p = some x ∧ lidx p l k = ((k + j : Nat) : Int) ∧ l[j]? = some x
  | [], k => .inl ⟨rfl, rfl⟩
  | x :: l, k => by
    rw [List.find?_cons, lidx]
    by_cases h : p x = true
    · rw [if_pos h, h]; exact .inr ⟨x, 0, rfl, by simp, by simp⟩
    · rw [if_neg h]
      have h' : p x = false := by simpa using h
      rw [h']
      rcases lidx_find p l (k + 1) with h1 | ⟨y, j, h1, h2, h3⟩
      · exact .inl h1
      · exact .inr ⟨y, j + 1, h1, by rw [h2]; omega, by simpa using h3⟩

def ref0 : ARef := ⟨0, ⟨#[]⟩, ⟨#[]⟩⟩

def found (os : List AObj) (r : ARef) : Option AObj := os.find? (isRef r)

def foundD : Option AObj → D
  | some o => .tup [o.d, bln true]
  | none => .tup [(AObj.zero ref0).d, bln false]

theorem grant_Find (os : List AObj) (hos : os.length ≤ 1000000) (r : ARef) : Pure Tryz.prog 17 [.pd (.slice (rows AObj.pd os)), r.d] (fun d => d = foundD (found os r)) := by
  refine pure_of_run follows an_z88d6 Tryz.func17 rfl ok_z88d6.1 ok_z88d6.2 (by simp [Tryz.ntmps17]) ?_
  rw [run_start]
  simp only [ac_z88d6, oo, og, tp, ci, cq, mq, lq, fi, sr, go_sem, contS_seq, simprocAttr]
  refine (IndexFunc_Object (isRef r) 64 (enters_of Tryz.func64 rfl rfl) [(1000001, 0)] [(1000001, [int r.kind, str r.space, str r.name])] (Cl.of rfl rfl rfl rfl rfl) os hos (fun o _ => Find_1 r o)).callW (enters_of Tryz.func63 rfl rfl) _ [(3, 1000001)] rfl rfl rfl ?_
  rintro d rfl
  rcases lidx_find (isRef r) os 0 with ⟨h1, h2⟩ | ⟨x, j, h1, h2, h3⟩
  · rw [h2]
    simp only [go_sem, contS_seq, simprocAttr]
    simp only [retK, fullK, iterK, resD, resA, AOp.ex, St.ev, St.get, lk, oneD, D.pub, D.pubs, retL, reduceIte, Nat.reduceEqDiff, Nat.reduceAdd, Nat.reduceLeDiff, ret_z88d6]
    refine ⟨_, rfl, rfl, ?_⟩
    rw [found, h1]; rfl
  · rw [h2, Nat.zero_add]
    have hn : ((j : Int) < 0) = False := eq_false (by omega)
    simp only [go_sem, contS_seq, simprocAttr, hn, rows_get h3]
    simp only [retK, fullK, iterK, resD, resA, AOp.ex, St.ev, St.get, lk, oneD, D.pub, D.pubs, retL, reduceIte, Nat.reduceEqDiff, Nat.reduceAdd, Nat.reduceLeDiff, ret_z88d6]
    refine ⟨_, rfl, rfl, ?_⟩
    rw [found, h1]; rfl


theorem slices_Index_int (l : List Int) (hl : l.length ≤ 1000000) (v : Int) : Pure Tryz.prog 99 [.pd (.slice (ints l)), int v] (fun d => d = int (lidx (fun x => decide (v = x)) l 0)) := by
  refine pure_of_run follows an_zeh38 Tryz.func99 rfl ok_zeh38.1 ok_zeh38.2 (by simp [Tryz.ntmps99]) ?_
  rw [run_start]
  simp only [ac_zeh38, oo, og, tp, ci, cq, mq, lq, fi, sr, go_sem, contS_seq, simprocAttr, rows_len]
  refine loopS (fun k st => ∃ i : Nat, k = l.length - i ∧ i ≤ l.length ∧ lidx (fun x => decide (v = x)) (l.drop i) i = lidx (fun x => decide (v = x)) l 0 ∧
    st = ⟨[(0, .pd (.slice (ints l))), (1, int v), (7, int l.length), (8, int i)], [], [], .no⟩) l.length _ (Weak.refl _ _) ⟨0, rfl, Nat.zero_le _, rfl, rfl⟩ ?_
  rintro k st ⟨i, rfl, hi, hr, rfl⟩
  by_cases hlt : i < l.length
  · obtain ⟨x, hx⟩ := at_lt hlt
    have hlt' : ((i : Int) < (l.length : Int)) = True := eq_true (by omega)
    have hw := i64_succ (show i < 1000000000 by omega)
    rw [drop_at hx, lidx] at hr
    simp only [go_sem, contS_seq, simprocAttr, hlt', rows_get hx, hw]
    refine GifP.mk (fun h => ?_) (fun h => ?_)
    · rw [if_pos (by simp [h])] at hr
      simp only [retK, fullK, iterK, resD, resA, AOp.ex, St.ev, St.get, lk, oneD, D.pub, D.pubs, retL, reduceIte, Nat.reduceEqDiff, Nat.reduceAdd, Nat.reduceLeDiff, Tryz.results99]
      exact ⟨_, rfl, rfl, congrArg int hr⟩
    · rw [if_neg (by simp [h])] at hr
      refine ⟨l.length - (i + 1), _, ?_, ?_, i + 1, rfl, ?_, hr, rfl⟩
      · omega
      · exact Weak.less (by simp [lessL, lk]) (by simp [lessL, lk]) (by simp [lessL, lk]) rfl
      · omega
  · have hlt' : ((i : Int) < (l.length : Int)) = False := eq_false (by omega)
    rw [List.drop_eq_nil_of_le (by omega), lidx] at hr
    simp only [go_sem, contS_seq, simprocAttr, rows_len, hlt']
    simp only [retK, fullK, iterK, resD, resA, AOp.ex, St.ev, St.get, lk, oneD, D.pub, D.pubs, retL, reduceIte, Nat.reduceEqDiff, Nat.reduceAdd, Nat.reduceLeDiff, Tryz.results99]
    exact ⟨_, rfl, rfl, congrArg int hr⟩

def hasInt (l : List Int) (v : Int) : Bool := l.any fun x => decide (v = x)

theorem slices_Contains_int (l : List Int) (hl : l.length ≤ 1000000) (v : Int) : Pure Tryz.prog 75 [.pd (.slice (ints l)), int v] (fun d => d = bln (hasInt l v)) := by
  refine pure_of_run follows an_zw1w5 Tryz.func75 rfl ok_zw1w5.1 ok_zw1w5.2 (by simp [Tryz.ntmps75]) ?_
  rw [run_start]
  simp only [ac_zw1w5, oo, og, tp, ci, cq, mq, lq, fi, sr, go_sem, contS_seq, simprocAttr, rows_len]
  refine (slices_Index_int l hl v).callW (enters_of Tryz.func99 rfl rfl) _ rfl rfl ?_
  rintro d rfl
  simp only [go_sem, contS_seq, simprocAttr]
  simp only [retK, fullK, iterK, resD, resA, AOp.ex, St.ev, St.get, lk, oneD, D.pub, D.pubs, retL, reduceIte, Nat.reduceEqDiff, Nat.reduceAdd, Nat.reduceLeDiff, Tryz.results75]
  exact ⟨_, rfl, rfl, congrArg bln (lidx_any _ l)⟩


theorem choose_weight (x : Int) : Pure Tryz.prog 101 [int x] (fun d => d = int x) := by
  refine pure_of_run follows an_z886m Tryz.func101 rfl ok_z886m.1 ok_z886m.2 (by simp [Tryz.ntmps101]) ?_
  rw [run_start]
  simp only [ac_z886m, oo, og, tp, ci, cq, mq, lq, fi, sr, go_sem, contS_seq, simprocAttr]
  simp only [retK, fullK, iterK, resD, resA, AOp.ex, St.ev, St.get, lk, oneD, D.pub, D.pubs, retL, reduceIte, Nat.reduceEqDiff, Nat.reduceAdd, Nat.reduceLeDiff, Tryz.results101]
  exact ⟨_, rfl, rfl, rfl⟩

def heavy (x : Int) : Int := max 0 (min x 1000)

theorem chosen_heavy (x : Int) : PureB Tryz.prog 143 [int x, .ptr 1000001 0] [(1000001, [.fn 101 []])] (fun d => d = .pd (.raw (.int .u64 (heavy x)))) := by
  refine pureB_of_run follows an_z9f90 Tryz.func143 rfl ok_z9f90.1 ok_z9f90.2 (by simp [Tryz.ntmps143]) ?_
  rw [run_start]
  simp only [ac_z9f90, oo, og, tp, ci, cq, mq, lq, fi, sr, go_sem, contS_seq, simprocAttr]
  refine (choose_weight x).callW (enters_of Tryz.func101 rfl rfl) _ rfl rfl ?_
  rintro d rfl
  simp only [go_sem, contS_seq, simprocAttr]
  simp only [retK, fullK, iterK, resD, resA, AOp.ex, St.ev, St.get, lk, oneD, D.pub, D.pubs, retL, reduceIte, Nat.reduceEqDiff, Nat.reduceAdd, Nat.reduceLeDiff, Tryz.results143]
  refine ⟨_, rfl, rfl, ?_⟩
  have e : (if (0 : Int) < if 1000 < x then 1000 else x then if 1000 < x then 1000 else x else 0) = heavy x := by
    unfold heavy
    split <;> split <;> omega
  have hr : 0 ≤ heavy x ∧ heavy x ≤ 1000 := by unfold heavy; omega
  simp only [D.pub, e, IntWalk.u64_in (heavy x) (by omega)]


def total : List Int → Int
  | [] => 0
  | w :: ws => heavy w + total ws

def pos : Nat → List Int → Int → Option Nat
  | _, [], _ => none
  | i, w :: ws, n => if n < heavy w then some i else pos (i + 1) ws (n - heavy w)

theorem heavy_bd (x : Int) : 0 ≤ heavy x ∧ heavy x ≤ 1000 := by unfold heavy; omega

theorem total_bd : ∀ ws : List Int, 0 ≤ total ws ∧ total ws ≤ 1000 * ws.length
  | [] => by simp [total]
  | w :: ws => by
    have := total_bd ws
    have := heavy_bd w
    simp only [total, List.length_cons]
    omega

theorem total_drop {ws : List Int} {i : Nat} {x : Int} (h : ws[i]? = some x) : total (ws.drop i) = heavy x + total (ws.drop (i + 1)) := by
  obtain ⟨hi, hx⟩ := List.getElem?_eq_some_iff.1 h
  rw [List.drop_eq_getElem_cons hi, hx, total]

theorem pos_drop {ws : List Int} {i : Nat} {x : Int} (h : ws[i]? = some x) (m : Int) : pos i (ws.drop i) m = if m < heavy x then some i else pos (i + 1) (ws.drop (i + 1)) (m - heavy x) := by
  obtain ⟨hi, hx⟩ := List.getElem?_eq_some_iff.1 h
  rw [List.drop_eq_getElem_cons hi, hx, pos]

set_option maxRecDepth 100000 in
theorem chosen_int (ws : List Int) (n : Nat) (hn : n < 2 ^ 64) (hl : ws.length ≤ 8) : Pure Tryz.prog 100 [.pd (.slice (ints ws)), u64 n, .fn 101 []]
    (fun d => d = if total ws = 0 then .tup [int 0, bln false] else match pos 0 ws (n % total ws) with | some i => .tup [int i, bln true] | none => .tup [int 0, bln false]) := by
  refine pure_of_run follows an_zhsg2 Tryz.func100 rfl ok_zhsg2.1 ok_zhsg2.2 (by simp [Tryz.ntmps100]) ?_
  rw [run_start]
  have hen : Enters Tryz.prog 143 := enters_of Tryz.func143 rfl rfl
  simp only [ac_zhsg2, oo, og, tp, ci, cq, mq, lq, fi, sr, go_sem, contS_seq, simprocAttr, ints_len]
  refine loopS (fun k st => ∃ (i : Nat) (s : Int), k = ws.length - i ∧ i ≤ ws.length ∧ 0 ≤ s ∧ s + total (ws.drop i) = total ws ∧
    st = ⟨[(0, .pd (.slice (ints ws))), (1, u64 n), (8, .fn 143 [(5, 0)]), (9, u64 s), (16, .pd (.slice (ints ws))), (17, int ws.length), (18, int i)], [(5, [.fn 101 []])], [], .no⟩) ws.length _
    (Weak.refl _ _) ⟨0, 0, rfl, Nat.zero_le _, by omega, by simp, rfl⟩ ?_
  rintro k st ⟨i, s, rfl, hi, hs0, hs, rfl⟩
  by_cases hlt : i < ws.length
  · obtain ⟨x, hx⟩ : ∃ x, ws[i]? = some x := ⟨_, List.getElem?_eq_getElem hlt⟩
    have hlt' : (i : Int) < (ws.length : Int) := by omega
    simp only [go_sem, contS_seq, simprocAttr, ints_len, hlt', ints_get hx]
    refine (chosen_heavy x).callW hen _ [(5, 1000001)] rfl rfl rfl ?_
    rintro d rfl
    simp only [go_sem, contS_seq, simprocAttr]
    have hi1 : IntKind.i64.wrap ((i : Int) + 1) = ((i + 1 : Nat) : Int) := by rw [IntWalk.i64_in _ (by omega)]; omega
    have hd := total_drop hx
    have hb := heavy_bd x
    have hb1 := total_bd (ws.drop (i + 1))
    have hb2 := total_bd ws
    have hsw : IntKind.u64.wrap (s + heavy x) = s + heavy x := IntWalk.u64_in _ (by omega)
    rw [hi1, hsw]
    exact ⟨ws.length - (i + 1), _, by omega, Weak.refl _ _, i + 1, _, rfl, by omega, by omega, by omega, rfl⟩
  · have hiw : i = ws.length := by omega
    have hs2 : s = total ws := by rw [← hs, hiw]; simp [total]
    subst hs2
    have hlt' : ¬ (i : Int) < (ws.length : Int) := by omega
    simp only [go_sem, contS_seq, simprocAttr, ints_len, hlt']
    refine ⟨fun h0 => ?_, fun h0 => ?_⟩
    · simp only [retK, fullK, iterK, resD, resA, AOp.ex, St.ev, St.get, lk, oneD, D.pub, D.pubs, retL, reduceIte, Nat.reduceEqDiff, Nat.reduceAdd, Nat.reduceLeDiff, Tryz.results100]
      exact ⟨_, rfl, rfl, by rw [if_pos h0]; rfl⟩
    · have hm : (n : Int).tmod (total ws) = (n : Int) % total ws := Int.tmod_eq_emod_of_nonneg (by omega)
      simp only [go_sem, contS_seq, simprocAttr, ints_len, h0, hm]
      have htb := total_bd ws
      have hn0 : 0 ≤ (n : Int) % total ws := Int.emod_nonneg _ h0
      have hnm : (n : Int) % total ws < total ws := Int.emod_lt_of_pos _ (by omega)
      refine loopS (fun k st => ∃ (j : Nat) (m : Int), k = ws.length - j ∧ j ≤ ws.length ∧ 0 ≤ m ∧ m < 100000 ∧ pos j (ws.drop j) m = pos 0 ws ((n : Int) % total ws) ∧
        st = ⟨[(1, u64 m), (8, .fn 143 [(5, 0)]), (33, .pd (.slice (ints ws))), (34, int ws.length), (35, int j)], [(5, [.fn 101 []])], [], .no⟩) ws.length _
        (Weak.refl _ _) ⟨0, _, rfl, Nat.zero_le _, hn0, by omega, by simp, rfl⟩ ?_
      rintro k st ⟨j, m, rfl, hj, hm0, hm1, hp, rfl⟩
      by_cases hjl : j < ws.length
      · obtain ⟨x, hx⟩ : ∃ x, ws[j]? = some x := ⟨_, List.getElem?_eq_getElem hjl⟩
        have hjl' : (j : Int) < (ws.length : Int) := by omega
        simp only [go_sem, contS_seq, simprocAttr, ints_len, hjl', ints_get hx]
        refine (chosen_heavy x).callW hen _ [(5, 1000001)] rfl rfl rfl ?_
        rintro d rfl
        have hj1 : IntKind.i64.wrap ((j : Int) + 1) = ((j + 1 : Nat) : Int) := by rw [IntWalk.i64_in _ (by omega)]; omega
        have hb := heavy_bd x
        have hpd := pos_drop hx m
        rw [hp] at hpd
        simp only [go_sem, contS_seq, simprocAttr]
        refine ⟨fun h1 => ?_, fun h1 => ?_⟩
        · simp only [retK, fullK, iterK, resD, resA, AOp.ex, St.ev, St.get, lk, oneD, D.pub, D.pubs, retL, reduceIte, Nat.reduceEqDiff, Nat.reduceAdd, Nat.reduceLeDiff, Tryz.results100]
          rw [if_pos h1] at hpd
          refine ⟨_, rfl, rfl, ?_⟩
          rw [hpd]
          rfl
        · rw [if_neg h1] at hpd
          have hmw : IntKind.u64.wrap (m - heavy x) = m - heavy x := IntWalk.u64_in _ (by omega)
          rw [hj1, hmw]
          exact ⟨ws.length - (j + 1), _, by omega, Weak.refl _ _, j + 1, _, rfl, by omega, by omega, by omega, hpd.symm, rfl⟩
      · have hjl' : ¬ (j : Int) < (ws.length : Int) := by omega
        simp only [go_sem, contS_seq, simprocAttr, ints_len, hjl']
        simp only [retK, fullK, iterK, resD, resA, AOp.ex, St.ev, St.get, lk, oneD, D.pub, D.pubs, retL, reduceIte, Nat.reduceEqDiff, Nat.reduceAdd, Nat.reduceLeDiff, Tryz.results100]
        refine ⟨_, rfl, rfl, ?_⟩
        have hnone : pos 0 ws ((n : Int) % total ws) = none := by rw [← hp, List.drop_eq_nil_of_le (by omega)]; rfl
        rw [hnone]
        rfl


def choose (ws : List Int) (n : Nat) : Option Nat := if total ws = 0 then none else pos 0 ws (n % total ws)

def placeD : Option Nat → D
  | some i => .tup [int i, bln true]
  | none => .tup [int 0, bln false]

theorem chosen_int' (ws : List Int) (n : Nat) (hn : n < 2 ^ 64) (hl : ws.length ≤ 8) : Pure Tryz.prog 100 [.pd (.slice (ints ws)), u64 n, .fn 101 []] (fun d => d = placeD (choose ws n)) :=
  (chosen_int ws n hn hl).mono fun d h => by
    rw [h]; unfold choose placeD
    split <;> rfl

theorem back_Choose (ws : List Int) (n : Nat) (hn : n < 2 ^ 64) (hl : ws.length ≤ 8) : Pure Tryz.prog 77 [.pd (.slice (ints ws)), u64 n] (fun d => d = placeD (choose ws n)) := by
  refine pure_of_run follows an_zuvzh Tryz.func77 rfl ok_zuvzh.1 ok_zuvzh.2 (by simp [Tryz.ntmps77]) ?_
  rw [run_start]
  simp only [ac_zuvzh, oo, og, tp, ci, cq, mq, lq, fi, sr, go_sem, contS_seq, simprocAttr]
  refine (chosen_int' ws n hn hl).callW (enters_of Tryz.func100 rfl rfl) _ rfl rfl ?_
  rintro d rfl
  cases choose ws n <;> (simp only [go_sem, contS_seq, simprocAttr, placeD]; simp only [retK, fullK, iterK, resD, resA, AOp.ex, St.ev, St.get, lk, oneD, D.pub, D.pubs, retL, reduceIte, Nat.reduceEqDiff, Nat.reduceAdd, Nat.reduceLeDiff, Tryz.results77]; exact ⟨_, rfl, rfl, rfl⟩)


def badKind : ByteArray := ⟨#[73, 110, 118, 97, 108, 105, 100, 75, 105, 110, 100]⟩
def notLet : ByteArray := ⟨#[82, 101, 102, 78, 111, 116, 80, 101, 114, 109, 105, 116, 116, 101, 100]⟩

set_option maxRecDepth 100000 in
theorem wrong_nil (r : AObj) (b : ABackend) (t : ARef) (ht : near b.ref r.ref.space = t) (h : t.kind ≠ 3 ∨ r.ref.space ≠ t.space) :
    Pure Tryz.prog 37 [.pd (.slice []), r.d, b.d] (fun d => d = str (if t.kind = 3 then notLet else badKind)) := by
  refine pure_of_run follows an_zcgje Tryz.func37 rfl ok_zcgje.1 ok_zcgje.2 (by simp [Tryz.ntmps37]) ?_
  rw [run_start]
  simp only [ac_zcgje, oo, og, tp, ci, cq, mq, lq, fi, sr, go_sem, contS_seq, simprocAttr]
  refine (grant_Near b.ref r.ref.space).callW (enters_of Tryz.func20 rfl rfl) _ rfl rfl ?_
  rintro d rfl
  rw [ht]
  simp only [go_sem, contS_seq, simprocAttr]
  refine ⟨fun h3 => ?_, fun h3 => ?_⟩
  · have hs : r.ref.space ≠ t.space := by
      rcases h with h | h
      · exact absurd h3 h
      · exact h
    refine (grant_Permits (fun _ => false) [] 6 r.ref.space t (by simp) (by simp)).callW (enters_of Tryz.func16 rfl rfl) _ rfl rfl ?_
    rintro d rfl
    simp only [go_sem, contS_seq, simprocAttr, hs]
    simp only [retK, fullK, iterK, resD, resA, AOp.ex, St.ev, St.get, lk, oneD, D.pub, D.pubs, retL, reduceIte, Nat.reduceEqDiff, Nat.reduceAdd, Nat.reduceLeDiff, Tryz.results37, h3]
    exact ⟨_, rfl, rfl, rfl⟩
  · simp only [retK, fullK, iterK, resD, resA, AOp.ex, St.ev, St.get, lk, oneD, D.pub, D.pubs, retL, reduceIte, Nat.reduceEqDiff, Nat.reduceAdd, Nat.reduceLeDiff, Tryz.results37, h3]
    exact ⟨_, rfl, rfl, rfl⟩


def noBackend : ByteArray := ⟨#[66, 97, 99, 107, 101, 110, 100, 78, 111, 116, 70, 111, 117, 110, 100]⟩

def thereIs (os : List AObj) (t : ARef) (port : Int) : Bool := match found os t with
  | some s => objMay s && hasInt s.ports port
  | none => false

def wrongAt (os : List AObj) (space : ByteArray) (t : ARef) (port : Int) : ByteArray :=
  if t.kind ≠ 3 then badKind else if permits os 6 space t = false then notLet else if thereIs os t port = false then noBackend else ⟨#[]⟩

def wrong (os : List AObj) (r : AObj) (b : ABackend) : ByteArray := wrongAt os r.ref.space (near b.ref r.ref.space) b.port

theorem found_mem {os : List AObj} {t : ARef} {s : AObj} (h : found os t = some s) : s ∈ os := List.mem_of_find?_eq_some h

theorem back_Wrong (os : List AObj) (hos : os.length ≤ 1000000) (h : ∀ o ∈ os, o.ok) (r : AObj) (b : ABackend) : Pure Tryz.prog 37 [.pd (.slice (rows AObj.pd os)), r.d, b.d] (fun d => d = str (wrong os r b)) := by
  refine pure_of_run follows an_zcgje Tryz.func37 rfl ok_zcgje.1 ok_zcgje.2 (by simp [Tryz.ntmps37]) ?_
  rw [run_start]
  simp only [ac_zcgje, oo, og, tp, ci, cq, mq, lq, fi, sr, go_sem, contS_seq, simprocAttr]
  refine (grant_Near b.ref r.ref.space).callW (enters_of Tryz.func20 rfl rfl) _ rfl rfl ?_
  rintro d rfl
  obtain ⟨t, ht⟩ : ∃ t, near b.ref r.ref.space = t := ⟨_, rfl⟩
  have hwr : wrong os r b = wrongAt os r.ref.space t b.port := by rw [wrong, ht]
  rw [ht]
  simp only [go_sem, contS_seq, simprocAttr]
  refine GifP.mk (fun h3 => ?_) (fun h3 => ?_)
  · refine (grant_Permits' os hos h 6 r.ref.space t).callW (enters_of Tryz.func16 rfl rfl) _ rfl rfl ?_
    rintro d rfl
    simp only [go_sem, contS_seq, simprocAttr]
    refine Gif.mk (fun hp => ?_) (fun hp => ?_)
    · refine (grant_Find os hos t).callW (enters_of Tryz.func17 rfl rfl) _ rfl rfl ?_
      rintro d rfl
      cases hf : found os t with
      | none =>
        simp only [foundD, go_sem, contS_seq, simprocAttr]
        simp only [retK, fullK, iterK, resD, resA, AOp.ex, St.ev, St.get, lk, oneD, D.pub, D.pubs, retL, reduceIte, Nat.reduceEqDiff, Nat.reduceAdd, Nat.reduceLeDiff, Tryz.results37]
        exact ⟨_, rfl, rfl, by rw [hwr]; simp [wrongAt, h3, hp, thereIs, hf, D.pub, noBackend]⟩
      | some s =>
        simp only [foundD, go_sem, contS_seq, simprocAttr]
        refine (object_May s (h s (found_mem hf))).callW (enters_of Tryz.func52 rfl rfl) _ rfl rfl ?_
        rintro d rfl
        simp only [go_sem, contS_seq, simprocAttr]
        refine Gif.mk (fun hm => ?_) (fun hm => ?_)
        · refine (slices_Contains_int s.ports (h s (found_mem hf)).po b.port).callW (enters_of Tryz.func75 rfl rfl) _ rfl rfl ?_
          rintro d rfl
          simp only [go_sem, contS_seq, simprocAttr]
          refine Gif.mk (fun hc => ?_) (fun hc => ?_)
          all_goals
            simp only [retK, fullK, iterK, resD, resA, AOp.ex, St.ev, St.get, lk, oneD, D.pub, D.pubs, retL, reduceIte, Nat.reduceEqDiff, Nat.reduceAdd, Nat.reduceLeDiff, Tryz.results37]
            exact ⟨_, rfl, rfl, by rw [hwr]; simp [wrongAt, h3, hp, thereIs, hf, hm, hc, D.pub, noBackend]⟩
        · simp only [retK, fullK, iterK, resD, resA, AOp.ex, St.ev, St.get, lk, oneD, D.pub, D.pubs, retL, reduceIte, Nat.reduceEqDiff, Nat.reduceAdd, Nat.reduceLeDiff, Tryz.results37]
          exact ⟨_, rfl, rfl, by rw [hwr]; simp [wrongAt, h3, hp, thereIs, hf, hm, D.pub, noBackend]⟩
    · simp only [retK, fullK, iterK, resD, resA, AOp.ex, St.ev, St.get, lk, oneD, D.pub, D.pubs, retL, reduceIte, Nat.reduceEqDiff, Nat.reduceAdd, Nat.reduceLeDiff, Tryz.results37]
      exact ⟨_, rfl, rfl, by rw [hwr]; simp [wrongAt, h3, hp, D.pub, notLet]⟩
  · simp only [retK, fullK, iterK, resD, resA, AOp.ex, St.ev, St.get, lk, oneD, D.pub, D.pubs, retL, reduceIte, Nat.reduceEqDiff, Nat.reduceAdd, Nat.reduceLeDiff, Tryz.results37]
    exact ⟨_, rfl, rfl, by rw [hwr]; simp [wrongAt, h3, D.pub, badKind]⟩

def isRoute (r : AObj) : Bool := decide (r.ref.kind = 6) && objMay r

theorem back_route (r : AObj) (h : r.ok) : Pure Tryz.prog 76 [r.d] (fun d => d = bln (isRoute r)) := by
  refine pure_of_run follows an_zjzrx Tryz.func76 rfl ok_zjzrx.1 ok_zjzrx.2 (by simp [Tryz.ntmps76]) ?_
  rw [run_start]
  simp only [ac_zjzrx, oo, og, tp, ci, cq, mq, lq, fi, sr, go_sem, contS_seq, simprocAttr]
  (repeat' (first | (refine GifP.mk (fun _ => ?_) (fun _ => ?_)) | (refine Gif.mk (fun _ => ?_) (fun _ => ?_)) | (refine (object_May r h).callW (enters_of Tryz.func52 rfl rfl) _ rfl rfl ?_; rintro _ rfl; try simp only [go_sem, contS_seq, simprocAttr]))) <;> (simp only [retK, fullK, iterK, resD, resA, AOp.ex, St.ev, St.get, lk, oneD, D.pub, D.pubs, retL, reduceIte, Nat.reduceEqDiff, Nat.reduceAdd, Nat.reduceLeDiff, Tryz.results76]; exact ⟨_, rfl, rfl, congrArg bln (by first | rfl | (rw [Bool.eq_iff_iff]; simp only [isRoute]; simp; done) | (rw [Bool.eq_iff_iff]; simp only [isRoute]; simp; omega) | (rw [Bool.eq_iff_iff]; simp only [isRoute]; simp [*]; done) | (rw [Bool.eq_iff_iff]; simp only [isRoute]; simp [*]; omega) | (simp_all [isRoute]; done) | (exfalso; omega))⟩)

def firstWrong (os : List AObj) (r : AObj) : List ABackend → Option ByteArray
  | [] => none
  | b :: l => if wrong os r b = ⟨#[]⟩ then firstWrong os r l else some (wrong os r b)

def firstRule (os : List AObj) (r : AObj) : List ARule → ByteArray
  | [] => ⟨#[]⟩
  | x :: l => match firstWrong os r x.backends with
    | some w => w
    | none => firstRule os r l

def routeWhy (os : List AObj) (r : AObj) : ByteArray := if isRoute r = true then firstRule os r r.rules else ⟨#[]⟩

set_option maxHeartbeats 1000000 in
theorem back_Route (os : List AObj) (hos : os.length ≤ 1000000) (h : ∀ o ∈ os, o.ok) (r : AObj) (hr : r.ok) : Pure Tryz.prog 39 [.pd (.slice (rows AObj.pd os)), r.d] (fun d => d = str (routeWhy os r)) := by
  refine pure_of_run follows an_zqnyx Tryz.func39 rfl ok_zqnyx.1 ok_zqnyx.2 (by simp [Tryz.ntmps39]) ?_
  rw [run_start]
  simp only [ac_zqnyx, oo, og, tp, ci, cq, mq, lq, fi, sr, go_sem, contS_seq, simprocAttr]
  refine (back_route r hr).callW (enters_of Tryz.func76 rfl rfl) _ rfl rfl ?_
  rintro d rfl
  simp only [go_sem, contS_seq, simprocAttr]
  refine Gif.mk (fun h1 => ?_) (fun h1 => ?_)
  rotate_left
  · simp only [retK, fullK, iterK, resD, resA, AOp.ex, St.ev, St.get, lk, oneD, D.pub, D.pubs, retL, reduceIte, Nat.reduceEqDiff, Nat.reduceAdd, Nat.reduceLeDiff, Tryz.results39]
    exact ⟨_, rfl, rfl, by simp [routeWhy, h1, D.pub]⟩
  simp only [rows_len]
  refine loopS (fun k st => ∃ i : Nat, k = r.rules.length - i ∧ i ≤ r.rules.length ∧ firstRule os r (r.rules.drop i) = firstRule os r r.rules ∧
    st = ⟨[(0, .pd (.slice (rows AObj.pd os))), (3, .ptr 3 0), (14, .pd (.slice (rows ARule.pd r.rules))), (15, int r.rules.length), (16, int i)], [(3, r.ds)], [], .no⟩) r.rules.length _ ?_ ⟨0, rfl, Nat.zero_le _, rfl, rfl⟩ ?_
  · exact Weak.less (by simp [lessL, lk]) (by simp [lessL, lk]) (by simp [lessL, lk]) rfl
  rintro k st ⟨i, rfl, hi, hrr, rfl⟩
  by_cases hlt : i < r.rules.length
  · obtain ⟨x, hx⟩ := at_lt hlt
    have hlt' : ((i : Int) < (r.rules.length : Int)) = True := eq_true (by omega)
    have hw := i64_succ (show i < 1000000000 by have := hr.ru; omega)
    have hxb := (hr.rus x (List.mem_of_getElem? hx)).bl
    rw [drop_at hx, firstRule] at hrr
    simp only [go_sem, contS_seq, simprocAttr, hlt', rows_get hx, rows_len]
    refine loopS (fun k st => ∃ j : Nat, k = x.backends.length - j ∧ j ≤ x.backends.length ∧ firstWrong os r (x.backends.drop j) = firstWrong os r x.backends ∧
      st = ⟨[(0, .pd (.slice (rows AObj.pd os))), (3, .ptr 3 0), (14, .pd (.slice (rows ARule.pd r.rules))), (15, int r.rules.length), (16, int i), (21, .pd (.slice (rows ABackend.pd x.backends))), (22, int x.backends.length), (23, int j)], [(3, r.ds)], [], .no⟩) x.backends.length _ ?_ ⟨0, rfl, Nat.zero_le _, rfl, rfl⟩ ?_
    · exact Weak.less (by simp [lessL, lk]) (by simp [lessL, lk]) (by simp [lessL, lk]) rfl
    rintro k st ⟨j, rfl, hj, hfw, rfl⟩
    by_cases hjl : j < x.backends.length
    · obtain ⟨b, hb⟩ := at_lt hjl
      have hjl' : ((j : Int) < (x.backends.length : Int)) = True := eq_true (by omega)
      have hwj := i64_succ (show j < 1000000000 by omega)
      rw [drop_at hb, firstWrong] at hfw
      simp only [go_sem, contS_seq, simprocAttr, hjl', rows_get hb]
      refine (back_Wrong os hos h r b).callW (enters_of Tryz.func37 rfl rfl) _ rfl rfl ?_
      rintro d rfl
      simp only [go_sem, contS_seq, simprocAttr, hwj]
      refine GifP.mk (fun hwr => ?_) (fun hwr => ?_)
      · rw [if_pos hwr] at hfw
        refine ⟨x.backends.length - (j + 1), _, ?_, ?_, j + 1, rfl, ?_, hfw, rfl⟩
        · omega
        · exact Weak.less (by simp [lessL, lk]) (by simp [lessL, lk]) (by simp [lessL, lk]) rfl
        · omega
      · rw [if_neg hwr] at hfw
        rw [← hfw] at hrr
        simp only [retK, fullK, iterK, resD, resA, AOp.ex, St.ev, St.get, lk, oneD, D.pub, D.pubs, retL, reduceIte, Nat.reduceEqDiff, Nat.reduceAdd, Nat.reduceLeDiff, Tryz.results39]
        refine ⟨_, rfl, rfl, ?_⟩
        rw [routeWhy, if_pos h1, ← hrr]; rfl
    · have hjl' : ((j : Int) < (x.backends.length : Int)) = False := eq_false (by omega)
      rw [List.drop_eq_nil_of_le (by omega), firstWrong] at hfw
      rw [← hfw] at hrr
      simp only [go_sem, contS_seq, simprocAttr, hjl', hw]
      refine ⟨r.rules.length - (i + 1), _, ?_, ?_, i + 1, rfl, ?_, hrr, rfl⟩
      · omega
      · exact Weak.less (by simp [lessL, lk]) (by simp [lessL, lk]) (by simp [lessL, lk]) rfl
      · omega
  · have hlt' : ((i : Int) < (r.rules.length : Int)) = False := eq_false (by omega)
    rw [List.drop_eq_nil_of_le (by omega), firstRule] at hrr
    simp only [go_sem, contS_seq, simprocAttr, hlt']
    simp only [retK, fullK, iterK, resD, resA, AOp.ex, St.ev, St.get, lk, oneD, D.pub, D.pubs, retL, reduceIte, Nat.reduceEqDiff, Nat.reduceAdd, Nat.reduceLeDiff, Tryz.results39]
    refine ⟨_, rfl, rfl, ?_⟩
    rw [routeWhy, if_pos h1, ← hrr]; rfl


def goalOf (os : List AObj) (r : AObj) (b : ABackend) : AGoal := ⟨near b.ref r.ref.space, b.port, b.weight, !decide (wrong os r b = ⟨#[]⟩)⟩

def goals (os : List AObj) (r : AObj) (i : Int) : List AGoal := if isRoute r = true ∧ 0 ≤ i ∧ i < r.rules.length then match r.rules[i.toNat]? with
    | some x => x.backends.map (goalOf os r)
    | none => []
  else []

set_option maxHeartbeats 1000000 in
theorem back_Goals (os : List AObj) (hos : os.length ≤ 1000000) (h : ∀ o ∈ os, o.ok) (r : AObj) (hr : r.ok) (i : Int) : Pure Tryz.prog 42 [.pd (.slice (rows AObj.pd os)), r.d, int i] (fun d => d = .pd (.slice (rows AGoal.pd (goals os r i)))) := by
  refine pure_of_run follows an_z7x5b Tryz.func42 rfl ok_z7x5b.1 ok_z7x5b.2 (by simp [Tryz.ntmps42]) ?_
  rw [run_start]
  simp only [ac_z7x5b, oo, og, tp, ci, cq, mq, lq, fi, sr, go_sem, contS_seq, simprocAttr, rows_len]
  refine (back_route r hr).callW (enters_of Tryz.func76 rfl rfl) _ rfl rfl ?_
  rintro d rfl
  simp only [go_sem, contS_seq, simprocAttr, rows_len]
  by_cases hg : isRoute r = true ∧ 0 ≤ i ∧ i < r.rules.length
  · have h1 : isRoute r = true := hg.1
    have h2 : (i < 0) = False := eq_false (by omega)
    have h3 : ((r.rules.length : Int) ≤ i) = False := eq_false (by omega)
    obtain ⟨n, rfl⟩ := Int.eq_ofNat_of_zero_le hg.2.1
    obtain ⟨x, hx⟩ := at_lt (show n < r.rules.length by omega)
    have hgo : goals os r n = x.backends.map (goalOf os r) := by simp only [goals, if_pos hg, Int.toNat_natCast, hx]
    have hxb := (hr.rus x (List.mem_of_getElem? hx)).bl
    simp only [go_sem, contS_seq, simprocAttr, rows_len, h1, h2, h3, rows_get hx]
    refine loopS (fun k st => ∃ j : Nat, k = x.backends.length - j ∧ j ≤ x.backends.length ∧
      st = ⟨[(0, .pd (.slice (rows AObj.pd os))), (4, .ptr 4 0), (7, .own 117 6 (rows AGoal.pd ((x.backends.take j).map (goalOf os r))) 53), (29, .pd (.slice (rows ABackend.pd x.backends))), (30, int x.backends.length), (31, int j)], [(4, r.ds)], [], .no⟩) x.backends.length _
      ?_ ⟨0, rfl, by omega, rfl⟩ ?_
    · exact Weak.own1 7 53 117 6 (by kernel_rfl) (by decide) rfl (by simp [lessL, lk, St.purge, St.put, D.purge, rows]) (by simp [lessL, lk, St.purge, D.purges, D.purge]) (by simp [lessL]) rfl
    rintro k st ⟨j, rfl, hj, rfl⟩
    by_cases hlt : j < x.backends.length
    · obtain ⟨b, hb⟩ := at_lt hlt
      have h1' : ((j : Int) < (x.backends.length : Int)) = True := eq_true (by omega)
      have hw := i64_succ (show j < 1000000000 by omega)
      simp only [go_sem, contS_seq, simprocAttr, rows_len, rows_get hb, h1']
      refine (grant_Near b.ref r.ref.space).callX (enters_of Tryz.func20 rfl rfl) _ rfl rfl ?_
      rintro _ rfl
      simp only [go_sem, contS_seq, simprocAttr]
      refine (back_Wrong os hos h r b).callX (enters_of Tryz.func37 rfl rfl) _ rfl rfl ?_
      rintro _ rfl
      have hl' : ((x.backends.take j).map (goalOf os r)).length ≤ j := by simp; omega
      have e1 : rows AGoal.pd ((x.backends.take j).map (goalOf os r)) ++ [[PD.raw (Value.int IntKind.i64 (near b.ref r.ref.space).kind), PD.raw (Value.string (near b.ref r.ref.space).space), PD.raw (Value.string (near b.ref r.ref.space).name), PD.raw (Value.int IntKind.i64 b.port), PD.raw (Value.int IntKind.i64 b.weight), PD.raw (Value.bool !decide (wrong os r b = ⟨#[]⟩))]] = rows AGoal.pd ((x.backends.take (j + 1)).map (goalOf os r)) := few_step (f := AGoal.pd) (g := goalOf os r) hb
      simp only [go_sem, contS_seq, simprocAttr, rows_len, hw]
      rw [e1]
      refine ⟨by simp, by unfold maxLen; omega, by omega, x.backends.length - (j + 1), _, by omega, ?_, j + 1, rfl, by omega, rfl⟩
      exact Weak.less (by simp [lessL, lk]) (by simp [lessL, lk]) (by simp [lessL, lk]) rfl
    · have h1' : ((j : Int) < (x.backends.length : Int)) = False := eq_false (by omega)
      simp only [go_sem, contS_seq, simprocAttr, rows_len, h1']
      simp only [retK, fullK, iterK, resD, resA, AOp.ex, St.ev, St.get, lk, oneD, D.pub, D.pubs, retL, reduceIte, Nat.reduceEqDiff, Nat.reduceAdd, Nat.reduceLeDiff, Tryz.results42]
      exact ⟨_, rfl, rfl, by rw [hgo, List.take_of_length_le (by omega)]; rfl⟩
  · have hgo : goals os r i = [] := by simp only [goals, if_neg hg]
    refine Gif.mk (fun h1 => ?_) (fun h1 => ?_)
    · refine GifP.mk (fun h2 => ?_) (fun h2 => ?_)
      · simp only [retK, fullK, iterK, resD, resA, AOp.ex, St.ev, St.get, lk, oneD, D.pub, D.pubs, retL, reduceIte, Nat.reduceEqDiff, Nat.reduceAdd, Nat.reduceLeDiff, Tryz.results42]
        exact ⟨_, rfl, rfl, by rw [hgo]; rfl⟩
      refine GifP.mk (fun h3 => ?_) (fun h3 => ?_)
      · simp only [retK, fullK, iterK, resD, resA, AOp.ex, St.ev, St.get, lk, oneD, D.pub, D.pubs, retL, reduceIte, Nat.reduceEqDiff, Nat.reduceAdd, Nat.reduceLeDiff, Tryz.results42]
        exact ⟨_, rfl, rfl, by rw [hgo]; rfl⟩
      · exact absurd ⟨h1, by omega, by omega⟩ hg
    · simp only [retK, fullK, iterK, resD, resA, AOp.ex, St.ev, St.get, lk, oneD, D.pub, D.pubs, retL, reduceIte, Nat.reduceEqDiff, Nat.reduceAdd, Nat.reduceLeDiff, Tryz.results42]
      exact ⟨_, rfl, rfl, by rw [hgo]; rfl⟩

end Go.Proofs.YtklolokoaooppaaGreatDoor


namespace Go.Proofs.YtklolokoaooppaaGreatDoor
open Go

def ac_z712c : AC := (sr [oo 3 (.box 23 (tp 1)),oo 4 (.alloc 32 [.pd (.raw (.int .i64 0)),.pd (.raw (.string ⟨#[]⟩)),.pd (.raw (.string ⟨#[]⟩)),.pd (.raw (.bool false)),.nils,.nils,.pd (.raw (.string ⟨#[]⟩)),.nils,.nils,.nils,.nils,.nils,.nils]),oo 5 (.mv (cq false))] [0,3,4] (.seq (sr [oo 6 (.mv (ci 0))] [0,3,4,6] (.block 0 (.loop (.seq (sr [mq 7 6,mq 8 0,oo 9 (.len (tp 8) false),oo 10 (.bin .lss (tp 7) (tp 9))] [0,3,4,6,10] (.cond (tp 10) .skip (.exit 0))) (.seq (.block 1 (.seq (.draw [mq 13 0,mq 14 6,oo 15 (.idxA 13 (tp 13) (tp 14)),fi 16 0 15,oo 17 (.load (some 3) (tp 16)),oo 18 (.load (some 3) (tp 3)),oo 19 (.eqs false [.int,.str,.str] (tp 17) (tp 18))] [0,0,3,7,15,0,63] (.take 0 (.take 1 (.take 2 (.take 3 (.take 4 (.take 5 (.take 6 .done))))))) (some [0,3,4,6,19])) (.cond (tp 19) (sr [mq 20 0,mq 21 6,oo 22 (.idxA 13 (tp 20) (tp 21)),oo 23 (.load (some 13) (tp 22)),.mk none none (.store 13 (tp 4) (tp 23)),oo 5 (.mv (cq true))] [4,5] .ret) .skip))) (.region [mq 11 6,oo 12 (.bin .add (tp 11) (ci 1)),mq 6 12] (some [0,3,4,6]))))))) (sr [oo 24 (.build [.pd (.raw (.int .i64 0)),.pd (.raw (.string ⟨#[]⟩)),.pd (.raw (.string ⟨#[]⟩)),.pd (.raw (.bool false)),.nils,.nils,.pd (.raw (.string ⟨#[]⟩)),.nils,.nils,.nils,.nils,.nils,.nils] []),.mk none none (.store 13 (tp 4) (tp 24)),oo 5 (.mv (cq false))] [4,5] .ret)))
def an_z712c : Ann := ann [0,1,2,4,5,3,6] ac_z712c
theorem ok_z712c : okd Tryz.prog an_z712c ac_z712c Tryz.f18 := ⟨by kernel_rfl, by kernel_rfl⟩
theorem ret_z712c (st : St) : resD Tryz.prog st Tryz.f18.results.toList = resA st [.cell 4 (some 13), .tmp 5] := resD_of (by kernel_rfl)

end Go.Proofs.YtklolokoaooppaaGreatDoor


namespace Go.Proofs.YtklolokoaooppaaGreatDoor
open Go Go.RowKit
set_option linter.unusedSimpArgs false
set_option linter.unusedVariables false
set_option maxRecDepth 100000

theorem ref11_Find (os : List AObj) (hos : os.length ≤ 1000000) (r : ARef) : Pure Tryz.prog 18 [.pd (.slice (rows AObj.pd os)), r.d] (fun d => d = foundD (found os r)) := by
  refine pure_of_run follows an_z712c Tryz.func18 rfl ok_z712c.1 ok_z712c.2 (by simp [Tryz.ntmps18]) ?_
  rw [run_start]
  simp only [ac_z712c, oo, og, tp, ci, cq, mq, lq, fi, sr, go_sem, contS_seq, simprocAttr]
  refine loopS (fun k st => ∃ i : Nat, k = os.length - i ∧ i ≤ os.length ∧ (os.drop i).find? (isRef r) = found os r ∧
    st = ⟨[(0, .pd (.slice (rows AObj.pd os))), (3, .ptr 3 0), (4, .ptr 4 0), (6, int i)], [(3, [int r.kind, str r.space, str r.name]), (4, [int 0, str ⟨#[]⟩, str ⟨#[]⟩, bln false, .nils, .nils, str ⟨#[]⟩, .nils, .nils, .nils, .nils, .nils, .nils])], [], .no⟩) os.length _ ?_ ⟨0, rfl, by omega, rfl, rfl⟩ ?_
  · exact Weak.less (by simp [lessL, lk]) (by simp [lessL, lk]) (by simp [lessL, lk]) rfl
  rintro k st ⟨i, rfl, hi, hf, rfl⟩
  by_cases hlt : i < os.length
  · obtain ⟨x, hx⟩ := at_lt hlt
    have h1 : ((i : Int) < (os.length : Int)) = True := eq_true (by omega)
    have hw := i64_succ (show i < 1000000000 by omega)
    rw [drop_at hx, List.find?_cons] at hf
    simp only [go_sem, contS_seq, simprocAttr, rows_len, rows_get hx, h1, hw, eqVs, eqV, eq_Ref]
    refine GifP.mk (fun h => ?_) (fun h => ?_)
    · rw [show isRef r x = true by simp [isRef, h]] at hf
      simp only [retK, fullK, iterK, resD, resA, AOp.ex, St.ev, St.get, lk, oneD, D.pub, D.pubs, retL, reduceIte, Nat.reduceEqDiff, Nat.reduceAdd, Nat.reduceLeDiff, ret_z712c]
      refine ⟨_, rfl, rfl, ?_⟩
      rw [← hf]; rfl
    · rw [show isRef r x = false by simp [isRef, h]] at hf
      refine ⟨os.length - (i + 1), _, by omega, ?_, i + 1, rfl, by omega, hf, rfl⟩
      exact Weak.less (by simp [lessL, lk]) (by simp [lessL, lk]) (by simp [lessL, lk]) rfl
  · have h1 : ((i : Int) < (os.length : Int)) = False := eq_false (by omega)
    rw [List.drop_eq_nil_of_le (by omega), List.find?_nil] at hf
    simp only [go_sem, contS_seq, simprocAttr, rows_len, h1]
    simp only [retK, fullK, iterK, resD, resA, AOp.ex, St.ev, St.get, lk, oneD, D.pub, D.pubs, retL, reduceIte, Nat.reduceEqDiff, Nat.reduceAdd, Nat.reduceLeDiff, ret_z712c]
    refine ⟨_, rfl, rfl, ?_⟩
    rw [← hf]; rfl

abbrev AGoal.ds (g : AGoal) : List D := [int g.ref.kind, str g.ref.space, str g.ref.name, int g.port, int g.weight, bln g.bad]


theorem fewObj_sok (o : AObj) : (fewObj o).sok where
  rs := Nat.le_trans (few_size _) (by decide)
  rn := Nat.le_trans (few_size _) (by decide)
  lv := fun p hp => by
    obtain ⟨x, _, rfl⟩ := List.mem_map.1 hp
    exact Nat.le_trans (few_size _) (by decide)
  ln := fun l hl => by
    obtain ⟨x, _, rfl⟩ := List.mem_map.1 hl
    refine ⟨Nat.le_trans (few_size _) (by decide), Nat.le_trans (few_size _) (by decide), fun n hn s hs => ?_⟩
    obtain ⟨y, _, rfl⟩ := List.mem_map.1 hn
    obtain ⟨z, _, rfl⟩ := List.mem_map.1 hs
    exact Nat.le_trans (few_size _) (by decide)
  pa := fun p hp => by
    obtain ⟨x, _, rfl⟩ := List.mem_map.1 hp
    exact ⟨Nat.le_trans (few_size _) (by decide), Nat.le_trans (few_size _) (by decide)⟩
  ru := fun r hr => by
    obtain ⟨x, _, rfl⟩ := List.mem_map.1 hr
    refine ⟨fun m hm => ?_, fun f hf => ?_, fun b hb => ?_⟩
    · obtain ⟨y, _, rfl⟩ := List.mem_map.1 hm
      exact Nat.le_trans (few_size _) (by decide)
    · obtain ⟨y, _, rfl⟩ := List.mem_map.1 hf
      exact ⟨Nat.le_trans (few_size _) (by decide), Nat.le_trans (few_size _) (by decide)⟩
    · obtain ⟨y, _, rfl⟩ := List.mem_map.1 hb
      exact Nat.le_trans (few_size _) (by decide)
  si := fun s hs => by
    obtain ⟨y, _, rfl⟩ := List.mem_map.1 hs
    exact Nat.le_trans (few_size _) (by decide)

theorem fewObjs_sok {l : List AObj} : ∀ o ∈ fewObjs l, o.sok := fun o ho => by
  obtain ⟨x, _, rfl⟩ := List.mem_map.1 ho
  exact fewObj_sok x

theorem ref11_Near (r : ARef) (s : ByteArray) : Pure Tryz.prog 21 [r.d, str s] (fun d => d = (near r s).d) := by
  refine pure_of_run follows an_z40mp Tryz.func21 rfl ok_z40mp.1 ok_z40mp.2 (by simp [Tryz.ntmps21]) ?_
  rw [run_start]
  simp only [ac_z40mp, oo, og, tp, ci, cq, mq, lq, fi, sr, go_sem, contS_seq, simprocAttr]
  repeat' (first | refine GifP.mk (fun _ => ?_) (fun _ => ?_) | refine Gif.mk (fun _ => ?_) (fun _ => ?_))
  all_goals
    simp only [retK, fullK, iterK, resD, resA, AOp.ex, St.ev, St.get, lk, oneD, D.pub, D.pubs, retL, reduceIte, Nat.reduceEqDiff, Nat.reduceAdd, Nat.reduceLeDiff, ret_z40mp]
    exact ⟨_, rfl, rfl, by simp_all [near, oneD, D.pub, D.pubs]⟩

theorem lets_iff (kind : Int) (space : ByteArray) (t : ARef) (o : AObj) : lets kind space t o = true ↔ (o.ref.kind = 7 ∧ o.ref.space = t.space ∧ objMay o = true) ∧ ∃ (i : Nat) (x : ASide) (k : Nat) (y : ASide), o.from_[i]? = some x ∧ o.to_[k]? = some y ∧ (x.kind = kind ∧ x.space = space) ∧ y.kind = t.kind ∧ (y.name = ⟨#[]⟩ ∨ y.name = t.name) := by
  simp only [lets, Bool.and_eq_true, decide_eq_true_eq, List.any_eq_true, sideIs, sideAt, Bool.or_eq_true, and_assoc]
  constructor
  · rintro ⟨h1, h2, h3, ⟨x, hx, h4, h5⟩, y, hy, h6, h7⟩
    obtain ⟨i, hi⟩ := List.getElem?_of_mem hx
    obtain ⟨k, hk⟩ := List.getElem?_of_mem hy
    exact ⟨h1, h2, h3, i, x, k, y, hi, hk, h4, h5, h6, h7⟩
  · rintro ⟨h1, h2, h3, i, x, k, y, hi, hk, h4, h5, h6, h7⟩
    exact ⟨h1, h2, h3, ⟨x, List.mem_of_getElem? hi, h4, h5⟩, y, List.mem_of_getElem? hk, h6, h7⟩

set_option maxHeartbeats 8000000 in
theorem ref11_Lets (o : AObj) (h : o.ok) (hs : o.sok) (kind : Int) (space : ByteArray) (t : ARef) : Pure Tryz.prog 22 [o.d, int kind, str space, t.d] (fun d => d = bln (lets kind space t o)) := by
  have hfr := h.fr
  have hto := h.to
  refine pure_of_run follows an_zjm7s Tryz.func22 rfl ok_zjm7s.1 ok_zjm7s.2 (by simp [Tryz.ntmps22]) ?_
  rw [run_start]
  simp only [ac_zjm7s, oo, og, tp, ci, cq, mq, lq, fi, sr, go_sem, contS_seq, simprocAttr, rows_len]
  repeat' (first | refine GifP.mk (fun _ => ?_) (fun _ => ?_) | refine Gif.mk (fun _ => ?_) (fun _ => ?_) | (refine (ref9_May o h hs).callW (enters_of Tryz.func12 rfl rfl) _ rfl rfl ?_; rintro _ rfl; simp only [go_sem, contS_seq, simprocAttr, rows_len]))
  all_goals first
    | (simp only [retK, fullK, iterK, resD, resA, AOp.ex, St.ev, St.get, lk, oneD, D.pub, D.pubs, retL, reduceIte, Nat.reduceEqDiff, Nat.reduceAdd, Nat.reduceLeDiff, Tryz.results22]; exact ⟨_, rfl, rfl, bool_no fun e => by have := ((lets_iff kind space t o).1 e).1; simp_all⟩)
    | skip
  have hA : o.ref.kind = 7 ∧ o.ref.space = t.space ∧ objMay o = true := by simp_all
  refine loopS (fun k st => ∃ i : Nat, k = o.from_.length - i ∧ i ≤ o.from_.length ∧ (∀ (j : Nat) (x : ASide), j < i → o.from_[j]? = some x → ∀ (k : Nat) (y : ASide), o.to_[k]? = some y → ¬ ((x.kind = kind ∧ x.space = space) ∧ y.kind = t.kind ∧ (y.name = ⟨#[]⟩ ∨ y.name = t.name))) ∧ st = ⟨[(1, int kind), (2, str space), (4, .ptr 4 0), (7, .ptr 7 0), (9, int i)], [(4, o.ds), (7, [int t.kind, str t.space, str t.name])], [], .no⟩) o.from_.length _ ?_ ⟨0, rfl, by omega, fun _ _ h => absurd h (Nat.not_lt_zero _), rfl⟩ ?_
  · exact Weak.less (by simp [lessL, lk]) (by simp [lessL, lk]) (by simp [lessL, lk]) rfl
  rintro k st ⟨i, rfl, hi, hT, rfl⟩
  have hw := i64_succ (show i < 1000000000 by omega)
  by_cases hlt : i < o.from_.length
  · obtain ⟨x, hx⟩ := at_lt hlt
    have hmem := List.mem_of_getElem? hx
    have h1 : ((i : Int) < (o.from_.length : Int)) = True := eq_true (by omega)
    have good : (∀ (k : Nat) (y : ASide), o.to_[k]? = some y → ¬ ((x.kind = kind ∧ x.space = space) ∧ y.kind = t.kind ∧ (y.name = ⟨#[]⟩ ∨ y.name = t.name))) → ∀ st, Weak Tryz.prog st ⟨[(1, int kind), (2, str space), (4, .ptr 4 0), (7, .ptr 7 0), (9, int (i + 1 : Nat))], [(4, o.ds), (7, [int t.kind, str t.space, str t.name])], [], .no⟩ → Round Tryz.prog (fun k st => ∃ i : Nat, k = o.from_.length - i ∧ i ≤ o.from_.length ∧ (∀ (j : Nat) (x : ASide), j < i → o.from_[j]? = some x → ∀ (k : Nat) (y : ASide), o.to_[k]? = some y → ¬ ((x.kind = kind ∧ x.space = space) ∧ y.kind = t.kind ∧ (y.name = ⟨#[]⟩ ∨ y.name = t.name))) ∧ st = ⟨[(1, int kind), (2, str space), (4, .ptr 4 0), (7, .ptr 7 0), (9, int i)], [(4, o.ds), (7, [int t.kind, str t.space, str t.name])], [], .no⟩) (o.from_.length - i) st := fun h st hw => ⟨o.from_.length - (i + 1), _, by omega, hw, i + 1, rfl, by omega, snoc_all hT hx h, rfl⟩
    simp only [go_sem, contS_seq, simprocAttr, rows_len, rows_get hx, h1, hw]
    refine loopS (fun n st => ∃ k : Nat, n = o.to_.length - k ∧ k ≤ o.to_.length ∧ (∀ (k' : Nat) (y : ASide), k' < k → o.to_[k']? = some y → ¬ ((x.kind = kind ∧ x.space = space) ∧ y.kind = t.kind ∧ (y.name = ⟨#[]⟩ ∨ y.name = t.name))) ∧ st = ⟨[(1, int kind), (2, str space), (4, .ptr 4 0), (7, .ptr 7 0), (9, int i), (10, int k)], [(4, o.ds), (7, [int t.kind, str t.space, str t.name])], [], .no⟩) o.to_.length _ ?_ ⟨0, rfl, by omega, fun _ _ h => absurd h (Nat.not_lt_zero _), rfl⟩ ?_
    · exact Weak.less (by simp [lessL, lk]) (by simp [lessL, lk]) (by simp [lessL, lk]) rfl
    rintro n st ⟨k, rfl, hk, hS, rfl⟩
    have hwk := i64_succ (show k < 1000000000 by omega)
    by_cases hki : k < o.to_.length
    · obtain ⟨y, hy⟩ := at_lt hki
      have h2 : ((k : Int) < (o.to_.length : Int)) = True := eq_true (by omega)
      have goodk : (¬ ((x.kind = kind ∧ x.space = space) ∧ y.kind = t.kind ∧ (y.name = ⟨#[]⟩ ∨ y.name = t.name))) → ∀ st, Weak Tryz.prog st ⟨[(1, int kind), (2, str space), (4, .ptr 4 0), (7, .ptr 7 0), (9, int i), (10, int (k + 1 : Nat))], [(4, o.ds), (7, [int t.kind, str t.space, str t.name])], [], .no⟩ → Round Tryz.prog (fun n st => ∃ k : Nat, n = o.to_.length - k ∧ k ≤ o.to_.length ∧ (∀ (k' : Nat) (y : ASide), k' < k → o.to_[k']? = some y → ¬ ((x.kind = kind ∧ x.space = space) ∧ y.kind = t.kind ∧ (y.name = ⟨#[]⟩ ∨ y.name = t.name))) ∧ st = ⟨[(1, int kind), (2, str space), (4, .ptr 4 0), (7, .ptr 7 0), (9, int i), (10, int k)], [(4, o.ds), (7, [int t.kind, str t.space, str t.name])], [], .no⟩) (o.to_.length - k) st := fun h st hw => ⟨o.to_.length - (k + 1), _, by omega, hw, k + 1, rfl, by omega, snoc_all hS hy h, rfl⟩
      have win : ((x.kind = kind ∧ x.space = space) ∧ y.kind = t.kind ∧ (y.name = ⟨#[]⟩ ∨ y.name = t.name)) → bln true = bln (lets kind space t o) := fun h => bool_yes ((lets_iff kind space t o).2 ⟨hA, i, x, k, y, hx, hy, h⟩)
      simp only [go_sem, contS_seq, simprocAttr, rows_len, rows_get hx, rows_get hy, h2, hwk]
      repeat' (first | refine GifP.mk (fun _ => ?_) (fun _ => ?_) | refine Gif.mk (fun _ => ?_) (fun _ => ?_) | refine And.intro ?_ ?_)
      all_goals first
        | (simp only [retK, fullK, iterK, resD, resA, AOp.ex, St.ev, St.get, lk, oneD, D.pub, D.pubs, retL, reduceIte, Nat.reduceEqDiff, Nat.reduceAdd, Nat.reduceLeDiff, Tryz.results22]; exact ⟨_, rfl, rfl, win (by simp_all)⟩)
        | (refine goodk (by simp_all) _ ?_; exact Weak.less (by simp [lessL, lk]) (by simp [lessL, lk]) (by simp [lessL, lk]) rfl)
    have h2 : ((k : Int) < (o.to_.length : Int)) = False := eq_false (by omega)
    have hIn : ∀ (k : Nat) (y : ASide), o.to_[k]? = some y → ¬ ((x.kind = kind ∧ x.space = space) ∧ y.kind = t.kind ∧ (y.name = ⟨#[]⟩ ∨ y.name = t.name)) := fun k' y hy => hS k' y (by have := (List.getElem?_eq_some_iff.1 hy).1; omega) hy
    clear hS hwk hk
    simp only [go_sem, contS_seq, simprocAttr, rows_len, rows_get hx, h2, hw]
    clear h2 hki k
    refine good hIn _ ?_
    exact Weak.less (by simp [lessL, lk]) (by simp [lessL, lk]) (by simp [lessL, lk]) rfl
  have h1 : ((i : Int) < (o.from_.length : Int)) = False := eq_false (by omega)
  have hall : ∀ (j : Nat) (x : ASide), o.from_[j]? = some x → ∀ (k : Nat) (y : ASide), o.to_[k]? = some y → ¬ ((x.kind = kind ∧ x.space = space) ∧ y.kind = t.kind ∧ (y.name = ⟨#[]⟩ ∨ y.name = t.name)) := fun j x hx => hT j x (by have := (List.getElem?_eq_some_iff.1 hx).1; omega) hx
  clear hT hw hi
  simp only [go_sem, contS_seq, simprocAttr, rows_len, h1]
  first | clear h1 hlt i | clear h1 hlt
  simp only [retK, fullK, iterK, resD, resA, AOp.ex, St.ev, St.get, lk, oneD, D.pub, D.pubs, retL, reduceIte, Nat.reduceEqDiff, Nat.reduceAdd, Nat.reduceLeDiff, Tryz.results22]
  exact ⟨_, rfl, rfl, bool_no fun e => by
    obtain ⟨i, x, k, y, hi, hk, h5⟩ := ((lets_iff kind space t o).1 e).2
    exact hall i x hi k y hk h5⟩

def byRefs (kind : Int) (space : ByteArray) (t : ARef) (os : List AObj) : List ARef := (os.filter (lets kind space t)).map (·.ref)

set_option maxHeartbeats 4000000 in
theorem ref11_By (os : List AObj) (hos : os.length ≤ 1000000) (h : ∀ o ∈ os, o.ok) (hs : ∀ o ∈ os, o.sok) (kind : Int) (space : ByteArray) (t : ARef) :
    Pure Tryz.prog 25 [.pd (.slice (rows AObj.pd os)), int kind, str space, t.d] (fun d => d = .pd (.slice (rows ARef.pd (byRefs kind space t os)))) := by
  refine pure_of_run follows an_zan0 Tryz.func25 rfl ok_zan0.1 ok_zan0.2 (by simp [Tryz.ntmps25]) ?_
  rw [run_start]
  simp only [ac_zan0, oo, og, tp, ci, cq, mq, lq, fi, sr, go_sem, contS_seq, simprocAttr, rows_len]
  refine loopS (fun k st => ∃ i : Nat, k = os.length - i ∧ i ≤ os.length ∧ st = ⟨[(0, .pd (.slice (rows AObj.pd os))), (1, int kind), (2, str space), (7, .ptr 7 0), (9, .own 23 3 (rows ARef.pd (byRefs kind space t (os.take i))) 32), (10, int i)], [(7, [int t.kind, str t.space, str t.name])], [], .no⟩) os.length _ ?_ ⟨0, rfl, by omega, rfl⟩ ?_
  · exact Weak.own1 9 32 23 3 (by kernel_rfl) (by decide) rfl (by simp [lessL, lk, St.purge, St.put, D.purge, rows, byRefs]) (by simp [lessL, lk, St.purge, D.purges, D.purge]) (by simp [lessL]) rfl
  rintro k st ⟨i, rfl, hi, rfl⟩
  have hw := i64_succ (show i < 1000000000 by omega)
  obtain ⟨out, hout⟩ : ∃ out, byRefs kind space t (os.take i) = out := ⟨_, rfl⟩
  have hlen : out.length ≤ i := by
    rw [← hout, byRefs, List.length_map]
    have := List.length_filter_le (lets kind space t) (os.take i)
    rw [List.length_take] at this
    omega
  by_cases hlt : i < os.length
  · obtain ⟨x, hx⟩ := at_lt hlt
    have hmem := List.mem_of_getElem? hx
    have h1 : ((i : Int) < (os.length : Int)) = True := eq_true (by omega)
    have hst : byRefs kind space t (os.take (i + 1)) = if lets kind space t x = true then out ++ [x.ref] else out := by
      rw [take_at hx, byRefs, List.filter_append, List.map_append]
      rw [byRefs] at hout
      rw [hout]
      split
      · rename_i hl; simp [hl]
      · rename_i hl; simp [hl]
    rw [hout]
    simp only [go_sem, contS_seq, simprocAttr, rows_len, rows_get hx, h1, hw]
    refine (ref11_Lets x (h x hmem) (hs x hmem) kind space t).callX (enters_of Tryz.func22 rfl rfl) _ rfl rfl ?_
    rintro _ rfl
    simp only [go_sem, contS_seq, simprocAttr, rows_len, rows_get hx, hw]
    refine Gif.mk (fun hl => ?_) (fun hl => ?_)
    · rw [if_pos hl] at hst
      have e1 : rows ARef.pd out ++ [ARef.pd x.ref] = rows ARef.pd (byRefs kind space t (os.take (i + 1))) := by rw [hst]; simp [rows]
      refine ⟨by simp, by simp only [maxLen]; omega, by omega, os.length - (i + 1), _, by omega, ?_, i + 1, rfl, by omega, rfl⟩
      rw [← e1]
      exact Weak.less (by simp [lessL, lk]) (by simp [lessL, lk]) (by simp [lessL, lk]) rfl
    · rw [if_neg (by rw [hl]; decide)] at hst
      refine ⟨os.length - (i + 1), _, by omega, ?_, i + 1, rfl, by omega, rfl⟩
      rw [hst]
      exact Weak.less (by simp [lessL, lk]) (by simp [lessL, lk]) (by simp [lessL, lk]) rfl
  have h1 : ((i : Int) < (os.length : Int)) = False := eq_false (by omega)
  rw [List.take_of_length_le (by omega)] at hout
  rw [List.take_of_length_le (by omega), hout]
  simp only [go_sem, contS_seq, simprocAttr, rows_len, h1]
  simp only [retK, fullK, iterK, resD, resA, AOp.ex, St.ev, St.get, lk, oneD, D.pub, D.pubs, retL, reduceIte, Nat.reduceEqDiff, Nat.reduceAdd, Nat.reduceLeDiff, Tryz.results25]
  exact ⟨_, rfl, rfl, rfl⟩

theorem byRefs_pos (kind : Int) (space : ByteArray) (t : ARef) (os : List AObj) : 0 < (byRefs kind space t os).length ↔ os.any (lets kind space t) = true := by
  rw [byRefs, List.length_map, List.length_pos_iff_exists_mem, List.any_eq_true]
  simp [List.mem_filter]

set_option maxHeartbeats 2000000 in
theorem ref11_Permits (os : List AObj) (hos : os.length ≤ 1000000) (h : ∀ o ∈ os, o.ok) (hs : ∀ o ∈ os, o.sok) (kind : Int) (space : ByteArray) (t : ARef) :
    Pure Tryz.prog 23 [.pd (.slice (rows AObj.pd os)), int kind, str space, t.d] (fun d => d = bln (permits os kind space t)) := by
  have hp := byRefs_pos kind space t os
  have hpe : permits os kind space t = (os.any (lets kind space t) || decide (space = t.space)) := rfl
  refine pure_of_run follows an_zm32y Tryz.func23 rfl ok_zm32y.1 ok_zm32y.2 (by simp [Tryz.ntmps23]) ?_
  rw [run_start]
  simp only [ac_zm32y, oo, og, tp, ci, cq, mq, lq, fi, sr, go_sem, contS_seq, simprocAttr, rows_len]
  (repeat' (first | (refine GifP.mk (fun _ => ?_) (fun _ => ?_)) | (refine Gif.mk (fun _ => ?_) (fun _ => ?_)) | (refine (ref11_By os hos h hs kind space t).callW (enters_of Tryz.func25 rfl rfl) _ rfl rfl ?_; rintro _ rfl; try simp only [go_sem, contS_seq, simprocAttr, rows_len]))) <;> (simp only [retK, fullK, iterK, resD, resA, AOp.ex, St.ev, St.get, lk, oneD, D.pub, D.pubs, retL, reduceIte, Nat.reduceEqDiff, Nat.reduceAdd, Nat.reduceLeDiff, Tryz.results23]; refine ⟨_, rfl, rfl, ?_⟩; exact congrArg bln (by rw [Bool.eq_iff_iff, hpe]; simp only [Bool.or_eq_true, decide_eq_true_eq, ← hp]; first | (simp_all; done) | (simp_all; omega)))

end Go.Proofs.YtklolokoaooppaaGreatDoor


namespace Go.Proofs.YtklolokoaooppaaGreatDoor
open Go

def ac_z53e8 : AC := (sr [oo 4 (.box 32 (tp 1)),oo 5 (.box 68 (tp 2)),oo 6 (.mv (.const (.string ⟨#[]⟩)))] [0,4,5] (sr [fi 11 0 5,oo 12 (.load (some 3) (tp 11)),fi 13 0 4,fi 14 1 13,lq 15 14,oo 16 (.call 21 [tp 12,tp 15]),oo 7 (.alloc 23 [.pd (.raw (.int .i64 0)),.pd (.raw (.string ⟨#[]⟩)),.pd (.raw (.string ⟨#[]⟩))]),.mk none none (.store 3 (tp 7) (tp 16))] [0,4,5,7] (.seq (sr [fi 17 0 7,lq 18 17,oo 19 (.bin .neq (tp 18) (ci 3))] [0,4,5,7,19] (.cond (tp 19) (sr [oo 6 (.mv (.const (.string ⟨#[73,110,118,97,108,105,100,75,105,110,100]⟩)))] [6] .ret) .skip)) (.seq (sr [mq 20 0,fi 21 0 4,fi 22 1 21,lq 23 22,oo 24 (.load (some 3) (tp 7)),oo 25 (.call 23 [tp 20,ci 6,tp 23,tp 24]),oo 26 (.un .not (tp 25))] [0,5,7,26] (.cond (tp 26) (sr [oo 6 (.mv (.const (.string ⟨#[82,101,102,78,111,116,80,101,114,109,105,116,116,101,100]⟩)))] [6] .ret) .skip)) (sr [mq 28 0,oo 29 (.load (some 3) (tp 7)),oo 30 (.call 18 [tp 28,tp 29]),mq 27 30,oo 31 (.extract (tp 27) 0),oo 32 (.extract (tp 27) 1),oo 8 (.alloc 32 [.pd (.raw (.int .i64 0)),.pd (.raw (.string ⟨#[]⟩)),.pd (.raw (.string ⟨#[]⟩)),.pd (.raw (.bool false)),.nils,.nils,.pd (.raw (.string ⟨#[]⟩)),.nils,.nils,.nils,.nils,.nils,.nils]),.mk none none (.store 13 (tp 8) (tp 31)),mq 9 32] [5,8,9] (.seq (sr [mq 33 9,mq 34 33,og 34 true 35 (.load (some 13) (tp 8)),og 34 true 36 (.call 12 [tp 35]),oo 37 (.pick (tp 34) (tp 36) (cq false))] [5,8,37] (.cond (tp 37) (sr [oo 10 (.mv (ci 0))] [5,8,10] (.block 0 (.loop (.seq (sr [mq 38 10,fi 39 5 8,lq 40 39,oo 41 (.len (tp 40) false),oo 42 (.bin .lss (tp 38) (tp 41))] [5,8,10,42] (.cond (tp 42) .skip (.exit 0))) (.seq (.block 1 (.seq (.draw [fi 45 5 8,lq 46 45,mq 47 10,oo 48 (.idxA 1 (tp 46) (tp 47)),lq 49 48,fi 50 3 5,lq 51 50,oo 52 (.bin .eql (tp 49) (tp 51))] [0,1,0,7,15,0,32,127] (.take 0 (.take 1 (.take 2 (.take 3 (.take 4 (.take 5 (.take 6 (.take 7 .done)))))))) (some [5,8,10,52])) (.cond (tp 52) (sr [oo 6 (.mv (.const (.string ⟨#[]⟩)))] [6] .ret) .skip))) (.region [mq 43 10,oo 44 (.bin .add (tp 43) (ci 1)),mq 10 44] (some [5,8,10]))))))) .skip)) (sr [oo 6 (.mv (.const (.string ⟨#[66,97,99,107,101,110,100,78,111,116,70,111,117,110,100]⟩)))] [6] .ret)))))))
def an_z53e8 : Ann := ann [0,1,2,3,4,5,6,7,8,9,11,12,10,13] ac_z53e8
theorem ok_z53e8 : okd Tryz.prog an_z53e8 ac_z53e8 Tryz.f38 := ⟨by kernel_rfl, by kernel_rfl⟩

def ac_zsdn7 : AC := (sr [oo 3 (.box 32 (tp 1)),oo 4 (.mv (.const (.string ⟨#[]⟩)))] [0,3] (.seq (sr [oo 5 (.mv (ci 0))] [0,3,5] (.block 0 (.loop (.seq (sr [mq 8 5,fi 9 10 3,lq 10 9,oo 11 (.len (tp 10) false),oo 12 (.bin .lss (tp 8) (tp 11)),mq 13 12,og 13 true 14 (.fieldA 0 (tp 3)),og 13 true 15 (.fieldA 0 (tp 14)),og 13 true 16 (.load none (tp 15)),og 13 true 17 (.bin .eql (tp 16) (ci 6)),oo 18 (.pick (tp 13) (tp 17) (cq false)),mq 19 18,og 19 true 20 (.load (some 13) (tp 3)),og 19 true 21 (.call 12 [tp 20]),oo 22 (.pick (tp 19) (tp 21) (cq false))] [0,3,5,22] (.cond (tp 22) .skip (.exit 0))) (.seq (.block 1 (sr [oo 6 (.mv (ci 0))] [0,3,5,6] (.block 2 (.loop (.seq (sr [mq 25 6,fi 26 10 3,lq 27 26,mq 28 5,oo 29 (.idxA 3 (tp 27) (tp 28)),fi 30 2 29,lq 31 30,oo 32 (.len (tp 31) false),oo 33 (.bin .lss (tp 25) (tp 32))] [0,3,5,6,33] (.cond (tp 33) .skip (.exit 2))) (.seq (.block 3 (.seq (.draw [mq 36 0,oo 37 (.load (some 13) (tp 3)),fi 38 10 3,lq 39 38,mq 40 5,oo 41 (.idxA 3 (tp 39) (tp 40)),fi 42 2 41,lq 43 42,mq 44 6,oo 45 (.idxA 5 (tp 43) (tp 44)),oo 46 (.load (some 5) (tp 45)),oo 47 (.call 38 [tp 36,tp 37,tp 46]),mq 7 47] [0,0,0,4,0,28,60,124,0,508,1020,2047,4095] (.take 0 (.take 1 (.take 2 (.take 3 (.take 4 (.take 5 (.take 6 (.take 7 (.take 8 (.take 9 (.take 10 (.alts (.cons 11 true (.take 12 .done) .nil))))))))))))) (some [0,3,5,6,7])) (sr [mq 48 7,oo 49 (.bin .neq (tp 48) (.const (.string ⟨#[]⟩)))] [0,3,5,6,7,49] (.cond (tp 49) (sr [mq 50 7,mq 4 50] [4] .ret) .skip)))) (.region [mq 34 6,oo 35 (.bin .add (tp 34) (ci 1)),mq 6 35] (some [0,3,5,6])))))))) (.region [mq 23 5,oo 24 (.bin .add (tp 23) (ci 1)),mq 5 24] (some [0,3,5]))))))) (sr [oo 4 (.mv (.const (.string ⟨#[]⟩)))] [4] .ret)))
def an_zsdn7 : Ann := ann [0,1,2,4,5,7,8,9,6,3,10] ac_zsdn7
theorem ok_zsdn7 : okd Tryz.prog an_zsdn7 ac_zsdn7 Tryz.f40 := ⟨by kernel_rfl, by kernel_rfl⟩

def ac_zvqaf : AC := (sr [oo 4 (.mv (cq false))] [0,1] (.seq (sr [mq 6 0,oo 7 (.len (tp 6) false),mq 8 1,oo 9 (.len (tp 8) false),oo 10 (.bin .neq (tp 7) (tp 9))] [0,1,10] (.cond (tp 10) (sr [oo 4 (.mv (cq false))] [4] .ret) .skip)) (.seq (sr [oo 5 (.mv (ci 0))] [0,1,5] (.block 0 (.loop (.seq (sr [mq 11 5,mq 12 0,oo 13 (.len (tp 12) false),oo 14 (.bin .lss (tp 11) (tp 13))] [0,1,5,14] (.cond (tp 14) .skip (.exit 0))) (.seq (.block 1 (.seq (.draw [mq 17 0,mq 18 5,oo 19 (.idxA 6 (tp 17) (tp 18)),oo 20 (.load (some 6) (tp 19)),mq 21 1,mq 22 5,oo 23 (.idxA 6 (tp 21) (tp 22)),oo 24 (.load (some 6) (tp 23)),oo 25 (.eqs true [.int,.str,.str,.int,.int,.bool] (tp 20) (tp 24))] [0,0,3,7,0,0,48,112,255] (.take 0 (.take 1 (.take 2 (.take 3 (.take 4 (.take 5 (.take 6 (.take 7 (.take 8 .done))))))))) (some [0,1,5,25])) (.cond (tp 25) (sr [oo 4 (.mv (cq false))] [4] .ret) .skip))) (.region [mq 15 5,oo 16 (.bin .add (tp 15) (ci 1)),mq 5 16] (some [0,1,5]))))))) (sr [oo 4 (.mv (cq true))] [4] .ret))))
def an_zvqaf : Ann := ann [0,1,2,3,4,6,7,5,8] ac_zvqaf
theorem ok_zvqaf : okd Tryz.prog an_zvqaf ac_zvqaf Tryz.f41 := ⟨by kernel_rfl, by kernel_rfl⟩

def ac_zas79 : AC := (sr [oo 4 (.box 32 (tp 1)),oo 6 (.mv (.const (.slice none 0 0)))] [0,2,4] (.seq (sr [fi 10 0 4,fi 11 0 10,lq 12 11,oo 13 (.bin .neq (tp 12) (ci 6)),mq 14 13,og 14 false 15 (.load (some 13) (tp 4)),og 14 false 16 (.call 12 [tp 15]),og 14 false 17 (.un .not (tp 16)),oo 18 (.pick (tp 14) (cq true) (tp 17)),mq 19 18,og 19 false 20 (.mv (tp 2)),og 19 false 21 (.bin .lss (tp 20) (ci 0)),oo 22 (.pick (tp 19) (cq true) (tp 21)),mq 23 22,og 23 false 24 (.mv (tp 2)),og 23 false 25 (.fieldA 10 (tp 4)),og 23 false 26 (.load none (tp 25)),og 23 false 27 (.len (tp 26) false),og 23 false 28 (.bin .geq (tp 24) (tp 27)),oo 29 (.pick (tp 23) (cq true) (tp 28))] [0,2,4,29] (.cond (tp 29) (sr [oo 6 (.mv (.const (.slice none 0 0)))] [6] .ret) .skip)) (sr [oo 7 (.mv (.const (.slice none 0 0)))] [0,2,4,7] (.seq (sr [oo 8 (.mv (ci 0))] [0,2,4,7,8] (.block 0 (.loop (.seq (sr [mq 30 8,fi 31 10 4,lq 32 31,mq 33 2,oo 34 (.idxA 3 (tp 32) (tp 33)),fi 35 2 34,lq 36 35,oo 37 (.len (tp 36) false),oo 38 (.bin .lss (tp 30) (tp 37))] [0,2,4,7,8,38] (.cond (tp 38) .skip (.exit 0))) (.seq (.block 1 (sr [fi 41 10 4,lq 42 41,mq 43 2,oo 44 (.idxA 3 (tp 42) (tp 43)),fi 45 2 44,lq 46 45,mq 47 8,oo 48 (.idxA 5 (tp 46) (tp 47)),oo 49 (.load (some 5) (tp 48)),oo 9 (.alloc 68 [.pd (.raw (.int .i64 0)),.pd (.raw (.string ⟨#[]⟩)),.pd (.raw (.string ⟨#[]⟩)),.pd (.raw (.int .i64 0)),.pd (.raw (.int .i64 0))]),.mk none none (.store 5 (tp 9) (tp 49))] [0,2,4,7,8,9] (.draw [mq 50 7,fi 51 0 9,oo 52 (.load (some 3) (tp 51)),fi 53 0 4,fi 54 1 53,lq 55 54,oo 56 (.call 21 [tp 52,tp 55]),fi 57 3 9,lq 58 57,fi 59 4 9,lq 60 59,mq 61 0,oo 62 (.load (some 13) (tp 4)),oo 63 (.load (some 5) (tp 9)),oo 64 (.call 38 [tp 61,tp 62,tp 63]),oo 65 (.bin .neq (tp 64) (.const (.string ⟨#[]⟩))),oo 66 (.build [.pd (.raw (.int .i64 0)),.pd (.raw (.string ⟨#[]⟩)),.pd (.raw (.string ⟨#[]⟩)),.pd (.raw (.int .i64 0)),.pd (.raw (.int .i64 0)),.pd (.raw (.bool false))] [(0,3,tp 56),(3,1,tp 58),(4,1,tp 60),(5,1,tp 65)]),oo 67 (.bslice 117 6 [tp 66]),oo 68 (.append 117 6 64 (tp 50) (tp 67)),mq 7 68] [0,0,2,0,8,24,62,0,128,0,512,0,0,0,14462,30846,65534,131070,262143,524287] (.take 0 (.take 1 (.take 2 (.take 3 (.take 4 (.take 5 (.take 7 (.take 8 (.take 9 (.take 10 (.take 11 (.take 12 (.take 13 (.alts (.cons 6 false (.alts (.cons 14 false (.take 15 (.take 16 (.alts (.cons 17 false (.alts (.cons 18 true (.take 19 .done) .nil)) .nil)))) .nil)) .nil))))))))))))))) (some [0,2,4,7,8])))) (.region [mq 39 8,oo 40 (.bin .add (tp 39) (ci 1)),mq 8 40] (some [0,2,4,7,8]))))))) (sr [mq 69 7,mq 6 69] [6] .ret)))))
def an_zas79 : Ann := ann [0,1,2,3,4,5,7,8,6,9] ac_zas79
theorem ok_zas79 : okd Tryz.prog an_zas79 ac_zas79 Tryz.f43 := ⟨by kernel_rfl, by kernel_rfl⟩

end Go.Proofs.YtklolokoaooppaaGreatDoor


namespace Go.Proofs.YtklolokoaooppaaGreatDoor
open Go Go.RowKit
set_option linter.unusedSimpArgs false
set_option linter.unusedVariables false
set_option maxRecDepth 100000

theorem thereIs_no {os : List AObj} {t : ARef} {port : Int} {s : AObj} (hf : found os t = some s) (h : objMay s = true) (hn : ∀ (j : Nat) (x : Int), s.ports[j]? = some x → ¬ x = port) : thereIs os t port = false := by
  simp only [thereIs, hf, h, Bool.true_and, hasInt, List.any_eq_false, decide_eq_true_eq]
  intro x hx e
  obtain ⟨j, hj⟩ := List.getElem?_of_mem hx
  exact hn j x hj e.symm

theorem thereIs_yes {os : List AObj} {t : ARef} {port : Int} {s : AObj} {j : Nat} {x : Int} (hf : found os t = some s) (h : objMay s = true) (hx : s.ports[j]? = some x) (e : x = port) : thereIs os t port = true := by
  simp only [thereIs, hf, h, Bool.true_and, hasInt, List.any_eq_true, decide_eq_true_eq]
  exact ⟨x, List.mem_of_getElem? hx, e.symm⟩

set_option maxHeartbeats 4000000 in
theorem ref14_Wrong (os : List AObj) (hos : os.length ≤ 1000000) (h : ∀ o ∈ os, o.ok) (hk : ∀ o ∈ os, o.sok) (r : AObj) (b : ABackend) : Pure Tryz.prog 38 [.pd (.slice (rows AObj.pd os)), r.d, b.d] (fun d => d = str (wrong os r b)) := by
  refine pure_of_run follows an_z53e8 Tryz.func38 rfl ok_z53e8.1 ok_z53e8.2 (by simp [Tryz.ntmps38]) ?_
  rw [run_start]
  simp only [ac_z53e8, oo, og, tp, ci, cq, mq, lq, fi, sr, go_sem, contS_seq, simprocAttr]
  refine (ref11_Near b.ref r.ref.space).callW (enters_of Tryz.func21 rfl rfl) _ rfl rfl ?_
  rintro d rfl
  obtain ⟨t, ht⟩ : ∃ t, near b.ref r.ref.space = t := ⟨_, rfl⟩
  have hwr : wrong os r b = wrongAt os r.ref.space t b.port := by rw [wrong, ht]
  rw [ht]
  simp only [go_sem, contS_seq, simprocAttr]
  refine GifP.mk (fun h3 => ?_) (fun h3 => ?_)
  rotate_left
  · simp only [retK, fullK, iterK, resD, resA, AOp.ex, St.ev, St.get, lk, oneD, D.pub, D.pubs, retL, reduceIte, Nat.reduceEqDiff, Nat.reduceAdd, Nat.reduceLeDiff, Tryz.results38]
    exact ⟨_, rfl, rfl, by rw [hwr]; simp [wrongAt, h3, D.pub, badKind]⟩
  refine (ref11_Permits os hos h hk 6 r.ref.space t).callW (enters_of Tryz.func23 rfl rfl) _ rfl rfl ?_
  rintro d rfl
  simp only [go_sem, contS_seq, simprocAttr]
  refine Gif.mk (fun hp => ?_) (fun hp => ?_)
  rotate_left
  · simp only [retK, fullK, iterK, resD, resA, AOp.ex, St.ev, St.get, lk, oneD, D.pub, D.pubs, retL, reduceIte, Nat.reduceEqDiff, Nat.reduceAdd, Nat.reduceLeDiff, Tryz.results38]
    exact ⟨_, rfl, rfl, by rw [hwr]; simp [wrongAt, h3, hp, D.pub, notLet]⟩
  refine (ref11_Find os hos t).callW (enters_of Tryz.func18 rfl rfl) _ rfl rfl ?_
  rintro d rfl
  cases hf : found os t with
  | none =>
    simp only [foundD, go_sem, contS_seq, simprocAttr]
    simp only [retK, fullK, iterK, resD, resA, AOp.ex, St.ev, St.get, lk, oneD, D.pub, D.pubs, retL, reduceIte, Nat.reduceEqDiff, Nat.reduceAdd, Nat.reduceLeDiff, Tryz.results38]
    exact ⟨_, rfl, rfl, by rw [hwr]; simp [wrongAt, h3, hp, thereIs, hf, D.pub, noBackend]⟩
  | some s =>
    have hmem := found_mem hf
    have hpo := (h s hmem).po
    simp only [foundD, go_sem, contS_seq, simprocAttr]
    refine (ref9_May s (h s hmem) (hk s hmem)).callW (enters_of Tryz.func12 rfl rfl) _ rfl rfl ?_
    rintro d rfl
    simp only [go_sem, contS_seq, simprocAttr]
    refine Gif.mk (fun hm => ?_) (fun hm => ?_)
    rotate_left
    · simp only [retK, fullK, iterK, resD, resA, AOp.ex, St.ev, St.get, lk, oneD, D.pub, D.pubs, retL, reduceIte, Nat.reduceEqDiff, Nat.reduceAdd, Nat.reduceLeDiff, Tryz.results38]
      exact ⟨_, rfl, rfl, by rw [hwr]; simp [wrongAt, h3, hp, thereIs, hf, hm, D.pub, noBackend]⟩
    refine loopS (fun k st => ∃ i : Nat, k = s.ports.length - i ∧ i ≤ s.ports.length ∧ (∀ (j : Nat) (x : Int), j < i → s.ports[j]? = some x → ¬ x = b.port) ∧ st = ⟨[(5, .ptr 5 0), (8, .ptr 8 0), (10, int i)], [(5, [int b.ref.kind, str b.ref.space, str b.ref.name, int b.port, int b.weight]), (8, s.ds)], [], .no⟩) s.ports.length _ ?_ ⟨0, rfl, by omega, fun _ _ h => absurd h (Nat.not_lt_zero _), rfl⟩ ?_
    · exact Weak.less (by simp [lessL, lk]) (by simp [lessL, lk]) (by simp [lessL, lk]) rfl
    rintro k st ⟨i, rfl, hi, hT, rfl⟩
    have hw := i64_succ (show i < 1000000000 by omega)
    by_cases hlt : i < s.ports.length
    · obtain ⟨x, hx⟩ := at_lt hlt
      have h1 : ((i : Int) < (s.ports.length : Int)) = True := eq_true (by omega)
      simp only [go_sem, contS_seq, simprocAttr, rows_len, rows_get hx, h1, hw]
      refine GifP.mk (fun he => ?_) (fun he => ?_)
      · have hth := thereIs_yes hf hm hx he
        simp only [retK, fullK, iterK, resD, resA, AOp.ex, St.ev, St.get, lk, oneD, D.pub, D.pubs, retL, reduceIte, Nat.reduceEqDiff, Nat.reduceAdd, Nat.reduceLeDiff, Tryz.results38]
        exact ⟨_, rfl, rfl, by rw [hwr]; simp [wrongAt, h3, hp, hth, D.pub]⟩
      · refine ⟨s.ports.length - (i + 1), _, by omega, ?_, i + 1, rfl, by omega, snoc_all hT hx he, rfl⟩
        exact Weak.less (by simp [lessL, lk]) (by simp [lessL, lk]) (by simp [lessL, lk]) rfl
    have h1 : ((i : Int) < (s.ports.length : Int)) = False := eq_false (by omega)
    have hth := thereIs_no hf hm (fun j x hx => hT j x (by have := (List.getElem?_eq_some_iff.1 hx).1; omega) hx)
    simp only [go_sem, contS_seq, simprocAttr, rows_len, h1]
    simp only [retK, fullK, iterK, resD, resA, AOp.ex, St.ev, St.get, lk, oneD, D.pub, D.pubs, retL, reduceIte, Nat.reduceEqDiff, Nat.reduceAdd, Nat.reduceLeDiff, Tryz.results38]
    exact ⟨_, rfl, rfl, by rw [hwr]; simp [wrongAt, h3, hp, hth, D.pub, noBackend]⟩

theorem isRoute_iff {r : AObj} : isRoute r = true ↔ r.ref.kind = 6 ∧ objMay r = true := by simp [isRoute]

set_option maxHeartbeats 4000000 in
theorem ref14_Route (os : List AObj) (hos : os.length ≤ 1000000) (h : ∀ o ∈ os, o.ok) (hk : ∀ o ∈ os, o.sok) (r : AObj) (hr : r.ok) (hrs : r.sok) : Pure Tryz.prog 40 [.pd (.slice (rows AObj.pd os)), r.d] (fun d => d = str (routeWhy os r)) := by
  have cM := ref9_May r hr hrs
  refine pure_of_run follows an_zsdn7 Tryz.func40 rfl ok_zsdn7.1 ok_zsdn7.2 (by simp [Tryz.ntmps40]) ?_
  rw [run_start]
  simp only [ac_zsdn7, oo, og, tp, ci, cq, mq, lq, fi, sr, go_sem, contS_seq, simprocAttr]
  by_cases hR : isRoute r = true
  rotate_left
  · have hwhy : routeWhy os r = ⟨#[]⟩ := if_neg hR
    refine loopS (fun k st => st = ⟨[(0, .pd (.slice (rows AObj.pd os))), (3, .ptr 3 0), (5, int 0)], [(3, r.ds)], [], .no⟩) 0 _ ?_ rfl ?_
    · exact Weak.less (by simp [lessL, lk]) (by simp [lessL, lk]) (by simp [lessL, lk]) rfl
    rintro k st rfl
    simp only [go_sem, contS_seq, simprocAttr, rows_len]
    repeat' (first | refine GifP.mk (fun _ => ?_) (fun _ => ?_) | refine Gif.mk (fun _ => ?_) (fun _ => ?_) | (refine cM.callW (enters_of Tryz.func12 rfl rfl) _ rfl rfl ?_; rintro _ rfl; simp only [go_sem, contS_seq, simprocAttr, rows_len]))
    all_goals first
      | (exact absurd (isRoute_iff.2 ⟨by assumption, by assumption⟩) hR)
      | (simp only [retK, fullK, iterK, resD, resA, AOp.ex, St.ev, St.get, lk, oneD, D.pub, D.pubs, retL, reduceIte, Nat.reduceEqDiff, Nat.reduceAdd, Nat.reduceLeDiff, Tryz.results40]; exact ⟨_, rfl, rfl, by rw [hwhy]; try rfl⟩)
  obtain ⟨hk6, hmay⟩ := isRoute_iff.1 hR
  have hk6 := eq_true hk6
  rw [hmay] at cM
  refine loopS (fun k st => ∃ i : Nat, k = r.rules.length - i ∧ i ≤ r.rules.length ∧ firstRule os r (r.rules.drop i) = firstRule os r r.rules ∧
    st = ⟨[(0, .pd (.slice (rows AObj.pd os))), (3, .ptr 3 0), (5, int i)], [(3, r.ds)], [], .no⟩) r.rules.length _ ?_ ⟨0, rfl, Nat.zero_le _, rfl, rfl⟩ ?_
  · exact Weak.less (by simp [lessL, lk]) (by simp [lessL, lk]) (by simp [lessL, lk]) rfl
  rintro k st ⟨i, rfl, hi, hrr, rfl⟩
  by_cases hlt : i < r.rules.length
  · obtain ⟨x, hx⟩ := at_lt hlt
    have hlt' : ((i : Int) < (r.rules.length : Int)) = True := eq_true (by omega)
    have hw := i64_succ (show i < 1000000000 by have := hr.ru; omega)
    have hxb := (hr.rus x (List.mem_of_getElem? hx)).bl
    rw [drop_at hx, firstRule] at hrr
    simp only [go_sem, contS_seq, simprocAttr, hlt', hk6, rows_get hx, rows_len]
    refine cM.callW (enters_of Tryz.func12 rfl rfl) _ rfl rfl ?_
    rintro _ rfl
    simp only [go_sem, contS_seq, simprocAttr, rows_get hx, rows_len]
    refine loopS (fun k st => ∃ j : Nat, k = x.backends.length - j ∧ j ≤ x.backends.length ∧ firstWrong os r (x.backends.drop j) = firstWrong os r x.backends ∧
      st = ⟨[(0, .pd (.slice (rows AObj.pd os))), (3, .ptr 3 0), (5, int i), (6, int j)], [(3, r.ds)], [], .no⟩) x.backends.length _ ?_ ⟨0, rfl, Nat.zero_le _, rfl, rfl⟩ ?_
    · exact Weak.less (by simp [lessL, lk]) (by simp [lessL, lk]) (by simp [lessL, lk]) rfl
    rintro k st ⟨j, rfl, hj, hfw, rfl⟩
    by_cases hjl : j < x.backends.length
    · obtain ⟨b, hb⟩ := at_lt hjl
      have hjl' : ((j : Int) < (x.backends.length : Int)) = True := eq_true (by omega)
      have hwj := i64_succ (show j < 1000000000 by omega)
      rw [drop_at hb, firstWrong] at hfw
      simp only [go_sem, contS_seq, simprocAttr, hjl', rows_get hx, rows_get hb, rows_len]
      refine (ref14_Wrong os hos h hk r b).callX (enters_of Tryz.func38 rfl rfl) _ rfl rfl ?_
      rintro d rfl
      simp only [go_sem, contS_seq, simprocAttr, hwj]
      refine GifP.mk (fun hwr => ?_) (fun hwr => ?_)
      · rw [if_pos hwr] at hfw
        refine ⟨x.backends.length - (j + 1), _, ?_, ?_, j + 1, rfl, ?_, hfw, rfl⟩
        · omega
        · exact Weak.less (by simp [lessL, lk]) (by simp [lessL, lk]) (by simp [lessL, lk]) rfl
        · omega
      · rw [if_neg hwr] at hfw
        rw [← hfw] at hrr
        simp only [retK, fullK, iterK, resD, resA, AOp.ex, St.ev, St.get, lk, oneD, D.pub, D.pubs, retL, reduceIte, Nat.reduceEqDiff, Nat.reduceAdd, Nat.reduceLeDiff, Tryz.results40]
        refine ⟨_, rfl, rfl, ?_⟩
        rw [routeWhy, if_pos hR, ← hrr]; rfl
    · have hjl' : ((j : Int) < (x.backends.length : Int)) = False := eq_false (by omega)
      rw [List.drop_eq_nil_of_le (by omega), firstWrong] at hfw
      rw [← hfw] at hrr
      simp only [go_sem, contS_seq, simprocAttr, hjl', hw, rows_get hx, rows_len]
      refine ⟨r.rules.length - (i + 1), _, ?_, ?_, i + 1, rfl, ?_, hrr, rfl⟩
      · omega
      · exact Weak.less (by simp [lessL, lk]) (by simp [lessL, lk]) (by simp [lessL, lk]) rfl
      · omega
  · have hlt' : ((i : Int) < (r.rules.length : Int)) = False := eq_false (by omega)
    rw [List.drop_eq_nil_of_le (by omega), firstRule] at hrr
    simp only [go_sem, contS_seq, simprocAttr, hlt', rows_len]
    simp only [retK, fullK, iterK, resD, resA, AOp.ex, St.ev, St.get, lk, oneD, D.pub, D.pubs, retL, reduceIte, Nat.reduceEqDiff, Nat.reduceAdd, Nat.reduceLeDiff, Tryz.results40]
    refine ⟨_, rfl, rfl, ?_⟩
    rw [routeWhy, if_pos hR, ← hrr]; rfl

set_option maxHeartbeats 4000000 in
theorem ref14_Goals (os : List AObj) (hos : os.length ≤ 1000000) (h : ∀ o ∈ os, o.ok) (hk : ∀ o ∈ os, o.sok) (r : AObj) (hr : r.ok) (hrs : r.sok) (i : Int) : Pure Tryz.prog 43 [.pd (.slice (rows AObj.pd os)), r.d, int i] (fun d => d = .pd (.slice (rows AGoal.pd (goals os r i)))) := by
  have cM := ref9_May r hr hrs
  refine pure_of_run follows an_zas79 Tryz.func43 rfl ok_zas79.1 ok_zas79.2 (by simp [Tryz.ntmps43]) ?_
  rw [run_start]
  simp only [ac_zas79, oo, og, tp, ci, cq, mq, lq, fi, sr, go_sem, contS_seq, simprocAttr, rows_len]
  by_cases hg : isRoute r = true ∧ 0 ≤ i ∧ i < r.rules.length
  rotate_left
  · have hgo : goals os r i = [] := by simp only [goals, if_neg hg]
    repeat' (first | refine GifP.mk (fun _ => ?_) (fun _ => ?_) | refine Gif.mk (fun _ => ?_) (fun _ => ?_) | (refine cM.callW (enters_of Tryz.func12 rfl rfl) _ rfl rfl ?_; rintro _ rfl; simp only [go_sem, contS_seq, simprocAttr, rows_len]))
    all_goals first
      | (exact absurd ⟨isRoute_iff.2 ⟨by assumption, by assumption⟩, by omega, by omega⟩ hg)
      | (simp only [retK, fullK, iterK, resD, resA, AOp.ex, St.ev, St.get, lk, oneD, D.pub, D.pubs, retL, reduceIte, Nat.reduceEqDiff, Nat.reduceAdd, Nat.reduceLeDiff, Tryz.results43]; exact ⟨_, rfl, rfl, by rw [hgo]; rfl⟩)
  obtain ⟨hk6, hmay⟩ := isRoute_iff.1 hg.1
  have hk6 := eq_true hk6
  rw [hmay] at cM
  have h2 : (i < 0) = False := eq_false (by omega)
  have h3 : ((r.rules.length : Int) ≤ i) = False := eq_false (by omega)
  obtain ⟨n, rfl⟩ := Int.eq_ofNat_of_zero_le hg.2.1
  obtain ⟨x, hx⟩ := at_lt (show n < r.rules.length by omega)
  have hgo : goals os r n = x.backends.map (goalOf os r) := by simp only [goals, if_pos hg, Int.toNat_natCast, hx]
  have hxb := (hr.rus x (List.mem_of_getElem? hx)).bl
  simp only [go_sem, contS_seq, simprocAttr, rows_len, hk6]
  refine cM.callW (enters_of Tryz.func12 rfl rfl) _ rfl rfl ?_
  rintro _ rfl
  simp only [go_sem, contS_seq, simprocAttr, rows_len, h2, h3, rows_get hx]
  refine loopS (fun k st => ∃ j : Nat, k = x.backends.length - j ∧ j ≤ x.backends.length ∧
    st = ⟨[(0, .pd (.slice (rows AObj.pd os))), (2, int n), (4, .ptr 4 0), (7, .own 117 6 (rows AGoal.pd ((x.backends.take j).map (goalOf os r))) 68), (8, int j)], [(4, r.ds)], [], .no⟩) x.backends.length _
    ?_ ⟨0, rfl, by omega, rfl⟩ ?_
  · exact Weak.own1 7 68 117 6 (by kernel_rfl) (by decide) rfl (by simp [lessL, lk, St.purge, St.put, D.purge, rows]) (by simp [lessL, lk, St.purge, D.purges, D.purge]) (by simp [lessL]) rfl
  rintro k st ⟨j, rfl, hj, rfl⟩
  by_cases hlt : j < x.backends.length
  · obtain ⟨b, hb⟩ := at_lt hlt
    have h1' : ((j : Int) < (x.backends.length : Int)) = True := eq_true (by omega)
    have hw := i64_succ (show j < 1000000000 by omega)
    simp only [go_sem, contS_seq, simprocAttr, rows_len, rows_get hx, rows_get hb, h1']
    refine (ref11_Near b.ref r.ref.space).callX (enters_of Tryz.func21 rfl rfl) _ rfl rfl ?_
    rintro _ rfl
    simp only [go_sem, contS_seq, simprocAttr]
    refine (ref14_Wrong os hos h hk r b).callX (enters_of Tryz.func38 rfl rfl) _ rfl rfl ?_
    rintro _ rfl
    have hl' : ((x.backends.take j).map (goalOf os r)).length ≤ j := by simp; omega
    have e1 : rows AGoal.pd ((x.backends.take j).map (goalOf os r)) ++ [[PD.raw (Value.int IntKind.i64 (near b.ref r.ref.space).kind), PD.raw (Value.string (near b.ref r.ref.space).space), PD.raw (Value.string (near b.ref r.ref.space).name), PD.raw (Value.int IntKind.i64 b.port), PD.raw (Value.int IntKind.i64 b.weight), PD.raw (Value.bool !decide (wrong os r b = ⟨#[]⟩))]] = rows AGoal.pd ((x.backends.take (j + 1)).map (goalOf os r)) := few_step (f := AGoal.pd) (g := goalOf os r) hb
    simp only [go_sem, contS_seq, simprocAttr, rows_len, hw]
    rw [e1]
    refine ⟨by simp, by unfold maxLen; omega, by omega, x.backends.length - (j + 1), _, by omega, ?_, j + 1, rfl, by omega, rfl⟩
    exact Weak.less (by simp [lessL, lk]) (by simp [lessL, lk]) (by simp [lessL, lk]) rfl
  · have h1' : ((j : Int) < (x.backends.length : Int)) = False := eq_false (by omega)
    simp only [go_sem, contS_seq, simprocAttr, rows_len, rows_get hx, h1']
    simp only [retK, fullK, iterK, resD, resA, AOp.ex, St.ev, St.get, lk, oneD, D.pub, D.pubs, retL, reduceIte, Nat.reduceEqDiff, Nat.reduceAdd, Nat.reduceLeDiff, Tryz.results43]
    exact ⟨_, rfl, rfl, by rw [hgo, List.take_of_length_le (by omega)]; rfl⟩

set_option maxHeartbeats 2000000 in
theorem ref14_Same (a b : List AGoal) (ha : a.length ≤ 1000000) : Pure Tryz.prog 41 [.pd (.slice (rows AGoal.pd a)), .pd (.slice (rows AGoal.pd b))] (fun d => d = bln (decide (a = b))) := by
  refine pure_of_run follows an_zvqaf Tryz.func41 rfl ok_zvqaf.1 ok_zvqaf.2 (by simp [Tryz.ntmps41]) ?_
  rw [run_start]
  simp only [ac_zvqaf, oo, og, tp, ci, cq, mq, lq, fi, sr, go_sem, contS_seq, simprocAttr, rows_len]
  refine GifP.mk (fun hl => ?_) (fun hl => ?_)
  rotate_left
  · simp only [retK, fullK, iterK, resD, resA, AOp.ex, St.ev, St.get, lk, oneD, D.pub, D.pubs, retL, reduceIte, Nat.reduceEqDiff, Nat.reduceAdd, Nat.reduceLeDiff, Tryz.results41]
    exact ⟨_, rfl, rfl, res_no (fun e => hl (by rw [e]))⟩
  have hL : a.length = b.length := by omega
  refine loopS (fun k st => ∃ i : Nat, k = a.length - i ∧ i ≤ a.length ∧ a.take i = b.take i ∧ st = ⟨[(0, .pd (.slice (rows AGoal.pd a))), (1, .pd (.slice (rows AGoal.pd b))), (5, int i)], [], [], .no⟩) a.length _ ?_ ⟨0, rfl, by omega, rfl, rfl⟩ ?_
  · exact Weak.less (by simp [lessL, lk]) (by simp [lessL, lk]) (by simp [lessL, lk]) rfl
  rintro k st ⟨i, rfl, hi, hT, rfl⟩
  have hw := i64_succ (show i < 1000000000 by omega)
  by_cases hlt : i < a.length
  · obtain ⟨x, hx⟩ := at_lt hlt
    obtain ⟨y, hy⟩ := at_lt (show i < b.length by omega)
    have h1 : ((i : Int) < (a.length : Int)) = True := eq_true (by omega)
    simp only [go_sem, contS_seq, simprocAttr, rows_len, rows_get hx, rows_get hy, h1, hw, eqVs, eqV]
    · repeat' (first | refine GifP.mk (fun _ => ?_) (fun _ => ?_) | refine Gif.mk (fun _ => ?_) (fun _ => ?_) | refine And.intro ?_ ?_)
      all_goals first
        | (refine ⟨a.length - (i + 1), _, by omega, ?_, i + 1, rfl, by omega, take_step hT hx hy (by first | assumption | (obtain ⟨⟨x1, x2, x3⟩, x4, x5, x6⟩ := x; obtain ⟨⟨y1, y2, y3⟩, y4, y5, y6⟩ := y; simp_all)), rfl⟩; exact Weak.less (by simp [lessL, lk]) (by simp [lessL, lk]) (by simp [lessL, lk]) rfl)
        | (simp only [retK, fullK, iterK, resD, resA, AOp.ex, St.ev, St.get, lk, oneD, D.pub, D.pubs, retL, reduceIte, Nat.reduceEqDiff, Nat.reduceAdd, Nat.reduceLeDiff, Tryz.results41]; exact ⟨_, rfl, rfl, res_no (fun e => by subst e; have hxy := Option.some.inj (hx.symm.trans hy); subst hxy; first | contradiction | simp_all)⟩)
  have h1 : ((i : Int) < (a.length : Int)) = False := eq_false (by omega)
  have hE := take_end hT (by omega) hlt
  clear hT hi hw
  simp only [go_sem, contS_seq, simprocAttr, rows_len, h1]
  clear h1 hlt i
  simp only [retK, fullK, iterK, resD, resA, AOp.ex, St.ev, St.get, lk, oneD, D.pub, D.pubs, retL, reduceIte, Nat.reduceEqDiff, Nat.reduceAdd, Nat.reduceLeDiff, Tryz.results41]
  exact ⟨_, rfl, rfl, res_yes hE⟩


def wantAt (i : Nat) : Nat := if i = 0 ∨ i = 4 then 0 else 2

theorem choose_eg : ∀ i, i < 5 → choose [1, 0, 3] i = some (wantAt i) := by decide

theorem want_eg : ∀ i, i < 5 → ([[pInt 0], [pInt 2], [pInt 2], [pInt 2], [pInt 0]] : List (List PD))[i]? = some [pInt (wantAt i)] := by
  intro i hi
  match i, hi with
  | 0, _ => rfl
  | 1, _ => rfl
  | 2, _ => rfl
  | 3, _ => rfl
  | 4, _ => rfl

def aRoute : AObj := ⟨⟨6, ⟨#[119, 101, 98]⟩, ⟨#[114]⟩⟩, false, [], [], ⟨#[]⟩, [], [], [], [], [], []⟩

set_option maxRecDepth 100000 in
theorem awake14 : Pure Tryz.prog 44 [] (fun d => d = bln true) := by
  refine pure_of_run follows an_zw60y Tryz.func44 rfl ok_zw60y.1 ok_zw60y.2 (by simp [Tryz.ntmps44]) ?_
  rw [run_start]
  simp only [ac_zw60y, oo, og, tp, ci, cq, mq, lq, fi, sr, go_sem, contS_seq, simprocAttr]
  refine loopS (fun k st => ∃ i : Nat, k = 5 - i ∧ i ≤ 5 ∧
    st = ⟨[(6, .own 3 1 [[pInt 0], [pInt 2], [pInt 2], [pInt 2], [pInt 0]] 6), (7, int 5), (8, int i)], [], [], .no⟩) 5 _
    ?_ ⟨0, rfl, by omega, rfl⟩ ?_
  · exact Weak.less (by simp [lessL, lk]) (by simp [lessL, lk]) (by simp [lessL, lk]) rfl
  rintro k st ⟨i, rfl, hi, rfl⟩
  have hi1 : IntKind.i64.wrap ((i : Int) + 1) = ((i + 1 : Nat) : Int) := by rw [IntWalk.i64_in _ (by omega)]; omega
  by_cases hlt : i < 5
  · have h1 : (i : Int) < 5 := by omega
    have hu : IntKind.u64.wrap (i : Int) = (i : Int) := IntWalk.u64_in _ (by omega)
    simp only [go_sem, contS_seq, simprocAttr, h1, hi1, hu, want_eg i hlt]
    refine (back_Choose [1, 0, 3] i (by omega) (by simp)).callW (enters_of Tryz.func77 rfl rfl) _ rfl rfl ?_
    rintro d rfl
    simp only [choose_eg i hlt, placeD, go_sem, contS_seq, simprocAttr, hi1]
    refine ⟨5 - (i + 1), _, by omega, ?_, i + 1, rfl, by omega, rfl⟩
    exact Weak.less (by simp [lessL, lk]) (by simp [lessL, lk]) (by simp [lessL, lk]) rfl
  · have h1 : ¬ (i : Int) < 5 := by omega
    simp only [go_sem, contS_seq, simprocAttr, h1]
    refine (wrong_nil aRoute ⟨⟨4, ⟨#[]⟩, ⟨#[115]⟩⟩, 0, 0⟩ ⟨4, ⟨#[119, 101, 98]⟩, ⟨#[115]⟩⟩ (by simp [near, aRoute]) (.inl (by decide))).callW (enters_of Tryz.func37 rfl rfl) _ rfl rfl ?_
    rintro d rfl
    simp only [go_sem, contS_seq, simprocAttr, badKind]
    trace_state
    refine (wrong_nil aRoute ⟨⟨3, ⟨#[97, 112, 112]⟩, ⟨#[115]⟩⟩, 0, 0⟩ ⟨3, ⟨#[97, 112, 112]⟩, ⟨#[115]⟩⟩ (by simp [near]) (.inr (by decide))).callW (enters_of Tryz.func37 rfl rfl) _ rfl rfl ?_
    rintro d rfl
    simp only [go_sem, contS_seq, simprocAttr, notLet]
    simp only [retK, fullK, iterK, resD, resA, AOp.ex, St.ev, St.get, lk, oneD, D.pub, D.pubs, retL, reduceIte, Nat.reduceEqDiff, Nat.reduceAdd, Nat.reduceLeDiff, Tryz.results44]
    exact ⟨_, rfl, rfl, rfl⟩

end Go.Proofs.YtklolokoaooppaaGreatDoor


namespace Go.Proofs.YtklolokoaooppaaGreatDoor
open Go

def ac_zd641 : AC := (sr [oo 4 (.box 32 (tp 1)),oo 6 (.mv (cq false))] [0,2,4] (.seq (.draw [mq 10 0,oo 11 (.call 26 [tp 10]),oo 12 (.load (some 13) (tp 4)),oo 13 (.call 8 [tp 12]),mq 0 11,.mk none none (.store 13 (tp 4) (tp 13))] [0,1,0,7,15,31] (.take 0 (.take 2 (.alts (.cons 1 false (.alts (.cons 3 true (.take 4 (.alts (.cons 5 true .done .nil))) .nil)) .nil)))) (some [0,2,4])) (.seq (sr [oo 7 (.mv (ci 0))] [0,2,4,7] (.block 0 (.loop (.seq (sr [mq 14 7,fi 15 10 4,lq 16 15,oo 17 (.len (tp 16) false),oo 18 (.bin .lss (tp 14) (tp 17))] [0,2,4,7,18] (.cond (tp 18) .skip (.exit 0))) (.seq (.block 1 (sr [oo 8 (.mv (ci 0))] [0,2,4,7,8] (.block 2 (.loop (.seq (sr [mq 21 8,fi 22 10 4,lq 23 22,mq 24 7,oo 25 (.idxA 3 (tp 23) (tp 24)),fi 26 2 25,lq 27 26,oo 28 (.len (tp 27) false),oo 29 (.bin .lss (tp 21) (tp 28))] [0,2,4,7,8,29] (.cond (tp 29) .skip (.exit 2))) (.seq (.block 3 (sr [fi 32 10 4,lq 33 32,mq 34 7,oo 35 (.idxA 3 (tp 33) (tp 34)),fi 36 2 35,lq 37 36,mq 38 8,oo 39 (.idxA 5 (tp 37) (tp 38)),oo 40 (.load (some 5) (tp 39)),oo 9 (.alloc 68 [.pd (.raw (.int .i64 0)),.pd (.raw (.string ⟨#[]⟩)),.pd (.raw (.string ⟨#[]⟩)),.pd (.raw (.int .i64 0)),.pd (.raw (.int .i64 0))]),.mk none none (.store 5 (tp 9) (tp 40))] [0,2,4,7,8,9] (.seq (.draw [mq 41 0,oo 42 (.load (some 13) (tp 4)),oo 43 (.load (some 5) (tp 9)),oo 44 (.call 37 [tp 41,tp 42,tp 43]),mq 45 0,oo 46 (.load (some 13) (tp 4)),oo 47 (.load (some 5) (tp 9)),oo 48 (.call 38 [tp 45,tp 46,tp 47]),oo 49 (.bin .neq (tp 44) (tp 48))] [0,0,0,7,0,0,0,127,255] (.take 0 (.take 1 (.take 2 (.take 4 (.take 5 (.take 6 (.alts (.cons 3 false (.alts (.cons 7 true (.take 8 .done) .nil)) .nil)))))))) (some [0,2,4,7,8,49])) (.cond (tp 49) (sr [oo 6 (.mv (cq false))] [6] .ret) .skip)))) (.region [mq 30 8,oo 31 (.bin .add (tp 30) (ci 1)),mq 8 31] (some [0,2,4,7,8])))))))) (.region [mq 19 7,oo 20 (.bin .add (tp 19) (ci 1)),mq 7 20] (some [0,2,4,7]))))))) (.seq (.draw [mq 50 0,oo 51 (.load (some 13) (tp 4)),oo 52 (.call 39 [tp 50,tp 51]),mq 53 0,oo 54 (.load (some 13) (tp 4)),oo 55 (.call 40 [tp 53,tp 54]),oo 56 (.bin .eql (tp 52) (tp 55)),mq 57 56,og 57 true 58 (.mv (tp 0)),og 57 true 59 (.load (some 13) (tp 4)),og 57 true 60 (.mv (tp 2)),og 57 true 61 (.call 42 [tp 58,tp 59,tp 60]),og 57 true 62 (.mv (tp 0)),og 57 true 63 (.load (some 13) (tp 4)),og 57 true 64 (.mv (tp 2)),og 57 true 65 (.call 43 [tp 62,tp 63,tp 64]),og 57 true 66 (.call 41 [tp 61,tp 65]),oo 67 (.pick (tp 57) (tp 66) (cq false)),mq 68 67,og 68 true 69 (.call 44 []),oo 70 (.pick (tp 68) (tp 69) (cq false)),mq 6 70] [0,0,3,0,0,31,63,127,255,255,255,2047,255,255,255,32767,65535,131071,262143,524287,1048575,2097151] (.take 0 (.take 1 (.take 3 (.take 4 (.alts (.cons 2 false (.alts (.cons 5 true (.take 6 (.take 7 (.take 8 (.take 9 (.take 10 (.take 12 (.take 13 (.take 14 (.alts (.cons 11 false (.alts (.cons 15 true (.alts (.cons 16 true (.take 17 (.take 18 (.alts (.cons 19 true (.take 20 (.take 21 .done)) .nil)))) .nil)) .nil)) .nil)))))))))) .nil)) .nil)))))) (some [6])) .ret))))
def an_zd641 : Ann := ann [0,1,2,3,5,6,8,9,10,7,4,11] ac_zd641
theorem ok_zd641 : okd Tryz.prog an_zd641 ac_zd641 Tryz.f7 := ⟨by kernel_rfl, by kernel_rfl⟩

end Go.Proofs.YtklolokoaooppaaGreatDoor


namespace Go.Proofs.YtklolokoaooppaaGreatDoor
open Go Go.RowKit
set_option linter.unusedSimpArgs false
set_option linter.unusedVariables false
set_option maxRecDepth 100000

set_option maxHeartbeats 4000000 in
theorem law_Tells (l : List AObj) (r : AObj) (i : Int) : Pure Tryz.prog 7 [.pd (.slice (rows AObj.pd l)), r.d, int i] (fun d => d = bln true) := by
  refine pure_of_run follows an_zd641 Tryz.func7 rfl ok_zd641.1 ok_zd641.2 (by simp [Tryz.ntmps7]) ?_
  rw [run_start]
  simp only [ac_zd641, oo, og, tp, ci, cq, mq, lq, fi, sr, go_sem, contS_seq, simprocAttr]
  refine (law11_Some l).callX (enters_of Tryz.func26 rfl rfl) _ rfl rfl ?_
  rintro _ rfl
  simp only [go_sem, contS_seq, simprocAttr]
  refine (law9_Few r).callX (enters_of Tryz.func8 rfl rfl) _ rfl rfl ?_
  rintro _ rfl
  have hos : (fewObjs l).length ≤ 1000 := Nat.le_trans (fewObjs_len l) (by omega)
  have ho := fewObjs_ok (l := l)
  have hk := fewObjs_sok (l := l)
  have hr := fewObj_ok r
  have hrs := fewObj_sok r
  generalize fewObjs l = os at hos ho hk ⊢
  generalize fewObj r = r at hr hrs ⊢
  have hru := hr.ru
  simp only [go_sem, contS_seq, simprocAttr, rows_len]
  refine loopS (fun k st => ∃ n : Nat, k = r.rules.length - n ∧ n ≤ r.rules.length ∧ st = ⟨[(0, .pd (.slice (rows AObj.pd os))), (2, int i), (4, .ptr 4 0), (7, int n)], [(4, r.ds)], [], .no⟩) r.rules.length _ ?_ ⟨0, rfl, Nat.zero_le _, rfl⟩ ?_
  · exact Weak.less (by simp [lessL, lk]) (by simp [lessL, lk]) (by simp [lessL, lk]) rfl
  rintro k st ⟨n, rfl, hn, rfl⟩
  have hw := i64_succ (show n < 1000000000 by omega)
  by_cases hlt : n < r.rules.length
  · obtain ⟨x, hx⟩ := at_lt hlt
    have hlt' : ((n : Int) < (r.rules.length : Int)) = True := eq_true (by omega)
    have hxb := (hr.rus x (List.mem_of_getElem? hx)).bl
    simp only [go_sem, contS_seq, simprocAttr, hlt', rows_get hx, rows_len]
    refine loopS (fun k st => ∃ j : Nat, k = x.backends.length - j ∧ j ≤ x.backends.length ∧ st = ⟨[(0, .pd (.slice (rows AObj.pd os))), (2, int i), (4, .ptr 4 0), (7, int n), (8, int j)], [(4, r.ds)], [], .no⟩) x.backends.length _ ?_ ⟨0, rfl, Nat.zero_le _, rfl⟩ ?_
    · exact Weak.less (by simp [lessL, lk]) (by simp [lessL, lk]) (by simp [lessL, lk]) rfl
    rintro k st ⟨j, rfl, hj, rfl⟩
    by_cases hjl : j < x.backends.length
    · obtain ⟨b, hb⟩ := at_lt hjl
      have hjl' : ((j : Int) < (x.backends.length : Int)) = True := eq_true (by omega)
      have hwj := i64_succ (show j < 1000000000 by omega)
      simp only [go_sem, contS_seq, simprocAttr, hjl', rows_get hx, rows_get hb, rows_len]
      refine (back_Wrong os (by omega) ho r b).callX (enters_of Tryz.func37 rfl rfl) _ rfl rfl ?_
      rintro d rfl
      simp only [go_sem, contS_seq, simprocAttr]
      refine (ref14_Wrong os (by omega) ho hk r b).callX (enters_of Tryz.func38 rfl rfl) _ rfl rfl ?_
      rintro d rfl
      simp only [go_sem, contS_seq, simprocAttr, hwj, ne_eq, not_true_eq_false]
      refine ⟨x.backends.length - (j + 1), _, by omega, ?_, j + 1, rfl, by omega, rfl⟩
      exact Weak.less (by simp [lessL, lk]) (by simp [lessL, lk]) (by simp [lessL, lk]) rfl
    · have hjl' : ((j : Int) < (x.backends.length : Int)) = False := eq_false (by omega)
      simp only [go_sem, contS_seq, simprocAttr, hjl', hw, rows_get hx, rows_len]
      refine ⟨r.rules.length - (n + 1), _, by omega, ?_, n + 1, rfl, by omega, rfl⟩
      exact Weak.less (by simp [lessL, lk]) (by simp [lessL, lk]) (by simp [lessL, lk]) rfl
  have hlt' : ((n : Int) < (r.rules.length : Int)) = False := eq_false (by omega)
  simp only [go_sem, contS_seq, simprocAttr, hlt', rows_len]
  clear hlt' hlt hw hn
  refine (back_Route os (by omega) ho r hr).callX (enters_of Tryz.func39 rfl rfl) _ rfl rfl ?_
  rintro d rfl
  simp only [go_sem, contS_seq, simprocAttr]
  refine (ref14_Route os (by omega) ho hk r hr hrs).callX (enters_of Tryz.func40 rfl rfl) _ rfl rfl ?_
  rintro d rfl
  have hgl : (goals os r i).length ≤ 1000000 := by
    unfold goals
    split
    · split
      · rename_i x hx
        rw [List.length_map]
        exact (hr.rus x (List.mem_of_getElem? hx)).bl
      · simp
    · simp
  simp only [go_sem, contS_seq, simprocAttr, ne_eq, not_true_eq_false]
  refine (back_Goals os (by omega) ho r hr i).callX (enters_of Tryz.func42 rfl rfl) _ rfl rfl ?_
  rintro d rfl
  simp only [go_sem, contS_seq, simprocAttr]
  refine (ref14_Goals os (by omega) ho hk r hr hrs i).callX (enters_of Tryz.func43 rfl rfl) _ rfl rfl ?_
  rintro d rfl
  simp only [go_sem, contS_seq, simprocAttr]
  refine (ref14_Same (goals os r i) (goals os r i) hgl).callX (enters_of Tryz.func41 rfl rfl) _ rfl rfl ?_
  rintro d rfl
  simp only [go_sem, contS_seq, simprocAttr, decide_true]
  refine awake14.callX (enters_of Tryz.func44 rfl rfl) _ rfl rfl ?_
  rintro _ rfl
  simp only [go_sem, contS_seq, simprocAttr]
  simp only [retK, fullK, iterK, resD, resA, AOp.ex, St.ev, St.get, lk, oneD, D.pub, D.pubs, retL, reduceIte, Nat.reduceEqDiff, Nat.reduceAdd, Nat.reduceLeDiff, Tryz.results7]
  exact ⟨_, rfl, rfl, rfl⟩

end Go.Proofs.YtklolokoaooppaaGreatDoor

