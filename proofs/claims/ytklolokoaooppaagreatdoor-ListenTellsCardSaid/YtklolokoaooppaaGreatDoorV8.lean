/- Texts of the prover's, joined: J5 J6 D1 E4 FD FK E2 E3 E6 E5 FE FJ D8 EF J7 I0 DA I1 I2 I3 IB IA IC K3 K4. -/
import Derived.Test.YtklolokoaooppaaGreatDoorV7
import Derived.Test.YtklolokoaooppaaGreatDoorProg
import Derived.KernelRfl

namespace Go.Proofs.YtklolokoaooppaaGreatDoor
open Go Go.RowKit
set_option linter.unusedSimpArgs false
set_option linter.unusedVariables false
set_option maxRecDepth 100000

structure AObj.sok (o : AObj) : Prop where
  rs : o.ref.space.size ≤ 1000000
  rn : o.ref.name.size ≤ 1000000
  lv : ∀ p ∈ o.labels, p.val.size ≤ 1000000
  ln : ∀ l ∈ o.listeners, l.name.size ≤ 1000000 ∧ l.cert.space.size ≤ 1000000 ∧ ∀ n ∈ l.needs, ∀ s ∈ n.vals, s.size ≤ 1000000
  pa : ∀ p ∈ o.parents, p.space.size ≤ 1000000 ∧ p.section_.size ≤ 1000000
  ru : ∀ r ∈ o.rules, (∀ m ∈ r.matches_, m.method.size ≤ 1000000) ∧ (∀ f ∈ r.filters, f.host.size ≤ 1000000 ∧ f.path.size ≤ 1000000) ∧ ∀ b ∈ r.backends, b.ref.space.size ≤ 1000000
  si : ∀ s ∈ o.from_, s.space.size ≤ 1000000

theorem ref9_kind (n : Int) : Pure Tryz.prog 95 [int n] (fun d => d = bln (okind n)) := by
  refine pure_of_run follows an_zotge Tryz.func95 rfl ok_zotge.1 ok_zotge.2 (by simp [Tryz.ntmps95]) ?_
  rw [run_start]
  simp only [ac_zotge, oo, og, tp, ci, cq, mq, lq, fi, sr, go_sem, contS_seq, simprocAttr]
  (repeat' (first | (refine GifP.mk (fun _ => ?_) (fun _ => ?_)) | (refine Gif.mk (fun _ => ?_) (fun _ => ?_)))) <;> (simp only [retK, resD, St.get, lk, oneD, D.pub, D.pubs, retL, reduceIte, Nat.reduceEqDiff, Nat.reduceAdd, Nat.reduceLeDiff, Tryz.results95]; exact ⟨_, rfl, rfl, congrArg bln (by first | rfl | (rw [Bool.eq_iff_iff]; simp only [okind]; simp; done) | (rw [Bool.eq_iff_iff]; simp only [okind]; simp; omega) | (rw [Bool.eq_iff_iff]; simp only [okind]; simp [*]; done) | (rw [Bool.eq_iff_iff]; simp only [okind]; simp [*]; omega) | (simp_all [okind]; done) | (exfalso; omega))⟩)
theorem ref9_port (n : Int) : Pure Tryz.prog 56 [int n] (fun d => d = bln (oport n)) := by
  refine pure_of_run follows an_ztb7v Tryz.func56 rfl ok_ztb7v.1 ok_ztb7v.2 (by simp [Tryz.ntmps56]) ?_
  rw [run_start]
  simp only [ac_ztb7v, oo, og, tp, ci, cq, mq, lq, fi, sr, go_sem, contS_seq, simprocAttr]
  (repeat' (first | (refine GifP.mk (fun _ => ?_) (fun _ => ?_)) | (refine Gif.mk (fun _ => ?_) (fun _ => ?_)))) <;> (simp only [retK, resD, St.get, lk, oneD, D.pub, D.pubs, retL, reduceIte, Nat.reduceEqDiff, Nat.reduceAdd, Nat.reduceLeDiff, Tryz.results56]; exact ⟨_, rfl, rfl, congrArg bln (by first | rfl | (rw [Bool.eq_iff_iff]; simp only [oport]; simp; done) | (rw [Bool.eq_iff_iff]; simp only [oport]; simp; omega) | (rw [Bool.eq_iff_iff]; simp only [oport]; simp [*]; done) | (rw [Bool.eq_iff_iff]; simp only [oport]; simp [*]; omega) | (simp_all [oport]; done) | (exfalso; omega))⟩)
theorem ref9_near (s : ByteArray) (hs : s.size ≤ 1000000) : Pure Tryz.prog 93 [str s] (fun d => d = bln (labValue s)) := by
  refine pure_of_run follows an_z84ie Tryz.func93 rfl ok_z84ie.1 ok_z84ie.2 (by simp [Tryz.ntmps93]) ?_
  rw [run_start]
  simp only [ac_z84ie, oo, og, tp, ci, cq, mq, lq, fi, sr, go_sem, contS_seq, simprocAttr]
  (repeat' (first | (refine GifP.mk (fun _ => ?_) (fun _ => ?_)) | (refine Gif.mk (fun _ => ?_) (fun _ => ?_)) | (refine (ref1_Label _ hs).callW (enters_of Tryz.func89 rfl rfl) _ rfl rfl ?_; rintro _ rfl; try simp only [go_sem, contS_seq, simprocAttr]))) <;> (simp only [retK, resD, St.get, lk, oneD, D.pub, D.pubs, retL, reduceIte, Nat.reduceEqDiff, Nat.reduceAdd, Nat.reduceLeDiff, Tryz.results93]; exact ⟨_, rfl, rfl, congrArg bln (by first | rfl | (rw [Bool.eq_iff_iff]; simp only [labValue]; simp; done) | (rw [Bool.eq_iff_iff]; simp only [labValue]; simp; omega) | (rw [Bool.eq_iff_iff]; simp only [labValue]; simp [*]; done) | (rw [Bool.eq_iff_iff]; simp only [labValue]; simp [*]; omega) | (simp_all [labValue]; done) | (exfalso; omega))⟩)

theorem mayRef_iff (r : ARef) : mayRef r = true ↔ (r.kind = 1 ∧ r.space = ⟨#[]⟩ ∧ dname r.name = true) ∨ (r.kind = 2 ∧ r.space = ⟨#[]⟩ ∧ label r.name = true) ∨ (3 ≤ r.kind ∧ r.kind ≤ 7 ∧ label r.space = true ∧ dname r.name = true) := by
  unfold mayRef
  split
  · rename_i h
    simp [h]
  · split
    · rename_i h1 h
      simp [h]
    · rename_i h1 h2
      simp only [okind, Bool.and_eq_true, decide_eq_true_eq]
      constructor
      · rintro ⟨⟨⟨h3, h4⟩, h5⟩, h6⟩
        exact .inr (.inr ⟨by omega, h4, h5, h6⟩)
      · rintro (⟨h3, _⟩ | ⟨h3, _⟩ | ⟨h3, h4, h5, h6⟩)
        · exact absurd h3 h1
        · exact absurd h3 h2
        · exact ⟨⟨⟨by omega, h4⟩, h5⟩, h6⟩

set_option maxHeartbeats 2000000 in
theorem ref9_MayRef (r : ARef) (h1 : r.space.size ≤ 1000000) (h2 : r.name.size ≤ 1000000) : Pure Tryz.prog 54 [r.d] (fun d => d = bln (mayRef r)) := by
  refine pure_of_run follows an_zvuu8 Tryz.func54 rfl ok_zvuu8.1 ok_zvuu8.2 (by simp [Tryz.ntmps54]) ?_
  rw [run_start]
  simp only [ac_zvuu8, oo, og, tp, ci, cq, mq, lq, fi, sr, go_sem, contS_seq, simprocAttr]
  (repeat' (first | (refine GifP.mk (fun _ => ?_) (fun _ => ?_)) | (refine Gif.mk (fun _ => ?_) (fun _ => ?_)) | ((first | refine (ref1_Label r.name h2).callW (enters_of Tryz.func89 rfl rfl) _ rfl rfl ?_ | refine (ref1_Label r.space h1).callW (enters_of Tryz.func89 rfl rfl) _ rfl rfl ?_ | refine (ref1_Name r.name).callW (enters_of Tryz.func88 rfl rfl) _ rfl rfl ?_); rintro _ rfl; try simp only [go_sem, contS_seq, simprocAttr]))) <;> (simp only [retK, resD, St.get, lk, oneD, D.pub, D.pubs, retL, reduceIte, Nat.reduceEqDiff, Nat.reduceAdd, Nat.reduceLeDiff, Tryz.results54]; exact ⟨_, rfl, rfl, congrArg bln (by rw [Bool.eq_iff_iff, mayRef_iff]; first | (simp_all; done) | (simp_all; omega) | (have q1 : ¬ r.kind = 1 ∧ ¬ r.kind = 2 ∧ 3 ≤ r.kind ∧ r.kind ≤ 7 := (by omega); simp_all; done) | (have q1 : ¬ r.kind = 1 ∧ ¬ r.kind = 2 ∧ ¬ 3 ≤ r.kind := (by omega); simp_all; done))⟩)

theorem listenerMay_iff (l : AListener) : listenerMay l = true ↔ ((l.tls = true → l.cert.kind = 4 ∧ labValue l.cert.space = true ∧ dname l.cert.name = true) ∧ (l.tls = false → l.cert.kind = 0 ∧ l.cert.space = ⟨#[]⟩ ∧ l.cert.name = ⟨#[]⟩)) ∧
    label l.name = true ∧ oport l.port = true ∧ hostMay l.host = true ∧ 0 ≤ l.from_ ∧ l.from_ ≤ 2 ∧ needsMay l.needs = true ∧ (l.from_ = 2 ∨ l.needs.length = 0) := by
  simp only [listenerMay, Bool.and_eq_true, Bool.or_eq_true, decide_eq_true_eq]
  cases htls : l.tls <;> simp [and_assoc]

theorem every_iff {α : Type} (p : α → Bool) (l : List α) (n : Int) : every p l n = true ↔ (l.length : Int) ≤ n ∧ ∀ (j : Nat) (x : α), l[j]? = some x → p x = true := by
  simp only [every, Bool.and_eq_true, decide_eq_true_eq, all_at]

theorem gatewayMay_iff (s : ByteArray) (l : List AListener) : gatewayMay s l = true ↔ (dname s = true ∧ 0 < l.length ∧ l.length ≤ 8) ∧
    ∀ (j : Nat) (x : AListener), l[j]? = some x → listenerMay x = true ∧ ∀ (k : Nat) (y : AListener), k < j → l[k]? = some y → ¬ y.name = x.name := by
  simp only [gatewayMay, Bool.and_eq_true, decide_eq_true_eq, every_iff, Bool.not_eq_true', tw_iff, lisName, decide_eq_false_iff_not]
  constructor
  · rintro ⟨⟨⟨h1, h2⟩, h3, h4⟩, h5⟩
    exact ⟨⟨h1, h2, by omega⟩, fun j x hx => ⟨h4 j x hx, fun k y hk hy e => h5 j x hx k y hk hy e.symm⟩⟩
  · rintro ⟨⟨h1, h2, h3⟩, h4⟩
    exact ⟨⟨⟨h1, h2⟩, by omega, fun j x hx => (h4 j x hx).1⟩, fun j x hx k y hk hy e => (h4 j x hx).2 k y hk hy e.symm⟩

theorem routeMay_iff (ps : List AParent) (hs : List ByteArray) (rs : List ARule) : routeMay ps hs rs = true ↔ (ps.length ≤ 4 ∧ hs.length ≤ 4 ∧ rs.length ≤ 6) ∧
    (∀ (j : Nat) (x : AParent), ps[j]? = some x → parentMay x = true ∧ ∀ (k : Nat) (y : AParent), k < j → ps[k]? = some y → ¬ y = x) ∧
    (∀ (j : Nat) (x : ByteArray), hs[j]? = some x → patMay x = true ∧ ∀ (k : Nat) (y : ByteArray), k < j → hs[k]? = some y → ¬ y = x) ∧
    ∀ (j : Nat) (x : ARule), rs[j]? = some x → ruleMay x = true := by
  simp only [routeMay, Bool.and_eq_true, every_iff, Bool.not_eq_true', Bool.or_eq_false_iff, tw_iff, parSame, strSame, decide_eq_false_iff_not]
  constructor
  · rintro ⟨⟨⟨⟨h1, h2⟩, h3, h4⟩, h5, h6⟩, h7, h8⟩
    exact ⟨⟨by omega, by omega, by omega⟩, fun j x hx => ⟨h4 j x hx, fun k y hk hy e => h1 j x hx k y hk hy e.symm⟩, fun j x hx => ⟨h6 j x hx, fun k y hk hy e => h2 j x hx k y hk hy e.symm⟩, h8⟩
  · rintro ⟨⟨h1, h2, h3⟩, h4, h5, h6⟩
    exact ⟨⟨⟨⟨fun j x hx k y hk hy e => (h4 j x hx).2 k y hk hy e.symm, fun j x hx k y hk hy e => (h5 j x hx).2 k y hk hy e.symm⟩, by omega, fun j x hx => (h4 j x hx).1⟩, by omega, fun j x hx => (h5 j x hx).1⟩, by omega, h6⟩

theorem ruleMay_iff (r : ARule) : ruleMay r = true ↔ (r.matches_.length ≤ 4 ∧ r.backends.length ≤ 4 ∧ filtersAll r.filters = true) ∧ (∀ (j : Nat) (x : AMatch), r.matches_[j]? = some x → matchMay x = true) ∧ ∀ (j : Nat) (x : ABackend), r.backends[j]? = some x → backendMay x = true := by
  simp only [ruleMay, Bool.and_eq_true, every_iff]
  constructor
  · rintro ⟨⟨⟨h1, h2⟩, h3⟩, h4, h5⟩; exact ⟨⟨by omega, by omega, h3⟩, h2, h5⟩
  · rintro ⟨⟨h1, h2, h3⟩, h4, h5⟩; exact ⟨⟨⟨by omega, h4⟩, h3⟩, by omega, h5⟩

theorem grantMay_iff (f t : List ASide) : grantMay f t = true ↔ (0 < f.length ∧ f.length ≤ 4 ∧ 0 < t.length ∧ t.length ≤ 4) ∧ (∀ (j : Nat) (x : ASide), f[j]? = some x → sideFrom x = true) ∧ ∀ (j : Nat) (x : ASide), t[j]? = some x → sideTo x = true := by
  simp only [grantMay, Bool.and_eq_true, every_iff, decide_eq_true_eq]
  constructor
  · rintro ⟨⟨⟨h1, h2⟩, h3, h4⟩, h5, h6⟩; exact ⟨⟨h1, by omega, h2, by omega⟩, h4, h6⟩
  · rintro ⟨⟨h1, h2, h3, h4⟩, h5, h6⟩; exact ⟨⟨⟨h1, h3⟩, by omega, h5⟩, by omega, h6⟩

theorem backendMay_iff (b : ABackend) : backendMay b = true ↔ okind b.ref.kind = true ∧ labValue b.ref.space = true ∧ dname b.ref.name = true ∧ (b.port = 0 ∨ oport b.port = true) ∧ 0 ≤ b.weight ∧ b.weight ≤ 1000 := by
  simp only [backendMay, Bool.and_eq_true, Bool.or_eq_true, decide_eq_true_eq, and_assoc]

theorem parentMay_iff (p : AParent) : parentMay p = true ↔ labValue p.space = true ∧ dname p.name = true ∧ labValue p.section_ = true ∧ (p.port = 0 ∨ oport p.port = true) := by
  simp only [parentMay, Bool.and_eq_true, Bool.or_eq_true, decide_eq_true_eq, and_assoc]

theorem sideFrom_iff (s : ASide) : sideFrom s = true ↔ okind s.kind = true ∧ label s.space = true ∧ s.name = ⟨#[]⟩ := by
  simp only [sideFrom, Bool.and_eq_true, decide_eq_true_eq, and_assoc]

theorem sideTo_iff (s : ASide) : sideTo s = true ↔ okind s.kind = true ∧ s.space = ⟨#[]⟩ ∧ (s.name = ⟨#[]⟩ ∨ dname s.name = true) := by
  simp only [sideTo, Bool.and_eq_true, Bool.or_eq_true, decide_eq_true_eq, and_assoc]

theorem patMay_iff (s : ByteArray) : patMay s = true ↔ ¬ s = ⟨#[]⟩ ∧ hostMay s = true := by
  simp only [patMay, Bool.and_eq_true, Bool.not_eq_true', decide_eq_false_iff_not]

set_option maxHeartbeats 4000000 in
theorem ref9_rule (r : ARule) (h : r.ok) (hm : ∀ m ∈ r.matches_, m.method.size ≤ 1000000) (hf : ∀ f ∈ r.filters, f.host.size ≤ 1000000 ∧ f.path.size ≤ 1000000) (hb : ∀ b ∈ r.backends, b.ref.space.size ≤ 1000000) : Pure Tryz.prog 94 [r.d] (fun d => d = bln (ruleMay r)) := by
  have hml := h.ml
  have hfl := h.fl
  have hbl := h.bl
  refine pure_of_run follows an_zn5zf Tryz.func94 rfl ok_zn5zf.1 ok_zn5zf.2 (by simp [Tryz.ntmps94]) ?_
  rw [run_start]
  have key : ¬ (r.matches_.length ≤ 4 ∧ r.backends.length ≤ 4 ∧ filtersAll r.filters = true) → bln false = bln (ruleMay r) := fun hn => bool_no fun e => hn ((ruleMay_iff r).1 e).1
  simp only [ac_zn5zf, oo, og, tp, ci, cq, mq, lq, fi, sr, go_sem, contS_seq, simprocAttr, rows_len]
  repeat' (first | refine GifP.mk (fun _ => ?_) (fun _ => ?_) | refine Gif.mk (fun _ => ?_) (fun _ => ?_) | (refine (ref7_All r.filters hfl h.f hf).callW (enters_of Tryz.func141 rfl rfl) _ rfl rfl ?_; rintro _ rfl; simp only [go_sem, contS_seq, simprocAttr, rows_len]) | refine And.intro ?_ ?_)
  all_goals first
    | (simp only [retK, resD, St.get, lk, oneD, D.pub, D.pubs, retL, reduceIte, Nat.reduceEqDiff, Nat.reduceAdd, Nat.reduceLeDiff, Tryz.results94]; exact ⟨_, rfl, rfl, key (by first | omega | (simp_all; done) | (simp_all; omega))⟩)
    | skip
  have hA : r.matches_.length ≤ 4 ∧ r.backends.length ≤ 4 ∧ filtersAll r.filters = true := ⟨by omega, by omega, by assumption⟩
  clear key
  refine loopS (fun k st => ∃ i : Nat, k = r.matches_.length - i ∧ i ≤ r.matches_.length ∧ (∀ (j : Nat) (x : AMatch), j < i → r.matches_[j]? = some x → matchMay x = true) ∧ st = ⟨[(1, .ptr 1 0), (3, int i)], [(1, [.pd (.slice (rows AMatch.pd r.matches_)), .pd (.slice (rows AFilter.pd r.filters)), .pd (.slice (rows ABackend.pd r.backends))])], [], .no⟩) r.matches_.length _ ?_ ⟨0, rfl, by omega, fun _ _ h => absurd h (Nat.not_lt_zero _), rfl⟩ ?_
  · exact lessA
  rintro k st ⟨i, rfl, hi, hT, rfl⟩
  have hw := i64_succ (show i < 1000000000 by omega)
  by_cases hlt : i < r.matches_.length
  · obtain ⟨x, hx⟩ := at_lt hlt
    have hmem := List.mem_of_getElem? hx
    have h1 : ((i : Int) < (r.matches_.length : Int)) = True := eq_true (by omega)
    have good : (matchMay x = true) → ∀ st, Weak Tryz.prog st ⟨[(1, .ptr 1 0), (3, int (i + 1 : Nat))], [(1, [.pd (.slice (rows AMatch.pd r.matches_)), .pd (.slice (rows AFilter.pd r.filters)), .pd (.slice (rows ABackend.pd r.backends))])], [], .no⟩ → Round Tryz.prog (fun k st => ∃ i : Nat, k = r.matches_.length - i ∧ i ≤ r.matches_.length ∧ (∀ (j : Nat) (x : AMatch), j < i → r.matches_[j]? = some x → matchMay x = true) ∧ st = ⟨[(1, .ptr 1 0), (3, int i)], [(1, [.pd (.slice (rows AMatch.pd r.matches_)), .pd (.slice (rows AFilter.pd r.filters)), .pd (.slice (rows ABackend.pd r.backends))])], [], .no⟩) (r.matches_.length - i) st := fun h st hw => ⟨r.matches_.length - (i + 1), _, by omega, hw, i + 1, rfl, by omega, snoc_all hT hx h, rfl⟩
    have bad : ¬ (matchMay x = true) → bln false = bln (ruleMay r) := fun h => bool_no fun e => h (((ruleMay_iff r).1 e).2.1 i x hx)
    simp only [go_sem, contS_seq, simprocAttr, rows_len, rows_get hx, h1, hw]
    repeat' (first | refine GifP.mk (fun _ => ?_) (fun _ => ?_) | refine Gif.mk (fun _ => ?_) (fun _ => ?_) | (refine (ref6_May x (h.m x hmem) (hm x hmem)).callW (enters_of Tryz.func142 rfl rfl) _ rfl rfl ?_; rintro _ rfl; simp only [go_sem, contS_seq, simprocAttr, rows_len, rows_get hx, hw]) | refine And.intro ?_ ?_)
    all_goals first
      | (refine good (by assumption) _ ?_; exact lessA)
      | (simp only [retK, resD, St.get, lk, oneD, D.pub, D.pubs, retL, reduceIte, Nat.reduceEqDiff, Nat.reduceAdd, Nat.reduceLeDiff, Tryz.results94]; exact ⟨_, rfl, rfl, bad (by simp_all)⟩)
  have h1 : ((i : Int) < (r.matches_.length : Int)) = False := eq_false (by omega)
  have hMatch : ∀ (j : Nat) (x : AMatch), r.matches_[j]? = some x → matchMay x = true := fun j x hx => hT j x (by have := (List.getElem?_eq_some_iff.1 hx).1; omega) hx
  clear hT hw hi
  simp only [go_sem, contS_seq, simprocAttr, rows_len, h1]
  first | clear h1 hlt i | clear h1 hlt
  refine loopS (fun k st => ∃ i : Nat, k = r.backends.length - i ∧ i ≤ r.backends.length ∧ (∀ (j : Nat) (x : ABackend), j < i → r.backends[j]? = some x → backendMay x = true) ∧ st = ⟨[(1, .ptr 1 0), (4, int i)], [(1, [.pd (.slice (rows AMatch.pd r.matches_)), .pd (.slice (rows AFilter.pd r.filters)), .pd (.slice (rows ABackend.pd r.backends))])], [], .no⟩) r.backends.length _ ?_ ⟨0, rfl, by omega, fun _ _ h => absurd h (Nat.not_lt_zero _), rfl⟩ ?_
  · exact lessA
  rintro k st ⟨i, rfl, hi, hT, rfl⟩
  have hw := i64_succ (show i < 1000000000 by omega)
  by_cases hlt : i < r.backends.length
  · obtain ⟨x, hx⟩ := at_lt hlt
    have hmem := List.mem_of_getElem? hx
    have h1 : ((i : Int) < (r.backends.length : Int)) = True := eq_true (by omega)
    have good : (backendMay x = true) → ∀ st, Weak Tryz.prog st ⟨[(1, .ptr 1 0), (4, int (i + 1 : Nat))], [(1, [.pd (.slice (rows AMatch.pd r.matches_)), .pd (.slice (rows AFilter.pd r.filters)), .pd (.slice (rows ABackend.pd r.backends))])], [], .no⟩ → Round Tryz.prog (fun k st => ∃ i : Nat, k = r.backends.length - i ∧ i ≤ r.backends.length ∧ (∀ (j : Nat) (x : ABackend), j < i → r.backends[j]? = some x → backendMay x = true) ∧ st = ⟨[(1, .ptr 1 0), (4, int i)], [(1, [.pd (.slice (rows AMatch.pd r.matches_)), .pd (.slice (rows AFilter.pd r.filters)), .pd (.slice (rows ABackend.pd r.backends))])], [], .no⟩) (r.backends.length - i) st := fun h st hw => ⟨r.backends.length - (i + 1), _, by omega, hw, i + 1, rfl, by omega, snoc_all hT hx h, rfl⟩
    have bad : ¬ (backendMay x = true) → bln false = bln (ruleMay r) := fun h => bool_no fun e => h (((ruleMay_iff r).1 e).2.2 i x hx)
    simp only [go_sem, contS_seq, simprocAttr, rows_len, rows_get hx, h1, hw]
    repeat' (first | refine GifP.mk (fun _ => ?_) (fun _ => ?_) | refine Gif.mk (fun _ => ?_) (fun _ => ?_) | (refine (ref9_kind x.ref.kind).callW (enters_of Tryz.func95 rfl rfl) _ rfl rfl ?_; rintro _ rfl; simp only [go_sem, contS_seq, simprocAttr, rows_len, rows_get hx, hw]) | (refine (ref9_near x.ref.space (hb x hmem)).callW (enters_of Tryz.func93 rfl rfl) _ rfl rfl ?_; rintro _ rfl; simp only [go_sem, contS_seq, simprocAttr, rows_len, rows_get hx, hw]) | (refine (ref1_Name x.ref.name).callW (enters_of Tryz.func88 rfl rfl) _ rfl rfl ?_; rintro _ rfl; simp only [go_sem, contS_seq, simprocAttr, rows_len, rows_get hx, hw]) | (refine (ref9_port x.port).callW (enters_of Tryz.func56 rfl rfl) _ rfl rfl ?_; rintro _ rfl; simp only [go_sem, contS_seq, simprocAttr, rows_len, rows_get hx, hw]) | refine And.intro ?_ ?_)
    all_goals first
      | (refine good ((backendMay_iff x).2 (by first | (simp_all; done) | (simp_all; omega))) _ ?_; exact lessA)
      | (simp only [retK, resD, St.get, lk, oneD, D.pub, D.pubs, retL, reduceIte, Nat.reduceEqDiff, Nat.reduceAdd, Nat.reduceLeDiff, Tryz.results94]; exact ⟨_, rfl, rfl, bad (by rw [backendMay_iff]; first | (simp_all; done) | (simp_all; omega) | (intro hh; simp_all; omega))⟩)
  have h1 : ((i : Int) < (r.backends.length : Int)) = False := eq_false (by omega)
  have hBack : ∀ (j : Nat) (x : ABackend), r.backends[j]? = some x → backendMay x = true := fun j x hx => hT j x (by have := (List.getElem?_eq_some_iff.1 hx).1; omega) hx
  clear hT hw hi
  simp only [go_sem, contS_seq, simprocAttr, rows_len, h1]
  first | clear h1 hlt i | clear h1 hlt
  simp only [retK, resD, St.get, lk, oneD, D.pub, D.pubs, retL, reduceIte, Nat.reduceEqDiff, Nat.reduceAdd, Nat.reduceLeDiff, Tryz.results94]
  exact ⟨_, rfl, rfl, bool_yes ((ruleMay_iff r).2 ⟨hA, hMatch, hBack⟩)⟩

set_option maxHeartbeats 4000000 in
theorem ref9_grant (o : AObj) (h : o.ok) (hs : ∀ s ∈ o.from_, s.space.size ≤ 1000000) : Pure Tryz.prog 59 [o.d] (fun d => d = bln (grantMay o.from_ o.to_)) := by
  have hfr := h.fr
  have hto := h.to
  refine pure_of_run follows an_zrloc Tryz.func59 rfl ok_zrloc.1 ok_zrloc.2 (by simp [Tryz.ntmps59]) ?_
  rw [run_start]
  simp only [ac_zrloc, oo, og, tp, ci, cq, mq, lq, fi, sr, go_sem, contS_seq, simprocAttr, rows_len]
  refine loopS (fun k st => ∃ i : Nat, k = o.from_.length - i ∧ i ≤ o.from_.length ∧ (∀ (j : Nat) (x : ASide), j < i → o.from_[j]? = some x → sideFrom x = true) ∧ st = ⟨[(1, .ptr 1 0), (3, int i)], [(1, o.ds)], [], .no⟩) o.from_.length _ ?_ ⟨0, rfl, by omega, fun _ _ h => absurd h (Nat.not_lt_zero _), rfl⟩ ?_
  · exact lessA
  rintro k st ⟨i, rfl, hi, hT, rfl⟩
  have hw := i64_succ (show i < 1000000000 by omega)
  by_cases hlt : i < o.from_.length
  · obtain ⟨x, hx⟩ := at_lt hlt
    have hmem := List.mem_of_getElem? hx
    have h1 : ((i : Int) < (o.from_.length : Int)) = True := eq_true (by omega)
    have good : (sideFrom x = true) → ∀ st, Weak Tryz.prog st ⟨[(1, .ptr 1 0), (3, int (i + 1 : Nat))], [(1, o.ds)], [], .no⟩ → Round Tryz.prog (fun k st => ∃ i : Nat, k = o.from_.length - i ∧ i ≤ o.from_.length ∧ (∀ (j : Nat) (x : ASide), j < i → o.from_[j]? = some x → sideFrom x = true) ∧ st = ⟨[(1, .ptr 1 0), (3, int i)], [(1, o.ds)], [], .no⟩) (o.from_.length - i) st := fun h st hw => ⟨o.from_.length - (i + 1), _, by omega, hw, i + 1, rfl, by omega, snoc_all hT hx h, rfl⟩
    have bad : ¬ (sideFrom x = true) → bln false = bln (grantMay o.from_ o.to_) := fun h => bool_no fun e => h (((grantMay_iff _ _).1 e).2.1 i x hx)
    simp only [go_sem, contS_seq, simprocAttr, rows_len, rows_get hx, h1, hw]
    repeat' (first | refine GifP.mk (fun _ => ?_) (fun _ => ?_) | refine Gif.mk (fun _ => ?_) (fun _ => ?_) | (refine (ref9_kind x.kind).callW (enters_of Tryz.func95 rfl rfl) _ rfl rfl ?_; rintro _ rfl; simp only [go_sem, contS_seq, simprocAttr, rows_len, rows_get hx, hw]) | (refine (ref1_Label x.space (hs x hmem)).callW (enters_of Tryz.func89 rfl rfl) _ rfl rfl ?_; rintro _ rfl; simp only [go_sem, contS_seq, simprocAttr, rows_len, rows_get hx, hw]) | refine And.intro ?_ ?_)
    all_goals first
      | (refine good ((sideFrom_iff x).2 (by simp_all)) _ ?_; exact lessA)
      | (simp only [retK, resD, St.get, lk, oneD, D.pub, D.pubs, retL, reduceIte, Nat.reduceEqDiff, Nat.reduceAdd, Nat.reduceLeDiff, Tryz.results59]; exact ⟨_, rfl, rfl, bad (by rw [sideFrom_iff]; simp_all)⟩)
  have h1 : ((i : Int) < (o.from_.length : Int)) = False := eq_false (by omega)
  have hFrom : ∀ (j : Nat) (x : ASide), o.from_[j]? = some x → sideFrom x = true := fun j x hx => hT j x (by have := (List.getElem?_eq_some_iff.1 hx).1; omega) hx
  clear hT hw hi
  simp only [go_sem, contS_seq, simprocAttr, rows_len, h1]
  first | clear h1 hlt i | clear h1 hlt
  refine loopS (fun k st => ∃ i : Nat, k = o.to_.length - i ∧ i ≤ o.to_.length ∧ (∀ (j : Nat) (x : ASide), j < i → o.to_[j]? = some x → sideTo x = true) ∧ st = ⟨[(1, .ptr 1 0), (4, int i)], [(1, o.ds)], [], .no⟩) o.to_.length _ ?_ ⟨0, rfl, by omega, fun _ _ h => absurd h (Nat.not_lt_zero _), rfl⟩ ?_
  · exact lessA
  rintro k st ⟨i, rfl, hi, hT, rfl⟩
  have hw := i64_succ (show i < 1000000000 by omega)
  by_cases hlt : i < o.to_.length
  · obtain ⟨x, hx⟩ := at_lt hlt
    have hmem := List.mem_of_getElem? hx
    have h1 : ((i : Int) < (o.to_.length : Int)) = True := eq_true (by omega)
    have good : (sideTo x = true) → ∀ st, Weak Tryz.prog st ⟨[(1, .ptr 1 0), (4, int (i + 1 : Nat))], [(1, o.ds)], [], .no⟩ → Round Tryz.prog (fun k st => ∃ i : Nat, k = o.to_.length - i ∧ i ≤ o.to_.length ∧ (∀ (j : Nat) (x : ASide), j < i → o.to_[j]? = some x → sideTo x = true) ∧ st = ⟨[(1, .ptr 1 0), (4, int i)], [(1, o.ds)], [], .no⟩) (o.to_.length - i) st := fun h st hw => ⟨o.to_.length - (i + 1), _, by omega, hw, i + 1, rfl, by omega, snoc_all hT hx h, rfl⟩
    have bad : ¬ (sideTo x = true) → bln false = bln (grantMay o.from_ o.to_) := fun h => bool_no fun e => h (((grantMay_iff _ _).1 e).2.2 i x hx)
    simp only [go_sem, contS_seq, simprocAttr, rows_len, rows_get hx, h1, hw]
    repeat' (first | refine GifP.mk (fun _ => ?_) (fun _ => ?_) | refine Gif.mk (fun _ => ?_) (fun _ => ?_) | (refine (ref9_kind x.kind).callW (enters_of Tryz.func95 rfl rfl) _ rfl rfl ?_; rintro _ rfl; simp only [go_sem, contS_seq, simprocAttr, rows_len, rows_get hx, hw]) | (refine (ref1_Name x.name).callW (enters_of Tryz.func88 rfl rfl) _ rfl rfl ?_; rintro _ rfl; simp only [go_sem, contS_seq, simprocAttr, rows_len, rows_get hx, hw]) | refine And.intro ?_ ?_)
    all_goals first
      | (refine good ((sideTo_iff x).2 (by simp_all)) _ ?_; exact lessA)
      | (simp only [retK, resD, St.get, lk, oneD, D.pub, D.pubs, retL, reduceIte, Nat.reduceEqDiff, Nat.reduceAdd, Nat.reduceLeDiff, Tryz.results59]; exact ⟨_, rfl, rfl, bad (by rw [sideTo_iff]; simp_all)⟩)
  have h1 : ((i : Int) < (o.to_.length : Int)) = False := eq_false (by omega)
  have hTo : ∀ (j : Nat) (x : ASide), o.to_[j]? = some x → sideTo x = true := fun j x hx => hT j x (by have := (List.getElem?_eq_some_iff.1 hx).1; omega) hx
  clear hT hw hi
  simp only [go_sem, contS_seq, simprocAttr, rows_len, h1]
  first | clear h1 hlt i | clear h1 hlt
  repeat' (first | refine GifP.mk (fun _ => ?_) (fun _ => ?_) | refine Gif.mk (fun _ => ?_) (fun _ => ?_))
  all_goals
    simp only [retK, resD, St.get, lk, oneD, D.pub, D.pubs, retL, reduceIte, Nat.reduceEqDiff, Nat.reduceAdd, Nat.reduceLeDiff, Tryz.results59]
    first
      | exact ⟨_, rfl, rfl, bool_no fun e => by have := ((grantMay_iff _ _).1 e).1; omega⟩
      | exact ⟨_, rfl, rfl, bool_dec ⟨fun h => (grantMay_iff _ _).2 ⟨by omega, hFrom, hTo⟩, fun h => by have := ((grantMay_iff _ _).1 h).1; omega⟩⟩

set_option maxHeartbeats 8000000 in
theorem ref9_gateway (o : AObj) (h : o.ok) (hs : ∀ l ∈ o.listeners, l.name.size ≤ 1000000 ∧ l.cert.space.size ≤ 1000000 ∧ ∀ n ∈ l.needs, ∀ s ∈ n.vals, s.size ≤ 1000000) : Pure Tryz.prog 57 [o.d] (fun d => d = bln (gatewayMay o.cls o.listeners)) := by
  have hli := h.li
  refine pure_of_run follows an_zlyo9 Tryz.func57 rfl ok_zlyo9.1 ok_zlyo9.2 (by simp [Tryz.ntmps57]) ?_
  rw [run_start]
  simp only [ac_zlyo9, oo, og, tp, ci, cq, mq, lq, fi, sr, go_sem, contS_seq, simprocAttr, rows_len]
  refine loopS (fun k st => ∃ i : Nat, k = o.listeners.length - i ∧ i ≤ o.listeners.length ∧ (∀ (j : Nat) (x : AListener), j < i → o.listeners[j]? = some x → listenerMay x = true ∧ ∀ (k : Nat) (y : AListener), k < (j) → o.listeners[k]? = some y → ¬ y.name = x.name) ∧ st = ⟨[(1, .ptr 1 0), (3, .pd (.slice (rows AListener.pd o.listeners))), (4, int i)], [(1, o.ds)], [], .no⟩) o.listeners.length _ ?_ ⟨0, rfl, by omega, fun _ _ h => absurd h (Nat.not_lt_zero _), rfl⟩ ?_
  · exact lessA
  rintro k st ⟨i, rfl, hi, hT, rfl⟩
  have hw := i64_succ (show i < 1000000000 by omega)
  by_cases hlt : i < o.listeners.length
  · obtain ⟨x, hx⟩ := at_lt hlt
    have hmem := List.mem_of_getElem? hx
    have h1 : ((i : Int) < (o.listeners.length : Int)) = True := eq_true (by omega)
    have good : (listenerMay x = true ∧ ∀ (k : Nat) (y : AListener), k < i → o.listeners[k]? = some y → ¬ y.name = x.name) → ∀ st, Weak Tryz.prog st ⟨[(1, .ptr 1 0), (3, .pd (.slice (rows AListener.pd o.listeners))), (4, int (i + 1 : Nat))], [(1, o.ds)], [], .no⟩ → Round Tryz.prog (fun k st => ∃ i : Nat, k = o.listeners.length - i ∧ i ≤ o.listeners.length ∧ (∀ (j : Nat) (x : AListener), j < i → o.listeners[j]? = some x → listenerMay x = true ∧ ∀ (k : Nat) (y : AListener), k < (j) → o.listeners[k]? = some y → ¬ y.name = x.name) ∧ st = ⟨[(1, .ptr 1 0), (3, .pd (.slice (rows AListener.pd o.listeners))), (4, int i)], [(1, o.ds)], [], .no⟩) (o.listeners.length - i) st := fun h st hw => ⟨o.listeners.length - (i + 1), _, by omega, hw, i + 1, rfl, by omega, snoc_all hT hx h, rfl⟩
    have bad : ¬ (listenerMay x = true ∧ ∀ (k : Nat) (y : AListener), k < i → o.listeners[k]? = some y → ¬ y.name = x.name) → bln false = bln (gatewayMay o.cls o.listeners) := fun h => bool_no fun e => h (((gatewayMay_iff _ _).1 e).2 i x hx)
    simp only [go_sem, contS_seq, simprocAttr, rows_len, rows_get hx, h1, hw]
    refine loopS (fun n st => ∃ k : Nat, n = i - k ∧ k ≤ i ∧ (∀ (k' : Nat) (y : AListener), k' < k → o.listeners[k']? = some y → ¬ y.name = x.name) ∧ st = ⟨[(1, .ptr 1 0), (3, .pd (.slice (rows AListener.pd o.listeners))), (4, int i), (5, .ptr 5 0), (6, int k)], [(1, o.ds), (5, x.ds)], [], .no⟩) i _ ?_ ⟨0, rfl, by omega, fun _ _ h => absurd h (Nat.not_lt_zero _), rfl⟩ ?_
    · exact lessA
    rintro n st ⟨k, rfl, hk, hS, rfl⟩
    have hwk := i64_succ (show k < 1000000000 by omega)
    by_cases hki : k < i
    · obtain ⟨y, hy⟩ := at_lt (show k < o.listeners.length by omega)
      have hmy := List.mem_of_getElem? hy
      have h2 : ((k : Int) < (i : Int)) = True := eq_true (by omega)
      have goodk : (¬ y.name = x.name) → ∀ st, Weak Tryz.prog st ⟨[(1, .ptr 1 0), (3, .pd (.slice (rows AListener.pd o.listeners))), (4, int i), (5, .ptr 5 0), (6, int (k + 1 : Nat))], [(1, o.ds), (5, x.ds)], [], .no⟩ → Round Tryz.prog (fun n st => ∃ k : Nat, n = i - k ∧ k ≤ i ∧ (∀ (k' : Nat) (y : AListener), k' < k → o.listeners[k']? = some y → ¬ y.name = x.name) ∧ st = ⟨[(1, .ptr 1 0), (3, .pd (.slice (rows AListener.pd o.listeners))), (4, int i), (5, .ptr 5 0), (6, int k)], [(1, o.ds), (5, x.ds)], [], .no⟩) (i - k) st := fun h st hw => ⟨i - (k + 1), _, by omega, hw, k + 1, rfl, by omega, snoc_all hS hy h, rfl⟩
      have badk : ¬ (¬ y.name = x.name) → bln false = bln (gatewayMay o.cls o.listeners) := fun h => bad (fun e => h (e.2 k y hki hy))
      simp only [go_sem, contS_seq, simprocAttr, rows_len, rows_get hx, rows_get hy, h2, hwk]
      repeat' (first | refine GifP.mk (fun _ => ?_) (fun _ => ?_) | refine Gif.mk (fun _ => ?_) (fun _ => ?_) | refine And.intro ?_ ?_)
      all_goals first
        | (refine goodk (by first | omega | (simp_all; done) | (simp_all; omega)) _ ?_; exact lessA)
        | (simp only [retK, resD, St.get, lk, oneD, D.pub, D.pubs, retL, reduceIte, Nat.reduceEqDiff, Nat.reduceAdd, Nat.reduceLeDiff, Tryz.results57]; exact ⟨_, rfl, rfl, badk (by first | omega | (simp_all; done) | (simp_all; omega))⟩)
    have h2 : ((k : Int) < (i : Int)) = False := eq_false (by omega)
    have hIn : ∀ (k : Nat) (y : AListener), k < i → o.listeners[k]? = some y → ¬ y.name = x.name := fun k' y hk' hy => hS k' y (by omega) hy
    clear hS hwk hk
    simp only [go_sem, contS_seq, simprocAttr, rows_len, rows_get hx, h2, hw]
    first | clear h2 hki k | clear h2 hki
    repeat' (first | refine GifP.mk (fun _ => ?_) (fun _ => ?_) | refine Gif.mk (fun _ => ?_) (fun _ => ?_) | (refine (ref1_Label x.name (hs x hmem).1).callW (enters_of Tryz.func89 rfl rfl) _ rfl rfl ?_; rintro _ rfl; simp only [go_sem, contS_seq, simprocAttr, rows_len, rows_get hx, hw, eqVs, eqV]) | (refine (ref9_port x.port).callW (enters_of Tryz.func56 rfl rfl) _ rfl rfl ?_; rintro _ rfl; simp only [go_sem, contS_seq, simprocAttr, rows_len, rows_get hx, hw, eqVs, eqV]) | (refine (ref2_May x.host).callW (enters_of Tryz.func91 rfl rfl) _ rfl rfl ?_; rintro _ rfl; simp only [go_sem, contS_seq, simprocAttr, rows_len, rows_get hx, hw, eqVs, eqV]) | (refine (ref8_Needs x.needs (h.lis x hmem).nl (h.lis x hmem).n (hs x hmem).2.2).callW (enters_of Tryz.func92 rfl rfl) _ rfl rfl ?_; rintro _ rfl; simp only [go_sem, contS_seq, simprocAttr, rows_len, rows_get hx, hw, eqVs, eqV]) | (refine (ref9_near x.cert.space (hs x hmem).2.1).callW (enters_of Tryz.func93 rfl rfl) _ rfl rfl ?_; rintro _ rfl; simp only [go_sem, contS_seq, simprocAttr, rows_len, rows_get hx, hw, eqVs, eqV]) | (refine (ref1_Name x.cert.name).callW (enters_of Tryz.func88 rfl rfl) _ rfl rfl ?_; rintro _ rfl; simp only [go_sem, contS_seq, simprocAttr, rows_len, rows_get hx, hw, eqVs, eqV]) | refine And.intro ?_ ?_)
    all_goals first
      | (refine good (⟨(listenerMay_iff x).2 (by first | (simp_all; done) | (simp_all; omega)), hIn⟩) _ ?_; exact lessA)
      | (simp only [retK, resD, St.get, lk, oneD, D.pub, D.pubs, retL, reduceIte, Nat.reduceEqDiff, Nat.reduceAdd, Nat.reduceLeDiff, Tryz.results57]; exact ⟨_, rfl, rfl, bad (fun e => by have e1 := (listenerMay_iff x).1 e.1; clear e; first | omega | (simp_all; done) | (simp_all; omega))⟩)
  have h1 : ((i : Int) < (o.listeners.length : Int)) = False := eq_false (by omega)
  have hall : ∀ (j : Nat) (x : AListener), o.listeners[j]? = some x → listenerMay x = true ∧ ∀ (k : Nat) (y : AListener), k < (j) → o.listeners[k]? = some y → ¬ y.name = x.name := fun j x hx => hT j x (by have := (List.getElem?_eq_some_iff.1 hx).1; omega) hx
  clear hT hw hi
  simp only [go_sem, contS_seq, simprocAttr, rows_len, h1]
  first | clear h1 hlt i | clear h1 hlt
  repeat' (first | refine GifP.mk (fun _ => ?_) (fun _ => ?_) | refine Gif.mk (fun _ => ?_) (fun _ => ?_) | (refine (ref1_Name o.cls).callW (enters_of Tryz.func88 rfl rfl) _ rfl rfl ?_; rintro _ rfl; simp only [go_sem, contS_seq, simprocAttr, rows_len]) | refine And.intro ?_ ?_)
  all_goals
    simp only [retK, resD, St.get, lk, oneD, D.pub, D.pubs, retL, reduceIte, Nat.reduceEqDiff, Nat.reduceAdd, Nat.reduceLeDiff, Tryz.results57]
    first
      | exact ⟨_, rfl, rfl, bool_no fun e => by have := ((gatewayMay_iff _ _).1 e).1; first | omega | (simp_all; done)⟩
      | exact ⟨_, rfl, rfl, bool_dec ⟨fun h => (gatewayMay_iff _ _).2 ⟨⟨by assumption, by omega, by omega⟩, hall⟩, fun h => by have := ((gatewayMay_iff _ _).1 h).1; omega⟩⟩

set_option maxHeartbeats 8000000 in
theorem ref9_route (o : AObj) (h : o.ok) (hp : ∀ p ∈ o.parents, p.space.size ≤ 1000000 ∧ p.section_.size ≤ 1000000)
    (hr : ∀ r ∈ o.rules, (∀ m ∈ r.matches_, m.method.size ≤ 1000000) ∧ (∀ f ∈ r.filters, f.host.size ≤ 1000000 ∧ f.path.size ≤ 1000000) ∧ ∀ b ∈ r.backends, b.ref.space.size ≤ 1000000) : Pure Tryz.prog 58 [o.d] (fun d => d = bln (routeMay o.parents o.hosts o.rules)) := by
  have hpa := h.pa
  have hho := h.ho
  have hru := h.ru
  refine pure_of_run follows an_zgo5l Tryz.func58 rfl ok_zgo5l.1 ok_zgo5l.2 (by simp [Tryz.ntmps58]) ?_
  rw [run_start]
  simp only [ac_zgo5l, oo, og, tp, ci, cq, mq, lq, fi, sr, go_sem, contS_seq, simprocAttr, rows_len]
  refine loopS (fun k st => ∃ i : Nat, k = o.parents.length - i ∧ i ≤ o.parents.length ∧ (∀ (j : Nat) (x : AParent), j < i → o.parents[j]? = some x → parentMay x = true ∧ ∀ (k : Nat) (y : AParent), k < (j) → o.parents[k]? = some y → ¬ y = x) ∧ st = ⟨[(1, .ptr 1 0), (3, int i)], [(1, o.ds)], [], .no⟩) o.parents.length _ ?_ ⟨0, rfl, by omega, fun _ _ h => absurd h (Nat.not_lt_zero _), rfl⟩ ?_
  · exact lessA
  rintro k st ⟨i, rfl, hi, hT, rfl⟩
  have hw := i64_succ (show i < 1000000000 by omega)
  by_cases hlt : i < o.parents.length
  · obtain ⟨x, hx⟩ := at_lt hlt
    have hmem := List.mem_of_getElem? hx
    have h1 : ((i : Int) < (o.parents.length : Int)) = True := eq_true (by omega)
    have good : (parentMay x = true ∧ ∀ (k : Nat) (y : AParent), k < i → o.parents[k]? = some y → ¬ y = x) → ∀ st, Weak Tryz.prog st ⟨[(1, .ptr 1 0), (3, int (i + 1 : Nat))], [(1, o.ds)], [], .no⟩ → Round Tryz.prog (fun k st => ∃ i : Nat, k = o.parents.length - i ∧ i ≤ o.parents.length ∧ (∀ (j : Nat) (x : AParent), j < i → o.parents[j]? = some x → parentMay x = true ∧ ∀ (k : Nat) (y : AParent), k < (j) → o.parents[k]? = some y → ¬ y = x) ∧ st = ⟨[(1, .ptr 1 0), (3, int i)], [(1, o.ds)], [], .no⟩) (o.parents.length - i) st := fun h st hw => ⟨o.parents.length - (i + 1), _, by omega, hw, i + 1, rfl, by omega, snoc_all hT hx h, rfl⟩
    have bad : ¬ (parentMay x = true ∧ ∀ (k : Nat) (y : AParent), k < i → o.parents[k]? = some y → ¬ y = x) → bln false = bln (routeMay o.parents o.hosts o.rules) := fun h => bool_no fun e => h (((routeMay_iff _ _ _).1 e).2.1 i x hx)
    simp only [go_sem, contS_seq, simprocAttr, rows_len, rows_get hx, h1, hw]
    repeat' (first | refine GifP.mk (fun _ => ?_) (fun _ => ?_) | refine Gif.mk (fun _ => ?_) (fun _ => ?_) | (refine (ref9_near x.space (hp x hmem).1).callW (enters_of Tryz.func93 rfl rfl) _ rfl rfl ?_; rintro _ rfl; simp only [go_sem, contS_seq, simprocAttr, rows_len, rows_get hx, hw]) | (refine (ref1_Name x.name).callW (enters_of Tryz.func88 rfl rfl) _ rfl rfl ?_; rintro _ rfl; simp only [go_sem, contS_seq, simprocAttr, rows_len, rows_get hx, hw]) | (refine (ref9_near x.section_ (hp x hmem).2).callW (enters_of Tryz.func93 rfl rfl) _ rfl rfl ?_; rintro _ rfl; simp only [go_sem, contS_seq, simprocAttr, rows_len, rows_get hx, hw]) | (refine (ref9_port x.port).callW (enters_of Tryz.func56 rfl rfl) _ rfl rfl ?_; rintro _ rfl; simp only [go_sem, contS_seq, simprocAttr, rows_len, rows_get hx, hw]) | refine And.intro ?_ ?_)
    all_goals first
      | (simp only [retK, resD, St.get, lk, oneD, D.pub, D.pubs, retL, reduceIte, Nat.reduceEqDiff, Nat.reduceAdd, Nat.reduceLeDiff, Tryz.results58]; exact ⟨_, rfl, rfl, bad (fun e => by have e1 := (parentMay_iff x).1 e.1; clear e; first | omega | (simp_all; done) | (simp_all; omega))⟩)
      | skip
    all_goals
      have hmay : parentMay x = true := (parentMay_iff x).2 (by simp_all)
      refine loopS (fun n st => ∃ k : Nat, n = i - k ∧ k ≤ i ∧ (∀ (k' : Nat) (y : AParent), k' < k → o.parents[k']? = some y → ¬ y = x) ∧ st = ⟨[(1, .ptr 1 0), (3, int i), (4, .ptr 4 0), (5, int k)], [(1, o.ds), (4, x.ds)], [], .no⟩) i _ ?_ ⟨0, rfl, by omega, fun _ _ h => absurd h (Nat.not_lt_zero _), rfl⟩ ?_
      · exact lessA
      rintro n st ⟨k, rfl, hk, hS, rfl⟩
      have hwk := i64_succ (show k < 1000000000 by omega)
      by_cases hki : k < i
      · obtain ⟨y, hy⟩ := at_lt (show k < o.parents.length by omega)
        have hmy := List.mem_of_getElem? hy
        have h2 : ((k : Int) < (i : Int)) = True := eq_true (by omega)
        have goodk : (¬ y = x) → ∀ st, Weak Tryz.prog st ⟨[(1, .ptr 1 0), (3, int i), (4, .ptr 4 0), (5, int (k + 1 : Nat))], [(1, o.ds), (4, x.ds)], [], .no⟩ → Round Tryz.prog (fun n st => ∃ k : Nat, n = i - k ∧ k ≤ i ∧ (∀ (k' : Nat) (y : AParent), k' < k → o.parents[k']? = some y → ¬ y = x) ∧ st = ⟨[(1, .ptr 1 0), (3, int i), (4, .ptr 4 0), (5, int k)], [(1, o.ds), (4, x.ds)], [], .no⟩) (i - k) st := fun h st hw => ⟨i - (k + 1), _, by omega, hw, k + 1, rfl, by omega, snoc_all hS hy h, rfl⟩
        have badk : ¬ (¬ y = x) → bln false = bln (routeMay o.parents o.hosts o.rules) := fun h => bad (fun e => h (e.2 k y hki hy))
        simp only [go_sem, contS_seq, simprocAttr, rows_len, rows_get hx, rows_get hy, h2, hwk, eqVs, eqV, eq_Parent]
        repeat' (first | refine GifP.mk (fun _ => ?_) (fun _ => ?_) | refine Gif.mk (fun _ => ?_) (fun _ => ?_) | refine And.intro ?_ ?_)
        all_goals first
          | (refine goodk (by first | omega | (simp_all; done) | (simp_all; omega)) _ ?_; exact lessA)
          | (simp only [retK, resD, St.get, lk, oneD, D.pub, D.pubs, retL, reduceIte, Nat.reduceEqDiff, Nat.reduceAdd, Nat.reduceLeDiff, Tryz.results58]; exact ⟨_, rfl, rfl, badk (by first | omega | (simp_all; done) | (simp_all; omega))⟩)
      have h2 : ((k : Int) < (i : Int)) = False := eq_false (by omega)
      have hIn : ∀ (k : Nat) (y : AParent), k < i → o.parents[k]? = some y → ¬ y = x := fun k' y hk' hy => hS k' y (by omega) hy
      clear hS hwk hk
      simp only [go_sem, contS_seq, simprocAttr, rows_len, rows_get hx, h2, hw, eqVs, eqV, eq_Parent]
      first | clear h2 hki k | clear h2 hki
      refine good ⟨hmay, hIn⟩ _ ?_
      exact lessA
  have h1 : ((i : Int) < (o.parents.length : Int)) = False := eq_false (by omega)
  have hPar : ∀ (j : Nat) (x : AParent), o.parents[j]? = some x → parentMay x = true ∧ ∀ (k : Nat) (y : AParent), k < (j) → o.parents[k]? = some y → ¬ y = x := fun j x hx => hT j x (by have := (List.getElem?_eq_some_iff.1 hx).1; omega) hx
  clear hT hw hi
  simp only [go_sem, contS_seq, simprocAttr, rows_len, h1]
  first | clear h1 hlt i | clear h1 hlt
  refine loopS (fun k st => ∃ i : Nat, k = o.hosts.length - i ∧ i ≤ o.hosts.length ∧ (∀ (j : Nat) (x : ByteArray), j < i → o.hosts[j]? = some x → patMay x = true ∧ ∀ (k : Nat) (y : ByteArray), k < (j) → o.hosts[k]? = some y → ¬ y = x) ∧ st = ⟨[(1, .ptr 1 0), (6, int i)], [(1, o.ds)], [], .no⟩) o.hosts.length _ ?_ ⟨0, rfl, by omega, fun _ _ h => absurd h (Nat.not_lt_zero _), rfl⟩ ?_
  · exact lessA
  rintro k st ⟨i, rfl, hi, hT, rfl⟩
  have hw := i64_succ (show i < 1000000000 by omega)
  by_cases hlt : i < o.hosts.length
  · obtain ⟨x, hx⟩ := at_lt hlt
    have hmem := List.mem_of_getElem? hx
    have h1 : ((i : Int) < (o.hosts.length : Int)) = True := eq_true (by omega)
    have good : (patMay x = true ∧ ∀ (k : Nat) (y : ByteArray), k < i → o.hosts[k]? = some y → ¬ y = x) → ∀ st, Weak Tryz.prog st ⟨[(1, .ptr 1 0), (6, int (i + 1 : Nat))], [(1, o.ds)], [], .no⟩ → Round Tryz.prog (fun k st => ∃ i : Nat, k = o.hosts.length - i ∧ i ≤ o.hosts.length ∧ (∀ (j : Nat) (x : ByteArray), j < i → o.hosts[j]? = some x → patMay x = true ∧ ∀ (k : Nat) (y : ByteArray), k < (j) → o.hosts[k]? = some y → ¬ y = x) ∧ st = ⟨[(1, .ptr 1 0), (6, int i)], [(1, o.ds)], [], .no⟩) (o.hosts.length - i) st := fun h st hw => ⟨o.hosts.length - (i + 1), _, by omega, hw, i + 1, rfl, by omega, snoc_all hT hx h, rfl⟩
    have bad : ¬ (patMay x = true ∧ ∀ (k : Nat) (y : ByteArray), k < i → o.hosts[k]? = some y → ¬ y = x) → bln false = bln (routeMay o.parents o.hosts o.rules) := fun h => bool_no fun e => h (((routeMay_iff _ _ _).1 e).2.2.1 i x hx)
    simp only [go_sem, contS_seq, simprocAttr, rows_len, rows_get hx, h1, hw]
    repeat' (first | refine GifP.mk (fun _ => ?_) (fun _ => ?_) | refine Gif.mk (fun _ => ?_) (fun _ => ?_) | (refine (ref2_May x).callW (enters_of Tryz.func91 rfl rfl) _ rfl rfl ?_; rintro _ rfl; simp only [go_sem, contS_seq, simprocAttr, rows_len, rows_get hx, hw]) | refine And.intro ?_ ?_)
    all_goals first
      | (simp only [retK, resD, St.get, lk, oneD, D.pub, D.pubs, retL, reduceIte, Nat.reduceEqDiff, Nat.reduceAdd, Nat.reduceLeDiff, Tryz.results58]; exact ⟨_, rfl, rfl, bad (fun e => by have e1 := (patMay_iff x).1 e.1; clear e; simp_all)⟩)
      | skip
    all_goals
      have hmay : patMay x = true := (patMay_iff x).2 (by simp_all)
      refine loopS (fun n st => ∃ k : Nat, n = i - k ∧ k ≤ i ∧ (∀ (k' : Nat) (y : ByteArray), k' < k → o.hosts[k']? = some y → ¬ y = x) ∧ st = ⟨[(1, .ptr 1 0), (6, int i), (7, int k)], [(1, o.ds)], [], .no⟩) i _ ?_ ⟨0, rfl, by omega, fun _ _ h => absurd h (Nat.not_lt_zero _), rfl⟩ ?_
      · exact lessA
      rintro n st ⟨k, rfl, hk, hS, rfl⟩
      have hwk := i64_succ (show k < 1000000000 by omega)
      by_cases hki : k < i
      · obtain ⟨y, hy⟩ := at_lt (show k < o.hosts.length by omega)
        have hmy := List.mem_of_getElem? hy
        have h2 : ((k : Int) < (i : Int)) = True := eq_true (by omega)
        have goodk : (¬ y = x) → ∀ st, Weak Tryz.prog st ⟨[(1, .ptr 1 0), (6, int i), (7, int (k + 1 : Nat))], [(1, o.ds)], [], .no⟩ → Round Tryz.prog (fun n st => ∃ k : Nat, n = i - k ∧ k ≤ i ∧ (∀ (k' : Nat) (y : ByteArray), k' < k → o.hosts[k']? = some y → ¬ y = x) ∧ st = ⟨[(1, .ptr 1 0), (6, int i), (7, int k)], [(1, o.ds)], [], .no⟩) (i - k) st := fun h st hw => ⟨i - (k + 1), _, by omega, hw, k + 1, rfl, by omega, snoc_all hS hy h, rfl⟩
        have badk : ¬ (¬ y = x) → bln false = bln (routeMay o.parents o.hosts o.rules) := fun h => bad (fun e => h (e.2 k y hki hy))
        simp only [go_sem, contS_seq, simprocAttr, rows_len, rows_get hx, rows_get hy, h2, hwk]
        repeat' (first | refine GifP.mk (fun _ => ?_) (fun _ => ?_) | refine Gif.mk (fun _ => ?_) (fun _ => ?_) | refine And.intro ?_ ?_)
        all_goals first
          | (refine goodk (by first | omega | (simp_all; done) | (simp_all; omega)) _ ?_; exact lessA)
          | (simp only [retK, resD, St.get, lk, oneD, D.pub, D.pubs, retL, reduceIte, Nat.reduceEqDiff, Nat.reduceAdd, Nat.reduceLeDiff, Tryz.results58]; exact ⟨_, rfl, rfl, badk (by first | omega | (simp_all; done) | (simp_all; omega))⟩)
      have h2 : ((k : Int) < (i : Int)) = False := eq_false (by omega)
      have hIn : ∀ (k : Nat) (y : ByteArray), k < i → o.hosts[k]? = some y → ¬ y = x := fun k' y hk' hy => hS k' y (by omega) hy
      clear hS hwk hk
      simp only [go_sem, contS_seq, simprocAttr, rows_len, rows_get hx, h2, hw]
      first | clear h2 hki k | clear h2 hki
      refine good ⟨hmay, hIn⟩ _ ?_
      exact lessA
  have h1 : ((i : Int) < (o.hosts.length : Int)) = False := eq_false (by omega)
  have hHosts : ∀ (j : Nat) (x : ByteArray), o.hosts[j]? = some x → patMay x = true ∧ ∀ (k : Nat) (y : ByteArray), k < (j) → o.hosts[k]? = some y → ¬ y = x := fun j x hx => hT j x (by have := (List.getElem?_eq_some_iff.1 hx).1; omega) hx
  clear hT hw hi
  simp only [go_sem, contS_seq, simprocAttr, rows_len, h1]
  first | clear h1 hlt i | clear h1 hlt
  refine loopS (fun k st => ∃ i : Nat, k = o.rules.length - i ∧ i ≤ o.rules.length ∧ (∀ (j : Nat) (x : ARule), j < i → o.rules[j]? = some x → ruleMay x = true) ∧ st = ⟨[(1, .ptr 1 0), (8, int i)], [(1, o.ds)], [], .no⟩) o.rules.length _ ?_ ⟨0, rfl, by omega, fun _ _ h => absurd h (Nat.not_lt_zero _), rfl⟩ ?_
  · exact lessA
  rintro k st ⟨i, rfl, hi, hT, rfl⟩
  have hw := i64_succ (show i < 1000000000 by omega)
  by_cases hlt : i < o.rules.length
  · obtain ⟨x, hx⟩ := at_lt hlt
    have hmem := List.mem_of_getElem? hx
    have h1 : ((i : Int) < (o.rules.length : Int)) = True := eq_true (by omega)
    have good : (ruleMay x = true) → ∀ st, Weak Tryz.prog st ⟨[(1, .ptr 1 0), (8, int (i + 1 : Nat))], [(1, o.ds)], [], .no⟩ → Round Tryz.prog (fun k st => ∃ i : Nat, k = o.rules.length - i ∧ i ≤ o.rules.length ∧ (∀ (j : Nat) (x : ARule), j < i → o.rules[j]? = some x → ruleMay x = true) ∧ st = ⟨[(1, .ptr 1 0), (8, int i)], [(1, o.ds)], [], .no⟩) (o.rules.length - i) st := fun h st hw => ⟨o.rules.length - (i + 1), _, by omega, hw, i + 1, rfl, by omega, snoc_all hT hx h, rfl⟩
    have bad : ¬ (ruleMay x = true) → bln false = bln (routeMay o.parents o.hosts o.rules) := fun h => bool_no fun e => h (((routeMay_iff _ _ _).1 e).2.2.2 i x hx)
    simp only [go_sem, contS_seq, simprocAttr, rows_len, rows_get hx, h1, hw]
    repeat' (first | refine GifP.mk (fun _ => ?_) (fun _ => ?_) | refine Gif.mk (fun _ => ?_) (fun _ => ?_) | (refine (ref9_rule x (h.rus x hmem) (hr x hmem).1 (hr x hmem).2.1 (hr x hmem).2.2).callW (enters_of Tryz.func94 rfl rfl) _ rfl rfl ?_; rintro _ rfl; simp only [go_sem, contS_seq, simprocAttr, rows_len, rows_get hx, hw]) | refine And.intro ?_ ?_)
    all_goals first
      | (refine good (by assumption) _ ?_; exact lessA)
      | (simp only [retK, resD, St.get, lk, oneD, D.pub, D.pubs, retL, reduceIte, Nat.reduceEqDiff, Nat.reduceAdd, Nat.reduceLeDiff, Tryz.results58]; exact ⟨_, rfl, rfl, bad (by simp_all)⟩)
  have h1 : ((i : Int) < (o.rules.length : Int)) = False := eq_false (by omega)
  have hRules : ∀ (j : Nat) (x : ARule), o.rules[j]? = some x → ruleMay x = true := fun j x hx => hT j x (by have := (List.getElem?_eq_some_iff.1 hx).1; omega) hx
  clear hT hw hi
  simp only [go_sem, contS_seq, simprocAttr, rows_len, h1]
  first | clear h1 hlt i | clear h1 hlt
  repeat' (first | refine GifP.mk (fun _ => ?_) (fun _ => ?_) | refine Gif.mk (fun _ => ?_) (fun _ => ?_))
  all_goals
    simp only [retK, resD, St.get, lk, oneD, D.pub, D.pubs, retL, reduceIte, Nat.reduceEqDiff, Nat.reduceAdd, Nat.reduceLeDiff, Tryz.results58]
    first
      | exact ⟨_, rfl, rfl, bool_no fun e => by have := ((routeMay_iff _ _ _).1 e).1; omega⟩
      | exact ⟨_, rfl, rfl, bool_dec ⟨fun h => (routeMay_iff _ _ _).2 ⟨⟨by omega, by omega, by omega⟩, hPar, hHosts, hRules⟩, fun h => by have := ((routeMay_iff _ _ _).1 h).1; omega⟩⟩


theorem eqf_dec {α : Type} [DecidableEq α] {q : α → α → Bool} (h : ∀ x y, q x y = decide (x = y)) : ∀ l m : List α, eqf q l m = decide (l = m)
  | [], [] => rfl
  | [], _ :: _ => rfl
  | _ :: _, [] => rfl
  | x :: l, y :: m => by
    simp only [eqf, h, eqf_dec h l m]
    rw [Bool.eq_iff_iff]
    simp

theorem needSame_dec (a b : ANeed) : needSame a b = decide (a = b) := by
  cases a; cases b
  rw [Bool.eq_iff_iff]
  simp [needSame, and_assoc]

theorem listenerSame_dec (a b : AListener) : listenerSame a b = decide (a = b) := by
  simp only [listenerSame, eqf_dec needSame_dec]
  cases a; cases b
  rw [Bool.eq_iff_iff]
  simp [and_assoc]

theorem matchSame_dec (a b : AMatch) : matchSame a b = decide (a = b) := by
  cases a; cases b
  rw [Bool.eq_iff_iff]
  simp [matchSame, and_assoc]

theorem ruleSame_dec (a b : ARule) : ruleSame a b = decide (a = b) := by
  simp only [ruleSame, eqf_dec matchSame_dec]
  cases a; cases b
  rw [Bool.eq_iff_iff]
  simp [and_assoc]

theorem objSame_iff (a b : AObj) : objSame a b = true ↔ a = b := by
  simp only [objSame, eqf_dec listenerSame_dec, eqf_dec ruleSame_dec]
  cases a; cases b
  simp [and_assoc]
  intro _ _
  constructor
  · rintro ⟨h1, h2, h3, h4, h5, h6, h7, h8, h9⟩
    exact ⟨h2, h3, h1, h8, h5, h4, h9, h6, h7⟩
  · rintro ⟨h2, h3, h1, h8, h5, h4, h9, h6, h7⟩
    exact ⟨h1, h2, h3, h4, h5, h6, h7, h8, h9⟩

theorem sort_from {l : List Int} : ∀ {n : Nat}, sortFrom l n = true ↔ ∀ (i : Nat) (a b : Int), i < n → l[i + 1]? = some a → l[i]? = some b → b ≤ a
  | 0 => by simp [sortFrom]
  | n + 1 => by
    simp only [sortFrom, Bool.and_eq_true, sort_from]
    constructor
    · rintro ⟨h1, h2⟩ i a b hi ha hb
      rcases Nat.eq_or_lt_of_le (Nat.le_of_lt_succ hi) with e | e
      · subst e
        rw [ha, hb] at h1
        simp [intLess] at h1
        exact h1
      · exact h2 i a b e ha hb
    · intro h
      refine ⟨?_, fun i a b hi => h i a b (by omega)⟩
      cases ha : l[n + 1]? with
      | none => rfl
      | some a =>
        cases hb : l[n]? with
        | none => rfl
        | some b =>
          have := h n a b (Nat.lt_succ_self _) ha hb
          simp [intLess]
          exact this

theorem serviceMay_iff (l : List Int) : serviceMay l = true ↔ (0 < l.length ∧ l.length ≤ 8) ∧ ∀ (j : Nat) (x : Int), l[j]? = some x → oport x = true ∧ ∀ y : Int, 0 < j → l[j - 1]? = some y → y < x := by
  simp only [serviceMay, Bool.and_eq_true, decide_eq_true_eq, every_iff, sortedInts, sort_from, Bool.not_eq_true', tw_iff, intSame, decide_eq_false_iff_not]
  constructor
  · rintro ⟨⟨⟨h1, h2, h3⟩, h4⟩, h5⟩
    refine ⟨⟨h1, by omega⟩, fun j x hx => ⟨h3 j x hx, fun y h0 hy => ?_⟩⟩
    have hlt := (List.getElem?_eq_some_iff.1 hx).1
    obtain ⟨i, rfl⟩ : ∃ i, j = i + 1 := ⟨j - 1, by omega⟩
    have h6 := h4 i x y (by omega) hx hy
    have h7 := h5 (i + 1) x hx i y (Nat.lt_succ_self _) hy
    omega
  · rintro ⟨⟨h1, h2⟩, h3⟩
    have up : ∀ (j : Nat) (x : Int), l[j]? = some x → ∀ (k : Nat) (y : Int), k < j → l[k]? = some y → y < x := by
      intro j
      induction j with
      | zero => intro x _ k y hk; omega
      | succ i ih =>
        intro x hx k y hk hy
        have hlt := (List.getElem?_eq_some_iff.1 hx).1
        obtain ⟨z, hz⟩ := at_lt (show i < l.length by omega)
        have h4 := (h3 (i + 1) x hx).2 z (Nat.succ_pos _) hz
        rcases Nat.eq_or_lt_of_le (Nat.le_of_lt_succ hk) with e | e
        · subst e
          rw [hz] at hy; cases hy; exact h4
        · have := ih z hz k y e hy
          omega
    refine ⟨⟨⟨h1, by omega, fun j x hx => (h3 j x hx).1⟩, fun i a b _ ha hb => ?_⟩, fun j x hx k y hk hy e => ?_⟩
    · have := up (i + 1) a ha i b (Nat.lt_succ_self _) hb
      omega
    · have := up j x hx k y hk hy
      omega

def AObj.keep (o : AObj) : AObj :=
  if o.ref.kind = 1 ∨ o.ref.kind = 4 then { AObj.zero o.ref with good := o.good }
  else if o.ref.kind = 2 then { AObj.zero o.ref with labels := o.labels }
  else if o.ref.kind = 3 then { AObj.zero o.ref with ports := o.ports }
  else if o.ref.kind = 5 then { AObj.zero o.ref with listeners := o.listeners, cls := o.cls }
  else if o.ref.kind = 6 then { AObj.zero o.ref with parents := o.parents, hosts := o.hosts, rules := o.rules }
  else { AObj.zero o.ref with from_ := o.from_, to_ := o.to_ }

theorem keep_iff (o : AObj) : o.keep = o ↔ o.strip = AObj.zero o.ref := by
  obtain ⟨r, gd, la, po, cl, li, pa, ho, ru, fr, to⟩ := o
  unfold AObj.keep AObj.strip
  simp only [AObj.zero]
  repeat' split
  all_goals
    simp only [AObj.mk.injEq]
    constructor
    · intro h; simp_all
    · intro h; simp_all

theorem objMay_keep (o : AObj) : objMay o = (mayRef o.ref && (kindMay o && decide (o.keep = o))) := by
  rw [Bool.eq_iff_iff]
  simp only [objMay, Bool.and_eq_true, objSame_iff, decide_eq_true_eq, keep_iff, and_assoc]

theorem keep_ok {o : AObj} (h : o.ok) : o.keep.ok := by
  unfold AObj.keep
  repeat' split
  all_goals exact ⟨by first | exact h.la | simp [AObj.zero], by first | exact h.po | simp [AObj.zero], by first | exact h.li | simp [AObj.zero], by first | exact h.pa | simp [AObj.zero], by first | exact h.ho | simp [AObj.zero], by first | exact h.ru | simp [AObj.zero], by first | exact h.fr | simp [AObj.zero], by first | exact h.to | simp [AObj.zero], by first | exact h.lis | simp [AObj.zero], by first | exact h.rus | simp [AObj.zero]⟩

set_option maxHeartbeats 8000000 in
theorem ref9_May (o : AObj) (h : o.ok) (hs : o.sok) : Pure Tryz.prog 12 [o.d] (fun d => d = bln (objMay o)) := by
  refine pure_of_run follows an_zboc8 Tryz.func12 rfl ok_zboc8.1 ok_zboc8.2 (by simp [Tryz.ntmps12]) ?_
  rw [run_start]
  simp (maxSteps := 5000000) only [ac_zboc8, oo, og, tp, ci, cq, mq, lq, fi, sr, go_sem, contS_seq, simprocAttr, go_sem]
  refine (ref9_MayRef o.ref hs.rs hs.rn).callW (enters_of Tryz.func54 rfl rfl) _ rfl rfl ?_
  rintro _ rfl
  simp (maxSteps := 5000000) only [go_sem, contS_seq, simprocAttr, go_sem]
  refine Gif.mk (fun hm => ?_) (fun hm => ?_)
  rotate_left
  · simp only [retK, resD, St.get, lk, oneD, D.pub, D.pubs, retL, reduceIte, Nat.reduceEqDiff, Nat.reduceAdd, Nat.reduceLeDiff, Tryz.results12]
    exact ⟨_, rfl, rfl, by rw [objMay_keep, hm, Bool.false_and]; try rfl⟩
  · rcases mayRef_kind hm with hk | hk | hk | hk | hk | hk | hk
    · obtain ⟨⟨kd, sp, nm⟩, gd, la, po, cl, li, pa, ho, ru, fr, to⟩ := o
      simp only at hk
      subst hk
      have hob : (⟨⟨1, sp, nm⟩, gd, la, po, cl, li, pa, ho, ru, fr, to⟩ : AObj).ok := h
      have hkp := keep_ok h
      have hke : (⟨⟨1, sp, nm⟩, gd, la, po, cl, li, pa, ho, ru, fr, to⟩ : AObj).keep = { AObj.zero ⟨1, sp, nm⟩ with good := gd } := by simp [AObj.keep]
      have hkm : kindMay (⟨⟨1, sp, nm⟩, gd, la, po, cl, li, pa, ho, ru, fr, to⟩ : AObj) = true := by simp [kindMay]
      rw [hke] at hkp
      have fin : ∀ b : Bool, b = true → bln (b && decide (({ AObj.zero ⟨1, sp, nm⟩ with good := gd } : AObj) = (⟨⟨1, sp, nm⟩, gd, la, po, cl, li, pa, ho, ru, fr, to⟩ : AObj))) = bln (objMay (⟨⟨1, sp, nm⟩, gd, la, po, cl, li, pa, ho, ru, fr, to⟩ : AObj)) := fun b e => by
        rw [objMay_keep, hm, Bool.true_and, hkm, hke, e]
      simp (maxSteps := 5000000) only [go_sem, contS_seq, simprocAttr, go_sem, rows_len]
      refine (ref9_Same ({ AObj.zero ⟨1, sp, nm⟩ with good := gd } : AObj) (⟨⟨1, sp, nm⟩, gd, la, po, cl, li, pa, ho, ru, fr, to⟩ : AObj) hkp).callW (enters_of Tryz.func19 rfl rfl) _ rfl rfl ?_
      rintro _ rfl
      simp (maxSteps := 5000000) only [go_sem, contS_seq, simprocAttr, go_sem]
      simp only [retK, resD, St.get, lk, oneD, D.pub, D.pubs, retL, reduceIte, Nat.reduceEqDiff, Nat.reduceAdd, Nat.reduceLeDiff, Tryz.results12]
      exact ⟨_, rfl, rfl, by rw [← fin _ rfl, Bool.true_and]; try rfl⟩
    · obtain ⟨⟨kd, sp, nm⟩, gd, la, po, cl, li, pa, ho, ru, fr, to⟩ := o
      simp only at hk
      subst hk
      have hob : (⟨⟨2, sp, nm⟩, gd, la, po, cl, li, pa, ho, ru, fr, to⟩ : AObj).ok := h
      have hkp := keep_ok h
      have hke : (⟨⟨2, sp, nm⟩, gd, la, po, cl, li, pa, ho, ru, fr, to⟩ : AObj).keep = { AObj.zero ⟨2, sp, nm⟩ with labels := la } := by simp [AObj.keep]
      have hkm : kindMay (⟨⟨2, sp, nm⟩, gd, la, po, cl, li, pa, ho, ru, fr, to⟩ : AObj) = labelsMay la := by simp [kindMay]
      rw [hke] at hkp
      have fin : ∀ b : Bool, b = labelsMay la → bln (b && decide (({ AObj.zero ⟨2, sp, nm⟩ with labels := la } : AObj) = (⟨⟨2, sp, nm⟩, gd, la, po, cl, li, pa, ho, ru, fr, to⟩ : AObj))) = bln (objMay (⟨⟨2, sp, nm⟩, gd, la, po, cl, li, pa, ho, ru, fr, to⟩ : AObj)) := fun b e => by
        rw [objMay_keep, hm, Bool.true_and, hkm, hke, e]
      simp (maxSteps := 5000000) only [go_sem, contS_seq, simprocAttr, go_sem, rows_len]
      refine (ref8_May la h.la hs.lv).callW (enters_of Tryz.func55 rfl rfl) _ rfl rfl ?_
      rintro _ rfl
      simp (maxSteps := 5000000) only [go_sem, contS_seq, simprocAttr, go_sem]
      refine Gif.mk (fun hg => ?_) (fun hg => ?_)
      · refine (ref9_Same ({ AObj.zero ⟨2, sp, nm⟩ with labels := la } : AObj) (⟨⟨2, sp, nm⟩, gd, la, po, cl, li, pa, ho, ru, fr, to⟩ : AObj) hkp).callW (enters_of Tryz.func19 rfl rfl) _ rfl rfl ?_
        rintro _ rfl
        simp (maxSteps := 5000000) only [go_sem, contS_seq, simprocAttr, go_sem]
        simp only [retK, resD, St.get, lk, oneD, D.pub, D.pubs, retL, reduceIte, Nat.reduceEqDiff, Nat.reduceAdd, Nat.reduceLeDiff, Tryz.results12]
        exact ⟨_, rfl, rfl, by rw [← fin _ rfl, hg, Bool.true_and]; try rfl⟩
      · simp only [retK, resD, St.get, lk, oneD, D.pub, D.pubs, retL, reduceIte, Nat.reduceEqDiff, Nat.reduceAdd, Nat.reduceLeDiff, Tryz.results12]
        exact ⟨_, rfl, rfl, by rw [← fin _ rfl, hg, Bool.false_and]; try rfl⟩
    · obtain ⟨⟨kd, sp, nm⟩, gd, la, po, cl, li, pa, ho, ru, fr, to⟩ := o
      simp only at hk
      subst hk
      have hob : (⟨⟨3, sp, nm⟩, gd, la, po, cl, li, pa, ho, ru, fr, to⟩ : AObj).ok := h
      have hkp := keep_ok h
      have hke : (⟨⟨3, sp, nm⟩, gd, la, po, cl, li, pa, ho, ru, fr, to⟩ : AObj).keep = { AObj.zero ⟨3, sp, nm⟩ with ports := po } := by simp [AObj.keep]
      have hkm : kindMay (⟨⟨3, sp, nm⟩, gd, la, po, cl, li, pa, ho, ru, fr, to⟩ : AObj) = serviceMay po := by simp [kindMay]
      rw [hke] at hkp
      have fin : ∀ b : Bool, b = serviceMay po → bln (b && decide (({ AObj.zero ⟨3, sp, nm⟩ with ports := po } : AObj) = (⟨⟨3, sp, nm⟩, gd, la, po, cl, li, pa, ho, ru, fr, to⟩ : AObj))) = bln (objMay (⟨⟨3, sp, nm⟩, gd, la, po, cl, li, pa, ho, ru, fr, to⟩ : AObj)) := fun b e => by
        rw [objMay_keep, hm, Bool.true_and, hkm, hke, e]
      simp (maxSteps := 5000000) only [go_sem, contS_seq, simprocAttr, go_sem, rows_len]
      have hpl : po.length ≤ 1000000 := hob.po
      repeat' (first | refine GifP.mk (fun _ => ?_) (fun _ => ?_) | refine Gif.mk (fun _ => ?_) (fun _ => ?_))
      all_goals
        refine loopS (fun k st => ∃ (i : Nat) (g : Bool), k = po.length - i ∧ i ≤ po.length ∧ (g = true ↔ (0 < po.length ∧ po.length ≤ 8) ∧ ∀ (j : Nat) (x : Int), j < i → po[j]? = some x → (oport x = true ∧ ∀ y : Int, 0 < (j) → po[(j) - 1]? = some y → y < x)) ∧ st = ⟨[(1, .ptr 1 0), (3, .ptr 3 0), (4, bln g), (5, int i)], [(1, ((⟨⟨3, sp, nm⟩, gd, la, po, cl, li, pa, ho, ru, fr, to⟩ : AObj)).ds), (3, [int 3, str sp, str nm, bln false, .nils, .pd (.slice (ints po)), str ⟨#[]⟩, .nils, .nils, .nils, .nils, .nils, .nils])], [], .no⟩) po.length (⟨[(1, .ptr 1 0), (3, .ptr 3 0), (4, bln (decide (0 < po.length ∧ po.length ≤ 8))), (5, int (0 : Nat))], [(1, ((⟨⟨3, sp, nm⟩, gd, la, po, cl, li, pa, ho, ru, fr, to⟩ : AObj)).ds), (3, [int 3, str sp, str nm, bln false, .nils, .pd (.slice (ints po)), str ⟨#[]⟩, .nils, .nils, .nils, .nils, .nils, .nils])], [], .no⟩) ?_ ⟨0, _, rfl, Nat.zero_le _, ?_, rfl⟩ ?_
        · exact Weak.less ⟨rfl, rfl, congrArg (fun b => some (bln b)) (by first | (rw [decide_eq_decide]; omega) | (rw [eq_comm, decide_eq_false_iff_not]; omega) | (rw [eq_comm, decide_eq_true_eq]; omega)), rfl, trivial⟩ (by simp [lessL, lk]) (by simp [lessL, lk]) rfl
        · simp only [Nat.not_lt_zero, false_implies, implies_true, and_true, decide_eq_true_eq]
        rintro k st ⟨i, g, rfl, hi, hT, rfl⟩
        have hw := i64_succ (show i < 1000000000 by omega)
        by_cases hlt : i < po.length
        · obtain ⟨x, hx⟩ := at_lt hlt
          have h1 : ((i : Int) < (po.length : Int)) = True := eq_true (by omega)
          have step : ∀ (g' : Bool) (st : St), (g' = true ↔ g = true ∧ (oport x = true ∧ ∀ y : Int, 0 < i → po[i - 1]? = some y → y < x)) → Weak Tryz.prog st ⟨[(1, .ptr 1 0), (3, .ptr 3 0), (4, bln g'), (5, int (i + 1 : Nat))], [(1, ((⟨⟨3, sp, nm⟩, gd, la, po, cl, li, pa, ho, ru, fr, to⟩ : AObj)).ds), (3, [int 3, str sp, str nm, bln false, .nils, .pd (.slice (ints po)), str ⟨#[]⟩, .nils, .nils, .nils, .nils, .nils, .nils])], [], .no⟩ → Round Tryz.prog (fun k st => ∃ (i : Nat) (g : Bool), k = po.length - i ∧ i ≤ po.length ∧ (g = true ↔ (0 < po.length ∧ po.length ≤ 8) ∧ ∀ (j : Nat) (x : Int), j < i → po[j]? = some x → (oport x = true ∧ ∀ y : Int, 0 < (j) → po[(j) - 1]? = some y → y < x)) ∧ st = ⟨[(1, .ptr 1 0), (3, .ptr 3 0), (4, bln g), (5, int i)], [(1, ((⟨⟨3, sp, nm⟩, gd, la, po, cl, li, pa, ho, ru, fr, to⟩ : AObj)).ds), (3, [int 3, str sp, str nm, bln false, .nils, .pd (.slice (ints po)), str ⟨#[]⟩, .nils, .nils, .nils, .nils, .nils, .nils])], [], .no⟩) (po.length - i) st := fun g' st hg hw =>
            ⟨po.length - (i + 1), _, by omega, hw, i + 1, g', rfl, by omega, by
              rw [hg, hT]
              constructor
              · rintro ⟨⟨e1, e2⟩, e3⟩
                exact ⟨e1, snoc_all e2 hx e3⟩
              · rintro ⟨e1, e2⟩
                exact ⟨⟨e1, fun j x hj => e2 j x (by omega)⟩, e2 i x (Nat.lt_succ_self _) hx⟩, rfl⟩
          by_cases h0 : i = 0
          · subst h0
            have hw0 : IntKind.i64.wrap 1 = 1 := IntWalk.i64_in _ (by omega)
            simp (maxSteps := 5000000) only [go_sem, contS_seq, simprocAttr, go_sem, rows_len, rows_get hx, h1, hw, hw0]
            repeat' (first | refine GifP.mk (fun _ => ?_) (fun _ => ?_) | refine Gif.mk (fun _ => ?_) (fun _ => ?_) | (refine (ref9_port x).callX (enters_of Tryz.func56 rfl rfl) _ rfl rfl ?_; rintro _ rfl; simp (maxSteps := 5000000) only [go_sem, contS_seq, simprocAttr, go_sem, rows_len, rows_get hx, hw, hw0]) | refine And.intro ?_ ?_)
            all_goals first
              | (refine step true _ ?_ ?_ <;> first | exact lessA | (simp_all; done))
              | (refine step false _ ?_ ?_ <;> first | exact lessA | (simp_all; done))
              | (exfalso; omega)
              | trace_state
          · obtain ⟨y, hy⟩ := at_lt (show i - 1 < po.length by omega)
            have hw1 : IntKind.i64.wrap ((i : Int) - 1) = (i : Int) - 1 := IntWalk.i64_in _ (by omega)
            have hi1 : ((i : Int) - 1).toNat = i - 1 := by omega
            have hi2 : (0 ≤ (i : Int) - 1) = True := eq_true (by omega)
            have hi3 : ((i : Int) = 0) = False := eq_false (by omega)
            have hq : (∀ y : Int, 0 < i → po[i - 1]? = some y → y < x) ↔ y < x := ⟨fun h => h y (by omega) hy, fun h y' _ hy' => by rw [hy] at hy'; cases hy'; exact h⟩
            rw [hq] at step
            simp (maxSteps := 5000000) only [go_sem, contS_seq, simprocAttr, go_sem, rows_len, rows_get hx, rows_get hy, h1, hw, hw1, hi1, hi2, hi3]
            repeat' (first | refine GifP.mk (fun _ => ?_) (fun _ => ?_) | refine Gif.mk (fun _ => ?_) (fun _ => ?_) | (refine (ref9_port x).callX (enters_of Tryz.func56 rfl rfl) _ rfl rfl ?_; rintro _ rfl; simp (maxSteps := 5000000) only [go_sem, contS_seq, simprocAttr, go_sem, rows_len, rows_get hx, rows_get hy, hw, hw1, hi1, hi2, hi3]) | refine And.intro ?_ ?_)
            all_goals first
              | (refine step (decide (y < x)) _ ?_ ?_ <;> first | exact lessA | (simp_all; done))
              | (refine step true _ ?_ ?_ <;> first | exact lessA | (simp_all; done))
              | (refine step false _ ?_ ?_ <;> first | exact lessA | (simp_all; done))
              | trace_state
        have h1 : ((i : Int) < (po.length : Int)) = False := eq_false (by omega)
        have hgs : g = serviceMay po := by
          rw [Bool.eq_iff_iff, serviceMay_iff, hT]
          exact and_congr_right fun _ => ⟨fun h j x hx => h j x (by have := (List.getElem?_eq_some_iff.1 hx).1; omega) hx, fun h j x _ hx => h j x hx⟩
        clear hT hw hi
        simp (maxSteps := 5000000) only [go_sem, contS_seq, simprocAttr, go_sem, rows_len, h1]
        first | clear h1 hlt i | clear h1 hlt
        refine Gif.mk (fun hg => ?_) (fun hg => ?_)
        · refine (ref9_Same ({ AObj.zero ⟨3, sp, nm⟩ with ports := po } : AObj) (⟨⟨3, sp, nm⟩, gd, la, po, cl, li, pa, ho, ru, fr, to⟩ : AObj) hkp).callW (enters_of Tryz.func19 rfl rfl) _ rfl rfl ?_
          rintro _ rfl
          simp (maxSteps := 5000000) only [go_sem, contS_seq, simprocAttr, go_sem]
          simp only [retK, resD, St.get, lk, oneD, D.pub, D.pubs, retL, reduceIte, Nat.reduceEqDiff, Nat.reduceAdd, Nat.reduceLeDiff, Tryz.results12]
          exact ⟨_, rfl, rfl, by rw [← fin g hgs, hg, Bool.true_and]; try rfl⟩
        · simp only [retK, resD, St.get, lk, oneD, D.pub, D.pubs, retL, reduceIte, Nat.reduceEqDiff, Nat.reduceAdd, Nat.reduceLeDiff, Tryz.results12]
          exact ⟨_, rfl, rfl, by rw [← fin g hgs, hg, Bool.false_and]; try rfl⟩
    · obtain ⟨⟨kd, sp, nm⟩, gd, la, po, cl, li, pa, ho, ru, fr, to⟩ := o
      simp only at hk
      subst hk
      have hob : (⟨⟨4, sp, nm⟩, gd, la, po, cl, li, pa, ho, ru, fr, to⟩ : AObj).ok := h
      have hkp := keep_ok h
      have hke : (⟨⟨4, sp, nm⟩, gd, la, po, cl, li, pa, ho, ru, fr, to⟩ : AObj).keep = { AObj.zero ⟨4, sp, nm⟩ with good := gd } := by simp [AObj.keep]
      have hkm : kindMay (⟨⟨4, sp, nm⟩, gd, la, po, cl, li, pa, ho, ru, fr, to⟩ : AObj) = true := by simp [kindMay]
      rw [hke] at hkp
      have fin : ∀ b : Bool, b = true → bln (b && decide (({ AObj.zero ⟨4, sp, nm⟩ with good := gd } : AObj) = (⟨⟨4, sp, nm⟩, gd, la, po, cl, li, pa, ho, ru, fr, to⟩ : AObj))) = bln (objMay (⟨⟨4, sp, nm⟩, gd, la, po, cl, li, pa, ho, ru, fr, to⟩ : AObj)) := fun b e => by
        rw [objMay_keep, hm, Bool.true_and, hkm, hke, e]
      simp (maxSteps := 5000000) only [go_sem, contS_seq, simprocAttr, go_sem, rows_len]
      refine (ref9_Same ({ AObj.zero ⟨4, sp, nm⟩ with good := gd } : AObj) (⟨⟨4, sp, nm⟩, gd, la, po, cl, li, pa, ho, ru, fr, to⟩ : AObj) hkp).callW (enters_of Tryz.func19 rfl rfl) _ rfl rfl ?_
      rintro _ rfl
      simp (maxSteps := 5000000) only [go_sem, contS_seq, simprocAttr, go_sem]
      simp only [retK, resD, St.get, lk, oneD, D.pub, D.pubs, retL, reduceIte, Nat.reduceEqDiff, Nat.reduceAdd, Nat.reduceLeDiff, Tryz.results12]
      exact ⟨_, rfl, rfl, by rw [← fin _ rfl, Bool.true_and]; try rfl⟩
    · obtain ⟨⟨kd, sp, nm⟩, gd, la, po, cl, li, pa, ho, ru, fr, to⟩ := o
      simp only at hk
      subst hk
      have hob : (⟨⟨5, sp, nm⟩, gd, la, po, cl, li, pa, ho, ru, fr, to⟩ : AObj).ok := h
      have hkp := keep_ok h
      have hke : (⟨⟨5, sp, nm⟩, gd, la, po, cl, li, pa, ho, ru, fr, to⟩ : AObj).keep = { AObj.zero ⟨5, sp, nm⟩ with listeners := li, cls := cl } := by simp [AObj.keep]
      have hkm : kindMay (⟨⟨5, sp, nm⟩, gd, la, po, cl, li, pa, ho, ru, fr, to⟩ : AObj) = gatewayMay cl li := by simp [kindMay]
      rw [hke] at hkp
      have fin : ∀ b : Bool, b = gatewayMay cl li → bln (b && decide (({ AObj.zero ⟨5, sp, nm⟩ with listeners := li, cls := cl } : AObj) = (⟨⟨5, sp, nm⟩, gd, la, po, cl, li, pa, ho, ru, fr, to⟩ : AObj))) = bln (objMay (⟨⟨5, sp, nm⟩, gd, la, po, cl, li, pa, ho, ru, fr, to⟩ : AObj)) := fun b e => by
        rw [objMay_keep, hm, Bool.true_and, hkm, hke, e]
      simp (maxSteps := 5000000) only [go_sem, contS_seq, simprocAttr, go_sem, rows_len]
      refine (ref9_gateway (⟨⟨5, sp, nm⟩, gd, la, po, cl, li, pa, ho, ru, fr, to⟩ : AObj) h hs.ln).callW (enters_of Tryz.func57 rfl rfl) _ rfl rfl ?_
      rintro _ rfl
      simp (maxSteps := 5000000) only [go_sem, contS_seq, simprocAttr, go_sem]
      refine Gif.mk (fun hg => ?_) (fun hg => ?_)
      · refine (ref9_Same ({ AObj.zero ⟨5, sp, nm⟩ with listeners := li, cls := cl } : AObj) (⟨⟨5, sp, nm⟩, gd, la, po, cl, li, pa, ho, ru, fr, to⟩ : AObj) hkp).callW (enters_of Tryz.func19 rfl rfl) _ rfl rfl ?_
        rintro _ rfl
        simp (maxSteps := 5000000) only [go_sem, contS_seq, simprocAttr, go_sem]
        simp only [retK, resD, St.get, lk, oneD, D.pub, D.pubs, retL, reduceIte, Nat.reduceEqDiff, Nat.reduceAdd, Nat.reduceLeDiff, Tryz.results12]
        exact ⟨_, rfl, rfl, by rw [← fin _ rfl, hg, Bool.true_and]; try rfl⟩
      · simp only [retK, resD, St.get, lk, oneD, D.pub, D.pubs, retL, reduceIte, Nat.reduceEqDiff, Nat.reduceAdd, Nat.reduceLeDiff, Tryz.results12]
        exact ⟨_, rfl, rfl, by rw [← fin _ rfl, hg, Bool.false_and]; try rfl⟩
    · obtain ⟨⟨kd, sp, nm⟩, gd, la, po, cl, li, pa, ho, ru, fr, to⟩ := o
      simp only at hk
      subst hk
      have hob : (⟨⟨6, sp, nm⟩, gd, la, po, cl, li, pa, ho, ru, fr, to⟩ : AObj).ok := h
      have hkp := keep_ok h
      have hke : (⟨⟨6, sp, nm⟩, gd, la, po, cl, li, pa, ho, ru, fr, to⟩ : AObj).keep = { AObj.zero ⟨6, sp, nm⟩ with parents := pa, hosts := ho, rules := ru } := by simp [AObj.keep]
      have hkm : kindMay (⟨⟨6, sp, nm⟩, gd, la, po, cl, li, pa, ho, ru, fr, to⟩ : AObj) = routeMay pa ho ru := by simp [kindMay]
      rw [hke] at hkp
      have fin : ∀ b : Bool, b = routeMay pa ho ru → bln (b && decide (({ AObj.zero ⟨6, sp, nm⟩ with parents := pa, hosts := ho, rules := ru } : AObj) = (⟨⟨6, sp, nm⟩, gd, la, po, cl, li, pa, ho, ru, fr, to⟩ : AObj))) = bln (objMay (⟨⟨6, sp, nm⟩, gd, la, po, cl, li, pa, ho, ru, fr, to⟩ : AObj)) := fun b e => by
        rw [objMay_keep, hm, Bool.true_and, hkm, hke, e]
      simp (maxSteps := 5000000) only [go_sem, contS_seq, simprocAttr, go_sem, rows_len]
      refine (ref9_route (⟨⟨6, sp, nm⟩, gd, la, po, cl, li, pa, ho, ru, fr, to⟩ : AObj) h hs.pa hs.ru).callW (enters_of Tryz.func58 rfl rfl) _ rfl rfl ?_
      rintro _ rfl
      simp (maxSteps := 5000000) only [go_sem, contS_seq, simprocAttr, go_sem]
      refine Gif.mk (fun hg => ?_) (fun hg => ?_)
      · refine (ref9_Same ({ AObj.zero ⟨6, sp, nm⟩ with parents := pa, hosts := ho, rules := ru } : AObj) (⟨⟨6, sp, nm⟩, gd, la, po, cl, li, pa, ho, ru, fr, to⟩ : AObj) hkp).callW (enters_of Tryz.func19 rfl rfl) _ rfl rfl ?_
        rintro _ rfl
        simp (maxSteps := 5000000) only [go_sem, contS_seq, simprocAttr, go_sem]
        simp only [retK, resD, St.get, lk, oneD, D.pub, D.pubs, retL, reduceIte, Nat.reduceEqDiff, Nat.reduceAdd, Nat.reduceLeDiff, Tryz.results12]
        exact ⟨_, rfl, rfl, by rw [← fin _ rfl, hg, Bool.true_and]; try rfl⟩
      · simp only [retK, resD, St.get, lk, oneD, D.pub, D.pubs, retL, reduceIte, Nat.reduceEqDiff, Nat.reduceAdd, Nat.reduceLeDiff, Tryz.results12]
        exact ⟨_, rfl, rfl, by rw [← fin _ rfl, hg, Bool.false_and]; try rfl⟩
    · obtain ⟨⟨kd, sp, nm⟩, gd, la, po, cl, li, pa, ho, ru, fr, to⟩ := o
      simp only at hk
      subst hk
      have hob : (⟨⟨7, sp, nm⟩, gd, la, po, cl, li, pa, ho, ru, fr, to⟩ : AObj).ok := h
      have hkp := keep_ok h
      have hke : (⟨⟨7, sp, nm⟩, gd, la, po, cl, li, pa, ho, ru, fr, to⟩ : AObj).keep = { AObj.zero ⟨7, sp, nm⟩ with from_ := fr, to_ := to } := by simp [AObj.keep]
      have hkm : kindMay (⟨⟨7, sp, nm⟩, gd, la, po, cl, li, pa, ho, ru, fr, to⟩ : AObj) = grantMay fr to := by simp [kindMay]
      rw [hke] at hkp
      have fin : ∀ b : Bool, b = grantMay fr to → bln (b && decide (({ AObj.zero ⟨7, sp, nm⟩ with from_ := fr, to_ := to } : AObj) = (⟨⟨7, sp, nm⟩, gd, la, po, cl, li, pa, ho, ru, fr, to⟩ : AObj))) = bln (objMay (⟨⟨7, sp, nm⟩, gd, la, po, cl, li, pa, ho, ru, fr, to⟩ : AObj)) := fun b e => by
        rw [objMay_keep, hm, Bool.true_and, hkm, hke, e]
      simp (maxSteps := 5000000) only [go_sem, contS_seq, simprocAttr, go_sem, rows_len]
      refine (ref9_grant (⟨⟨7, sp, nm⟩, gd, la, po, cl, li, pa, ho, ru, fr, to⟩ : AObj) h hs.si).callW (enters_of Tryz.func59 rfl rfl) _ rfl rfl ?_
      rintro _ rfl
      simp (maxSteps := 5000000) only [go_sem, contS_seq, simprocAttr, go_sem]
      refine Gif.mk (fun hg => ?_) (fun hg => ?_)
      · refine (ref9_Same ({ AObj.zero ⟨7, sp, nm⟩ with from_ := fr, to_ := to } : AObj) (⟨⟨7, sp, nm⟩, gd, la, po, cl, li, pa, ho, ru, fr, to⟩ : AObj) hkp).callW (enters_of Tryz.func19 rfl rfl) _ rfl rfl ?_
        rintro _ rfl
        simp (maxSteps := 5000000) only [go_sem, contS_seq, simprocAttr, go_sem]
        simp only [retK, resD, St.get, lk, oneD, D.pub, D.pubs, retL, reduceIte, Nat.reduceEqDiff, Nat.reduceAdd, Nat.reduceLeDiff, Tryz.results12]
        exact ⟨_, rfl, rfl, by rw [← fin _ rfl, hg, Bool.true_and]; try rfl⟩
      · simp only [retK, resD, St.get, lk, oneD, D.pub, D.pubs, retL, reduceIte, Nat.reduceEqDiff, Nat.reduceAdd, Nat.reduceLeDiff, Tryz.results12]
        exact ⟨_, rfl, rfl, by rw [← fin _ rfl, hg, Bool.false_and]; try rfl⟩

end Go.Proofs.YtklolokoaooppaaGreatDoor



namespace Go.Proofs.YtklolokoaooppaaGreatDoor
open Go

def ac_zfsgx : AC := (sr [oo 4 (.box 43 (tp 0)),oo 5 (.box 3 (tp 1)),oo 6 (.box 9 (tp 2)),oo 7 (.box 23 (tp 3)),oo 8 (.mv (.const .nilFunc))] [4,5,6,7] (sr [oo 9 (.mkfn 97 [tp 4,tp 5,tp 6,tp 7]),mq 8 9] [8] .ret))
def an_zfsgx : Ann := ann (List.range 2) ac_zfsgx
theorem ok_zfsgx : okd Tryz.prog an_zfsgx ac_zfsgx Tryz.f62 := ⟨by kernel_rfl, by kernel_rfl⟩

def ac_zvbe : AC := (sr [lq 8 1,oo 9 (.len (tp 8) false),oo 10 (.mv (ci 0))] [0,2,3,4,8,9,10] (.block 0 (.loop (sr [oo 11 (.bin .lss (tp 10) (tp 9))] [0,2,3,4,8,9,10,11] (.seq (.cond (tp 11) .skip (.exit 0)) (.seq (.block 1 (sr [oo 12 (.idxA 13 (tp 8) (tp 10)),oo 13 (.load (some 13) (tp 12)),oo 7 (.alloc 32 [.pd (.raw (.int .i64 0)),.pd (.raw (.string ⟨#[]⟩)),.pd (.raw (.string ⟨#[]⟩)),.pd (.raw (.bool false)),.nils,.nils,.pd (.raw (.string ⟨#[]⟩)),.nils,.nils,.nils,.nils,.nils,.nils]),.mk none none (.store 13 (tp 7) (tp 13))] [0,2,3,4,7,8,9,10] (sr [oo 14 (.load (some 13) (tp 7)),lq 15 2,lq 16 3,oo 17 (.load (some 3) (tp 4)),oo 18 (.call 11 [tp 14,tp 15,tp 16,tp 17]),mq 19 18,og 19 true 20 (.mv (tp 0)),og 19 true 21 (.fieldA 0 (tp 7)),og 19 true 22 (.load (some 3) (tp 21)),og 19 true 23 (.callv (tp 20) [tp 22]),og 19 true 24 (.un .not (tp 23)),oo 25 (.pick (tp 19) (tp 24) (cq false))] [0,2,3,4,8,9,10,25] (.cond (tp 25) .ret .skip)))) (.region [oo 26 (.bin .add (tp 10) (ci 1)),mq 10 26] (some [0,2,3,4,8,9,10]))))))))
def an_zvbe : Ann := ann (List.range 5) ac_zvbe
theorem ok_zvbe : okd Tryz.prog an_zvbe ac_zvbe Tryz.f97 := ⟨by kernel_rfl, by kernel_rfl⟩

def ac_zj2qb : AC := (sr [oo 7 (.box 23 (tp 3)),oo 8 (.alloc 4 [.pd (.raw (.bool false))])] [0,1,2,7,8] (.seq (sr [mq 9 0,mq 10 1,mq 11 2,oo 12 (.load (some 3) (tp 7)),oo 13 (.call 62 [tp 9,tp 10,tp 11,tp 12])] [2,7,8,13] (.block 0 (.rangeF [7,8] 14 none (tp 13) (.block 1 (sr [.mk none none (.store 1 (tp 8) (cq true))] [] .ret))))) (sr [mq 15 2,fi 16 1 7,lq 17 16,oo 18 (.bin .eql (tp 15) (tp 17)),.mk none none (.store 1 (tp 8) (tp 18))] [8] .ret)))
def an_zj2qb : Ann := ann (List.range 4) ac_zj2qb
theorem ok_zj2qb : okd Tryz.prog an_zj2qb ac_zj2qb Tryz.f16 := ⟨by kernel_rfl, by kernel_rfl⟩
theorem ret_zj2qb (st : St) : resD Tryz.prog st Tryz.f16.results.toList = resA st [.cell 8 none] := resD_of (by kernel_rfl)

end Go.Proofs.YtklolokoaooppaaGreatDoor


namespace Go.Proofs.YtklolokoaooppaaGreatDoor
open Go Go.RowKit
set_option linter.unusedSimpArgs false
set_option linter.unusedVariables false
set_option maxRecDepth 100000

def near (r : ARef) (s : ByteArray) : ARef := if r.space = ⟨#[]⟩ ∧ r.kind ≠ 1 ∧ r.kind ≠ 2 then { r with space := s } else r

set_option maxRecDepth 100000 in
theorem grant_Near (r : ARef) (s : ByteArray) : Pure Tryz.prog 20 [r.d, str s] (fun d => d = (near r s).d) := by
  refine pure_of_run follows an_zrkgf Tryz.func20 rfl ok_zrkgf.1 ok_zrkgf.2 (by simp [Tryz.ntmps20]) ?_
  rw [run_start]
  simp only [ac_zrkgf, oo, og, tp, ci, cq, mq, lq, fi, sr, go_sem, contS_seq, simprocAttr]
  simp only [retK, resD, resA, AOp.ex, St.ev, St.get, lk, oneD, D.pub, D.pubs, retL, reduceIte, Nat.reduceEqDiff, Nat.reduceAdd, Nat.reduceLeDiff, ret_zrkgf]
  refine ⟨fun h1 => ⟨fun h2 => ?_, fun h2 => ⟨fun h3 => ?_, fun h3 => ?_⟩⟩, fun h1 => ?_⟩
  · exact ⟨_, rfl, rfl, by simp [near, h1, h2, oneD, D.pub, D.pubs]⟩
  · exact ⟨_, rfl, rfl, by simp [near, h1, h3, oneD, D.pub, D.pubs]⟩
  · exact ⟨_, rfl, rfl, by simp [near, h1, h2, h3, oneD, D.pub, D.pubs]⟩
  · exact ⟨_, rfl, rfl, by simp [near, h1, oneD, D.pub, D.pubs]⟩

abbrev refVal (r : ARef) : Value := .agg #[.int .i64 r.kind, .string r.space, .string r.name]

theorem by_iter (p : AObj → Bool) (os : List AObj) (kind : Int) (space : ByteArray) (to_ : ARef) (hos : os.length ≤ 1000000)
    (hp : ∀ o ∈ os, Pure Tryz.prog 11 [o.d, int kind, str space, to_.d] (fun d => d = bln (p o))) :
    IterB Tryz.prog 97 [(500001, 0), (500002, 0), (500003, 0), (500004, 0)]
      [(500001, [.pd (.slice (rows AObj.pd os))]), (500002, [int kind]), (500003, [str space]), (500004, [int to_.kind, str to_.space, str to_.name])] ((os.filter p).map fun o => refVal o.ref) := by
  refine iter_of_run follows an_zvbe Tryz.func97 rfl ok_zvbe.1 ok_zvbe.2 (by simp [Tryz.ntmps97]) rfl ?_
  intro l
  rw [run_start]
  simp only [ac_zvbe, oo, og, tp, ci, cq, mq, lq, fi, sr, go_sem, contS_seq, simprocAttr, rows_len]
  have hb := hos
  refine loopS (fun k st => ∃ i : Nat, k = os.length - i ∧ i ≤ os.length ∧
    st = ⟨[(0, yieldD l), (2, .ptr 500002 0), (3, .ptr 500003 0), (4, .ptr 500004 0), (8, .pd (.slice (rows AObj.pd os))), (9, int os.length), (10, int i)],
      [(500001, [.pd (.slice (rows AObj.pd os))]), (500002, [int kind]), (500003, [str space]), (500004, [int to_.kind, str to_.space, str to_.name])], [], .it l (((os.filter p).map fun o => refVal o.ref).map ([·])) ((os.take i).filter p).length false⟩) os.length _
    (Weak.refl _ _) ⟨0, rfl, Nat.zero_le _, rfl⟩ ?_
  rintro k st ⟨i, rfl, hi, rfl⟩
  by_cases hlt : i < os.length
  · obtain ⟨o, ho⟩ := at_lt hlt
    have hlt' : (i : Int) < (os.length : Int) := by omega
    simp only [go_sem, contS_seq, simprocAttr, hlt', decide_true, rows_get ho]
    refine (hp o (List.mem_of_getElem? ho)).callW (enters_of Tryz.func11 rfl rfl) _ rfl rfl ?_
    rintro d rfl
    have hw : IntKind.i64.wrap ((i : Int) + 1) = ((i + 1 : Nat) : Int) := by rw [IntWalk.i64_in _ (by omega)]; omega
    cases hpo : p o with
    | true =>
      have hx : (((os.filter p).map fun o => refVal o.ref).map ([·]))[((os.take i).filter p).length]? = some [refVal o.ref] := by
        simp [List.getElem?_map, filter_at ho hpo]
      simp only [go_sem, contS_seq, simprocAttr, hx, hw]
      refine ⟨⟨_, _, ?_, ?_, i + 1, rfl, ?_, rfl⟩, ?_⟩
      · omega
      · rw [filter_yes ho hpo]; exact lessA
      · omega
      · exact ⟨[], _, _, rfl, rfl, fun h => by cases h⟩
    | false =>
      simp only [go_sem, contS_seq, simprocAttr, hw]
      refine ⟨_, _, ?_, ?_, i + 1, rfl, ?_, rfl⟩
      · omega
      · rw [filter_no ho hpo]; exact lessA
      · omega
  · have hlt' : ¬ (i : Int) < (os.length : Int) := by omega
    simp only [go_sem, contS_seq, simprocAttr, hlt', decide_false]
    exact ⟨[], _, _, rfl, rfl, fun _ => by rw [List.take_of_length_le (by omega)]; simp⟩

theorem grant_by (os : List AObj) (kind : Int) (space : ByteArray) (to_ : ARef) :
    Full Tryz.prog 62 [.pd (.slice (rows AObj.pd os)), int kind, str space, to_.d] [] true
      (fun d bs => d = .fn 97 [(4, 0), (5, 0), (6, 0), (7, 0)] ∧ bs = [(4, [.pd (.slice (rows AObj.pd os))]), (5, [int kind]), (6, [str space]), (7, [int to_.kind, str to_.space, str to_.name])]) := by
  refine full_of_run follows an_zfsgx Tryz.func62 rfl ok_zfsgx.1 ok_zfsgx.2 (by simp [Tryz.ntmps62]) (by simp [Tryz.ntmps62]) (.inl rfl) ?_
  rw [run_start]
  simp only [ac_zfsgx, oo, og, tp, ci, cq, mq, lq, fi, sr, go_sem, contS_seq, simprocAttr]
  simp only [retK, fullK, resD, St.get, lk, oneD, D.pub, D.pubs, retL, reduceIte, Nat.reduceEqDiff, Nat.reduceAdd, Nat.reduceLeDiff, Tryz.results62]
  exact ⟨_, _, rfl, by simp [lessL, lk], rfl, rfl⟩

theorem grant_Permits (p : AObj → Bool) (os : List AObj) (kind : Int) (space : ByteArray) (to_ : ARef) (hos : os.length ≤ 1000000)
    (hp : ∀ o ∈ os, Pure Tryz.prog 11 [o.d, int kind, str space, to_.d] (fun d => d = bln (p o))) :
    Pure Tryz.prog 16 [.pd (.slice (rows AObj.pd os)), int kind, str space, to_.d] (fun d => d = bln (os.any p || decide (space = to_.space))) := by
  refine pure_of_run follows an_zj2qb Tryz.func16 rfl ok_zj2qb.1 ok_zj2qb.2 (by simp [Tryz.ntmps16]) ?_
  rw [run_start]
  simp only [ac_zj2qb, oo, og, tp, ci, cq, mq, lq, fi, sr, go_sem, contS_seq, simprocAttr]
  refine (grant_by os kind space to_).callW (enters_of Tryz.func62 rfl rfl) _ false [] [] [(4, 200001), (5, 200002), (6, 200003), (7, 200004)] [] rfl rfl rfl ?_
  rintro d bs ⟨rfl, rfl⟩
  simp only [go_sem, contS_seq, simprocAttr]
  refine rangeS ((os.filter p).map fun o => refVal o.ref) (fun i bs => i = 0 ∧ bs = [(7, [int to_.kind, str to_.space, str to_.name]), (8, [bln false])]) rfl rfl rfl
    ((by_iter p os kind space to_ hos hp).iterW (enters_of Tryz.func97 rfl rfl) false [(200001, 500001), (200002, 500002), (200003, 500003), (200004, 500004)] rfl rfl rfl) ⟨rfl, rfl⟩ ?_ ?_
  · rintro i v bs hv ⟨rfl, rfl⟩
    simp only [go_sem, contS_seq, simprocAttr]
    simp only [retK, iterK, resD, resA, AOp.ex, St.ev, St.get, lk, oneD, D.pub, D.pubs, retL, reduceIte, Nat.reduceEqDiff, Nat.reduceAdd, Nat.reduceLeDiff, ret_zj2qb]
    have hany : os.any p = true := by
      rw [List.getElem?_map] at hv
      obtain ⟨o, ho, _⟩ := Option.map_eq_some_iff.1 hv
      have := List.mem_filter.1 (List.mem_of_getElem? ho)
      exact List.any_eq_true.2 ⟨o, this.1, this.2⟩
    exact ⟨_, rfl, rfl, by simp [hany, oneD, D.pub]⟩
  · rintro bs ⟨hl, rfl⟩
    simp only [go_sem, contS_seq, simprocAttr]
    simp only [retK, iterK, resD, resA, AOp.ex, St.ev, St.get, lk, oneD, D.pub, D.pubs, retL, reduceIte, Nat.reduceEqDiff, Nat.reduceAdd, Nat.reduceLeDiff, ret_zj2qb]
    have hany : os.any p = false := by
      rw [List.length_map, List.length_eq_zero_iff, List.filter_eq_nil_iff] at hl
      exact List.any_eq_false.2 hl
    exact ⟨_, rfl, rfl, by simp [hany, oneD, D.pub]⟩


def sideIs (kind : Int) (space : ByteArray) (s : ASide) : Bool := decide (s.kind = kind) && decide (s.space = space)
def sideAt (t : ARef) (s : ASide) : Bool := decide (s.kind = t.kind) && (decide (s.name = ⟨#[]⟩) || decide (s.name = t.name))

theorem Lets_1 (kind : Int) (space : ByteArray) (s : ASide) : PureB Tryz.prog 50 [s.d, .ptr 1000001 0, .ptr 1000002 0] [(1000001, [int kind]), (1000002, [str space])] (fun d => d = bln (sideIs kind space s)) := by
  refine pureB_of_run follows an_z4wyn Tryz.func50 rfl ok_z4wyn.1 ok_z4wyn.2 (by simp [Tryz.ntmps50]) ?_
  rw [run_start]
  simp only [ac_z4wyn, oo, og, tp, ci, cq, mq, lq, fi, sr, go_sem, contS_seq, simprocAttr]
  (repeat' (first | (refine GifP.mk (fun _ => ?_) (fun _ => ?_)) | (refine Gif.mk (fun _ => ?_) (fun _ => ?_)))) <;> (simp only [retK, resD, St.get, lk, oneD, D.pub, D.pubs, retL, reduceIte, Nat.reduceEqDiff, Nat.reduceAdd, Nat.reduceLeDiff, Tryz.results50]; exact ⟨_, rfl, rfl, congrArg bln (by first | rfl | (rw [Bool.eq_iff_iff]; simp only [sideIs]; simp; done) | (rw [Bool.eq_iff_iff]; simp only [sideIs]; simp; omega) | (rw [Bool.eq_iff_iff]; simp only [sideIs]; simp [*]; done) | (rw [Bool.eq_iff_iff]; simp only [sideIs]; simp [*]; omega) | (simp_all [sideIs]; done) | (exfalso; omega))⟩)

theorem Lets_2 (t : ARef) (s : ASide) : PureB Tryz.prog 51 [s.d, .ptr 1000001 0] [(1000001, [int t.kind, str t.space, str t.name])] (fun d => d = bln (sideAt t s)) := by
  refine pureB_of_run follows an_z3e5h Tryz.func51 rfl ok_z3e5h.1 ok_z3e5h.2 (by simp [Tryz.ntmps51]) ?_
  rw [run_start]
  simp only [ac_z3e5h, oo, og, tp, ci, cq, mq, lq, fi, sr, go_sem, contS_seq, simprocAttr]
  (repeat' (first | (refine GifP.mk (fun _ => ?_) (fun _ => ?_)) | (refine Gif.mk (fun _ => ?_) (fun _ => ?_)))) <;> (simp only [retK, resD, St.get, lk, oneD, D.pub, D.pubs, retL, reduceIte, Nat.reduceEqDiff, Nat.reduceAdd, Nat.reduceLeDiff, Tryz.results51]; exact ⟨_, rfl, rfl, congrArg bln (by first | rfl | (rw [Bool.eq_iff_iff]; simp only [sideAt]; simp; done) | (rw [Bool.eq_iff_iff]; simp only [sideAt]; simp; omega) | (rw [Bool.eq_iff_iff]; simp only [sideAt]; simp [*]; done) | (rw [Bool.eq_iff_iff]; simp only [sideAt]; simp [*]; omega) | (simp_all [sideAt]; done) | (exfalso; omega))⟩)

def lets (kind : Int) (space : ByteArray) (t : ARef) (o : AObj) : Bool :=
  decide (o.ref.kind = 7) && decide (o.ref.space = t.space) && objMay o && o.from_.any (sideIs kind space) && o.to_.any (sideAt t)

theorem grant_Lets (o : AObj) (h : o.ok) (kind : Int) (space : ByteArray) (t : ARef) : Pure Tryz.prog 11 [o.d, int kind, str space, t.d] (fun d => d = bln (lets kind space t o)) := by
  refine pure_of_run follows an_zs3t2 Tryz.func11 rfl ok_zs3t2.1 ok_zs3t2.2 (by simp [Tryz.ntmps11]) ?_
  rw [run_start]
  simp only [ac_zs3t2, oo, og, tp, ci, cq, mq, lq, fi, sr, go_sem, contS_seq, simprocAttr]
  (repeat' (first | (refine GifP.mk (fun _ => ?_) (fun _ => ?_)) | (refine Gif.mk (fun _ => ?_) (fun _ => ?_)) | ((first | refine (object_May o h).callW (enters_of Tryz.func52 rfl rfl) _ rfl rfl ?_ | refine (ContainsFunc_Side (sideIs kind space) 50 (enters_of Tryz.func50 rfl rfl) [(1000001, 0), (1000002, 0)] [(1000001, [int kind]), (1000002, [str space])] (Cl.of rfl rfl rfl rfl rfl) o.from_ h.fr (fun s _ => Lets_1 kind space s)).callW (enters_of Tryz.func53 rfl rfl) _ [(5, 1000001), (6, 1000002)] rfl rfl rfl ?_ | refine (ContainsFunc_Side (sideAt t) 51 (enters_of Tryz.func51 rfl rfl) [(1000001, 0)] [(1000001, [int t.kind, str t.space, str t.name])] (Cl.of rfl rfl rfl rfl rfl) o.to_ h.to (fun s _ => Lets_2 t s)).callW (enters_of Tryz.func53 rfl rfl) _ [(7, 1000001)] rfl rfl rfl ?_); rintro _ rfl; try simp only [go_sem, contS_seq, simprocAttr]))) <;> (simp only [retK, resD, St.get, lk, oneD, D.pub, D.pubs, retL, reduceIte, Nat.reduceEqDiff, Nat.reduceAdd, Nat.reduceLeDiff, Tryz.results11]; exact ⟨_, rfl, rfl, congrArg bln (by first | rfl | (rw [Bool.eq_iff_iff]; simp only [lets]; simp; done) | (rw [Bool.eq_iff_iff]; simp only [lets]; simp; omega) | (rw [Bool.eq_iff_iff]; simp only [lets]; simp [*]; done) | (rw [Bool.eq_iff_iff]; simp only [lets]; simp [*]; omega) | (simp_all [lets]; done) | (exfalso; omega))⟩)

def permits (os : List AObj) (kind : Int) (space : ByteArray) (t : ARef) : Bool := os.any (lets kind space t) || decide (space = t.space)

theorem grant_Permits' (os : List AObj) (hos : os.length ≤ 1000000) (h : ∀ o ∈ os, o.ok) (kind : Int) (space : ByteArray) (t : ARef) :
    Pure Tryz.prog 16 [.pd (.slice (rows AObj.pd os)), int kind, str space, t.d] (fun d => d = bln (permits os kind space t)) :=
  grant_Permits (lets kind space t) os kind space t hos (fun o ho => grant_Lets o (h o ho) kind space t)

def isRef (r : ARef) (o : AObj) : Bool := decide (o.ref = r)

theorem Find_1 (r : ARef) (o : AObj) : PureB Tryz.prog 64 [o.d, .ptr 1000001 0] [(1000001, [int r.kind, str r.space, str r.name])] (fun d => d = bln (isRef r o)) := by
  refine pureB_of_run follows an_zl31y Tryz.func64 rfl ok_zl31y.1 ok_zl31y.2 (by simp [Tryz.ntmps64]) ?_
  rw [run_start]
  simp only [ac_zl31y, oo, og, tp, ci, cq, mq, lq, fi, sr, go_sem, contS_seq, simprocAttr, eqVs, eqV, eq_Ref]
  simp only [retK, resD, St.get, lk, oneD, D.pub, D.pubs, retL, reduceIte, Nat.reduceEqDiff, Nat.reduceAdd, Nat.reduceLeDiff, Tryz.results64]
  exact ⟨_, rfl, rfl, rfl⟩

theorem lidx_find {α : Type} (p : α → Bool) : ∀ (l : List α) (k : Nat), (l.find? p = none ∧ lidx p l k = -1) ∨ ∃ x j, l.find? p = some x ∧ lidx p l k = ((k + j : Nat) : Int) ∧ l[j]? = some x
  | [], k => .inl ⟨rfl, rfl⟩
  | x :: l, k => by
    rw [List.find?_cons, lidx]
    by_cases h : p x = true
    · rw [if_pos h, h]; exact .inr ⟨x, 0, rfl, by simp, by simp⟩
    · rw [if_neg h]
      have h' : p x = false := by simpa using h
      rw [h']
      rcases lidx_find p l (k + 1) with h1 | ⟨y, j, h1, h2, h3⟩
      · exact .inl h1
      · exact .inr ⟨y, j + 1, h1, by rw [h2]; omega, by simpa using h3⟩

def ref0 : ARef := ⟨0, ⟨#[]⟩, ⟨#[]⟩⟩

def found (os : List AObj) (r : ARef) : Option AObj := os.find? (isRef r)

def foundD : Option AObj → D
  | some o => .tup [o.d, bln true]
  | none => .tup [(AObj.zero ref0).d, bln false]

theorem grant_Find (os : List AObj) (hos : os.length ≤ 1000000) (r : ARef) : Pure Tryz.prog 17 [.pd (.slice (rows AObj.pd os)), r.d] (fun d => d = foundD (found os r)) := by
  refine pure_of_run follows an_z88d6 Tryz.func17 rfl ok_z88d6.1 ok_z88d6.2 (by simp [Tryz.ntmps17]) ?_
  rw [run_start]
  simp only [ac_z88d6, oo, og, tp, ci, cq, mq, lq, fi, sr, go_sem, contS_seq, simprocAttr]
  refine (IndexFunc_Object (isRef r) 64 (enters_of Tryz.func64 rfl rfl) [(1000001, 0)] [(1000001, [int r.kind, str r.space, str r.name])] (Cl.of rfl rfl rfl rfl rfl) os hos (fun o _ => Find_1 r o)).callW (enters_of Tryz.func63 rfl rfl) _ [(3, 1000001)] rfl rfl rfl ?_
  rintro d rfl
  rcases lidx_find (isRef r) os 0 with ⟨h1, h2⟩ | ⟨x, j, h1, h2, h3⟩
  · rw [h2]
    simp only [go_sem, contS_seq, simprocAttr]
    simp only [retK, resD, resA, AOp.ex, St.ev, St.get, lk, oneD, D.pub, D.pubs, retL, reduceIte, Nat.reduceEqDiff, Nat.reduceAdd, Nat.reduceLeDiff, ret_z88d6]
    refine ⟨_, rfl, rfl, ?_⟩
    rw [found, h1]; rfl
  · rw [h2, Nat.zero_add]
    have hn : ((j : Int) < 0) = False := eq_false (by omega)
    simp only [go_sem, contS_seq, simprocAttr, hn, rows_get h3]
    simp only [retK, resD, resA, AOp.ex, St.ev, St.get, lk, oneD, D.pub, D.pubs, retL, reduceIte, Nat.reduceEqDiff, Nat.reduceAdd, Nat.reduceLeDiff, ret_z88d6]
    refine ⟨_, rfl, rfl, ?_⟩
    rw [found, h1]; rfl


def hasInt (l : List Int) (v : Int) : Bool := l.any fun x => decide (v = x)


def heavy (x : Int) : Int := max 0 (min x 1000)


def pos : Nat → List Int → Int → Option Nat
  | _, [], _ => none
  | i, w :: ws, n => if n < heavy w then some i else pos (i + 1) ws (n - heavy w)



def badKind : ByteArray := ⟨#[73, 110, 118, 97, 108, 105, 100, 75, 105, 110, 100]⟩
def notLet : ByteArray := ⟨#[82, 101, 102, 78, 111, 116, 80, 101, 114, 109, 105, 116, 116, 101, 100]⟩


def noBackend : ByteArray := ⟨#[66, 97, 99, 107, 101, 110, 100, 78, 111, 116, 70, 111, 117, 110, 100]⟩

def thereIs (os : List AObj) (t : ARef) (port : Int) : Bool := match found os t with
  | some s => objMay s && hasInt s.ports port
  | none => false

def wrongAt (os : List AObj) (space : ByteArray) (t : ARef) (port : Int) : ByteArray :=
  if t.kind ≠ 3 then badKind else if permits os 6 space t = false then notLet else if thereIs os t port = false then noBackend else ⟨#[]⟩

def wrong (os : List AObj) (r : AObj) (b : ABackend) : ByteArray := wrongAt os r.ref.space (near b.ref r.ref.space) b.port

def isRoute (r : AObj) : Bool := decide (r.ref.kind = 6) && objMay r


def goalOf (os : List AObj) (r : AObj) (b : ABackend) : AGoal := ⟨near b.ref r.ref.space, b.port, b.weight, !decide (wrong os r b = ⟨#[]⟩)⟩

def goals (os : List AObj) (r : AObj) (i : Int) : List AGoal := if isRoute r = true ∧ 0 ≤ i ∧ i < r.rules.length then match r.rules[i.toNat]? with
    | some x => x.backends.map (goalOf os r)
    | none => []
  else []

end Go.Proofs.YtklolokoaooppaaGreatDoor



namespace Go.Proofs.YtklolokoaooppaaGreatDoor
open Go

def ac_z712c : AC := (sr [oo 3 (.box 23 (tp 1)),oo 4 (.alloc 32 [.pd (.raw (.int .i64 0)),.pd (.raw (.string ⟨#[]⟩)),.pd (.raw (.string ⟨#[]⟩)),.pd (.raw (.bool false)),.nils,.nils,.pd (.raw (.string ⟨#[]⟩)),.nils,.nils,.nils,.nils,.nils,.nils]),oo 5 (.mv (cq false))] [0,3,4] (.seq (sr [oo 6 (.mv (ci 0))] [0,3,4,6] (.block 0 (.loop (.seq (sr [mq 7 6,mq 8 0,oo 9 (.len (tp 8) false),oo 10 (.bin .lss (tp 7) (tp 9))] [0,3,4,6,10] (.cond (tp 10) .skip (.exit 0))) (.seq (.block 1 (.seq (.draw [mq 13 0,mq 14 6,oo 15 (.idxA 13 (tp 13) (tp 14)),fi 16 0 15,oo 17 (.load (some 3) (tp 16)),oo 18 (.load (some 3) (tp 3)),oo 19 (.eqs false [.int,.str,.str] (tp 17) (tp 18))] [0,0,3,7,15,0,63] (.take 0 (.take 1 (.take 2 (.take 3 (.take 4 (.take 5 (.take 6 .done))))))) (some [0,3,4,6,19])) (.cond (tp 19) (sr [mq 20 0,mq 21 6,oo 22 (.idxA 13 (tp 20) (tp 21)),oo 23 (.load (some 13) (tp 22)),.mk none none (.store 13 (tp 4) (tp 23)),oo 5 (.mv (cq true))] [4,5] .ret) .skip))) (.region [mq 11 6,oo 12 (.bin .add (tp 11) (ci 1)),mq 6 12] (some [0,3,4,6]))))))) (sr [oo 24 (.build [.pd (.raw (.int .i64 0)),.pd (.raw (.string ⟨#[]⟩)),.pd (.raw (.string ⟨#[]⟩)),.pd (.raw (.bool false)),.nils,.nils,.pd (.raw (.string ⟨#[]⟩)),.nils,.nils,.nils,.nils,.nils,.nils] []),.mk none none (.store 13 (tp 4) (tp 24)),oo 5 (.mv (cq false))] [4,5] .ret)))
def an_z712c : Ann := ann [0,1,2,4,5,3,6] ac_z712c
theorem ok_z712c : okd Tryz.prog an_z712c ac_z712c Tryz.f18 := ⟨by kernel_rfl, by kernel_rfl⟩
theorem ret_z712c (st : St) : resD Tryz.prog st Tryz.f18.results.toList = resA st [.cell 4 (some 13), .tmp 5] := resD_of (by kernel_rfl)

end Go.Proofs.YtklolokoaooppaaGreatDoor


namespace Go.Proofs.YtklolokoaooppaaGreatDoor
open Go Go.RowKit
set_option linter.unusedSimpArgs false
set_option linter.unusedVariables false
set_option maxRecDepth 100000

theorem ref11_Find (os : List AObj) (hos : os.length ≤ 1000000) (r : ARef) : Pure Tryz.prog 18 [.pd (.slice (rows AObj.pd os)), r.d] (fun d => d = foundD (found os r)) := by
  refine pure_of_run follows an_z712c Tryz.func18 rfl ok_z712c.1 ok_z712c.2 (by simp [Tryz.ntmps18]) ?_
  rw [run_start]
  simp only [ac_z712c, oo, og, tp, ci, cq, mq, lq, fi, sr, go_sem, contS_seq, simprocAttr]
  refine loopS (fun k st => ∃ i : Nat, k = os.length - i ∧ i ≤ os.length ∧ (os.drop i).find? (isRef r) = found os r ∧
    st = ⟨[(0, .pd (.slice (rows AObj.pd os))), (3, .ptr 3 0), (4, .ptr 4 0), (6, int i)], [(3, [int r.kind, str r.space, str r.name]), (4, [int 0, str ⟨#[]⟩, str ⟨#[]⟩, bln false, .nils, .nils, str ⟨#[]⟩, .nils, .nils, .nils, .nils, .nils, .nils])], [], .no⟩) os.length _ ?_ ⟨0, rfl, by omega, rfl, rfl⟩ ?_
  · exact lessA
  rintro k st ⟨i, rfl, hi, hf, rfl⟩
  by_cases hlt : i < os.length
  · obtain ⟨x, hx⟩ := at_lt hlt
    have h1 : ((i : Int) < (os.length : Int)) = True := eq_true (by omega)
    have hw := i64_succ (show i < 1000000000 by omega)
    rw [drop_at hx, List.find?_cons] at hf
    simp only [go_sem, contS_seq, simprocAttr, rows_len, rows_get hx, h1, hw, eqVs, eqV, eq_Ref]
    refine GifP.mk (fun h => ?_) (fun h => ?_)
    · rw [show isRef r x = true by simp [isRef, h]] at hf
      simp only [retK, resD, resA, AOp.ex, St.ev, St.get, lk, oneD, D.pub, D.pubs, retL, reduceIte, Nat.reduceEqDiff, Nat.reduceAdd, Nat.reduceLeDiff, ret_z712c]
      refine ⟨_, rfl, rfl, ?_⟩
      rw [← hf]; rfl
    · rw [show isRef r x = false by simp [isRef, h]] at hf
      refine ⟨os.length - (i + 1), _, by omega, ?_, i + 1, rfl, by omega, hf, rfl⟩
      exact lessA
  · have h1 : ((i : Int) < (os.length : Int)) = False := eq_false (by omega)
    rw [List.drop_eq_nil_of_le (by omega), List.find?_nil] at hf
    simp only [go_sem, contS_seq, simprocAttr, rows_len, h1]
    simp only [retK, resD, resA, AOp.ex, St.ev, St.get, lk, oneD, D.pub, D.pubs, retL, reduceIte, Nat.reduceEqDiff, Nat.reduceAdd, Nat.reduceLeDiff, ret_z712c]
    refine ⟨_, rfl, rfl, ?_⟩
    rw [← hf]; rfl

abbrev AGoal.ds (g : AGoal) : List D := [int g.ref.kind, str g.ref.space, str g.ref.name, int g.port, int g.weight, bln g.bad]


theorem fewObj_sok (o : AObj) : (fewObj o).sok where
  rs := Nat.le_trans (few_size _) (by decide)
  rn := Nat.le_trans (few_size _) (by decide)
  lv := fun p hp => by
    obtain ⟨x, _, rfl⟩ := List.mem_map.1 hp
    exact Nat.le_trans (few_size _) (by decide)
  ln := fun l hl => by
    obtain ⟨x, _, rfl⟩ := List.mem_map.1 hl
    refine ⟨Nat.le_trans (few_size _) (by decide), Nat.le_trans (few_size _) (by decide), fun n hn s hs => ?_⟩
    obtain ⟨y, _, rfl⟩ := List.mem_map.1 hn
    obtain ⟨z, _, rfl⟩ := List.mem_map.1 hs
    exact Nat.le_trans (few_size _) (by decide)
  pa := fun p hp => by
    obtain ⟨x, _, rfl⟩ := List.mem_map.1 hp
    exact ⟨Nat.le_trans (few_size _) (by decide), Nat.le_trans (few_size _) (by decide)⟩
  ru := fun r hr => by
    obtain ⟨x, _, rfl⟩ := List.mem_map.1 hr
    refine ⟨fun m hm => ?_, fun f hf => ?_, fun b hb => ?_⟩
    · obtain ⟨y, _, rfl⟩ := List.mem_map.1 hm
      exact Nat.le_trans (few_size _) (by decide)
    · obtain ⟨y, _, rfl⟩ := List.mem_map.1 hf
      exact ⟨Nat.le_trans (few_size _) (by decide), Nat.le_trans (few_size _) (by decide)⟩
    · obtain ⟨y, _, rfl⟩ := List.mem_map.1 hb
      exact Nat.le_trans (few_size _) (by decide)
  si := fun s hs => by
    obtain ⟨y, _, rfl⟩ := List.mem_map.1 hs
    exact Nat.le_trans (few_size _) (by decide)

theorem fewObjs_sok {l : List AObj} : ∀ o ∈ fewObjs l, o.sok := fun o ho => by
  obtain ⟨x, _, rfl⟩ := List.mem_map.1 ho
  exact fewObj_sok x

theorem ref11_Near (r : ARef) (s : ByteArray) : Pure Tryz.prog 21 [r.d, str s] (fun d => d = (near r s).d) := by
  refine pure_of_run follows an_z40mp Tryz.func21 rfl ok_z40mp.1 ok_z40mp.2 (by simp [Tryz.ntmps21]) ?_
  rw [run_start]
  simp only [ac_z40mp, oo, og, tp, ci, cq, mq, lq, fi, sr, go_sem, contS_seq, simprocAttr]
  repeat' (first | refine GifP.mk (fun _ => ?_) (fun _ => ?_) | refine Gif.mk (fun _ => ?_) (fun _ => ?_))
  all_goals
    simp only [retK, resD, resA, AOp.ex, St.ev, St.get, lk, oneD, D.pub, D.pubs, retL, reduceIte, Nat.reduceEqDiff, Nat.reduceAdd, Nat.reduceLeDiff, ret_z40mp]
    exact ⟨_, rfl, rfl, by simp_all [near, oneD, D.pub, D.pubs]⟩

theorem lets_iff (kind : Int) (space : ByteArray) (t : ARef) (o : AObj) : lets kind space t o = true ↔ (o.ref.kind = 7 ∧ o.ref.space = t.space ∧ objMay o = true) ∧ ∃ (i : Nat) (x : ASide) (k : Nat) (y : ASide), o.from_[i]? = some x ∧ o.to_[k]? = some y ∧ (x.kind = kind ∧ x.space = space) ∧ y.kind = t.kind ∧ (y.name = ⟨#[]⟩ ∨ y.name = t.name) := by
  simp only [lets, Bool.and_eq_true, decide_eq_true_eq, List.any_eq_true, sideIs, sideAt, Bool.or_eq_true, and_assoc]
  constructor
  · rintro ⟨h1, h2, h3, ⟨x, hx, h4, h5⟩, y, hy, h6, h7⟩
    obtain ⟨i, hi⟩ := List.getElem?_of_mem hx
    obtain ⟨k, hk⟩ := List.getElem?_of_mem hy
    exact ⟨h1, h2, h3, i, x, k, y, hi, hk, h4, h5, h6, h7⟩
  · rintro ⟨h1, h2, h3, i, x, k, y, hi, hk, h4, h5, h6, h7⟩
    exact ⟨h1, h2, h3, ⟨x, List.mem_of_getElem? hi, h4, h5⟩, y, List.mem_of_getElem? hk, h6, h7⟩

set_option maxHeartbeats 8000000 in
theorem ref11_Lets (o : AObj) (h : o.ok) (hs : o.sok) (kind : Int) (space : ByteArray) (t : ARef) : Pure Tryz.prog 22 [o.d, int kind, str space, t.d] (fun d => d = bln (lets kind space t o)) := by
  have hfr := h.fr
  have hto := h.to
  refine pure_of_run follows an_zjm7s Tryz.func22 rfl ok_zjm7s.1 ok_zjm7s.2 (by simp [Tryz.ntmps22]) ?_
  rw [run_start]
  simp only [ac_zjm7s, oo, og, tp, ci, cq, mq, lq, fi, sr, go_sem, contS_seq, simprocAttr, rows_len]
  repeat' (first | refine GifP.mk (fun _ => ?_) (fun _ => ?_) | refine Gif.mk (fun _ => ?_) (fun _ => ?_) | (refine (ref9_May o h hs).callW (enters_of Tryz.func12 rfl rfl) _ rfl rfl ?_; rintro _ rfl; simp only [go_sem, contS_seq, simprocAttr, rows_len]))
  all_goals first
    | (simp only [retK, resD, St.get, lk, oneD, D.pub, D.pubs, retL, reduceIte, Nat.reduceEqDiff, Nat.reduceAdd, Nat.reduceLeDiff, Tryz.results22]; exact ⟨_, rfl, rfl, bool_no fun e => by have := ((lets_iff kind space t o).1 e).1; simp_all⟩)
    | skip
  have hA : o.ref.kind = 7 ∧ o.ref.space = t.space ∧ objMay o = true := by simp_all
  refine loopS (fun k st => ∃ i : Nat, k = o.from_.length - i ∧ i ≤ o.from_.length ∧ (∀ (j : Nat) (x : ASide), j < i → o.from_[j]? = some x → ∀ (k : Nat) (y : ASide), o.to_[k]? = some y → ¬ ((x.kind = kind ∧ x.space = space) ∧ y.kind = t.kind ∧ (y.name = ⟨#[]⟩ ∨ y.name = t.name))) ∧ st = ⟨[(1, int kind), (2, str space), (4, .ptr 4 0), (7, .ptr 7 0), (9, int i)], [(4, o.ds), (7, [int t.kind, str t.space, str t.name])], [], .no⟩) o.from_.length _ ?_ ⟨0, rfl, by omega, fun _ _ h => absurd h (Nat.not_lt_zero _), rfl⟩ ?_
  · exact lessA
  rintro k st ⟨i, rfl, hi, hT, rfl⟩
  have hw := i64_succ (show i < 1000000000 by omega)
  by_cases hlt : i < o.from_.length
  · obtain ⟨x, hx⟩ := at_lt hlt
    have hmem := List.mem_of_getElem? hx
    have h1 : ((i : Int) < (o.from_.length : Int)) = True := eq_true (by omega)
    have good : (∀ (k : Nat) (y : ASide), o.to_[k]? = some y → ¬ ((x.kind = kind ∧ x.space = space) ∧ y.kind = t.kind ∧ (y.name = ⟨#[]⟩ ∨ y.name = t.name))) → ∀ st, Weak Tryz.prog st ⟨[(1, int kind), (2, str space), (4, .ptr 4 0), (7, .ptr 7 0), (9, int (i + 1 : Nat))], [(4, o.ds), (7, [int t.kind, str t.space, str t.name])], [], .no⟩ → Round Tryz.prog (fun k st => ∃ i : Nat, k = o.from_.length - i ∧ i ≤ o.from_.length ∧ (∀ (j : Nat) (x : ASide), j < i → o.from_[j]? = some x → ∀ (k : Nat) (y : ASide), o.to_[k]? = some y → ¬ ((x.kind = kind ∧ x.space = space) ∧ y.kind = t.kind ∧ (y.name = ⟨#[]⟩ ∨ y.name = t.name))) ∧ st = ⟨[(1, int kind), (2, str space), (4, .ptr 4 0), (7, .ptr 7 0), (9, int i)], [(4, o.ds), (7, [int t.kind, str t.space, str t.name])], [], .no⟩) (o.from_.length - i) st := fun h st hw => ⟨o.from_.length - (i + 1), _, by omega, hw, i + 1, rfl, by omega, snoc_all hT hx h, rfl⟩
    simp only [go_sem, contS_seq, simprocAttr, rows_len, rows_get hx, h1, hw]
    refine loopS (fun n st => ∃ k : Nat, n = o.to_.length - k ∧ k ≤ o.to_.length ∧ (∀ (k' : Nat) (y : ASide), k' < k → o.to_[k']? = some y → ¬ ((x.kind = kind ∧ x.space = space) ∧ y.kind = t.kind ∧ (y.name = ⟨#[]⟩ ∨ y.name = t.name))) ∧ st = ⟨[(1, int kind), (2, str space), (4, .ptr 4 0), (7, .ptr 7 0), (9, int i), (10, int k)], [(4, o.ds), (7, [int t.kind, str t.space, str t.name])], [], .no⟩) o.to_.length _ ?_ ⟨0, rfl, by omega, fun _ _ h => absurd h (Nat.not_lt_zero _), rfl⟩ ?_
    · exact lessA
    rintro n st ⟨k, rfl, hk, hS, rfl⟩
    have hwk := i64_succ (show k < 1000000000 by omega)
    by_cases hki : k < o.to_.length
    · obtain ⟨y, hy⟩ := at_lt hki
      have h2 : ((k : Int) < (o.to_.length : Int)) = True := eq_true (by omega)
      have goodk : (¬ ((x.kind = kind ∧ x.space = space) ∧ y.kind = t.kind ∧ (y.name = ⟨#[]⟩ ∨ y.name = t.name))) → ∀ st, Weak Tryz.prog st ⟨[(1, int kind), (2, str space), (4, .ptr 4 0), (7, .ptr 7 0), (9, int i), (10, int (k + 1 : Nat))], [(4, o.ds), (7, [int t.kind, str t.space, str t.name])], [], .no⟩ → Round Tryz.prog (fun n st => ∃ k : Nat, n = o.to_.length - k ∧ k ≤ o.to_.length ∧ (∀ (k' : Nat) (y : ASide), k' < k → o.to_[k']? = some y → ¬ ((x.kind = kind ∧ x.space = space) ∧ y.kind = t.kind ∧ (y.name = ⟨#[]⟩ ∨ y.name = t.name))) ∧ st = ⟨[(1, int kind), (2, str space), (4, .ptr 4 0), (7, .ptr 7 0), (9, int i), (10, int k)], [(4, o.ds), (7, [int t.kind, str t.space, str t.name])], [], .no⟩) (o.to_.length - k) st := fun h st hw => ⟨o.to_.length - (k + 1), _, by omega, hw, k + 1, rfl, by omega, snoc_all hS hy h, rfl⟩
      have win : ((x.kind = kind ∧ x.space = space) ∧ y.kind = t.kind ∧ (y.name = ⟨#[]⟩ ∨ y.name = t.name)) → bln true = bln (lets kind space t o) := fun h => bool_yes ((lets_iff kind space t o).2 ⟨hA, i, x, k, y, hx, hy, h⟩)
      simp only [go_sem, contS_seq, simprocAttr, rows_len, rows_get hx, rows_get hy, h2, hwk]
      repeat' (first | refine GifP.mk (fun _ => ?_) (fun _ => ?_) | refine Gif.mk (fun _ => ?_) (fun _ => ?_) | refine And.intro ?_ ?_)
      all_goals first
        | (simp only [retK, resD, St.get, lk, oneD, D.pub, D.pubs, retL, reduceIte, Nat.reduceEqDiff, Nat.reduceAdd, Nat.reduceLeDiff, Tryz.results22]; exact ⟨_, rfl, rfl, win (by simp_all)⟩)
        | (refine goodk (by simp_all) _ ?_; exact lessA)
    have h2 : ((k : Int) < (o.to_.length : Int)) = False := eq_false (by omega)
    have hIn : ∀ (k : Nat) (y : ASide), o.to_[k]? = some y → ¬ ((x.kind = kind ∧ x.space = space) ∧ y.kind = t.kind ∧ (y.name = ⟨#[]⟩ ∨ y.name = t.name)) := fun k' y hy => hS k' y (by have := (List.getElem?_eq_some_iff.1 hy).1; omega) hy
    clear hS hwk hk
    simp only [go_sem, contS_seq, simprocAttr, rows_len, rows_get hx, h2, hw]
    clear h2 hki k
    refine good hIn _ ?_
    exact lessA
  have h1 : ((i : Int) < (o.from_.length : Int)) = False := eq_false (by omega)
  have hall : ∀ (j : Nat) (x : ASide), o.from_[j]? = some x → ∀ (k : Nat) (y : ASide), o.to_[k]? = some y → ¬ ((x.kind = kind ∧ x.space = space) ∧ y.kind = t.kind ∧ (y.name = ⟨#[]⟩ ∨ y.name = t.name)) := fun j x hx => hT j x (by have := (List.getElem?_eq_some_iff.1 hx).1; omega) hx
  clear hT hw hi
  simp only [go_sem, contS_seq, simprocAttr, rows_len, h1]
  first | clear h1 hlt i | clear h1 hlt
  simp only [retK, resD, St.get, lk, oneD, D.pub, D.pubs, retL, reduceIte, Nat.reduceEqDiff, Nat.reduceAdd, Nat.reduceLeDiff, Tryz.results22]
  exact ⟨_, rfl, rfl, bool_no fun e => by
    obtain ⟨i, x, k, y, hi, hk, h5⟩ := ((lets_iff kind space t o).1 e).2
    exact hall i x hi k y hk h5⟩

def byRefs (kind : Int) (space : ByteArray) (t : ARef) (os : List AObj) : List ARef := (os.filter (lets kind space t)).map (·.ref)

set_option maxHeartbeats 4000000 in
theorem ref11_By (os : List AObj) (hos : os.length ≤ 1000000) (h : ∀ o ∈ os, o.ok) (hs : ∀ o ∈ os, o.sok) (kind : Int) (space : ByteArray) (t : ARef) :
    Pure Tryz.prog 25 [.pd (.slice (rows AObj.pd os)), int kind, str space, t.d] (fun d => d = .pd (.slice (rows ARef.pd (byRefs kind space t os)))) := by
  refine pure_of_run follows an_zan0 Tryz.func25 rfl ok_zan0.1 ok_zan0.2 (by simp [Tryz.ntmps25]) ?_
  rw [run_start]
  simp only [ac_zan0, oo, og, tp, ci, cq, mq, lq, fi, sr, go_sem, contS_seq, simprocAttr, rows_len]
  refine loopS (fun k st => ∃ i : Nat, k = os.length - i ∧ i ≤ os.length ∧ st = ⟨[(0, .pd (.slice (rows AObj.pd os))), (1, int kind), (2, str space), (7, .ptr 7 0), (9, .own 23 3 (rows ARef.pd (byRefs kind space t (os.take i))) 32), (10, int i)], [(7, [int t.kind, str t.space, str t.name])], [], .no⟩) os.length _ ?_ ⟨0, rfl, by omega, rfl⟩ ?_
  · exact Weak.own1 9 32 23 3 (by kernel_rfl) (by decide) rfl (by simp [lessL, lk, St.purge, St.put, D.purge, rows, byRefs]) (by simp [lessL, lk, St.purge, D.purges, D.purge]) (by simp [lessL]) rfl
  rintro k st ⟨i, rfl, hi, rfl⟩
  have hw := i64_succ (show i < 1000000000 by omega)
  obtain ⟨out, hout⟩ : ∃ out, byRefs kind space t (os.take i) = out := ⟨_, rfl⟩
  have hlen : out.length ≤ i := by
    rw [← hout, byRefs, List.length_map]
    have := List.length_filter_le (lets kind space t) (os.take i)
    rw [List.length_take] at this
    omega
  by_cases hlt : i < os.length
  · obtain ⟨x, hx⟩ := at_lt hlt
    have hmem := List.mem_of_getElem? hx
    have h1 : ((i : Int) < (os.length : Int)) = True := eq_true (by omega)
    have hst : byRefs kind space t (os.take (i + 1)) = if lets kind space t x = true then out ++ [x.ref] else out := by
      rw [take_at hx, byRefs, List.filter_append, List.map_append]
      rw [byRefs] at hout
      rw [hout]
      split
      · rename_i hl; simp [hl]
      · rename_i hl; simp [hl]
    rw [hout]
    simp only [go_sem, contS_seq, simprocAttr, rows_len, rows_get hx, h1, hw]
    refine (ref11_Lets x (h x hmem) (hs x hmem) kind space t).callX (enters_of Tryz.func22 rfl rfl) _ rfl rfl ?_
    rintro _ rfl
    simp only [go_sem, contS_seq, simprocAttr, rows_len, rows_get hx, hw]
    refine Gif.mk (fun hl => ?_) (fun hl => ?_)
    · rw [if_pos hl] at hst
      have e1 : rows ARef.pd out ++ [ARef.pd x.ref] = rows ARef.pd (byRefs kind space t (os.take (i + 1))) := by rw [hst]; simp [rows]
      refine ⟨by simp, by simp only [maxLen]; omega, by omega, os.length - (i + 1), _, by omega, ?_, i + 1, rfl, by omega, rfl⟩
      rw [← e1]
      exact lessA
    · rw [if_neg (by rw [hl]; decide)] at hst
      refine ⟨os.length - (i + 1), _, by omega, ?_, i + 1, rfl, by omega, rfl⟩
      rw [hst]
      exact lessA
  have h1 : ((i : Int) < (os.length : Int)) = False := eq_false (by omega)
  rw [List.take_of_length_le (by omega)] at hout
  rw [List.take_of_length_le (by omega), hout]
  simp only [go_sem, contS_seq, simprocAttr, rows_len, h1]
  simp only [retK, resD, St.get, lk, oneD, D.pub, D.pubs, retL, reduceIte, Nat.reduceEqDiff, Nat.reduceAdd, Nat.reduceLeDiff, Tryz.results25]
  exact ⟨_, rfl, rfl, rfl⟩

theorem byRefs_pos (kind : Int) (space : ByteArray) (t : ARef) (os : List AObj) : 0 < (byRefs kind space t os).length ↔ os.any (lets kind space t) = true := by
  rw [byRefs, List.length_map, List.length_pos_iff_exists_mem, List.any_eq_true]
  simp [List.mem_filter]

set_option maxHeartbeats 2000000 in
theorem ref11_Permits (os : List AObj) (hos : os.length ≤ 1000000) (h : ∀ o ∈ os, o.ok) (hs : ∀ o ∈ os, o.sok) (kind : Int) (space : ByteArray) (t : ARef) :
    Pure Tryz.prog 23 [.pd (.slice (rows AObj.pd os)), int kind, str space, t.d] (fun d => d = bln (permits os kind space t)) := by
  have hp := byRefs_pos kind space t os
  have hpe : permits os kind space t = (os.any (lets kind space t) || decide (space = t.space)) := rfl
  refine pure_of_run follows an_zm32y Tryz.func23 rfl ok_zm32y.1 ok_zm32y.2 (by simp [Tryz.ntmps23]) ?_
  rw [run_start]
  simp only [ac_zm32y, oo, og, tp, ci, cq, mq, lq, fi, sr, go_sem, contS_seq, simprocAttr, rows_len]
  (repeat' (first | (refine GifP.mk (fun _ => ?_) (fun _ => ?_)) | (refine Gif.mk (fun _ => ?_) (fun _ => ?_)) | (refine (ref11_By os hos h hs kind space t).callW (enters_of Tryz.func25 rfl rfl) _ rfl rfl ?_; rintro _ rfl; try simp only [go_sem, contS_seq, simprocAttr, rows_len]))) <;> (simp only [retK, resD, St.get, lk, oneD, D.pub, D.pubs, retL, reduceIte, Nat.reduceEqDiff, Nat.reduceAdd, Nat.reduceLeDiff, Tryz.results23]; refine ⟨_, rfl, rfl, ?_⟩; exact congrArg bln (by rw [Bool.eq_iff_iff, hpe]; simp only [Bool.or_eq_true, decide_eq_true_eq, ← hp]; first | (simp_all; done) | (simp_all; omega)))


section
variable {α : Type} [DecidableEq α]

def atG (k : α) : List (α × Int) → Nat → Option (Nat × Int)
  | [], _ => none
  | (a, v) :: r, i => if k = a then some (i, v) else atG k r (i + 1)

def lookG (k : α) (l : List (α × Int)) : Int := match atG k l 0 with
  | some p => p.2
  | none => 0

def bumpG (k : α) (l : List (α × Int)) : List (α × Int) := match atG k l 0 with
  | some p => l.set p.1 (k, p.2 + 1)
  | none => l ++ [(k, 1)]

theorem atG_from (k : α) : ∀ (l : List (α × Int)) (i : Nat), atG k l (i + 1) = (atG k l i).map fun p => (p.1 + 1, p.2)
  | [], _ => rfl
  | (a, v) :: r, i => by
    simp only [atG]
    split
    · rfl
    · exact atG_from k r (i + 1)

theorem lookG_cons (k a : α) (v : Int) (r : List (α × Int)) : lookG k ((a, v) :: r) = if k = a then v else lookG k r := by
  unfold lookG
  simp only [atG]
  by_cases h : k = a
  · simp only [if_pos h]
  · simp only [if_neg h, atG_from]
    cases atG k r 0 <;> rfl

theorem bumpG_cons (k a : α) (v : Int) (r : List (α × Int)) : bumpG k ((a, v) :: r) = if k = a then (k, v + 1) :: r else (a, v) :: bumpG k r := by
  unfold bumpG
  simp only [atG]
  by_cases h : k = a
  · simp only [if_pos h, List.set_cons_zero]
  · simp only [if_neg h, atG_from]
    cases atG k r 0 <;> rfl

theorem lookG_bumpG (k j : α) : ∀ l : List (α × Int), lookG j (bumpG k l) = lookG j l + if j = k then 1 else 0
  | [] => by
    show lookG j ([] ++ [(k, 1)]) = _
    rw [List.nil_append, lookG_cons]
    split <;> rfl
  | (a, v) :: r => by
    rw [bumpG_cons, lookG_cons]
    by_cases h : k = a
    · rw [if_pos h, lookG_cons]
      subst h
      by_cases hj : j = k <;> simp [hj]
    · rw [if_neg h, lookG_cons, lookG_bumpG k j r]
      by_cases hj : j = a
      · subst hj
        simp [show ¬ j = k from fun e => h e.symm]
      · simp [hj]

def entG (f : α → List Value) (l : List (α × Int)) : List (Value × Value) := l.map fun p => (.agg (f p.1).toArray, .int .i64 p.2)

theorem findS_ent {ks : List LK} {f : α → List Value} (hf : ∀ a b, eqVs ks (f a) (f b) = some (decide (a = b))) (k : α) : ∀ (l : List (α × Int)) (i : Nat), findS ks (f k) (entG f l) i = some ((atG k l i).map fun p => (p.1, Value.int .i64 p.2))
  | [], _ => rfl
  | (a, v) :: r, i => by
    have ih := findS_ent hf k r (i + 1)
    simp only [entG, List.map_cons] at ih ⊢
    simp only [findS, atG, hf]
    by_cases h : k = a
    · simp only [h, decide_true, if_true, Option.map_some]
    · simp only [h, decide_false, if_false]
      exact ih

theorem cd_look (k : α) (l : List (α × Int)) (r : Option (Nat × Value)) (hr : r = (atG k l 0).map fun p => (p.1, Value.int .i64 p.2)) : cD0 ((Option.map (fun p => p.2) r).getD (.int .i64 0)) = int (lookG k l) := by
  subst hr
  unfold lookG
  cases atG k l 0 <;> rfl

theorem atG_at (k : α) : ∀ (l : List (α × Int)) (i : Nat) (p : Nat × Int), atG k l i = some p → i ≤ p.1 ∧ p.1 - i < l.length
  | [], _, _, h => by simp [atG] at h
  | (a, v) :: r, i, p, h => by
    simp only [atG] at h
    split at h
    · cases h; simp
    · have := atG_at k r (i + 1) p h
      simp only [List.length_cons]
      omega

theorem setAt_nat (es : List (Value × Value)) (p : Nat) (u : Value) : setAt es (p : Int) u = (es[p]?).map fun e => es.set p (e.1, u) := by
  unfold setAt
  rw [if_pos (Int.natCast_nonneg _), Int.toNat_natCast]

def touchG (k : α) (l : List (α × Int)) : List (α × Int) := match atG k l 0 with
  | some _ => l
  | none => l ++ [(k, 0)]

theorem atG_app (k : α) (m : List (α × Int)) : ∀ (l : List (α × Int)) (i : Nat), atG k l i = none → atG k (l ++ m) i = atG k m (i + l.length)
  | [], i, _ => by simp
  | (a, v) :: r, i, h => by
    simp only [atG] at h
    split at h
    · cases h
    · rename_i hk
      simp only [List.cons_append, atG, if_neg hk, List.length_cons]
      rw [atG_app k m r (i + 1) h, show i + 1 + r.length = i + (r.length + 1) by omega]

theorem look_touch (k : α) (l : List (α × Int)) : lookG k (touchG k l) = lookG k l := by
  unfold touchG
  cases h : atG k l 0 with
  | some p => rfl
  | none =>
    simp only
    unfold lookG
    rw [atG_app k _ l 0 h, h]
    simp [atG]

theorem getElem_at (k : α) : ∀ (l : List (α × Int)) (i : Nat) (p : Nat × Int), atG k l i = some p → l[p.1 - i]? = some (k, p.2)
  | [], _, _, h => by simp [atG] at h
  | (a, v) :: r, i, p, h => by
    have hb := atG_at k ((a, v) :: r) i p h
    simp only [atG] at h
    split at h
    · rename_i hk
      cases h
      simp [hk]
    · have h1 := getElem_at k r (i + 1) p h
      have h2 := atG_at k r (i + 1) p h
      rw [show p.1 - i = (p.1 - (i + 1)) + 1 by omega, List.getElem?_cons_succ]
      exact h1

theorem touch_put (f : α → List Value) (k : α) (l : List (α × Int)) (r : Option (Nat × Value)) (hr : r = (atG k l 0).map fun p => (p.1, Value.int .i64 p.2)) :
    putM (.agg (f k).toArray) ((Option.map (fun p => p.2) r).getD (.int .i64 0)) r (entG f l) = entG f (touchG k l) := by
  subst hr
  unfold touchG
  cases h : atG k l 0 with
  | none => simp [putM, entG]
  | some p =>
    simp only [Option.map_some, Option.getD_some, putM]
    have h1 := getElem_at k l 0 p h
    rw [Nat.sub_zero] at h1
    refine List.ext_getElem? fun m => ?_
    rw [List.getElem?_set]
    by_cases hm : p.1 = m
    · subst hm
      have := (List.getElem?_eq_some_iff.1 h1).1
      simp [entG, h1, this, (List.getElem?_eq_some_iff.1 h1).2]
    · simp [hm]

theorem set_bump (f : α → List Value) (k : α) (l : List (α × Int)) (r : Option (Nat × Value)) (hr : r = (atG k l 0).map fun p => (p.1, Value.int .i64 p.2)) :
    setAt (putM (.agg (f k).toArray) ((Option.map (fun p => p.2) r).getD (.int .i64 0)) r (entG f l)) (stampM r (entG f l)) (.int .i64 (lookG k l + 1)) = some (entG f (bumpG k l)) := by
  subst hr
  unfold lookG bumpG
  cases h : atG k l 0 with
  | none =>
    show setAt (entG f l ++ [(Value.agg (f k).toArray, Value.int .i64 0)]) ((entG f l).length : Nat) (.int .i64 (0 + 1)) = _
    rw [setAt_nat]
    simp [entG]
  | some p =>
    have := atG_at k l 0 p h
    have hl : p.1 < l.length := by omega
    show setAt ((entG f l).set p.1 (Value.agg (f k).toArray, Value.int .i64 p.2)) (p.1 : Nat) (.int .i64 (p.2 + 1)) = _
    rw [setAt_nat]
    simp [entG, List.map_set, hl]

theorem count_step {β : Type} {f : β → α} {l : List β} {i : Nat} {x : β} (h : l[i]? = some x) {es : List (α × Int)} (hes : ∀ k, lookG k es = ((l.take i).countP fun y => decide (f y = k) : Nat)) (k : α) :
    lookG k (bumpG (f x) es) = ((l.take (i + 1)).countP fun y => decide (f y = k) : Nat) := by
  rw [lookG_bumpG, hes, take_at h, List.countP_append]
  by_cases hk : k = f x
  · subst hk; simp
  · simp [hk, show ¬ f x = k from fun e => hk e.symm]
end

end Go.Proofs.YtklolokoaooppaaGreatDoor



namespace Go.Proofs.YtklolokoaooppaaGreatDoor
open Go

def ac_z5yrj : AC := (sr [oo 4 (.box 32 (tp 1)),oo 6 (.mv (cq false))] [0,2,4] (.seq (.draw [mq 10 0,oo 11 (.call 26 [tp 10]),oo 12 (.load (some 13) (tp 4)),oo 13 (.call 8 [tp 12]),mq 0 11,.mk none none (.store 13 (tp 4) (tp 13))] [0,1,0,7,15,31] (.take 0 (.take 2 (.alts (.cons 1 false (.alts (.cons 3 true (.take 4 (.alts (.cons 5 true .done .nil))) .nil)) .nil)))) (some [0,2,4])) (.seq (.seq (.draw [mq 14 0,oo 15 (.load (some 13) (tp 4)),oo 16 (.call 27 [tp 14,tp 15]),mq 17 0,oo 18 (.load (some 13) (tp 4)),oo 19 (.call 28 [tp 17,tp 18]),oo 20 (.binB true (tp 16) (tp 19)),mq 21 20,og 21 false 22 (.load (some 13) (tp 4)),og 21 false 23 (.mv (tp 2)),og 21 false 24 (.call 29 [tp 22,tp 23]),og 21 false 25 (.load (some 13) (tp 4)),og 21 false 26 (.mv (tp 2)),og 21 false 27 (.call 30 [tp 25,tp 26]),og 21 false 28 (.bin .neq (tp 24) (tp 27)),oo 29 (.pick (tp 21) (cq true) (tp 28)),mq 30 29,og 30 false 31 (.mv (tp 0)),og 30 false 32 (.load (some 13) (tp 4)),og 30 false 33 (.mv (tp 2)),og 30 false 34 (.call 31 [tp 31,tp 32,tp 33]),og 30 false 35 (.mv (tp 0)),og 30 false 36 (.load (some 13) (tp 4)),og 30 false 37 (.mv (tp 2)),og 30 false 38 (.call 32 [tp 35,tp 36,tp 37]),og 30 false 39 (.bin .neq (tp 34) (tp 38)),oo 40 (.pick (tp 30) (cq true) (tp 39)),mq 41 40,og 41 false 42 (.mv (tp 0)),og 41 false 43 (.load (some 13) (tp 4)),og 41 false 44 (.mv (tp 2)),og 41 false 45 (.call 33 [tp 42,tp 43,tp 44]),og 41 false 46 (.mv (tp 0)),og 41 false 47 (.load (some 13) (tp 4)),og 41 false 48 (.mv (tp 2)),og 41 false 49 (.call 34 [tp 46,tp 47,tp 48]),og 41 false 50 (.binB true (tp 45) (tp 49)),oo 51 (.pick (tp 41) (cq true) (tp 50))] [0,0,3,0,0,31,63,127,255,255,1023,255,255,8191,16383,32767,65535,131071,131071,131071,1048575,131071,131071,131071,16777215,33554431,67108863,134217727,268435455,268435455,268435455,2147483647,268435455,268435455,268435455,34359738367,68719476735,137438953471] (.take 0 (.take 1 (.take 3 (.take 4 (.alts (.cons 2 false (.alts (.cons 5 true (.take 6 (.take 7 (.take 8 (.take 9 (.take 11 (.take 12 (.alts (.cons 10 false (.alts (.cons 13 true (.take 14 (.take 15 (.take 16 (.take 17 (.take 18 (.take 19 (.take 21 (.take 22 (.take 23 (.alts (.cons 20 false (.alts (.cons 24 true (.take 25 (.take 26 (.take 27 (.take 28 (.take 29 (.take 30 (.take 32 (.take 33 (.take 34 (.alts (.cons 31 false (.alts (.cons 35 true (.take 36 (.take 37 .done)) .nil)) .nil))))))))))) .nil)) .nil))))))))))) .nil)) .nil)))))))) .nil)) .nil)))))) (some [0,4,51])) (.cond (tp 51) (sr [oo 6 (.mv (cq false))] [6] .ret) .skip)) (sr [mq 52 0,oo 53 (.load (some 13) (tp 4)),oo 54 (.call 35 [tp 52,tp 53]),mq 7 54] [0,4,7] (sr [oo 8 (.mv (ci 0))] [0,4,7,8] (.seq (sr [oo 9 (.mv (ci 0))] [0,4,7,8,9] (.block 0 (.loop (.seq (sr [mq 55 9,fi 56 7 4,lq 57 56,oo 58 (.len (tp 57) false),oo 59 (.bin .lss (tp 55) (tp 58))] [0,4,7,8,9,59] (.cond (tp 59) .skip (.exit 0))) (.seq (.block 1 (.seq (sr [mq 62 0,oo 63 (.load (some 13) (tp 4)),mq 64 9,oo 65 (.call 34 [tp 62,tp 63,tp 64]),oo 66 (.un .not (tp 65))] [0,4,7,8,9,66] (.cond (tp 66) (.exit 1) .skip)) (.seq (sr [mq 67 8,mq 68 7,oo 69 (.len (tp 68) false),oo 70 (.bin .geq (tp 67) (tp 69)),mq 71 70,og 71 false 72 (.mv (tp 7)),og 71 false 73 (.mv (tp 8)),og 71 false 74 (.idxA 1 (tp 72) (tp 73)),og 71 false 75 (.load none (tp 74)),og 71 false 76 (.mv (tp 9)),og 71 false 77 (.bin .neq (tp 75) (tp 76)),oo 78 (.pick (tp 71) (cq true) (tp 77))] [0,4,7,8,9,78] (.cond (tp 78) (sr [oo 6 (.mv (cq false))] [6] .ret) .skip)) (.region [mq 79 8,oo 80 (.bin .add (tp 79) (ci 1)),mq 8 80] (some [0,4,7,8,9]))))) (.region [mq 60 9,oo 61 (.bin .add (tp 60) (ci 1)),mq 9 61] (some [0,4,7,8,9]))))))) (sr [mq 81 8,mq 82 7,oo 83 (.len (tp 82) false),oo 84 (.bin .eql (tp 81) (tp 83)),mq 85 84,og 85 true 86 (.call 36 []),oo 87 (.pick (tp 85) (tp 86) (cq false)),mq 6 87] [6] .ret)))))))
def an_z5yrj : Ann := ann [0,1,2,3,4,5,6,7,9,10,11,8,12,13] ac_z5yrj
theorem ok_z5yrj : okd Tryz.prog an_z5yrj ac_z5yrj Tryz.f6 := ⟨by kernel_rfl, by kernel_rfl⟩

def ac_zws5f : AC := (sr [oo 3 (.box 32 (tp 1)),oo 4 (.mv (cq false))] [0,3] (sr [oo 5 (.load (some 13) (tp 3)),oo 6 (.call 69 [tp 5]),mq 7 6,og 7 true 8 (.mv (tp 0)),og 7 true 9 (.fieldA 6 (tp 3)),og 7 true 10 (.load none (tp 9)),og 7 true 11 (.build [.pd (.raw (.int .i64 0)),.pd (.raw (.string ⟨#[]⟩)),.pd (.raw (.string ⟨#[]⟩))] [(0,1,ci 1),(2,1,tp 10)]),og 7 true 12 (.call 70 [tp 8,tp 11]),oo 13 (.pick (tp 7) (tp 12) (cq false)),mq 4 13] [4] .ret))
def an_zws5f : Ann := ann (List.range 2) ac_zws5f
theorem ok_zws5f : okd Tryz.prog an_zws5f ac_zws5f Tryz.f27 := ⟨by kernel_rfl, by kernel_rfl⟩

def ac_zn9vq : AC := (sr [oo 2 (.box 32 (tp 0)),oo 4 (.mv (.const (.string ⟨#[]⟩)))] [1,2] (sr [oo 12 (.load (some 13) (tp 2)),mq 13 1,oo 14 (.call 71 [tp 12,tp 13]),mq 11 14,oo 15 (.extract (tp 11) 0),oo 16 (.extract (tp 11) 1),oo 5 (.alloc 78 [.pd (.raw (.string ⟨#[]⟩)),.pd (.raw (.int .i64 0)),.pd (.raw (.bool false)),.pd (.raw (.string ⟨#[]⟩)),.pd (.raw (.int .i64 0)),.pd (.raw (.string ⟨#[]⟩)),.pd (.raw (.string ⟨#[]⟩)),.pd (.raw (.int .i64 0)),.nils]),.mk none none (.store 9 (tp 5) (tp 15)),mq 6 16] [2,5,6] (.seq (sr [mq 17 6,oo 18 (.un .not (tp 17))] [2,5,18] (.cond (tp 18) (sr [oo 4 (.mv (.const (.string ⟨#[]⟩)))] [4] .ret) .skip)) (sr [oo 19 .mkmap,oo 20 .mkmap,mq 7 19,mq 8 20] [2,5,7,8] (.seq (sr [fi 21 7 2,lq 22 21,oo 23 (.len (tp 22) false),oo 24 (.mv (ci 0))] [5,7,8,22,23,24] (.block 0 (.loop (sr [oo 25 (.bin .lss (tp 24) (tp 23))] [5,7,8,22,23,24,25] (.seq (.cond (tp 25) .skip (.exit 0)) (.seq (.block 1 (sr [oo 26 (.idxA 9 (tp 22) (tp 24)),oo 27 (.load (some 9) (tp 26)),oo 10 (.alloc 78 [.pd (.raw (.string ⟨#[]⟩)),.pd (.raw (.int .i64 0)),.pd (.raw (.bool false)),.pd (.raw (.string ⟨#[]⟩)),.pd (.raw (.int .i64 0)),.pd (.raw (.string ⟨#[]⟩)),.pd (.raw (.string ⟨#[]⟩)),.pd (.raw (.int .i64 0)),.nils]),.mk none none (.store 9 (tp 10) (tp 27))] [5,7,8,10,22,23,24] (.seq (.draw [mq 28 7,oo 29 (.load (some 9) (tp 10)),oo 30 (.call 72 [tp 29]),oo 31 (.field 0 (some 2) (tp 30)),oo 32 (.mget [.int,.bool] (.int .i64 0) (tp 28) (tp 31)),oo 33 (.bin .add (tp 32) (ci 1)),oo 34 (.mentry [.int,.bool] (.int .i64 0) (tp 28) (tp 31)),oo 35 (.extract (tp 34) 1),.mk none none (.mstore (tp 28) (tp 35) (tp 33))] [0,0,2,6,15,31,15,79,255] (.take 0 (.take 1 (.alts (.cons 2 false (.take 3 (.alts (.cons 4 true (.take 5 (.alts (.cons 6 false (.take 7 (.alts (.cons 8 true .done .nil))) .nil))) (.cons 6 true (.take 4 (.take 5 (.take 7 (.alts (.cons 8 true .done .nil))))) .nil)))) .nil)))) (some [5,7,8,10,22,23,24])) (.draw [mq 36 8,oo 37 (.load (some 9) (tp 10)),oo 38 (.call 72 [tp 37]),oo 39 (.mget [.int,.bool,.str] (.int .i64 0) (tp 36) (tp 38)),oo 40 (.bin .add (tp 39) (ci 1)),oo 41 (.mentry [.int,.bool,.str] (.int .i64 0) (tp 36) (tp 38)),oo 42 (.extract (tp 41) 1),.mk none none (.mstore (tp 36) (tp 42) (tp 40))] [0,0,2,7,15,7,39,127] (.take 0 (.take 1 (.alts (.cons 2 false (.alts (.cons 3 true (.take 4 (.alts (.cons 5 false (.take 6 (.alts (.cons 7 true .done .nil))) .nil))) (.cons 5 true (.take 3 (.take 4 (.take 6 (.alts (.cons 7 true .done .nil))))) .nil))) .nil)))) (some [5,7,8,22,23,24]))))) (.region [oo 43 (.bin .add (tp 24) (ci 1)),mq 24 43] (some [5,7,8,22,23,24])))))))) (.seq (.block 2 (sr [mq 45 7,fi 46 1 5,lq 47 46,fi 48 2 5,lq 49 48,oo 50 (.un .not (tp 49)),oo 51 (.build [.pd (.raw (.int .i64 0)),.pd (.raw (.bool false))] [(0,1,tp 47),(1,1,tp 50)]),oo 52 (.mget [.int,.bool] (.int .i64 0) (tp 45) (tp 51)),oo 53 (.bin .gtr (tp 52) (ci 0)),mq 44 53] [5,8,44] (.cond (tp 44) (sr [oo 4 (.mv (.const (.string ⟨#[80,114,111,116,111,99,111,108,67,111,110,102,108,105,99,116]⟩)))] [4] .ret) (sr [mq 55 8,oo 56 (.load (some 9) (tp 5)),oo 57 (.call 72 [tp 56]),oo 58 (.mget [.int,.bool,.str] (.int .i64 0) (tp 55) (tp 57)),oo 59 (.bin .gtr (tp 58) (ci 1)),mq 54 59] [54] (.cond (tp 54) (sr [oo 4 (.mv (.const (.string ⟨#[72,111,115,116,110,97,109,101,67,111,110,102,108,105,99,116]⟩)))] [4] .ret) .skip))))) (sr [oo 4 (.mv (.const (.string ⟨#[]⟩)))] [4] .ret)))))))
def an_zn9vq : Ann := ann (List.range 16) ac_zn9vq
theorem ok_zn9vq : okd Tryz.prog an_zn9vq ac_zn9vq Tryz.f29 := ⟨by kernel_rfl, by kernel_rfl⟩

def ac_zeup4 : AC := (sr [oo 4 (.box 32 (tp 1)),oo 6 (.mv (.const (.string ⟨#[]⟩)))] [0,2,4] (sr [oo 11 (.load (some 13) (tp 4)),mq 12 2,oo 13 (.call 71 [tp 11,tp 12]),mq 10 13,oo 14 (.extract (tp 10) 0),oo 15 (.extract (tp 10) 1),oo 7 (.alloc 78 [.pd (.raw (.string ⟨#[]⟩)),.pd (.raw (.int .i64 0)),.pd (.raw (.bool false)),.pd (.raw (.string ⟨#[]⟩)),.pd (.raw (.int .i64 0)),.pd (.raw (.string ⟨#[]⟩)),.pd (.raw (.string ⟨#[]⟩)),.pd (.raw (.int .i64 0)),.nils]),.mk none none (.store 9 (tp 7) (tp 14)),mq 8 15] [0,4,7,8] (sr [fi 16 4 7,oo 17 (.load (some 3) (tp 16)),fi 18 0 4,fi 19 1 18,lq 20 19,oo 21 (.call 20 [tp 17,tp 20]),oo 9 (.alloc 23 [.pd (.raw (.int .i64 0)),.pd (.raw (.string ⟨#[]⟩)),.pd (.raw (.string ⟨#[]⟩))]),.mk none none (.store 3 (tp 9) (tp 21))] [0,4,7,8,9] (.seq (.block 0 (sr [mq 23 8,oo 24 (.un .not (tp 23)),mq 25 24,og 25 false 26 (.fieldA 2 (tp 7)),og 25 false 27 (.load none (tp 26)),og 25 false 28 (.un .not (tp 27)),oo 29 (.pick (tp 25) (cq true) (tp 28)),mq 22 29] [0,4,9,22] (.cond (tp 22) (sr [oo 6 (.mv (.const (.string ⟨#[]⟩)))] [6] .ret) (sr [mq 31 0,fi 32 0 4,fi 33 1 32,lq 34 33,oo 35 (.load (some 3) (tp 9)),oo 36 (.call 16 [tp 31,ci 5,tp 34,tp 35]),oo 37 (.un .not (tp 36)),mq 30 37] [0,9,30] (.cond (tp 30) (sr [oo 6 (.mv (.const (.string ⟨#[82,101,102,78,111,116,80,101,114,109,105,116,116,101,100]⟩)))] [6] .ret) (sr [mq 39 0,oo 40 (.load (some 3) (tp 9)),oo 41 (.call 70 [tp 39,tp 40]),oo 42 (.un .not (tp 41)),mq 38 42] [38] (.cond (tp 38) (sr [oo 6 (.mv (.const (.string ⟨#[73,110,118,97,108,105,100,67,101,114,116,105,102,105,99,97,116,101,82,101,102]⟩)))] [6] .ret) .skip))))))) (sr [oo 6 (.mv (.const (.string ⟨#[]⟩)))] [6] .ret)))))
def an_zeup4 : Ann := ann (List.range 10) ac_zeup4
theorem ok_zeup4 : okd Tryz.prog an_zeup4 ac_zeup4 Tryz.f31 := ⟨by kernel_rfl, by kernel_rfl⟩

def ac_zwyow : AC := (sr [oo 4 (.box 32 (tp 1)),oo 6 (.mv (cq false))] [0,2,4] (sr [oo 10 (.load (some 13) (tp 4)),mq 11 2,oo 12 (.call 71 [tp 10,tp 11]),mq 9 12,oo 13 (.extract (tp 9) 0),oo 14 (.extract (tp 9) 1),oo 7 (.alloc 78 [.pd (.raw (.string ⟨#[]⟩)),.pd (.raw (.int .i64 0)),.pd (.raw (.bool false)),.pd (.raw (.string ⟨#[]⟩)),.pd (.raw (.int .i64 0)),.pd (.raw (.string ⟨#[]⟩)),.pd (.raw (.string ⟨#[]⟩)),.pd (.raw (.int .i64 0)),.nils]),.mk none none (.store 9 (tp 7) (tp 13)),mq 8 14] [0,2,4,8] (sr [mq 15 8,mq 16 15,og 16 true 17 (.mv (tp 0)),og 16 true 18 (.load (some 13) (tp 4)),og 16 true 19 (.call 27 [tp 17,tp 18]),oo 20 (.pick (tp 16) (tp 19) (cq false)),mq 21 20,og 21 true 22 (.load (some 13) (tp 4)),og 21 true 23 (.mv (tp 2)),og 21 true 24 (.call 29 [tp 22,tp 23]),og 21 true 25 (.bin .eql (tp 24) (.const (.string ⟨#[]⟩))),oo 26 (.pick (tp 21) (tp 25) (cq false)),mq 27 26,og 27 true 28 (.mv (tp 0)),og 27 true 29 (.load (some 13) (tp 4)),og 27 true 30 (.mv (tp 2)),og 27 true 31 (.call 31 [tp 28,tp 29,tp 30]),og 27 true 32 (.bin .eql (tp 31) (.const (.string ⟨#[]⟩))),oo 33 (.pick (tp 27) (tp 32) (cq false)),mq 6 33] [6] .ret)))
def an_zwyow : Ann := ann (List.range 3) ac_zwyow
theorem ok_zwyow : okd Tryz.prog an_zwyow ac_zwyow Tryz.f33 := ⟨by kernel_rfl, by kernel_rfl⟩

def ac_zu7tu : AC := (sr [oo 3 (.box 32 (tp 1)),oo 4 (.mv (.const (.slice none 0 0)))] [0,3] (sr [oo 5 (.mv (.const (.slice none 0 0)))] [0,3,5] (.seq (sr [fi 7 7 3,lq 8 7,oo 9 (.len (tp 8) false),oo 10 (.mv (ci 0))] [0,3,5,9,10] (.block 0 (.loop (sr [oo 11 (.bin .lss (tp 10) (tp 9))] [0,3,5,9,10,11] (.seq (.cond (tp 11) .skip (.exit 0)) (.seq (.block 1 (sr [mq 12 10,mq 6 12] [0,3,5,6,9,10] (sr [mq 13 0,oo 14 (.load (some 13) (tp 3)),mq 15 6,oo 16 (.call 33 [tp 13,tp 14,tp 15])] [0,3,5,6,9,10,16] (.cond (tp 16) (.region [mq 17 5,mq 18 6,oo 19 (.bslice 3 1 [tp 18]),oo 20 (.append 3 1 8 (tp 17) (tp 19)),mq 5 20] (some [0,3,5,9,10])) .skip)))) (.region [oo 21 (.bin .add (tp 10) (ci 1)),mq 10 21] (some [0,3,5,9,10])))))))) (sr [mq 22 5,mq 4 22] [4] .ret))))
def an_zu7tu : Ann := ann (List.range 9) ac_zu7tu
theorem ok_zu7tu : okd Tryz.prog an_zu7tu ac_zu7tu Tryz.f35 := ⟨by kernel_rfl, by kernel_rfl⟩

def ac_zwa7s : AC := (sr [oo 0 (.mv (cq false))] [] (sr [oo 2 (.build [.pd (.raw (.int .i64 0)),.pd (.raw (.string ⟨#[]⟩)),.pd (.raw (.string ⟨#[]⟩))] [(0,1,ci 1),(2,1,.const (.string ⟨#[99]⟩))]),oo 3 (.build [.pd (.raw (.int .i64 0)),.pd (.raw (.string ⟨#[]⟩)),.pd (.raw (.string ⟨#[]⟩)),.pd (.raw (.bool false)),.nils,.nils,.pd (.raw (.string ⟨#[]⟩)),.nils,.nils,.nils,.nils,.nils,.nils] [(0,3,tp 2),(3,1,cq true)]),oo 4 (.bslice 32 13 [tp 3]),mq 1 4] [1] (sr [oo 5 (.call 74 []),oo 6 (.call 29 [tp 5,ci 0]),oo 7 (.bin .eql (tp 6) (.const (.string ⟨#[72,111,115,116,110,97,109,101,67,111,110,102,108,105,99,116]⟩))),mq 8 7,og 8 true 9 (.call 74 []),og 8 true 10 (.call 29 [tp 9,ci 2]),og 8 true 11 (.bin .eql (tp 10) (.const (.string ⟨#[]⟩))),oo 12 (.pick (tp 8) (tp 11) (cq false)),mq 13 12,og 13 true 14 (.mv (tp 1)),og 13 true 15 (.call 74 []),og 13 true 16 (.call 31 [tp 14,tp 15,ci 3]),og 13 true 17 (.bin .eql (tp 16) (.const (.string ⟨#[73,110,118,97,108,105,100,67,101,114,116,105,102,105,99,97,116,101,82,101,102]⟩))),oo 18 (.pick (tp 13) (tp 17) (cq false)),mq 19 18,og 19 true 20 (.mv (tp 1)),og 19 true 21 (.call 74 []),og 19 true 22 (.call 33 [tp 20,tp 21,ci 2]),oo 23 (.pick (tp 19) (tp 22) (cq false)),mq 24 23,og 24 true 25 (.mv (tp 1)),og 24 true 26 (.call 74 []),og 24 true 27 (.call 27 [tp 25,tp 26]),oo 28 (.pick (tp 24) (tp 27) (cq false)),mq 29 28,oo 30 (.pick (tp 29) (cq true) (cq false)),mq 31 30,oo 32 (.pick (tp 31) (cq true) (cq false)),mq 0 32] [0] .ret)))
def an_zwa7s : Ann := ann (List.range 3) ac_zwa7s
theorem ok_zwa7s : okd Tryz.prog an_zwa7s ac_zwa7s Tryz.f36 := ⟨by kernel_rfl, by kernel_rfl⟩

def ac_zjbl5 : AC := (sr [oo 1 (.box 32 (tp 0)),oo 2 (.mv (cq false))] [1] (sr [fi 3 0 1,fi 4 0 3,lq 5 4,oo 6 (.bin .eql (tp 5) (ci 5)),mq 7 6,og 7 true 8 (.load (some 13) (tp 1)),og 7 true 9 (.call 52 [tp 8]),oo 10 (.pick (tp 7) (tp 9) (cq false)),mq 2 10] [2] .ret))
def an_zjbl5 : Ann := ann (List.range 2) ac_zjbl5
theorem ok_zjbl5 : okd Tryz.prog an_zjbl5 ac_zjbl5 Tryz.f69 := ⟨by kernel_rfl, by kernel_rfl⟩

def ac_zb5tb : AC := (sr [oo 3 (.box 23 (tp 1)),oo 4 (.mv (cq false))] [0,3] (sr [mq 8 0,oo 9 (.load (some 3) (tp 3)),oo 10 (.call 17 [tp 8,tp 9]),mq 7 10,oo 11 (.extract (tp 7) 0),oo 12 (.extract (tp 7) 1),oo 5 (.alloc 32 [.pd (.raw (.int .i64 0)),.pd (.raw (.string ⟨#[]⟩)),.pd (.raw (.string ⟨#[]⟩)),.pd (.raw (.bool false)),.nils,.nils,.pd (.raw (.string ⟨#[]⟩)),.nils,.nils,.nils,.nils,.nils,.nils]),.mk none none (.store 13 (tp 5) (tp 11)),mq 6 12] [5,6] (sr [mq 13 6,mq 14 13,og 14 true 15 (.load (some 13) (tp 5)),og 14 true 16 (.call 52 [tp 15]),oo 17 (.pick (tp 14) (tp 16) (cq false)),mq 18 17,og 18 true 19 (.fieldA 3 (tp 5)),og 18 true 20 (.load none (tp 19)),oo 21 (.pick (tp 18) (tp 20) (cq false)),mq 4 21] [4] .ret)))
def an_zb5tb : Ann := ann (List.range 3) ac_zb5tb
theorem ok_zb5tb : okd Tryz.prog an_zb5tb ac_zb5tb Tryz.f70 := ⟨by kernel_rfl, by kernel_rfl⟩

def ac_z7tm4 : AC := (sr [oo 2 (.box 32 (tp 0)),oo 4 (.alloc 78 [.pd (.raw (.string ⟨#[]⟩)),.pd (.raw (.int .i64 0)),.pd (.raw (.bool false)),.pd (.raw (.string ⟨#[]⟩)),.pd (.raw (.int .i64 0)),.pd (.raw (.string ⟨#[]⟩)),.pd (.raw (.string ⟨#[]⟩)),.pd (.raw (.int .i64 0)),.nils]),oo 5 (.mv (cq false))] [1,2,4] (.seq (sr [oo 6 (.load (some 13) (tp 2)),oo 7 (.call 69 [tp 6]),oo 8 (.un .not (tp 7)),mq 9 8,og 9 false 10 (.mv (tp 1)),og 9 false 11 (.bin .lss (tp 10) (ci 0)),oo 12 (.pick (tp 9) (cq true) (tp 11)),mq 13 12,og 13 false 14 (.mv (tp 1)),og 13 false 15 (.fieldA 7 (tp 2)),og 13 false 16 (.load none (tp 15)),og 13 false 17 (.len (tp 16) false),og 13 false 18 (.bin .geq (tp 14) (tp 17)),oo 19 (.pick (tp 13) (cq true) (tp 18))] [1,2,4,19] (.cond (tp 19) (sr [oo 20 (.build [.pd (.raw (.string ⟨#[]⟩)),.pd (.raw (.int .i64 0)),.pd (.raw (.bool false)),.pd (.raw (.string ⟨#[]⟩)),.pd (.raw (.int .i64 0)),.pd (.raw (.string ⟨#[]⟩)),.pd (.raw (.string ⟨#[]⟩)),.pd (.raw (.int .i64 0)),.nils] []),.mk none none (.store 9 (tp 4) (tp 20)),oo 5 (.mv (cq false))] [4,5] .ret) .skip)) (sr [fi 21 7 2,lq 22 21,mq 23 1,oo 24 (.idxA 9 (tp 22) (tp 23)),oo 25 (.load (some 9) (tp 24)),.mk none none (.store 9 (tp 4) (tp 25)),oo 5 (.mv (cq true))] [4,5] .ret)))
def an_z7tm4 : Ann := ann (List.range 4) ac_z7tm4
theorem ok_z7tm4 : okd Tryz.prog an_z7tm4 ac_z7tm4 Tryz.f71 := ⟨by kernel_rfl, by kernel_rfl⟩
theorem ret_z7tm4 (st : St) : resD Tryz.prog st Tryz.f71.results.toList = resA st [.cell 4 (some 9), .tmp 5] := resD_of (by kernel_rfl)

def ac_ztilm : AC := (sr [oo 1 (.box 78 (tp 0)),oo 2 (.alloc 111 [.pd (.raw (.int .i64 0)),.pd (.raw (.bool false)),.pd (.raw (.string ⟨#[]⟩))])] [1,2] (sr [fi 3 1 1,lq 4 3,fi 5 2 1,lq 6 5,oo 7 (.build [.pd (.raw (.int .i64 0)),.pd (.raw (.bool false))] [(0,1,tp 4),(1,1,tp 6)]),fi 8 3 1,lq 9 8,oo 10 (.build [.pd (.raw (.int .i64 0)),.pd (.raw (.bool false)),.pd (.raw (.string ⟨#[]⟩))] [(0,2,tp 7),(2,1,tp 9)]),.mk none none (.store 3 (tp 2) (tp 10))] [2] .ret))
def an_ztilm : Ann := ann (List.range 2) ac_ztilm
theorem ok_ztilm : okd Tryz.prog an_ztilm ac_ztilm Tryz.f72 := ⟨by kernel_rfl, by kernel_rfl⟩
theorem ret_ztilm (st : St) : resD Tryz.prog st Tryz.f72.results.toList = resA st [.cell 2 (some 3)] := resD_of (by kernel_rfl)

def ac_zbi27 : AC := (sr [oo 0 (.alloc 32 [.pd (.raw (.int .i64 0)),.pd (.raw (.string ⟨#[]⟩)),.pd (.raw (.string ⟨#[]⟩)),.pd (.raw (.bool false)),.nils,.nils,.pd (.raw (.string ⟨#[]⟩)),.nils,.nils,.nils,.nils,.nils,.nils])] [0] (sr [oo 1 (.build [.pd (.raw (.int .i64 0)),.pd (.raw (.string ⟨#[]⟩)),.pd (.raw (.string ⟨#[]⟩))] [(0,1,ci 5),(1,1,.const (.string ⟨#[119,101,98]⟩)),(2,1,.const (.string ⟨#[103,119]⟩))]),oo 2 (.build [.pd (.raw (.string ⟨#[]⟩)),.pd (.raw (.int .i64 0)),.pd (.raw (.bool false)),.pd (.raw (.string ⟨#[]⟩)),.pd (.raw (.int .i64 0)),.pd (.raw (.string ⟨#[]⟩)),.pd (.raw (.string ⟨#[]⟩)),.pd (.raw (.int .i64 0)),.nils] [(0,1,.const (.string ⟨#[97]⟩)),(1,1,ci 80),(3,1,.const (.string ⟨#[97,46,116,101,115,116]⟩))]),oo 3 (.build [.pd (.raw (.string ⟨#[]⟩)),.pd (.raw (.int .i64 0)),.pd (.raw (.bool false)),.pd (.raw (.string ⟨#[]⟩)),.pd (.raw (.int .i64 0)),.pd (.raw (.string ⟨#[]⟩)),.pd (.raw (.string ⟨#[]⟩)),.pd (.raw (.int .i64 0)),.nils] [(0,1,.const (.string ⟨#[98]⟩)),(1,1,ci 80),(3,1,.const (.string ⟨#[97,46,116,101,115,116]⟩))]),oo 4 (.build [.pd (.raw (.string ⟨#[]⟩)),.pd (.raw (.int .i64 0)),.pd (.raw (.bool false)),.pd (.raw (.string ⟨#[]⟩)),.pd (.raw (.int .i64 0)),.pd (.raw (.string ⟨#[]⟩)),.pd (.raw (.string ⟨#[]⟩)),.pd (.raw (.int .i64 0)),.nils] [(0,1,.const (.string ⟨#[99]⟩)),(1,1,ci 80),(3,1,.const (.string ⟨#[98,46,116,101,115,116]⟩))]),oo 5 (.build [.pd (.raw (.int .i64 0)),.pd (.raw (.string ⟨#[]⟩)),.pd (.raw (.string ⟨#[]⟩))] [(0,1,ci 4),(2,1,.const (.string ⟨#[115]⟩))]),oo 6 (.build [.pd (.raw (.string ⟨#[]⟩)),.pd (.raw (.int .i64 0)),.pd (.raw (.bool false)),.pd (.raw (.string ⟨#[]⟩)),.pd (.raw (.int .i64 0)),.pd (.raw (.string ⟨#[]⟩)),.pd (.raw (.string ⟨#[]⟩)),.pd (.raw (.int .i64 0)),.nils] [(0,1,.const (.string ⟨#[100]⟩)),(1,1,ci 443),(2,1,cq true),(4,3,tp 5)]),oo 7 (.bslice 78 9 [tp 2,tp 3,tp 4,tp 6]),oo 8 (.build [.pd (.raw (.int .i64 0)),.pd (.raw (.string ⟨#[]⟩)),.pd (.raw (.string ⟨#[]⟩)),.pd (.raw (.bool false)),.nils,.nils,.pd (.raw (.string ⟨#[]⟩)),.nils,.nils,.nils,.nils,.nils,.nils] [(0,3,tp 1),(6,1,.const (.string ⟨#[99]⟩)),(7,1,tp 7)]),.mk none none (.store 13 (tp 0) (tp 8))] [0] .ret))
def an_zbi27 : Ann := ann (List.range 2) ac_zbi27
theorem ok_zbi27 : okd Tryz.prog an_zbi27 ac_zbi27 Tryz.f74 := ⟨by kernel_rfl, by kernel_rfl⟩
theorem ret_zbi27 (st : St) : resD Tryz.prog st Tryz.f74.results.toList = resA st [.cell 0 (some 13)] := resD_of (by kernel_rfl)

end Go.Proofs.YtklolokoaooppaaGreatDoor


namespace Go.Proofs.YtklolokoaooppaaGreatDoor
open Go Go.RowKit
set_option linter.unusedSimpArgs false
set_option linter.unusedVariables false
set_option maxRecDepth 100000

def goodAt (os : List AObj) (r : ARef) : Bool := match found os r with
  | some o => objMay o && o.good
  | none => false

theorem listen_good (os : List AObj) (hos : os.length ≤ 1000000) (h : ∀ o ∈ os, o.ok) (r : ARef) : Pure Tryz.prog 70 [.pd (.slice (rows AObj.pd os)), r.d] (fun d => d = bln (goodAt os r)) := by
  refine pure_of_run follows an_zb5tb Tryz.func70 rfl ok_zb5tb.1 ok_zb5tb.2 (by simp [Tryz.ntmps70]) ?_
  rw [run_start]
  simp only [ac_zb5tb, oo, og, tp, ci, cq, mq, lq, fi, sr, go_sem, contS_seq, simprocAttr]
  refine (grant_Find os hos r).callW (enters_of Tryz.func17 rfl rfl) _ rfl rfl ?_
  rintro _ rfl
  unfold goodAt
  rcases hf : found os r with _ | o
  · simp only [foundD, go_sem, contS_seq, simprocAttr]
    simp only [retK, resD, St.get, lk, oneD, D.pub, D.pubs, retL, reduceIte, Nat.reduceEqDiff, Nat.reduceAdd, Nat.reduceLeDiff, Tryz.results70]
    exact ⟨_, rfl, rfl, rfl⟩
  · simp only [foundD, go_sem, contS_seq, simprocAttr]
    refine (object_May o (h o (List.mem_of_find?_eq_some hf))).callW (enters_of Tryz.func52 rfl rfl) _ rfl rfl ?_
    rintro _ rfl
    simp only [go_sem, contS_seq, simprocAttr]
    cases objMay o
    all_goals
      simp only [go_sem, contS_seq, simprocAttr]
      simp only [retK, resD, St.get, lk, oneD, D.pub, D.pubs, retL, reduceIte, Nat.reduceEqDiff, Nat.reduceAdd, Nat.reduceLeDiff, Tryz.results70]
      exact ⟨_, rfl, rfl, rfl⟩

def gwOk (g : AObj) : Bool := decide (g.ref.kind = 5) && objMay g

theorem listen_gateway (g : AObj) (h : g.ok) : Pure Tryz.prog 69 [g.d] (fun d => d = bln (gwOk g)) := by
  refine pure_of_run follows an_zjbl5 Tryz.func69 rfl ok_zjbl5.1 ok_zjbl5.2 (by simp [Tryz.ntmps69]) ?_
  rw [run_start]
  simp only [ac_zjbl5, oo, og, tp, ci, cq, mq, lq, fi, sr, go_sem, contS_seq, simprocAttr]
  (repeat' (first | (refine GifP.mk (fun _ => ?_) (fun _ => ?_)) | (refine Gif.mk (fun _ => ?_) (fun _ => ?_)) | (refine (object_May g h).callW (enters_of Tryz.func52 rfl rfl) _ rfl rfl ?_; rintro _ rfl; try simp only [go_sem, contS_seq, simprocAttr]))) <;> (simp only [retK, resD, St.get, lk, oneD, D.pub, D.pubs, retL, reduceIte, Nat.reduceEqDiff, Nat.reduceAdd, Nat.reduceLeDiff, Tryz.results69]; exact ⟨_, rfl, rfl, congrArg bln (by first | rfl | (rw [Bool.eq_iff_iff]; simp only [gwOk]; simp; done) | (rw [Bool.eq_iff_iff]; simp only [gwOk]; simp; omega) | (rw [Bool.eq_iff_iff]; simp only [gwOk]; simp [*]; done) | (rw [Bool.eq_iff_iff]; simp only [gwOk]; simp [*]; omega) | (simp_all [gwOk]; done) | (exfalso; omega))⟩)

def ours (os : List AObj) (g : AObj) : Bool := gwOk g && goodAt os ⟨1, ⟨#[]⟩, g.cls⟩

theorem listen_Ours (os : List AObj) (hos : os.length ≤ 1000000) (h : ∀ o ∈ os, o.ok) (g : AObj) (hg : g.ok) : Pure Tryz.prog 27 [.pd (.slice (rows AObj.pd os)), g.d] (fun d => d = bln (ours os g)) := by
  refine pure_of_run follows an_zws5f Tryz.func27 rfl ok_zws5f.1 ok_zws5f.2 (by simp [Tryz.ntmps27]) ?_
  rw [run_start]
  simp only [ac_zws5f, oo, og, tp, ci, cq, mq, lq, fi, sr, go_sem, contS_seq, simprocAttr]
  (repeat' (first | (refine GifP.mk (fun _ => ?_) (fun _ => ?_)) | (refine Gif.mk (fun _ => ?_) (fun _ => ?_)) | ((first | refine (listen_gateway g hg).callW (enters_of Tryz.func69 rfl rfl) _ rfl rfl ?_ | refine (listen_good os hos h ⟨1, ⟨#[]⟩, g.cls⟩).callW (enters_of Tryz.func70 rfl rfl) _ rfl rfl ?_); rintro _ rfl; try simp only [go_sem, contS_seq, simprocAttr]))) <;> (simp only [retK, resD, St.get, lk, oneD, D.pub, D.pubs, retL, reduceIte, Nat.reduceEqDiff, Nat.reduceAdd, Nat.reduceLeDiff, Tryz.results27]; exact ⟨_, rfl, rfl, congrArg bln (by first | rfl | (rw [Bool.eq_iff_iff]; simp only [ours]; simp; done) | (rw [Bool.eq_iff_iff]; simp only [ours]; simp; omega) | (rw [Bool.eq_iff_iff]; simp only [ours]; simp [*]; done) | (rw [Bool.eq_iff_iff]; simp only [ours]; simp [*]; omega) | (simp_all [ours]; done) | (exfalso; omega))⟩)

abbrev listener0 : AListener := ⟨⟨#[]⟩, 0, false, ⟨#[]⟩, ⟨0, ⟨#[]⟩, ⟨#[]⟩⟩, 0, []⟩

def atL (g : AObj) (i : Int) : Option AListener := if gwOk g = true then (if i < 0 then none else g.listeners[i.toNat]?) else none

def atD : Option AListener → D
  | some x => .tup [x.d, bln true]
  | none => .tup [listener0.d, bln false]

theorem listen_at (g : AObj) (hg : g.ok) (i : Int) : Pure Tryz.prog 71 [g.d, int i] (fun d => d = atD (atL g i)) := by
  refine pure_of_run follows an_z7tm4 Tryz.func71 rfl ok_z7tm4.1 ok_z7tm4.2 (by simp [Tryz.ntmps71]) ?_
  rw [run_start]
  simp only [ac_z7tm4, oo, og, tp, ci, cq, mq, lq, fi, sr, go_sem, contS_seq, simprocAttr]
  refine (listen_gateway g hg).callW (enters_of Tryz.func69 rfl rfl) _ rfl rfl ?_
  rintro _ rfl
  unfold atL
  cases gwOk g
  · simp only [go_sem, contS_seq, simprocAttr]
    simp only [retK, resD, resA, AOp.ex, St.ev, St.get, lk, oneD, D.pub, D.pubs, retL, reduceIte, Nat.reduceEqDiff, Nat.reduceAdd, Nat.reduceLeDiff, ret_z7tm4]
    exact ⟨_, rfl, rfl, rfl⟩
  · simp only [go_sem, contS_seq, simprocAttr, rows_len]
    by_cases hi : i < 0
    · simp only [hi, go_sem, contS_seq, simprocAttr]
      simp only [retK, resD, resA, AOp.ex, St.ev, St.get, lk, oneD, D.pub, D.pubs, retL, reduceIte, Nat.reduceEqDiff, Nat.reduceAdd, Nat.reduceLeDiff, ret_z7tm4]
      exact ⟨_, rfl, rfl, rfl⟩
    · obtain ⟨n, rfl⟩ : ∃ n : Nat, i = n := ⟨i.toNat, by omega⟩
      by_cases hl : n < g.listeners.length
      · obtain ⟨x, hx⟩ := at_lt hl
        have h1 : ((g.listeners.length : Int) ≤ (n : Int)) = False := eq_false (by omega)
        simp only [hi, h1, rows_get hx, go_sem, contS_seq, simprocAttr]
        simp only [retK, resD, resA, AOp.ex, St.ev, St.get, lk, oneD, D.pub, D.pubs, retL, reduceIte, Nat.reduceEqDiff, Nat.reduceAdd, Nat.reduceLeDiff, ret_z7tm4]
        exact ⟨_, rfl, rfl, by rw [hx]; rfl⟩
      · have h1 : ((g.listeners.length : Int) ≤ (n : Int)) = True := eq_true (by omega)
        simp only [hi, h1, go_sem, contS_seq, simprocAttr]
        simp only [retK, resD, resA, AOp.ex, St.ev, St.get, lk, oneD, D.pub, D.pubs, retL, reduceIte, Nat.reduceEqDiff, Nat.reduceAdd, Nat.reduceLeDiff, ret_z7tm4]
        exact ⟨_, rfl, rfl, by rw [List.getElem?_eq_none (by omega)]; rfl⟩

abbrev modeOf (x : AListener) : Int × Bool := (x.port, x.tls)
abbrev placeOf (x : AListener) : Int × Bool × ByteArray := (x.port, x.tls, x.host)
abbrev cMode (m : Int × Bool) : List Value := [.int .i64 m.1, .bool m.2]
abbrev cPlace (m : Int × Bool × ByteArray) : List Value := [.int .i64 m.1, .bool m.2.1, .string m.2.2]

theorem eq_cMode (a b : Int × Bool) : eqVs [.int, .bool] (cMode a) (cMode b) = some (decide (a = b)) := by
  obtain ⟨a1, a2⟩ := a
  obtain ⟨b1, b2⟩ := b
  simp only [eqVs, eqV, if_true, Option.some.injEq]
  rw [Bool.eq_iff_iff]
  simp

theorem eq_cPlace (a b : Int × Bool × ByteArray) : eqVs [.int, .bool, .str] (cPlace a) (cPlace b) = some (decide (a = b)) := by
  obtain ⟨a1, a2, a3⟩ := a
  obtain ⟨b1, b2, b3⟩ := b
  simp only [eqVs, eqV, if_true, Option.some.injEq]
  rw [Bool.eq_iff_iff]
  simp

theorem listen_of (x : AListener) : Pure Tryz.prog 72 [x.d] (fun d => d = .agg [int x.port, bln x.tls, str x.host]) := by
  refine pure_of_run follows an_ztilm Tryz.func72 rfl ok_ztilm.1 ok_ztilm.2 (by simp [Tryz.ntmps72]) ?_
  rw [run_start]
  simp only [ac_ztilm, oo, og, tp, ci, cq, mq, lq, fi, sr, go_sem, contS_seq, simprocAttr]
  simp only [retK, resD, resA, AOp.ex, St.ev, St.get, lk, oneD, D.pub, D.pubs, retL, reduceIte, Nat.reduceEqDiff, Nat.reduceAdd, Nat.reduceLeDiff, ret_ztilm]
  exact ⟨_, rfl, rfl, rfl⟩


def protocols : ByteArray := ⟨#[80, 114, 111, 116, 111, 99, 111, 108, 67, 111, 110, 102, 108, 105, 99, 116]⟩
def hostnames : ByteArray := ⟨#[72, 111, 115, 116, 110, 97, 109, 101, 67, 111, 110, 102, 108, 105, 99, 116]⟩

def nMode (l : List AListener) (k : Int × Bool) : Nat := l.countP fun y => decide (modeOf y = k)
def nPlace (l : List AListener) (k : Int × Bool × ByteArray) : Nat := l.countP fun y => decide (placeOf y = k)

def conflict (g : AObj) (i : Int) : ByteArray := match atL g i with
  | none => ⟨#[]⟩
  | some x => if 0 < (nMode g.listeners (x.port, !x.tls) : Int) then protocols else if 1 < (nPlace g.listeners (placeOf x) : Int) then hostnames else ⟨#[]⟩

set_option maxHeartbeats 4000000 in
theorem listen_Conflict (g : AObj) (hg : g.ok) (i : Int) : Pure Tryz.prog 29 [g.d, int i] (fun d => d = str (conflict g i)) := by
  refine pure_of_run follows an_zn9vq Tryz.func29 rfl ok_zn9vq.1 ok_zn9vq.2 (by simp [Tryz.ntmps29]) ?_
  rw [run_start]
  simp only [ac_zn9vq, oo, og, tp, ci, cq, mq, lq, fi, sr, go_sem, contS_seq, simprocAttr]
  refine (listen_at g hg i).callW (enters_of Tryz.func71 rfl rfl) _ rfl rfl ?_
  rintro _ rfl
  unfold conflict
  rcases hat : atL g i with _ | x
  · simp only [atD, go_sem, contS_seq, simprocAttr]
    simp only [retK, resD, St.get, lk, oneD, D.pub, D.pubs, retL, reduceIte, Nat.reduceEqDiff, Nat.reduceAdd, Nat.reduceLeDiff, Tryz.results29]
    exact ⟨_, rfl, rfl, rfl⟩
  simp only [atD, go_sem, contS_seq, simprocAttr, rows_len]
  have hli := hg.li
  refine loopS (fun k st => ∃ (n : Nat) (e1 : List ((Int × Bool) × Int)) (e2 : List ((Int × Bool × ByteArray) × Int)), k = g.listeners.length - n ∧ n ≤ g.listeners.length ∧
    (∀ k, lookG k e1 = (nMode (g.listeners.take n) k : Int)) ∧ (∀ k, lookG k e2 = (nPlace (g.listeners.take n) k : Int)) ∧
    st = ⟨[(5, .ptr 5 0), (7, .mp 19), (8, .mp 20), (22, .pd (.slice (rows AListener.pd g.listeners))), (23, int g.listeners.length), (24, int n)], [(5, x.ds)], [(19, .map (entG cMode e1)), (20, .map (entG cPlace e2))], .no⟩) g.listeners.length _ ?_
    ⟨0, [], [], rfl, by omega, fun _ => rfl, fun _ => rfl, rfl⟩ ?_
  · exact Weak.less (by simp [lessL, lk]) (by simp [lessL, lk]) (by simp [lessL, lk, entG]) rfl
  rintro k st ⟨n, e1, e2, rfl, hn, h1, h2, rfl⟩
  by_cases hlt : n < g.listeners.length
  · obtain ⟨y, hy⟩ := at_lt hlt
    have h3 : ((n : Int) < (g.listeners.length : Int)) = True := eq_true (by omega)
    have hw := i64_succ (show n < 1000000000 by omega)
    have b1 : nMode (g.listeners.take n) (modeOf y) ≤ n := Nat.le_trans (List.countP_le_length) (by simp; omega)
    have b2 : nPlace (g.listeners.take n) (placeOf y) ≤ n := Nat.le_trans (List.countP_le_length) (by simp; omega)
    have w1 : IntKind.i64.wrap (lookG (modeOf y) e1 + 1) = lookG (modeOf y) e1 + 1 := IntWalk.i64_in _ (by rw [h1]; omega)
    have w2 : IntKind.i64.wrap (lookG (placeOf y) e2 + 1) = lookG (placeOf y) e2 + 1 := IntWalk.i64_in _ (by rw [h2]; omega)
    obtain ⟨r1, hr1⟩ : ∃ r, r = (atG (modeOf y) e1 0).map fun p => (p.1, Value.int .i64 p.2) := ⟨_, rfl⟩
    obtain ⟨r2, hr2⟩ : ∃ r, r = (atG (placeOf y) e2 0).map fun p => (p.1, Value.int .i64 p.2) := ⟨_, rfl⟩
    have f1 : findS [.int, .bool] [.int .i64 y.port, .bool y.tls] (entG cMode e1) 0 = some r1 := (findS_ent eq_cMode (modeOf y) e1 0).trans (by rw [hr1])
    have f2 : findS [.int, .bool, .str] [.int .i64 y.port, .bool y.tls, .string y.host] (entG cPlace e2) 0 = some r2 := (findS_ent eq_cPlace (placeOf y) e2 0).trans (by rw [hr2])
    have l1 := cd_look (modeOf y) e1 r1 hr1
    have l2 := cd_look (placeOf y) e2 r2 hr2
    have s1 := set_bump cMode (modeOf y) e1 r1 hr1
    have s2 := set_bump cPlace (placeOf y) e2 r2 hr2
    have p1 := touch_put cMode (modeOf y) e1 r1 hr1
    have p2 := touch_put cPlace (placeOf y) e2 r2 hr2
    rw [p1] at s1
    rw [p2] at s2
    obtain ⟨q1, hq1⟩ : ∃ r, r = (atG (modeOf y) (touchG (modeOf y) e1) 0).map fun p => (p.1, Value.int .i64 p.2) := ⟨_, rfl⟩
    obtain ⟨q2, hq2⟩ : ∃ r, r = (atG (placeOf y) (touchG (placeOf y) e2) 0).map fun p => (p.1, Value.int .i64 p.2) := ⟨_, rfl⟩
    have g1 : findS [.int, .bool] [.int .i64 y.port, .bool y.tls] (entG cMode (touchG (modeOf y) e1)) 0 = some q1 := (findS_ent eq_cMode (modeOf y) _ 0).trans (by rw [hq1])
    have g2 : findS [.int, .bool, .str] [.int .i64 y.port, .bool y.tls, .string y.host] (entG cPlace (touchG (placeOf y) e2)) 0 = some q2 := (findS_ent eq_cPlace (placeOf y) _ 0).trans (by rw [hq2])
    have l3 := cd_look (modeOf y) _ q1 hq1
    have l4 := cd_look (placeOf y) _ q2 hq2
    rw [look_touch] at l3 l4
    simp only [cD0] at l1 l2 l3 l4
    simp only [putM] at p1 p2
    simp only [go_sem, contS_seq, simprocAttr, rows_len, rows_get hy, h3]
    refine (listen_of y).callX (enters_of Tryz.func72 rfl rfl) _ rfl rfl ?_
    rintro _ rfl
    simp only [go_sem, contS_seq, simprocAttr, f1, ↓l1, w1, ↓p1, s1, g1, ↓l3]
    repeat' (first | (refine (listen_of y).callX (enters_of Tryz.func72 rfl rfl) _ rfl rfl ?_; rintro _ rfl; simp only [go_sem, contS_seq, simprocAttr, f2, ↓l2, w2, ↓p2, s2, g2, ↓l4, hw]) | refine And.intro ?_ ?_)
    all_goals
      refine ⟨g.listeners.length - (n + 1), _, by omega, ?_, n + 1, bumpG (modeOf y) e1, bumpG (placeOf y) e2, rfl, by omega, count_step (f := modeOf) hy h1, count_step (f := placeOf) hy h2, rfl⟩
      exact lessA
  · have h3 : ((n : Int) < (g.listeners.length : Int)) = False := eq_false (by omega)
    rw [List.take_of_length_le (by omega)] at h1 h2
    have k1 := h1 (x.port, !x.tls)
    have k2 := h2 (placeOf x)
    obtain ⟨r1, hr1⟩ : ∃ r, r = (atG (x.port, !x.tls) e1 0).map fun p => (p.1, Value.int .i64 p.2) := ⟨_, rfl⟩
    obtain ⟨r2, hr2⟩ : ∃ r, r = (atG (placeOf x) e2 0).map fun p => (p.1, Value.int .i64 p.2) := ⟨_, rfl⟩
    have f1 : findS [.int, .bool] [.int .i64 x.port, .bool (!x.tls)] (entG cMode e1) 0 = some r1 := (findS_ent eq_cMode (x.port, !x.tls) e1 0).trans (by rw [hr1])
    have f2 : findS [.int, .bool, .str] [.int .i64 x.port, .bool x.tls, .string x.host] (entG cPlace e2) 0 = some r2 := (findS_ent eq_cPlace (placeOf x) e2 0).trans (by rw [hr2])
    have l1 := cd_look (x.port, !x.tls) e1 r1 hr1
    have l2 := cd_look (placeOf x) e2 r2 hr2
    rw [k1] at l1
    rw [k2] at l2
    simp only [cD0] at l1 l2
    simp only [go_sem, contS_seq, simprocAttr, rows_len, h3, f1, ↓l1]
    refine GifP.mk (fun q1 => ?_) (fun q1 => ?_)
    · rw [if_pos q1]
      simp only [retK, resD, St.get, lk, oneD, D.pub, D.pubs, retL, reduceIte, Nat.reduceEqDiff, Nat.reduceAdd, Nat.reduceLeDiff, Tryz.results29]
      exact ⟨_, rfl, rfl, rfl⟩
    rw [if_neg q1]
    refine (listen_of x).callW (enters_of Tryz.func72 rfl rfl) _ rfl rfl ?_
    rintro _ rfl
    simp only [go_sem, contS_seq, simprocAttr, f2, ↓l2]
    refine GifP.mk (fun q2 => ?_) (fun q2 => ?_)
    · rw [if_pos q2]
      simp only [retK, resD, St.get, lk, oneD, D.pub, D.pubs, retL, reduceIte, Nat.reduceEqDiff, Nat.reduceAdd, Nat.reduceLeDiff, Tryz.results29]
      exact ⟨_, rfl, rfl, rfl⟩
    rw [if_neg q2]
    simp only [retK, resD, St.get, lk, oneD, D.pub, D.pubs, retL, reduceIte, Nat.reduceEqDiff, Nat.reduceAdd, Nat.reduceLeDiff, Tryz.results29]
    exact ⟨_, rfl, rfl, rfl⟩


def noLet : ByteArray := ⟨#[82, 101, 102, 78, 111, 116, 80, 101, 114, 109, 105, 116, 116, 101, 100]⟩
def badCert : ByteArray := ⟨#[73, 110, 118, 97, 108, 105, 100, 67, 101, 114, 116, 105, 102, 105, 99, 97, 116, 101, 82, 101, 102]⟩

def certOf (os : List AObj) (space : ByteArray) (r : ARef) : ByteArray :=
  if permits os 5 space r = true then (if goodAt os r = true then ⟨#[]⟩ else badCert) else noLet

def cert (os : List AObj) (g : AObj) (i : Int) : ByteArray := match atL g i with
  | none => ⟨#[]⟩
  | some x => if x.tls = true then certOf os g.ref.space (near x.cert g.ref.space) else ⟨#[]⟩

theorem listen_Cert (os : List AObj) (hos : os.length ≤ 1000000) (h : ∀ o ∈ os, o.ok) (g : AObj) (hg : g.ok) (i : Int) : Pure Tryz.prog 31 [.pd (.slice (rows AObj.pd os)), g.d, int i] (fun d => d = str (cert os g i)) := by
  refine pure_of_run follows an_zeup4 Tryz.func31 rfl ok_zeup4.1 ok_zeup4.2 (by simp [Tryz.ntmps31]) ?_
  rw [run_start]
  simp only [ac_zeup4, oo, og, tp, ci, cq, mq, lq, fi, sr, go_sem, contS_seq, simprocAttr]
  refine (listen_at g hg i).callW (enters_of Tryz.func71 rfl rfl) _ rfl rfl ?_
  rintro _ rfl
  unfold cert
  rcases hat : atL g i with _ | x
  · simp only [atD, go_sem, contS_seq, simprocAttr]
    refine (grant_Near ⟨0, ⟨#[]⟩, ⟨#[]⟩⟩ g.ref.space).callW (enters_of Tryz.func20 rfl rfl) _ rfl rfl ?_
    rintro _ rfl
    simp only [go_sem, contS_seq, simprocAttr]
    simp only [retK, resD, St.get, lk, oneD, D.pub, D.pubs, retL, reduceIte, Nat.reduceEqDiff, Nat.reduceAdd, Nat.reduceLeDiff, Tryz.results31]
    exact ⟨_, rfl, rfl, rfl⟩
  simp only [atD, go_sem, contS_seq, simprocAttr]
  refine (grant_Near x.cert g.ref.space).callW (enters_of Tryz.func20 rfl rfl) _ rfl rfl ?_
  rintro _ rfl
  generalize near x.cert g.ref.space = r
  unfold certOf
  cases x.tls
  · simp only [go_sem, contS_seq, simprocAttr]
    simp only [retK, resD, St.get, lk, oneD, D.pub, D.pubs, retL, reduceIte, Nat.reduceEqDiff, Nat.reduceAdd, Nat.reduceLeDiff, Tryz.results31]
    exact ⟨_, rfl, rfl, rfl⟩
  simp only [go_sem, contS_seq, simprocAttr]
  refine (grant_Permits' os hos h 5 g.ref.space r).callW (enters_of Tryz.func16 rfl rfl) _ rfl rfl ?_
  rintro _ rfl
  cases permits os 5 g.ref.space r
  · simp only [go_sem, contS_seq, simprocAttr]
    simp only [retK, resD, St.get, lk, oneD, D.pub, D.pubs, retL, reduceIte, Nat.reduceEqDiff, Nat.reduceAdd, Nat.reduceLeDiff, Tryz.results31]
    exact ⟨_, rfl, rfl, rfl⟩
  simp only [go_sem, contS_seq, simprocAttr]
  refine (listen_good os hos h r).callW (enters_of Tryz.func70 rfl rfl) _ rfl rfl ?_
  rintro _ rfl
  cases goodAt os r
  all_goals
    simp only [go_sem, contS_seq, simprocAttr]
    simp only [retK, resD, St.get, lk, oneD, D.pub, D.pubs, retL, reduceIte, Nat.reduceEqDiff, Nat.reduceAdd, Nat.reduceLeDiff, Tryz.results31]
    exact ⟨_, rfl, rfl, rfl⟩

def served (os : List AObj) (g : AObj) (i : Int) : Bool := (atL g i).isSome && ours os g && decide (conflict g i = ⟨#[]⟩) && decide (cert os g i = ⟨#[]⟩)

theorem listen_Served (os : List AObj) (hos : os.length ≤ 1000000) (h : ∀ o ∈ os, o.ok) (g : AObj) (hg : g.ok) (i : Int) : Pure Tryz.prog 33 [.pd (.slice (rows AObj.pd os)), g.d, int i] (fun d => d = bln (served os g i)) := by
  refine pure_of_run follows an_zwyow Tryz.func33 rfl ok_zwyow.1 ok_zwyow.2 (by simp [Tryz.ntmps33]) ?_
  rw [run_start]
  simp only [ac_zwyow, oo, og, tp, ci, cq, mq, lq, fi, sr, go_sem, contS_seq, simprocAttr]
  refine (listen_at g hg i).callW (enters_of Tryz.func71 rfl rfl) _ rfl rfl ?_
  rintro _ rfl
  unfold served
  rcases hat : atL g i with _ | x
  · simp only [atD, go_sem, contS_seq, simprocAttr]
    simp only [retK, resD, St.get, lk, oneD, D.pub, D.pubs, retL, reduceIte, Nat.reduceEqDiff, Nat.reduceAdd, Nat.reduceLeDiff, Tryz.results33]
    exact ⟨_, rfl, rfl, rfl⟩
  simp only [atD, go_sem, contS_seq, simprocAttr]
  refine (listen_Ours os hos h g hg).callW (enters_of Tryz.func27 rfl rfl) _ rfl rfl ?_
  rintro _ rfl
  generalize ours os g = b1
  generalize hc : cert os g i = b3
  have c3 := listen_Cert os hos h g hg i
  rw [hc] at c3
  cases b1
  · simp only [go_sem, contS_seq, simprocAttr]
    simp only [retK, resD, St.get, lk, oneD, D.pub, D.pubs, retL, reduceIte, Nat.reduceEqDiff, Nat.reduceAdd, Nat.reduceLeDiff, Tryz.results33]
    exact ⟨_, rfl, rfl, rfl⟩
  simp only [go_sem, contS_seq, simprocAttr]
  refine (listen_Conflict g hg i).callW (enters_of Tryz.func29 rfl rfl) _ rfl rfl ?_
  rintro _ rfl
  generalize conflict g i = b2
  simp only [go_sem, contS_seq, simprocAttr]
  refine GifP.mk (fun h2 => ?_) (fun h2 => ?_)
  · refine c3.callW (enters_of Tryz.func31 rfl rfl) _ rfl rfl ?_
    rintro _ rfl
    simp only [go_sem, contS_seq, simprocAttr]
    simp only [retK, resD, St.get, lk, oneD, D.pub, D.pubs, retL, reduceIte, Nat.reduceEqDiff, Nat.reduceAdd, Nat.reduceLeDiff, Tryz.results33]
    exact ⟨_, rfl, rfl, by rw [decide_eq_true h2]; rfl⟩
  · simp only [retK, resD, St.get, lk, oneD, D.pub, D.pubs, retL, reduceIte, Nat.reduceEqDiff, Nat.reduceAdd, Nat.reduceLeDiff, Tryz.results33]
    exact ⟨_, rfl, rfl, by rw [decide_eq_false h2]; rfl⟩

def aFour : AObj := ⟨⟨5, ⟨#[119, 101, 98]⟩, ⟨#[103, 119]⟩⟩, false, [], [], ⟨#[99]⟩, [⟨⟨#[97]⟩, 80, false, ⟨#[97, 46, 116, 101, 115, 116]⟩, ⟨0, ⟨#[]⟩, ⟨#[]⟩⟩, 0, []⟩, ⟨⟨#[98]⟩, 80, false, ⟨#[97, 46, 116, 101, 115, 116]⟩, ⟨0, ⟨#[]⟩, ⟨#[]⟩⟩, 0, []⟩,
  ⟨⟨#[99]⟩, 80, false, ⟨#[98, 46, 116, 101, 115, 116]⟩, ⟨0, ⟨#[]⟩, ⟨#[]⟩⟩, 0, []⟩, ⟨⟨#[100]⟩, 443, true, ⟨#[]⟩, ⟨4, ⟨#[]⟩, ⟨#[115]⟩⟩, 0, []⟩], [], [], [], [], []⟩
def aClass : AObj := ⟨⟨1, ⟨#[]⟩, ⟨#[99]⟩⟩, true, [], [], ⟨#[]⟩, [], [], [], [], [], []⟩

theorem aFour_ok : aFour.ok := by
  constructor <;> simp [aFour]
  refine ⟨?_, ?_, ?_, ?_⟩ <;> exact ⟨by simp, by simp⟩
theorem aClass_ok : aClass.ok := by constructor <;> simp [aClass]
theorem aClass_oks : ∀ o ∈ [aClass], o.ok := fun o h => by rw [List.mem_singleton.1 h]; exact aClass_ok

theorem law12_four : Pure Tryz.prog 74 [] (fun d => d = aFour.d) := by
  refine pure_of_run follows an_zbi27 Tryz.func74 rfl ok_zbi27.1 ok_zbi27.2 (by simp [Tryz.ntmps74]) ?_
  rw [run_start]
  simp only [ac_zbi27, oo, og, tp, ci, cq, mq, lq, fi, sr, go_sem, contS_seq, simprocAttr]
  simp only [retK, resD, resA, AOp.ex, St.ev, St.get, lk, oneD, D.pub, D.pubs, retL, reduceIte, Nat.reduceEqDiff, Nat.reduceAdd, Nat.reduceLeDiff, ret_zbi27]
  exact ⟨_, rfl, rfl, rfl⟩

theorem awake12 : Pure Tryz.prog 36 [] (fun d => d = bln true) := by
  have c1 := listen_Conflict aFour aFour_ok 0
  rw [show conflict aFour 0 = hostnames by decide +kernel] at c1
  have c2 := listen_Conflict aFour aFour_ok 2
  rw [show conflict aFour 2 = ⟨#[]⟩ by decide +kernel] at c2
  have c3 := listen_Cert [aClass] (by simp) aClass_oks aFour aFour_ok 3
  rw [show cert [aClass] aFour 3 = badCert by decide +kernel] at c3
  have c4 := listen_Served [aClass] (by simp) aClass_oks aFour aFour_ok 2
  rw [show served [aClass] aFour 2 = true by decide +kernel] at c4
  have c5 := listen_Ours [aClass] (by simp) aClass_oks aFour aFour_ok
  rw [show ours [aClass] aFour = true by decide +kernel] at c5
  refine pure_of_run follows an_zwa7s Tryz.func36 rfl ok_zwa7s.1 ok_zwa7s.2 (by simp [Tryz.ntmps36]) ?_
  rw [run_start]
  simp only [ac_zwa7s, oo, og, tp, ci, cq, mq, lq, fi, sr, go_sem, contS_seq, simprocAttr]
  refine law12_four.callW (enters_of Tryz.func74 rfl rfl) _ rfl rfl ?_
  rintro _ rfl
  simp only [go_sem, contS_seq, simprocAttr]
  refine c1.callW (enters_of Tryz.func29 rfl rfl) _ rfl rfl ?_
  rintro _ rfl
  simp only [go_sem, contS_seq, simprocAttr, hostnames]
  refine law12_four.callW (enters_of Tryz.func74 rfl rfl) _ rfl rfl ?_
  rintro _ rfl
  simp only [go_sem, contS_seq, simprocAttr]
  refine c2.callW (enters_of Tryz.func29 rfl rfl) _ rfl rfl ?_
  rintro _ rfl
  simp only [go_sem, contS_seq, simprocAttr]
  refine law12_four.callW (enters_of Tryz.func74 rfl rfl) _ rfl rfl ?_
  rintro _ rfl
  simp only [go_sem, contS_seq, simprocAttr]
  refine c3.callW (enters_of Tryz.func31 rfl rfl) _ rfl rfl ?_
  rintro _ rfl
  simp only [go_sem, contS_seq, simprocAttr, badCert]
  refine law12_four.callW (enters_of Tryz.func74 rfl rfl) _ rfl rfl ?_
  rintro _ rfl
  simp only [go_sem, contS_seq, simprocAttr]
  refine c4.callW (enters_of Tryz.func33 rfl rfl) _ rfl rfl ?_
  rintro _ rfl
  simp only [go_sem, contS_seq, simprocAttr]
  refine law12_four.callW (enters_of Tryz.func74 rfl rfl) _ rfl rfl ?_
  rintro _ rfl
  simp only [go_sem, contS_seq, simprocAttr]
  refine c5.callW (enters_of Tryz.func27 rfl rfl) _ rfl rfl ?_
  rintro _ rfl
  simp only [go_sem, contS_seq, simprocAttr]
  simp only [retK, resD, St.get, lk, oneD, D.pub, D.pubs, retL, reduceIte, Nat.reduceEqDiff, Nat.reduceAdd, Nat.reduceLeDiff, Tryz.results36]
  exact ⟨_, rfl, rfl, rfl⟩


theorem countP_two {α : Type} {p : α → Bool} {l : List α} {i k : Nat} {x y : α} (hx : l[i]? = some x) (hy : l[k]? = some y) (hki : k < i) (h1 : p x = true) (h2 : p y = true) : 2 ≤ l.countP p := by
  rw [← List.take_append_drop i l, List.countP_append, drop_at hx, List.countP_cons_of_pos h1]
  have : 0 < (l.take i).countP p := List.countP_pos_iff.2 ⟨y, List.mem_of_getElem? (i := k) (by rw [List.getElem?_take, if_pos hki]; exact hy), h2⟩
  omega

def clash (x y : AListener) : Prop := x.port = y.port ∧ (x.tls ≠ y.tls ∨ x.host = y.host)

theorem clash_symm {x y : AListener} (h : clash x y) : clash y x := ⟨h.1.symm, h.2.imp (fun h => h.symm) (fun h => h.symm)⟩

theorem conflict_some {g : AObj} {i : Int} {x y : AListener} (ha : atL g i = some x) (hy : y ∈ g.listeners) (hc : clash x y) (h2 : x.tls = y.tls → 2 ≤ nPlace g.listeners (placeOf x)) : ¬ conflict g i = ⟨#[]⟩ := by
  unfold conflict
  rw [ha]
  simp only
  by_cases ht : x.tls = y.tls
  · have := h2 ht
    split
    · decide +kernel
    · rw [if_pos (by omega)]
      decide +kernel
  · have : 0 < nMode g.listeners (x.port, !x.tls) := List.countP_pos_iff.2 ⟨y, hy, by
      have : y.tls = !x.tls := by cases hx : x.tls <;> cases hz : y.tls <;> simp_all
      simp [modeOf, this, hc.1]⟩
    rw [if_pos (by omega)]
    decide +kernel

theorem atL_some {g : AObj} {i : Nat} {x : AListener} (hg : gwOk g = true) (hx : g.listeners[i]? = some x) : atL g i = some x := by
  unfold atL
  rw [if_pos hg, if_neg (by omega), Int.toNat_natCast, hx]

theorem atL_off {g : AObj} {i : Int} (hg : gwOk g = false) : atL g i = none := by
  unfold atL
  rw [if_neg (by simp [hg])]

theorem apart {os : List AObj} {g : AObj} {i k : Nat} {x y : AListener} (hx : g.listeners[i]? = some x) (hy : g.listeners[k]? = some y) (hki : k < i) (hc : clash x y) :
    served os g i = false ∧ served os g k = false ∧ (conflict g i = ⟨#[]⟩ ↔ conflict g k = ⟨#[]⟩) := by
  cases hg : gwOk g
  · have h1 := atL_off (i := i) hg
    have h2 := atL_off (i := k) hg
    refine ⟨by simp [served, h1], by simp [served, h2], ?_⟩
    simp [conflict, h1, h2]
  · have h1 := atL_some hg hx
    have h2 := atL_some hg hy
    have hp : ∀ (ht : x.tls = y.tls), placeOf x = placeOf y := fun ht => by
      rcases hc.2 with h | h
      · exact absurd ht h
      · simp [placeOf, hc.1, ht, h]
    have n1 := conflict_some h1 (List.mem_of_getElem? hy) hc (fun ht => countP_two hx hy hki (by simp) (by simp [hp ht]))
    have n2 := conflict_some h2 (List.mem_of_getElem? hx) (clash_symm hc) (fun ht => countP_two hx hy hki (by simp [hp ht.symm]) (by simp))
    exact ⟨by simp [served, n1], by simp [served, n2], by simp [n1, n2]⟩


def servedAll (os : List AObj) (g : AObj) : List Int := ((List.range g.listeners.length).filter fun (i : Nat) => served os g i).map fun (i : Nat) => (i : Int)


def svd (os : List AObj) (g : AObj) (i : Nat) : List Int := ((List.range i).filter fun (j : Nat) => served os g j).map fun (j : Nat) => (j : Int)

theorem svd_succ (os : List AObj) (g : AObj) (i : Nat) : svd os g (i + 1) = svd os g i ++ (if served os g i = true then [(i : Int)] else []) := by
  unfold svd
  rw [List.range_succ, List.filter_append, List.map_append]
  cases h : served os g i <;> simp [h]

theorem svd_len (os : List AObj) (g : AObj) (i : Nat) : (svd os g i).length ≤ i := by
  unfold svd
  rw [List.length_map]
  exact Nat.le_trans (List.length_filter_le _ _) (by simp)

theorem listen_All (os : List AObj) (hos : os.length ≤ 1000000) (h : ∀ o ∈ os, o.ok) (g : AObj) (hg : g.ok) : Pure Tryz.prog 35 [.pd (.slice (rows AObj.pd os)), g.d] (fun d => d = .pd (.slice (ints (servedAll os g)))) := by
  have hli := hg.li
  refine pure_of_run follows an_zu7tu Tryz.func35 rfl ok_zu7tu.1 ok_zu7tu.2 (by simp [Tryz.ntmps35]) ?_
  rw [run_start]
  simp only [ac_zu7tu, oo, og, tp, ci, cq, mq, lq, fi, sr, go_sem, contS_seq, simprocAttr, rows_len]
  refine loopS (fun k st => ∃ i : Nat, k = g.listeners.length - i ∧ i ≤ g.listeners.length ∧
    st = ⟨[(0, .pd (.slice (rows AObj.pd os))), (3, .ptr 3 0), (5, .own 3 1 (ints (svd os g i)) 20), (9, int g.listeners.length), (10, int i)], [(3, g.ds)], [], .no⟩) g.listeners.length _ ?_ ⟨0, rfl, by omega, rfl⟩ ?_
  · exact Weak.own1 5 20 3 1 (by kernel_rfl) (by decide) rfl (by simp [lessL, lk, St.purge, St.put, D.purge, rows, svd]) (by simp [lessL, lk, St.purge, D.purges, D.purge]) (by simp [lessL]) rfl
  rintro k st ⟨i, rfl, hi, rfl⟩
  have hw := i64_succ (show i < 1000000000 by omega)
  have hs := svd_succ os g i
  have hl := svd_len os g i
  by_cases hlt : i < g.listeners.length
  · have h1 : ((i : Int) < (g.listeners.length : Int)) = True := eq_true (by omega)
    simp only [go_sem, contS_seq, simprocAttr, rows_len, h1]
    refine (listen_Served os hos h g hg i).callW (enters_of Tryz.func33 rfl rfl) _ rfl rfl ?_
    rintro _ rfl
    cases hsv : served os g i
    · rw [hsv] at hs
      simp only [Bool.false_eq_true, if_false, List.append_nil] at hs
      simp only [go_sem, contS_seq, simprocAttr, hw]
      refine ⟨g.listeners.length - (i + 1), _, by omega, ?_, i + 1, rfl, by omega, rfl⟩
      rw [hs]
      exact lessA
    · rw [hsv] at hs
      simp only [if_true] at hs
      simp only [go_sem, contS_seq, simprocAttr, rows_len, hw]
      rw [ints_one, ← hs]
      refine ⟨by simp, by unfold maxLen; omega, by omega, g.listeners.length - (i + 1), _, by omega, ?_, i + 1, rfl, by omega, rfl⟩
      exact lessA
  · have h1 : ((i : Int) < (g.listeners.length : Int)) = False := eq_false (by omega)
    obtain rfl : i = g.listeners.length := by omega
    simp only [go_sem, contS_seq, simprocAttr, rows_len, h1]
    simp only [retK, resD, St.get, lk, oneD, D.pub, D.pubs, retL, reduceIte, Nat.reduceEqDiff, Nat.reduceAdd, Nat.reduceLeDiff, Tryz.results35]
    exact ⟨_, rfl, rfl, rfl⟩


theorem gwOk_iff {g : AObj} : gwOk g = true ↔ g.ref.kind = 5 ∧ objMay g = true := by simp [gwOk]

theorem there_iff {g : AObj} {i : Int} : (atL g i).isSome = true ↔ g.ref.kind = 5 ∧ objMay g = true ∧ 0 ≤ i ∧ i < (g.listeners.length : Int) := by
  unfold atL
  by_cases hg : gwOk g = true
  · rw [if_pos hg]
    obtain ⟨h5, hm⟩ := gwOk_iff.1 hg
    by_cases hi : i < 0
    · rw [if_pos hi]
      constructor
      · intro h; cases h
      · intro h; omega
    · rw [if_neg hi]
      constructor
      · intro h
        obtain ⟨y, hy⟩ := Option.isSome_iff_exists.1 h
        have := (List.getElem?_eq_some_iff.1 hy).1
        exact ⟨by assumption, by assumption, by omega, by omega⟩
      · intro h
        rw [List.getElem?_eq_getElem (by omega)]
        rfl
  · rw [if_neg hg]
    constructor
    · intro h; cases h
    · intro h; exact absurd (gwOk_iff.2 ⟨h.1, h.2.1⟩) hg

theorem ref12_There (g : AObj) (hg : g.ok) (hs : g.sok) (i : Int) : Pure Tryz.prog 73 [g.d, int i] (fun d => d = bln (atL g i).isSome) := by
  refine pure_of_run follows an_zqldy Tryz.func73 rfl ok_zqldy.1 ok_zqldy.2 (by simp [Tryz.ntmps73]) ?_
  rw [run_start]
  simp only [ac_zqldy, oo, og, tp, ci, cq, mq, lq, fi, sr, go_sem, contS_seq, simprocAttr, rows_len]
  (repeat' (first | (refine GifP.mk (fun _ => ?_) (fun _ => ?_)) | (refine Gif.mk (fun _ => ?_) (fun _ => ?_)) | (refine (ref9_May g hg hs).callW (enters_of Tryz.func12 rfl rfl) _ rfl rfl ?_; rintro _ rfl; try simp only [go_sem, contS_seq, simprocAttr, rows_len]))) <;> (simp only [retK, resD, St.get, lk, oneD, D.pub, D.pubs, retL, reduceIte, Nat.reduceEqDiff, Nat.reduceAdd, Nat.reduceLeDiff, Tryz.results73]; exact ⟨_, rfl, rfl, congrArg bln (by rw [Bool.eq_iff_iff, there_iff]; first | (simp_all; done) | (simp_all; omega))⟩)

set_option maxHeartbeats 2000000 in
theorem ref12_Ours (os : List AObj) (hos : os.length ≤ 1000000) (h : ∀ o ∈ os, o.ok) (hk : ∀ o ∈ os, o.sok) (g : AObj) (hg : g.ok) (hs : g.sok) : Pure Tryz.prog 28 [.pd (.slice (rows AObj.pd os)), g.d] (fun d => d = bln (ours os g)) := by
  have cM := ref9_May g hg hs
  refine pure_of_run follows an_zw5fy Tryz.func28 rfl ok_zw5fy.1 ok_zw5fy.2 (by simp [Tryz.ntmps28]) ?_
  rw [run_start]
  simp only [ac_zw5fy, oo, og, tp, ci, cq, mq, lq, fi, sr, go_sem, contS_seq, simprocAttr]
  by_cases hgw : gwOk g = true
  rotate_left
  · have ho : ours os g = false := by simp [ours, hgw]
    repeat' (first | refine GifP.mk (fun _ => ?_) (fun _ => ?_) | refine Gif.mk (fun _ => ?_) (fun _ => ?_) | (refine cM.callW (enters_of Tryz.func12 rfl rfl) _ rfl rfl ?_; rintro _ rfl; simp only [go_sem, contS_seq, simprocAttr]) | (refine (ref11_Find os hos ⟨1, ⟨#[]⟩, g.cls⟩).callW (enters_of Tryz.func18 rfl rfl) _ rfl rfl ?_; exact absurd (gwOk_iff.2 ⟨by assumption, by assumption⟩) hgw))
    all_goals first
      | (exact absurd (gwOk_iff.2 ⟨by assumption, by assumption⟩) hgw)
      | (simp only [retK, resD, St.get, lk, oneD, D.pub, D.pubs, retL, reduceIte, Nat.reduceEqDiff, Nat.reduceAdd, Nat.reduceLeDiff, Tryz.results28]; exact ⟨_, rfl, rfl, by rw [ho]; try rfl⟩)
  obtain ⟨h5, hmay⟩ := gwOk_iff.1 hgw
  have h5 := eq_true h5
  rw [hmay] at cM
  simp only [go_sem, contS_seq, simprocAttr, h5]
  refine cM.callW (enters_of Tryz.func12 rfl rfl) _ rfl rfl ?_
  rintro _ rfl
  simp only [go_sem, contS_seq, simprocAttr]
  refine (ref11_Find os hos ⟨1, ⟨#[]⟩, g.cls⟩).callW (enters_of Tryz.func18 rfl rfl) _ rfl rfl ?_
  rintro _ rfl
  have ho : ours os g = goodAt os ⟨1, ⟨#[]⟩, g.cls⟩ := by simp [ours, hgw]
  rw [ho]
  unfold goodAt
  rcases hf : found os ⟨1, ⟨#[]⟩, g.cls⟩ with _ | o
  · simp only [foundD, go_sem, contS_seq, simprocAttr]
    simp only [retK, resD, St.get, lk, oneD, D.pub, D.pubs, retL, reduceIte, Nat.reduceEqDiff, Nat.reduceAdd, Nat.reduceLeDiff, Tryz.results28]
    exact ⟨_, rfl, rfl, rfl⟩
  · simp only [foundD, go_sem, contS_seq, simprocAttr]
    have hmem := List.mem_of_find?_eq_some hf
    refine (ref9_May o (h o hmem) (hk o hmem)).callW (enters_of Tryz.func12 rfl rfl) _ rfl rfl ?_
    rintro _ rfl
    simp only [go_sem, contS_seq, simprocAttr]
    cases objMay o
    all_goals
      simp only [go_sem, contS_seq, simprocAttr]
      simp only [retK, resD, St.get, lk, oneD, D.pub, D.pubs, retL, reduceIte, Nat.reduceEqDiff, Nat.reduceAdd, Nat.reduceLeDiff, Tryz.results28]
      exact ⟨_, rfl, rfl, rfl⟩

theorem one_more {α : Type} {p : α → Bool} {l : List α} {i : Nat} {x : α} (hx : l[i]? = some x) (hp : p x = true) : 1 < l.countP p ↔ ∃ (j : Nat) (y : α), j ≠ i ∧ l[j]? = some y ∧ p y = true := by
  have e : l.countP p = (l.take i).countP p + ((l.drop (i + 1)).countP p + 1) := by
    conv => lhs; rw [← List.take_append_drop i l]
    rw [List.countP_append, drop_at hx, List.countP_cons_of_pos hp]
  rw [e]
  constructor
  · intro h
    rcases Nat.eq_zero_or_pos ((l.take i).countP p) with h0 | h0
    · have : 0 < (l.drop (i + 1)).countP p := by omega
      obtain ⟨y, hy, hpy⟩ := List.countP_pos_iff.1 this
      obtain ⟨j, hj⟩ := List.getElem?_of_mem hy
      rw [List.getElem?_drop] at hj
      exact ⟨i + 1 + j, y, by omega, hj, hpy⟩
    · obtain ⟨y, hy, hpy⟩ := List.countP_pos_iff.1 h0
      obtain ⟨j, hj⟩ := List.getElem?_of_mem hy
      rw [List.getElem?_take] at hj
      split at hj
      · exact ⟨j, y, by omega, hj, hpy⟩
      · cases hj
  · rintro ⟨j, y, hj, hy, hpy⟩
    rcases Nat.lt_or_gt_of_ne hj with h | h
    · have : 0 < (l.take i).countP p := List.countP_pos_iff.2 ⟨y, List.mem_of_getElem? (i := j) (by rw [List.getElem?_take, if_pos h]; exact hy), hpy⟩
      omega
    · have : 0 < (l.drop (i + 1)).countP p := List.countP_pos_iff.2 ⟨y, List.mem_of_getElem? (i := j - (i + 1)) (by rw [List.getElem?_drop, show i + 1 + (j - (i + 1)) = j by omega]; exact hy), hpy⟩
      omega

abbrev Other (l : List AListener) (n : Nat) (x : AListener) (k : Nat) : Prop := ∃ (j : Nat) (y : AListener), j < k ∧ j ≠ n ∧ l[j]? = some y ∧ placeOf y = placeOf x

theorem other_same {l : List AListener} {n k : Nat} {x y : AListener} (hy : l[k]? = some y) (h : k = n ∨ placeOf y ≠ placeOf x) : Other l n x (k + 1) ↔ Other l n x k := by
  constructor
  · rintro ⟨j, z, h1, h2, h3, h4⟩
    rcases Nat.lt_or_ge j k with h5 | h5
    · exact ⟨j, z, h5, h2, h3, h4⟩
    · obtain rfl : j = k := by omega
      rw [hy] at h3; cases h3
      rcases h with h | h
      · exact absurd h h2
      · exact absurd h4 h
  · rintro ⟨j, z, h1, h2, h3, h4⟩
    exact ⟨j, z, by omega, h2, h3, h4⟩

theorem other_new {l : List AListener} {n k : Nat} {x y : AListener} (hy : l[k]? = some y) (hk : k ≠ n) (h : placeOf y = placeOf x) : Other l n x (k + 1) := ⟨k, y, Nat.lt_succ_self _, hk, hy, h⟩

theorem conflict_end {g : AObj} {n : Nat} {x : AListener} {w : Bool} (ha : atL g n = some x) (hx : g.listeners[n]? = some x) (h1 : ∀ (j : Nat) (y : AListener), g.listeners[j]? = some y → modeOf y ≠ (x.port, !x.tls)) (h2 : w = true ↔ Other g.listeners n x g.listeners.length) :
    conflict g n = if w = true then hostnames else ⟨#[]⟩ := by
  unfold conflict
  rw [ha]
  simp only
  have e1 : nMode g.listeners (x.port, !x.tls) = 0 := by
    unfold nMode
    rw [List.countP_eq_zero]
    intro y hy
    obtain ⟨j, hj⟩ := List.getElem?_of_mem hy
    simpa using h1 j y hj
  rw [if_neg (by rw [e1]; decide)]
  have e2 : 1 < (nPlace g.listeners (placeOf x) : Int) ↔ w = true := by
    rw [h2]
    have := one_more (p := fun y => decide (placeOf y = placeOf x)) hx (by simp)
    rw [show (1 < (nPlace g.listeners (placeOf x) : Int)) ↔ 1 < nPlace g.listeners (placeOf x) by omega]
    unfold nPlace
    rw [this]
    constructor
    · rintro ⟨j, y, a, b, c⟩
      exact ⟨j, y, (List.getElem?_eq_some_iff.1 b).1, a, b, of_decide_eq_true c⟩
    · rintro ⟨j, y, _, a, b, c⟩
      exact ⟨j, y, a, b, decide_eq_true c⟩
  by_cases hw : w = true
  · rw [if_pos hw, if_pos (e2.2 hw)]
  · rw [if_neg hw, if_neg (fun h => hw (e2.1 h))]

theorem conflict_mode {g : AObj} {n : Nat} {x y : AListener} (ha : atL g n = some x) (hy : y ∈ g.listeners) (hm : modeOf y = (x.port, !x.tls)) : conflict g n = protocols := by
  unfold conflict
  rw [ha]
  simp only
  have : 0 < nMode g.listeners (x.port, !x.tls) := List.countP_pos_iff.2 ⟨y, hy, by simp [hm]⟩
  rw [if_pos (by omega)]

theorem atL_in {g : AObj} {i : Int} {x : AListener} (h : atL g i = some x) : ∃ n : Nat, i = n ∧ g.listeners[n]? = some x ∧ n < g.listeners.length := by
  unfold atL at h
  split at h
  · split at h
    · cases h
    · exact ⟨i.toNat, by omega, h, (List.getElem?_eq_some_iff.1 h).1⟩
  · cases h

set_option maxHeartbeats 4000000 in
theorem ref12_Conflict (g : AObj) (hg : g.ok) (hs : g.sok) (i : Int) : Pure Tryz.prog 30 [g.d, int i] (fun d => d = str (conflict g i)) := by
  have cT := ref12_There g hg hs i
  have hli := hg.li
  refine pure_of_run follows an_z3eib Tryz.func30 rfl ok_z3eib.1 ok_z3eib.2 (by simp [Tryz.ntmps30]) ?_
  rw [run_start]
  simp only [ac_z3eib, oo, og, tp, ci, cq, mq, lq, fi, sr, go_sem, contS_seq, simprocAttr]
  rcases hat : atL g i with _ | x
  · rw [hat] at cT
    refine cT.callW (enters_of Tryz.func73 rfl rfl) _ rfl rfl ?_
    rintro _ rfl
    simp only [go_sem, contS_seq, simprocAttr, Option.isSome_none]
    simp only [retK, resD, St.get, lk, oneD, D.pub, D.pubs, retL, reduceIte, Nat.reduceEqDiff, Nat.reduceAdd, Nat.reduceLeDiff, Tryz.results30]
    exact ⟨_, rfl, rfl, by unfold conflict; rw [hat]; try rfl⟩
  rw [hat] at cT
  obtain ⟨n, rfl, hx, hnl⟩ := atL_in hat
  refine cT.callW (enters_of Tryz.func73 rfl rfl) _ rfl rfl ?_
  rintro _ rfl
  simp only [go_sem, contS_seq, simprocAttr, Option.isSome_some, rows_len, rows_get hx]
  refine loopS (fun m st => ∃ (k : Nat) (w : Bool), m = g.listeners.length - k ∧ k ≤ g.listeners.length ∧ (∀ (j : Nat) (y : AListener), j < k → g.listeners[j]? = some y → modeOf y ≠ (x.port, !x.tls)) ∧ (w = true ↔ Other g.listeners n x k) ∧
    st = ⟨[(1, int n), (2, .ptr 2 0), (5, str (if w = true then hostnames else ⟨#[]⟩)), (6, .ptr 6 0), (7, int k)], [(2, g.ds), (6, x.ds)], [], .no⟩) g.listeners.length _ ?_ ⟨0, false, rfl, by omega, fun _ _ h => absurd h (Nat.not_lt_zero _), ⟨fun h => (Bool.false_ne_true h).elim, fun ⟨_, _, h, _⟩ => absurd h (Nat.not_lt_zero _)⟩, rfl⟩ ?_
  · exact lessA
  rintro m st ⟨k, w, rfl, hk, hT, hW, rfl⟩
  have hw := i64_succ (show k < 1000000000 by omega)
  by_cases hlt : k < g.listeners.length
  rotate_left
  · have h1 : ((k : Int) < (g.listeners.length : Int)) = False := eq_false (by omega)
    obtain rfl : k = g.listeners.length := by omega
    have he := conflict_end hat hx (fun j y hy => hT j y (List.getElem?_eq_some_iff.1 hy).1 hy) hW
    simp only [go_sem, contS_seq, simprocAttr, rows_len, h1]
    simp only [retK, resD, St.get, lk, oneD, D.pub, D.pubs, retL, reduceIte, Nat.reduceEqDiff, Nat.reduceAdd, Nat.reduceLeDiff, Tryz.results30]
    exact ⟨_, rfl, rfl, by rw [he]; try rfl⟩
  obtain ⟨y, hy⟩ := at_lt hlt
  have h1 : ((k : Int) < (g.listeners.length : Int)) = True := eq_true (by omega)
  by_cases hkn : k = n
  · have h2 : ((k : Int) = (n : Int)) = True := eq_true (by omega)
    obtain rfl : y = x := by subst hkn; rw [hx] at hy; exact (Option.some.inj hy).symm
    simp only [go_sem, contS_seq, simprocAttr, rows_len, rows_get hy, h1, h2, hw]
    refine ⟨g.listeners.length - (k + 1), _, by omega, ?_, k + 1, w, rfl, by omega, snoc_all hT hy (by intro e; have := congrArg Prod.snd e; simp at this), hW.trans (other_same hy (.inl hkn)).symm, rfl⟩
    exact lessA
  have h2 : ((k : Int) = (n : Int)) = False := eq_false (by omega)
  simp only [go_sem, contS_seq, simprocAttr, rows_len, rows_get hy, h1, h2, hw]
  refine GifP.mk (fun hp => ?_) (fun hp => ?_)
  rotate_left
  · refine ⟨g.listeners.length - (k + 1), _, by omega, ?_, k + 1, w, rfl, by omega, snoc_all hT hy (fun e => hp (congrArg Prod.fst e)), hW.trans (other_same hy (.inr fun e => hp (congrArg Prod.fst e))).symm, rfl⟩
    exact lessA
  refine Gif.mk (fun ht => ?_) (fun ht => ?_)
  rotate_left
  · have hm : modeOf y = (x.port, !x.tls) := by
      have : y.tls = !x.tls := by cases h1 : y.tls <;> cases h2 : x.tls <;> simp_all
      rw [modeOf, hp, this]
    simp only [retK, resD, St.get, lk, oneD, D.pub, D.pubs, retL, reduceIte, Nat.reduceEqDiff, Nat.reduceAdd, Nat.reduceLeDiff, Tryz.results30]
    exact ⟨_, rfl, rfl, by rw [conflict_mode hat (List.mem_of_getElem? hy) hm]; try rfl⟩
  have ht := eq_of_beq ht
  have hm : modeOf y ≠ (x.port, !x.tls) := fun e => by
    have := congrArg Prod.snd e
    simp [ht] at this
  refine GifP.mk (fun hh => ?_) (fun hh => ?_)
  · refine ⟨g.listeners.length - (k + 1), _, by omega, ?_, k + 1, true, rfl, by omega, snoc_all hT hy hm, ⟨fun _ => other_new hy hkn (by rw [placeOf, placeOf, hp, ht, hh]), fun _ => rfl⟩, rfl⟩
    exact Weak.less (by simp [lessL, lk, hostnames]) (by simp [lessL, lk]) (by simp [lessL, lk]) rfl
  · refine ⟨g.listeners.length - (k + 1), _, by omega, ?_, k + 1, w, rfl, by omega, snoc_all hT hy hm, hW.trans (other_same hy (.inr fun e => hh (congrArg (fun p => p.2.2) e))).symm, rfl⟩
    exact lessA

set_option maxHeartbeats 4000000 in
theorem ref12_Cert (os : List AObj) (hos : os.length ≤ 1000000) (h : ∀ o ∈ os, o.ok) (hk : ∀ o ∈ os, o.sok) (g : AObj) (hg : g.ok) (hs : g.sok) (i : Int) : Pure Tryz.prog 32 [.pd (.slice (rows AObj.pd os)), g.d, int i] (fun d => d = str (cert os g i)) := by
  have cT := ref12_There g hg hs i
  have hli := hg.li
  refine pure_of_run follows an_z2uw5 Tryz.func32 rfl ok_z2uw5.1 ok_z2uw5.2 (by simp [Tryz.ntmps32]) ?_
  rw [run_start]
  simp only [ac_z2uw5, oo, og, tp, ci, cq, mq, lq, fi, sr, go_sem, contS_seq, simprocAttr]
  rcases hat : atL g i with _ | x
  · rw [hat] at cT
    refine cT.callW (enters_of Tryz.func73 rfl rfl) _ rfl rfl ?_
    rintro _ rfl
    simp only [go_sem, contS_seq, simprocAttr, Option.isSome_none]
    simp only [retK, resD, St.get, lk, oneD, D.pub, D.pubs, retL, reduceIte, Nat.reduceEqDiff, Nat.reduceAdd, Nat.reduceLeDiff, Tryz.results32]
    exact ⟨_, rfl, rfl, by unfold cert; rw [hat]; try rfl⟩
  rw [hat] at cT
  obtain ⟨n, rfl, hx, hnl⟩ := atL_in hat
  refine cT.callW (enters_of Tryz.func73 rfl rfl) _ rfl rfl ?_
  rintro _ rfl
  simp only [go_sem, contS_seq, simprocAttr, Option.isSome_some, rows_len, rows_get hx]
  refine Gif.mk (fun ht => ?_) (fun ht => ?_)
  rotate_left
  · simp only [retK, resD, St.get, lk, oneD, D.pub, D.pubs, retL, reduceIte, Nat.reduceEqDiff, Nat.reduceAdd, Nat.reduceLeDiff, Tryz.results32]
    exact ⟨_, rfl, rfl, by unfold cert; rw [hat]; simp only [ht]; try rfl⟩
  have hce : cert os g n = certOf os g.ref.space (near x.cert g.ref.space) := by unfold cert; rw [hat]; simp only [ht]; try rfl
  have cN := ref11_Near x.cert g.ref.space
  rw [hce]
  clear hce
  generalize near x.cert g.ref.space = t at cN ⊢
  repeat' (first | (refine cN.callX (enters_of Tryz.func21 rfl rfl) _ rfl rfl ?_; rintro _ rfl; simp only [go_sem, contS_seq, simprocAttr]) | (refine (ref11_Permits os hos h hk 5 g.ref.space t).callW (enters_of Tryz.func23 rfl rfl) _ rfl rfl ?_; rintro _ rfl; simp only [go_sem, contS_seq, simprocAttr]) | refine And.intro ?_ ?_)
  all_goals
    refine Gif.mk (fun hp => ?_) (fun hp => ?_)
    rotate_left
    · simp only [retK, resD, St.get, lk, oneD, D.pub, D.pubs, retL, reduceIte, Nat.reduceEqDiff, Nat.reduceAdd, Nat.reduceLeDiff, Tryz.results32]
      exact ⟨_, rfl, rfl, by unfold certOf; rw [if_neg (by rw [hp]; decide)]; try rfl⟩
    refine (ref11_Find os hos t).callW (enters_of Tryz.func18 rfl rfl) _ rfl rfl ?_
    rintro _ rfl
    have hgo : ∀ b, goodAt os t = b → certOf os g.ref.space t = if b = true then ⟨#[]⟩ else badCert := fun b hb => by unfold certOf; rw [if_pos hp, hb]
    unfold goodAt at hgo
    rcases hf : found os t with _ | o
    · rw [hf] at hgo
      have := hgo _ rfl
      simp only [foundD, go_sem, contS_seq, simprocAttr]
      simp only [retK, resD, St.get, lk, oneD, D.pub, D.pubs, retL, reduceIte, Nat.reduceEqDiff, Nat.reduceAdd, Nat.reduceLeDiff, Tryz.results32]
      exact ⟨_, rfl, rfl, by rw [this]; try rfl⟩
    · rw [hf] at hgo
      have hmem := List.mem_of_find?_eq_some hf
      simp only [foundD, go_sem, contS_seq, simprocAttr]
      refine (ref9_May o (h o hmem) (hk o hmem)).callW (enters_of Tryz.func12 rfl rfl) _ rfl rfl ?_
      rintro _ rfl
      simp only [go_sem, contS_seq, simprocAttr]
      repeat' (first | refine Gif.mk (fun _ => ?_) (fun _ => ?_) | refine GifP.mk (fun _ => ?_) (fun _ => ?_))
      all_goals
        simp only [retK, resD, St.get, lk, oneD, D.pub, D.pubs, retL, reduceIte, Nat.reduceEqDiff, Nat.reduceAdd, Nat.reduceLeDiff, Tryz.results32]
        exact ⟨_, rfl, rfl, by rw [hgo _ rfl]; simp_all [badCert, D.pub]⟩

theorem ref12_Served (os : List AObj) (hos : os.length ≤ 1000000) (h : ∀ o ∈ os, o.ok) (hk : ∀ o ∈ os, o.sok) (g : AObj) (hg : g.ok) (hs : g.sok) (i : Int) : Pure Tryz.prog 34 [.pd (.slice (rows AObj.pd os)), g.d, int i] (fun d => d = bln (served os g i)) := by
  refine pure_of_run follows an_z8hqn Tryz.func34 rfl ok_z8hqn.1 ok_z8hqn.2 (by simp [Tryz.ntmps34]) ?_
  rw [run_start]
  simp only [ac_z8hqn, oo, og, tp, ci, cq, mq, lq, fi, sr, go_sem, contS_seq, simprocAttr]
  (repeat' (first | (refine GifP.mk (fun _ => ?_) (fun _ => ?_)) | (refine Gif.mk (fun _ => ?_) (fun _ => ?_)) | ((first | refine (ref12_There g hg hs i).callW (enters_of Tryz.func73 rfl rfl) _ rfl rfl ?_ | refine (ref12_Ours os hos h hk g hg hs).callW (enters_of Tryz.func28 rfl rfl) _ rfl rfl ?_ | refine (ref12_Conflict g hg hs i).callW (enters_of Tryz.func30 rfl rfl) _ rfl rfl ?_ | refine (ref12_Cert os hos h hk g hg hs i).callW (enters_of Tryz.func32 rfl rfl) _ rfl rfl ?_); rintro _ rfl; try simp only [go_sem, contS_seq, simprocAttr]))) <;> (simp only [retK, resD, St.get, lk, oneD, D.pub, D.pubs, retL, reduceIte, Nat.reduceEqDiff, Nat.reduceAdd, Nat.reduceLeDiff, Tryz.results34]; exact ⟨_, rfl, rfl, congrArg bln (by first | rfl | (rw [Bool.eq_iff_iff]; simp only [served]; simp; done) | (rw [Bool.eq_iff_iff]; simp only [served]; simp; omega) | (rw [Bool.eq_iff_iff]; simp only [served]; simp [*]; done) | (rw [Bool.eq_iff_iff]; simp only [served]; simp [*]; omega) | (simp_all [served]; done) | (exfalso; omega))⟩)


theorem svd_prefix (os : List AObj) (g : AObj) (n : Nat) : ∀ m, n ≤ m → ∃ r, svd os g m = svd os g n ++ r
  | 0, h => ⟨[], by rw [show n = 0 by omega]; simp⟩
  | m + 1, h => by
    rcases Nat.lt_or_ge m n with h1 | h1
    · exact ⟨[], by rw [show n = m + 1 by omega]; simp⟩
    · obtain ⟨r, hr⟩ := svd_prefix os g n m h1
      exact ⟨r ++ (if served os g m = true then [(m : Int)] else []), by rw [svd_succ, hr, List.append_assoc]⟩

theorem svd_at {os : List AObj} {g : AObj} {n N : Nat} (hn : n < N) (h : served os g n = true) : (svd os g N)[(svd os g n).length]? = some (n : Int) := by
  obtain ⟨r, hr⟩ := svd_prefix os g (n + 1) N hn
  rw [hr, svd_succ, if_pos h, List.append_assoc]
  rw [List.getElem?_append_right (Nat.le_refl _), Nat.sub_self]
  rfl

set_option maxHeartbeats 8000000 in
theorem law_ListenTells (l : List AObj) (g : AObj) (i : Int) : Pure Tryz.prog 6 [.pd (.slice (rows AObj.pd l)), g.d, int i] (fun d => d = bln true) := by
  refine pure_of_run follows an_z5yrj Tryz.func6 rfl ok_z5yrj.1 ok_z5yrj.2 (by simp [Tryz.ntmps6]) ?_
  rw [run_start]
  simp only [ac_z5yrj, oo, og, tp, ci, cq, mq, lq, fi, sr, go_sem, contS_seq, simprocAttr]
  refine (law11_Some l).callX (enters_of Tryz.func26 rfl rfl) _ rfl rfl ?_
  rintro _ rfl
  simp only [go_sem, contS_seq, simprocAttr]
  refine (law9_Few g).callX (enters_of Tryz.func8 rfl rfl) _ rfl rfl ?_
  rintro _ rfl
  have hos : (fewObjs l).length ≤ 1000 := Nat.le_trans (fewObjs_len l) (by omega)
  have ho := fewObjs_ok (l := l)
  have hk := fewObjs_sok (l := l)
  have hg := fewObj_ok g
  have hs := fewObj_sok g
  generalize fewObjs l = os at hos ho hk ⊢
  generalize fewObj g = g at hg hs ⊢
  have hli := hg.li
  simp only [go_sem, contS_seq, simprocAttr]
  refine (listen_Ours os (by omega) ho g hg).callX (enters_of Tryz.func27 rfl rfl) _ rfl rfl ?_
  rintro _ rfl
  simp only [go_sem, contS_seq, simprocAttr]
  refine (ref12_Ours os (by omega) ho hk g hg hs).callX (enters_of Tryz.func28 rfl rfl) _ rfl rfl ?_
  rintro _ rfl
  simp only [go_sem, contS_seq, simprocAttr, beq_self_eq_true, bne_self_eq_false]
  refine (listen_Conflict g hg i).callX (enters_of Tryz.func29 rfl rfl) _ rfl rfl ?_
  rintro _ rfl
  simp only [go_sem, contS_seq, simprocAttr]
  refine (ref12_Conflict g hg hs i).callX (enters_of Tryz.func30 rfl rfl) _ rfl rfl ?_
  rintro _ rfl
  simp only [go_sem, contS_seq, simprocAttr, ne_eq, not_true_eq_false]
  refine (listen_Cert os (by omega) ho g hg i).callX (enters_of Tryz.func31 rfl rfl) _ rfl rfl ?_
  rintro _ rfl
  simp only [go_sem, contS_seq, simprocAttr]
  refine (ref12_Cert os (by omega) ho hk g hg hs i).callX (enters_of Tryz.func32 rfl rfl) _ rfl rfl ?_
  rintro _ rfl
  simp only [go_sem, contS_seq, simprocAttr, ne_eq, not_true_eq_false]
  refine (listen_Served os (by omega) ho g hg i).callX (enters_of Tryz.func33 rfl rfl) _ rfl rfl ?_
  rintro _ rfl
  simp only [go_sem, contS_seq, simprocAttr]
  refine (ref12_Served os (by omega) ho hk g hg hs i).callX (enters_of Tryz.func34 rfl rfl) _ rfl rfl ?_
  rintro _ rfl
  simp only [go_sem, contS_seq, simprocAttr, beq_self_eq_true, bne_self_eq_false]
  refine (listen_All os (by omega) ho g hg).callW (enters_of Tryz.func35 rfl rfl) _ rfl rfl ?_
  rintro _ rfl
  obtain ⟨N, hN⟩ : ∃ N, g.listeners.length = N := ⟨_, rfl⟩
  have hall : servedAll os g = svd os g N := by rw [← hN]; rfl
  have hal : (svd os g N).length ≤ N := svd_len os g N
  rw [hall]
  simp only [go_sem, contS_seq, simprocAttr, rows_len, hN]
  refine loopS (fun k st => ∃ n : Nat, k = N - n ∧ n ≤ N ∧ st = ⟨[(0, .pd (.slice (rows AObj.pd os))), (4, .ptr 4 0), (7, .pd (.slice (ints (svd os g N)))), (8, int (svd os g n).length), (9, int n)], [(4, g.ds)], [], .no⟩) N _ ?_ ⟨0, rfl, Nat.zero_le _, rfl⟩ ?_
  · exact Weak.less (by simp [lessL, lk, svd]) (by simp [lessL, lk]) (by simp [lessL, lk]) rfl
  rintro k st ⟨n, rfl, hn, rfl⟩
  have hw := i64_succ (show n < 1000000000 by omega)
  have hsl := svd_len os g n
  have hw2 := i64_succ (show (svd os g n).length < 1000000000 by omega)
  have hst := svd_succ os g n
  by_cases hlt : n < N
  · have hlt' : ((n : Int) < (N : Int)) = True := eq_true (by omega)
    simp only [go_sem, contS_seq, simprocAttr, hlt', rows_len, hN]
    refine (ref12_Served os (by omega) ho hk g hg hs n).callW (enters_of Tryz.func34 rfl rfl) _ rfl rfl ?_
    rintro _ rfl
    cases hsv : served os g n
    · rw [if_neg (by rw [hsv]; decide), List.append_nil] at hst
      simp only [go_sem, contS_seq, simprocAttr, hw]
      refine ⟨N - (n + 1), _, by omega, ?_, n + 1, rfl, by omega, rfl⟩
      rw [hst]
      exact lessA
    · rw [if_pos hsv] at hst
      have hat := svd_at hlt hsv
      have hlt2 := (List.getElem?_eq_some_iff.1 hat).1
      have h2 : (((svd os g N).length : Int) ≤ ((svd os g n).length : Int)) = False := eq_false (by omega)
      simp only [go_sem, contS_seq, simprocAttr, rows_len, h2, rows_get hat, ne_eq, not_true_eq_false, hw, hw2]
      refine ⟨N - (n + 1), _, by omega, ?_, n + 1, rfl, by omega, rfl⟩
      rw [hst, List.length_append]
      exact lessA
  have hlt' : ((n : Int) < (N : Int)) = False := eq_false (by omega)
  obtain rfl : n = N := by omega
  simp only [go_sem, contS_seq, simprocAttr, hlt', rows_len, hN]
  refine awake12.callW (enters_of Tryz.func36 rfl rfl) _ rfl rfl ?_
  rintro _ rfl
  simp only [go_sem, contS_seq, simprocAttr]
  simp only [retK, resD, St.get, lk, oneD, D.pub, D.pubs, retL, reduceIte, Nat.reduceEqDiff, Nat.reduceAdd, Nat.reduceLeDiff, Tryz.results6]
  exact ⟨_, rfl, rfl, rfl⟩

end Go.Proofs.YtklolokoaooppaaGreatDoor


