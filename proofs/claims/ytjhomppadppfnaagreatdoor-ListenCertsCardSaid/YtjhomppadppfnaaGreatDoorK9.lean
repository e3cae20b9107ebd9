/- Texts of the prover's, joined: I6. -/
import Derived.Test.YtjhomppadppfnaaGreatDoorK8

namespace Go.Proofs.YtjhomppadppfnaaGreatDoor
open Go Go.RowKit
set_option linter.unusedSimpArgs false
set_option linter.unusedVariables false
set_option maxRecDepth 100000

def goodS (sp nm : ByteArray) (o : AObj) : Bool := (decide (o.ref.kind = 4) && (decide (o.ref.space = sp) && decide (o.ref.name = nm))) && o.good
def sideG (o : AObj) (sp gs : ByteArray) (s : ASide) : Bool := decide (o.ref.kind = 7) && (decide (o.ref.space = sp) && (decide (s.kind = 5) && decide (s.space = gs)))
def letG (os : List AObj) (sp gs : ByteArray) : Bool := os.any fun o => o.from_.any (sideG o sp gs)

theorem any_stepG {α : Type} {f : α → Bool} {l : List α} {i : Nat} {x : α} (h : l[i]? = some x) : (l.take (i + 1)).any f = ((l.take i).any f || f x) := by
  rw [take_at h, List.any_append]; simp

theorem certOf_none {os : List AObj} {gs : ByteArray} {sp nm : ByteArray} (h : certOf os gs ⟨4, sp, nm⟩ = ⟨#[]⟩) : os.any (goodS sp nm) = true ∧ (decide (sp = gs) || letG os sp gs) = true := by
  unfold certOf at h
  split at h
  · rename_i hp
    split at h
    · rename_i hg
      constructor
      · unfold goodAt at hg
        split at hg
        · rename_i o ho
          simp only [Bool.and_eq_true] at hg
          have h1 := List.find?_some ho
          simp only [isRef, decide_eq_true_eq] at h1
          rw [List.any_eq_true]
          exact ⟨o, List.mem_of_find?_eq_some ho, by simp [goodS, h1, hg.2]⟩
        · cases hg
      · simp only [permits, Bool.or_eq_true, decide_eq_true_eq, List.any_eq_true] at hp
        rcases hp with ⟨o, ho, hl⟩ | hp
        · simp only [lets, Bool.and_eq_true, decide_eq_true_eq, List.any_eq_true] at hl
          obtain ⟨⟨⟨⟨k1, k2⟩, _⟩, ⟨s, hs, k3⟩⟩, _⟩ := hl
          simp only [sideIs, Bool.and_eq_true, decide_eq_true_eq] at k3
          simp only [Bool.or_eq_true, letG, List.any_eq_true]
          exact .inr ⟨o, ho, s, hs, by simp [sideG, k1, k2, k3.1, k3.2]⟩
        · simp [hp]
    · exact absurd h (by decide +kernel)
  · exact absurd h (by decide +kernel)

theorem served_tls {os : List AObj} {g : AObj} {i : Int} {x : AListener} (h : served os g i = true) (ha : atL g i = some x) (ht : x.tls = true) :
    (x.cert.space = ⟨#[]⟩ → os.any (goodS g.ref.space x.cert.name) = true ∧ (decide (g.ref.space = g.ref.space) || letG os g.ref.space g.ref.space) = true) ∧
    (¬ x.cert.space = ⟨#[]⟩ → os.any (goodS x.cert.space x.cert.name) = true ∧ (decide (x.cert.space = g.ref.space) || letG os x.cert.space g.ref.space) = true) := by
  simp only [served, Bool.and_eq_true, decide_eq_true_eq] at h
  have h2 := h.2
  unfold cert at h2
  rw [ha] at h2
  simp only [if_pos ht] at h2
  obtain ⟨hg, hx, _⟩ := atL_mem ha
  have hk := gw_cert hg hx ht
  constructor
  · intro hs
    have hn : near x.cert g.ref.space = ⟨4, g.ref.space, x.cert.name⟩ := by
      unfold near
      rw [if_pos ⟨hs, by omega, by omega⟩, hk]
    rw [hn] at h2
    exact certOf_none h2
  · intro hs
    have hn : near x.cert g.ref.space = ⟨4, x.cert.space, x.cert.name⟩ := by
      unfold near
      rw [if_neg (fun e => hs e.1), ← hk]
    rw [hn] at h2
    exact certOf_none h2

set_option maxHeartbeats 8000000 in
theorem law_ListenCerts (l : List AObj) (g : AObj) (i : Int) : Pure Tryz.prog 13 [.pd (.slice (rows AObj.pd l)), g.d, int i] (fun d => d = bln true) := by
  refine pure_of_run follows an_zo9se Tryz.func13 rfl ok_zo9se dst_zo9se (by simp [Tryz.ntmps13]) ?_
  rw [run_start]
  simp only [ac_zo9se, go_sem, contS_seq, simprocAttr]
  refine (law11_Some l).callX (enters_of Tryz.func16 rfl rfl) _ rfl rfl ?_
  rintro _ rfl
  simp only [go_sem, contS_seq, simprocAttr]
  refine (law9_Few g).callX (enters_of Tryz.func20 rfl rfl) _ rfl rfl ?_
  rintro _ rfl
  have hos : (fewObjs l).length ≤ 1000 := Nat.le_trans (fewObjs_len l) (by omega)
  have ho := fewObjs_ok (l := l)
  have hg := fewObj_ok g
  generalize fewObjs l = os at hos ho ⊢
  generalize fewObj g = g at hg ⊢
  have hli := hg.li
  have c1 := listen_Served os (by omega) ho g hg i
  simp only [go_sem, contS_seq, simprocAttr]
  refine c1.callW (enters_of Tryz.func44 rfl rfl) _ rfl rfl ?_
  rintro _ rfl
  cases hs : served os g i
  · simp only [go_sem, contS_seq, simprocAttr]
    refine awake12.callW (enters_of Tryz.func46 rfl rfl) _ rfl rfl ?_
    rintro _ rfl
    simp only [go_sem, contS_seq, simprocAttr]
    simp only [retK, fullK, iterK, resD, resA, AOp.ex, St.ev, Option.map_some, Option.bind_some, St.get, lk, reduceIte, Nat.reduceEqDiff, Option.getD_some, oneD, List.getElem?_cons_zero, List.getElem?_cons_succ, List.drop_zero, List.drop_succ_cons, List.take_succ_cons, List.take_zero, List.length_cons, List.length_nil, Nat.zero_add, Nat.reduceAdd, Nat.le_refl, Nat.reduceLeDiff, D.pub, D.pubs, Tryz.results13]
    exact ⟨_, rfl, rfl, rfl⟩
  rcases hat : atL g i with _ | x
  · simp [served, hat] at hs
  obtain ⟨hgw, hxm, hi0, hxi⟩ := atL_mem hat
  obtain ⟨m, rfl⟩ : ∃ m : Nat, i = m := ⟨i.toNat, by omega⟩
  rw [Int.toNat_natCast] at hxi
  have hml := (List.getElem?_eq_some_iff.1 hxi).1
  have h1 : ((g.listeners.length : Int) ≤ (m : Int)) = False := eq_false (by omega)
  have h2 : ((m : Int) < 0) = False := eq_false (by omega)
  cases ht : x.tls
  · simp only [go_sem, contS_seq, simprocAttr, rows_len, rows_get hxi, h1, h2, ht]
    refine awake12.callW (enters_of Tryz.func46 rfl rfl) _ rfl rfl ?_
    rintro _ rfl
    simp only [go_sem, contS_seq, simprocAttr]
    simp only [retK, fullK, iterK, resD, resA, AOp.ex, St.ev, Option.map_some, Option.bind_some, St.get, lk, reduceIte, Nat.reduceEqDiff, Option.getD_some, oneD, List.getElem?_cons_zero, List.getElem?_cons_succ, List.drop_zero, List.drop_succ_cons, List.take_succ_cons, List.take_zero, List.length_cons, List.length_nil, Nat.zero_add, Nat.reduceAdd, Nat.le_refl, Nat.reduceLeDiff, D.pub, D.pubs, Tryz.results13]
    exact ⟨_, rfl, rfl, rfl⟩
  obtain ⟨hA, hB⟩ := served_tls hs hat ht
  simp only [go_sem, contS_seq, simprocAttr, rows_len, rows_get hxi, h1, h2, ht]
  refine GifP.mk (fun hsp => ?_) (fun hsp => ?_)
  · obtain ⟨hgood, hlet⟩ := hA hsp
    try simp only [go_sem, contS_seq, simprocAttr]
    obtain ⟨b0, hb0⟩ : ∃ b0, decide (g.ref.space = g.ref.space) = b0 := ⟨_, rfl⟩
    rw [hb0] at hlet
    refine loopS (fun k st => ∃ n : Nat, k = os.length - n ∧ n ≤ os.length ∧
      st = ⟨[(0, .pd (.slice (rows AObj.pd os))), (4, .ptr 4 0), (7, .ptr 7 0), (8, str g.ref.space), (9, bln ((os.take n).any (goodS g.ref.space x.cert.name))), (10, bln (b0 || letG (os.take n) g.ref.space g.ref.space)), (11, int n)],
        [(4, g.ds), (7, x.ds)], [], .no⟩) os.length _ ?_ ⟨0, rfl, by omega, rfl⟩ ?_
    · exact Weak.less (by simp [lessL, lk, letG, ← hb0]) (by simp [lessL, lk, ht]) (by simp [lessL, lk]) rfl
    rintro k st ⟨n, rfl, hn, rfl⟩
    have hwn := i64_succ (show n < 1000000000 by omega)
    by_cases hnl : n < os.length
    · obtain ⟨o, hon⟩ := at_lt hnl
      have h3 : ((n : Int) < (os.length : Int)) = True := eq_true (by omega)
      have hfl := (ho o (List.mem_of_getElem? hon)).fr
      have hstep : letG (os.take (n + 1)) g.ref.space g.ref.space = (letG (os.take n) g.ref.space g.ref.space || o.from_.any (sideG o g.ref.space g.ref.space)) := any_stepG hon
      have hstep2 := any_stepG (f := goodS g.ref.space x.cert.name) hon
      obtain ⟨b1, hb1⟩ : ∃ b1, (b0 || letG (os.take n) g.ref.space g.ref.space) = b1 := ⟨_, rfl⟩
      rw [hb1]
      simp only [go_sem, contS_seq, simprocAttr, rows_len, rows_get hon, h3, eqVs, eqV]
      repeat' (first | refine GifP.mk (fun h => ?_) (fun h => ?_) | refine Gif.mk (fun h => ?_) (fun h => ?_))
      all_goals
        refine loopS (fun k st => ∃ m : Nat, k = o.from_.length - m ∧ m ≤ o.from_.length ∧
          st = ⟨[(0, .pd (.slice (rows AObj.pd os))), (4, .ptr 4 0), (7, .ptr 7 0), (8, str g.ref.space), (9, bln ((os.take (n + 1)).any (goodS g.ref.space x.cert.name))), (10, bln (b1 || (o.from_.take m).any (sideG o g.ref.space g.ref.space))), (11, int n), (12, .ptr 12 0), (13, int m)],
            [(4, g.ds), (7, x.ds), (12, [int o.ref.kind, str o.ref.space, str o.ref.name])], [], .no⟩) o.from_.length _ ?_ ⟨0, rfl, by omega, rfl⟩ ?_
        · exact Weak.less (by simp [lessL, lk, hstep2, goodS, *]) (by simp [lessL, lk, ht]) (by simp [lessL, lk]) rfl
        rintro k st ⟨m, rfl, hm, rfl⟩
        have hwm := i64_succ (show m < 1000000000 by omega)
        by_cases hml : m < o.from_.length
        · obtain ⟨d, hd⟩ := at_lt hml
          have h4 : ((m : Int) < (o.from_.length : Int)) = True := eq_true (by omega)
          have ha := any_stepG (f := sideG o g.ref.space g.ref.space) hd
          simp only [go_sem, contS_seq, simprocAttr, rows_len, rows_get hon, rows_get hd, h4, hwm]
          repeat' (first | refine GifP.mk (fun h => ?_) (fun h => ?_) | refine Gif.mk (fun h => ?_) (fun h => ?_))
          all_goals
            refine ⟨o.from_.length - (m + 1), _, by omega, ?_, m + 1, rfl, by omega, rfl⟩
            rw [ha, ← Bool.or_assoc]
            exact Weak.less (by simp [lessL, lk, sideG, *]) (by simp [lessL, lk]) (by simp [lessL, lk]) rfl
        · have h4 : ((m : Int) < (o.from_.length : Int)) = False := eq_false (by omega)
          rw [show o.from_.take m = o.from_ from List.take_of_length_le (by omega)]
          simp only [go_sem, contS_seq, simprocAttr, rows_len, rows_get hon, h4, hwn]
          refine ⟨os.length - (n + 1), _, by omega, ?_, n + 1, rfl, by omega, rfl⟩
          rw [hstep, ← Bool.or_assoc, hb1]
          exact Weak.less (by simp [lessL, lk]) (by simp [lessL, lk]) (by simp [lessL, lk]) rfl
    have h3 : ((n : Int) < (os.length : Int)) = False := eq_false (by omega)
    rw [List.take_of_length_le (by omega), hlet, hgood]
    simp only [go_sem, contS_seq, simprocAttr, rows_len, h3]
    refine awake12.callW (enters_of Tryz.func46 rfl rfl) _ rfl rfl ?_
    rintro _ rfl
    simp only [go_sem, contS_seq, simprocAttr]
    simp only [retK, fullK, iterK, resD, resA, AOp.ex, St.ev, Option.map_some, Option.bind_some, St.get, lk, reduceIte, Nat.reduceEqDiff, Option.getD_some, oneD, List.getElem?_cons_zero, List.getElem?_cons_succ, List.drop_zero, List.drop_succ_cons, List.take_succ_cons, List.take_zero, List.length_cons, List.length_nil, Nat.zero_add, Nat.reduceAdd, Nat.le_refl, Nat.reduceLeDiff, D.pub, D.pubs, Tryz.results13]
    exact ⟨_, rfl, rfl, rfl⟩
  · obtain ⟨hgood, hlet⟩ := hB hsp
    try simp only [go_sem, contS_seq, simprocAttr]
    obtain ⟨b0, hb0⟩ : ∃ b0, decide (x.cert.space = g.ref.space) = b0 := ⟨_, rfl⟩
    rw [hb0] at hlet
    refine loopS (fun k st => ∃ n : Nat, k = os.length - n ∧ n ≤ os.length ∧
      st = ⟨[(0, .pd (.slice (rows AObj.pd os))), (4, .ptr 4 0), (7, .ptr 7 0), (8, str x.cert.space), (9, bln ((os.take n).any (goodS x.cert.space x.cert.name))), (10, bln (b0 || letG (os.take n) x.cert.space g.ref.space)), (11, int n)],
        [(4, g.ds), (7, x.ds)], [], .no⟩) os.length _ ?_ ⟨0, rfl, by omega, rfl⟩ ?_
    · exact Weak.less (by simp [lessL, lk, letG, ← hb0]) (by simp [lessL, lk, ht]) (by simp [lessL, lk]) rfl
    rintro k st ⟨n, rfl, hn, rfl⟩
    have hwn := i64_succ (show n < 1000000000 by omega)
    by_cases hnl : n < os.length
    · obtain ⟨o, hon⟩ := at_lt hnl
      have h3 : ((n : Int) < (os.length : Int)) = True := eq_true (by omega)
      have hfl := (ho o (List.mem_of_getElem? hon)).fr
      have hstep : letG (os.take (n + 1)) x.cert.space g.ref.space = (letG (os.take n) x.cert.space g.ref.space || o.from_.any (sideG o x.cert.space g.ref.space)) := any_stepG hon
      have hstep2 := any_stepG (f := goodS x.cert.space x.cert.name) hon
      obtain ⟨b1, hb1⟩ : ∃ b1, (b0 || letG (os.take n) x.cert.space g.ref.space) = b1 := ⟨_, rfl⟩
      rw [hb1]
      simp only [go_sem, contS_seq, simprocAttr, rows_len, rows_get hon, h3, eqVs, eqV]
      repeat' (first | refine GifP.mk (fun h => ?_) (fun h => ?_) | refine Gif.mk (fun h => ?_) (fun h => ?_))
      all_goals
        refine loopS (fun k st => ∃ m : Nat, k = o.from_.length - m ∧ m ≤ o.from_.length ∧
          st = ⟨[(0, .pd (.slice (rows AObj.pd os))), (4, .ptr 4 0), (7, .ptr 7 0), (8, str x.cert.space), (9, bln ((os.take (n + 1)).any (goodS x.cert.space x.cert.name))), (10, bln (b1 || (o.from_.take m).any (sideG o x.cert.space g.ref.space))), (11, int n), (12, .ptr 12 0), (13, int m)],
            [(4, g.ds), (7, x.ds), (12, [int o.ref.kind, str o.ref.space, str o.ref.name])], [], .no⟩) o.from_.length _ ?_ ⟨0, rfl, by omega, rfl⟩ ?_
        · exact Weak.less (by simp [lessL, lk, hstep2, goodS, *]) (by simp [lessL, lk, ht]) (by simp [lessL, lk]) rfl
        rintro k st ⟨m, rfl, hm, rfl⟩
        have hwm := i64_succ (show m < 1000000000 by omega)
        by_cases hml : m < o.from_.length
        · obtain ⟨d, hd⟩ := at_lt hml
          have h4 : ((m : Int) < (o.from_.length : Int)) = True := eq_true (by omega)
          have ha := any_stepG (f := sideG o x.cert.space g.ref.space) hd
          simp only [go_sem, contS_seq, simprocAttr, rows_len, rows_get hon, rows_get hd, h4, hwm]
          repeat' (first | refine GifP.mk (fun h => ?_) (fun h => ?_) | refine Gif.mk (fun h => ?_) (fun h => ?_))
          all_goals
            refine ⟨o.from_.length - (m + 1), _, by omega, ?_, m + 1, rfl, by omega, rfl⟩
            rw [ha, ← Bool.or_assoc]
            exact Weak.less (by simp [lessL, lk, sideG, *]) (by simp [lessL, lk]) (by simp [lessL, lk]) rfl
        · have h4 : ((m : Int) < (o.from_.length : Int)) = False := eq_false (by omega)
          rw [show o.from_.take m = o.from_ from List.take_of_length_le (by omega)]
          simp only [go_sem, contS_seq, simprocAttr, rows_len, rows_get hon, h4, hwn]
          refine ⟨os.length - (n + 1), _, by omega, ?_, n + 1, rfl, by omega, rfl⟩
          rw [hstep, ← Bool.or_assoc, hb1]
          exact Weak.less (by simp [lessL, lk]) (by simp [lessL, lk]) (by simp [lessL, lk]) rfl
    have h3 : ((n : Int) < (os.length : Int)) = False := eq_false (by omega)
    rw [List.take_of_length_le (by omega), hlet, hgood]
    simp only [go_sem, contS_seq, simprocAttr, rows_len, h3]
    refine awake12.callW (enters_of Tryz.func46 rfl rfl) _ rfl rfl ?_
    rintro _ rfl
    simp only [go_sem, contS_seq, simprocAttr]
    simp only [retK, fullK, iterK, resD, resA, AOp.ex, St.ev, Option.map_some, Option.bind_some, St.get, lk, reduceIte, Nat.reduceEqDiff, Option.getD_some, oneD, List.getElem?_cons_zero, List.getElem?_cons_succ, List.drop_zero, List.drop_succ_cons, List.take_succ_cons, List.take_zero, List.length_cons, List.length_nil, Nat.zero_add, Nat.reduceAdd, Nat.le_refl, Nat.reduceLeDiff, D.pub, D.pubs, Tryz.results13]
    exact ⟨_, rfl, rfl, rfl⟩

end Go.Proofs.YtjhomppadppfnaaGreatDoor
