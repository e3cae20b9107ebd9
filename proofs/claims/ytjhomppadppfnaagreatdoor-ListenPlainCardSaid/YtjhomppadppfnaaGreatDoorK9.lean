/- Texts of the prover's, joined: I7. -/
import Derived.Test.YtjhomppadppfnaaGreatDoorK8

namespace Go.Proofs.YtjhomppadppfnaaGreatDoor
open Go Go.RowKit
set_option linter.unusedSimpArgs false
set_option linter.unusedVariables false
set_option maxRecDepth 100000

theorem twiceFrom_false {α : Type} {q : α → α → Bool} {l : List α} : ∀ {k i : Nat}, twiceFrom q l k i = false ↔ ∀ j x, i ≤ j → j < i + k → l[j]? = some x → (l.take j).any (fun y => q x y) = false
  | 0, i => by simp only [twiceFrom, true_iff]; intro j x h1 h2; omega
  | k + 1, i => by
    rw [twiceFrom, Bool.or_eq_false_iff, twiceFrom_false]
    constructor
    · rintro ⟨h1, h2⟩ j x h3 h4 h5
      rcases Nat.eq_or_lt_of_le h3 with rfl | h6
      · rw [h5] at h1; exact h1
      · exact h2 j x (by omega) (by omega) h5
    · intro h
      refine ⟨?_, fun j x h3 h4 h5 => h j x (by omega) (by omega) h5⟩
      cases h1 : l[i]? with
      | none => rfl
      | some x => exact h i x (Nat.le_refl _) (by omega) h1

theorem twice_more {α : Type} {q : α → α → Bool} {l : List α} {z : α} (h : twice q l = false) (hz : l.any (fun y => q z y) = false) : twice q (l ++ [z]) = false := by
  unfold twice at h ⊢
  rw [twiceFrom_false] at h ⊢
  intro j x h1 h2 h3
  rw [List.length_append, List.length_singleton] at h2
  by_cases hj : j < l.length
  · rw [List.getElem?_append_left hj] at h3
    rw [List.take_append_of_le_length (by omega)]
    exact h j x h1 (by omega) h3
  · obtain rfl : j = l.length := by omega
    rw [List.getElem?_append_right (Nat.le_refl _), Nat.sub_self] at h3
    cases h3
    rw [List.take_append_of_le_length (Nat.le_refl _), List.take_length]
    exact hz

abbrev zL (port : Int) : AListener := ⟨⟨#[122, 57]⟩, port, false, ⟨#[]⟩, ⟨0, ⟨#[]⟩, ⟨#[]⟩⟩, 0, []⟩

theorem zL_may {port : Int} (h1 : 1 ≤ port) (h2 : port ≤ 65535) : listenerMay (zL port) = true := by
  have e1 : label ⟨#[122, 57]⟩ = true := by decide +kernel
  have e2 : hostMay ⟨#[]⟩ = true := by decide +kernel
  simp [listenerMay, e1, e2, oport, h1, h2, needsMay]

def moreL (g : AObj) (port : Int) : AObj := { g with listeners := g.listeners ++ [zL port] }

theorem moreL_ok {g : AObj} (hg : g.ok) (hl : g.listeners.length ≤ 7) (port : Int) : (moreL g port).ok where
  la := hg.la
  po := hg.po
  li := by simp [moreL]; omega
  pa := hg.pa
  ho := hg.ho
  ru := hg.ru
  fr := hg.fr
  to := hg.to
  lis := fun x hx => by
    simp only [moreL, List.mem_append, List.mem_singleton] at hx
    rcases hx with hx | rfl
    · exact hg.lis x hx
    · exact ⟨by simp, fun n hn => by cases hn⟩
  rus := hg.rus

theorem moreL_gw {g : AObj} (h : gwOk g = true) {port : Int} (h1 : 1 ≤ port) (h2 : port ≤ 65535) (hl : g.listeners.length ≤ 7) (hn : ∀ x ∈ g.listeners, ¬ x.name = ⟨#[122, 57]⟩) : gwOk (moreL g port) = true := by
  obtain ⟨hk, hm⟩ := gw_kind h
  have hg := gw_may h
  simp only [gatewayMay, every, Bool.and_eq_true, decide_eq_true_eq, List.all_eq_true, Bool.not_eq_true'] at hg
  obtain ⟨⟨⟨a1, a2⟩, a3, a4⟩, a5⟩ := hg
  have hgm : gatewayMay g.cls (g.listeners ++ [zL port]) = true := by
    simp only [gatewayMay, every, Bool.and_eq_true, decide_eq_true_eq, List.all_eq_true, Bool.not_eq_true']
    refine ⟨⟨⟨a1, by simp⟩, by simp; omega, fun x hx => ?_⟩, twice_more a5 ?_⟩
    · simp only [List.mem_append, List.mem_singleton] at hx
      rcases hx with hx | rfl
      · exact a4 x hx
      · exact zL_may h1 h2
    · rw [List.any_eq_false]
      intro y hy
      have := hn y hy
      simp [lisName, eq_comm, this]
  simp only [objMay, Bool.and_eq_true] at hm
  obtain ⟨⟨m1, m2⟩, m3⟩ := hm
  have hs : (moreL g port).strip = g.strip := by
    obtain ⟨⟨k, s, n⟩, b, c, d, e, f, gg, hh, ii, jj, kk⟩ := g
    simp only at hk
    subst hk
    simp [moreL, AObj.strip]
  simp only [gwOk, objMay, Bool.and_eq_true, decide_eq_true_eq]
  refine ⟨hk, ⟨m1, ?_⟩, ?_⟩
  · unfold kindMay
    rw [if_neg (by simp [moreL, hk]), if_neg (by simp [moreL, hk]), if_neg (by simp [moreL, hk]), if_pos (by simp [moreL, hk])]
    exact hgm
  · rw [hs]; exact m3

theorem moreL_at {g : AObj} {port : Int} (h : gwOk g = true) (h' : gwOk (moreL g port) = true) {i : Nat} (hi : i < g.listeners.length) : atL (moreL g port) i = atL g i := by
  unfold atL
  rw [if_pos h, if_pos h', Int.toNat_natCast]
  simp only [moreL]
  rw [List.getElem?_append_left hi]

theorem moreL_last {g : AObj} {port : Int} (h' : gwOk (moreL g port) = true) : atL (moreL g port) (g.listeners.length : Nat) = some (zL port) := by
  unfold atL
  rw [if_pos h', if_neg (by omega), Int.toNat_natCast]
  simp [moreL]

theorem moreL_conflict {g : AObj} {port : Int} (h : gwOk g = true) (h' : gwOk (moreL g port) = true) (hp : ∀ x ∈ g.listeners, ¬ x.port = port) {i : Nat} (hi : i < g.listeners.length) : conflict (moreL g port) i = conflict g i := by
  unfold conflict
  rw [moreL_at h h' hi]
  rcases ha : atL g i with _ | x
  · rfl
  · have hx := hp x (atL_mem ha).2.1
    have n1 : nMode (moreL g port).listeners (x.port, !x.tls) = nMode g.listeners (x.port, !x.tls) := by
      have z : [zL port].countP (fun y => decide (modeOf y = (x.port, !x.tls))) = 0 := by
        simp [show ¬ port = x.port from fun e => hx e.symm]
      simp only [nMode, moreL, List.countP_append, z, Nat.add_zero]
    have n2 : nPlace (moreL g port).listeners (placeOf x) = nPlace g.listeners (placeOf x) := by
      have z : [zL port].countP (fun y => decide (placeOf y = placeOf x)) = 0 := by
        simp [show ¬ port = x.port from fun e => hx e.symm]
      simp only [nPlace, moreL, List.countP_append, z, Nat.add_zero]
    simp only [n1, n2]

theorem moreL_served {os : List AObj} {g : AObj} {port : Int} (h : gwOk g = true) (h' : gwOk (moreL g port) = true) (hp : ∀ x ∈ g.listeners, ¬ x.port = port) {i : Nat} (hi : i < g.listeners.length) : served os (moreL g port) i = served os g i := by
  have e1 : ours os (moreL g port) = ours os g := by unfold ours; rw [h, h']; rfl
  have e2 : cert os (moreL g port) i = cert os g i := by unfold cert; rw [moreL_at h h' hi]; rfl
  unfold served
  rw [moreL_at h h' hi, e1, e2, moreL_conflict h h' hp hi]

theorem moreL_calm {g : AObj} {port : Int} (h' : gwOk (moreL g port) = true) (hp : ∀ x ∈ g.listeners, ¬ x.port = port) : conflict (moreL g port) (g.listeners.length : Nat) = ⟨#[]⟩ := by
  unfold conflict
  rw [moreL_last h']
  have n1 : nMode (moreL g port).listeners ((zL port).port, !(zL port).tls) = 0 := by
    unfold nMode
    rw [List.countP_eq_zero]
    intro y hy
    simp only [moreL, List.mem_append, List.mem_singleton] at hy
    rcases hy with hy | rfl
    · have := hp y hy
      simp [this]
    · simp
  have n2 : nPlace (moreL g port).listeners (placeOf (zL port)) = 1 := by
    have z : g.listeners.countP (fun y => decide (placeOf y = placeOf (zL port))) = 0 := by
      rw [List.countP_eq_zero]
      intro y hy
      have := hp y hy
      simp [this]
    simp only [nPlace, moreL, List.countP_append, z]
    simp
  simp only
  rw [n1, n2]
  simp

theorem moreL_yes {os : List AObj} {g : AObj} {port : Int} (h : ours os g = true) (h' : gwOk (moreL g port) = true) (hp : ∀ x ∈ g.listeners, ¬ x.port = port) : served os (moreL g port) (g.listeners.length : Nat) = true := by
  have e1 : ours os (moreL g port) = true := by
    simp only [ours, Bool.and_eq_true] at h ⊢
    exact ⟨h', h.2⟩
  have e2 : cert os (moreL g port) (g.listeners.length : Nat) = ⟨#[]⟩ := by unfold cert; rw [moreL_last h']; rfl
  unfold served
  rw [moreL_last h', e1, e2, moreL_calm h' hp]
  simp

set_option maxHeartbeats 4000000 in
theorem law_ListenPlain (l : List AObj) (g : AObj) (port : Int) : Pure Tryz.prog 14 [.pd (.slice (rows AObj.pd l)), g.d, int port] (fun d => d = bln true) := by
  refine pure_of_run follows an_zxmey Tryz.func14 rfl ok_zxmey dst_zxmey (by simp [Tryz.ntmps14]) ?_
  rw [run_start]
  simp only [ac_zxmey, go_sem, contS_seq, simprocAttr]
  refine (law11_Some l).callX (enters_of Tryz.func16 rfl rfl) _ rfl rfl ?_
  rintro _ rfl
  simp only [go_sem, contS_seq, simprocAttr]
  refine (law9_Few g).callX (enters_of Tryz.func20 rfl rfl) _ rfl rfl ?_
  rintro _ rfl
  have hos : (fewObjs l).length ≤ 1000 := Nat.le_trans (fewObjs_len l) (by omega)
  have ho := fewObjs_ok (l := l)
  have hg := fewObj_ok g
  generalize fewObjs l = os at hos ho ⊢
  generalize fewObj g = g at hg ⊢
  have hli := hg.li
  simp only [go_sem, contS_seq, simprocAttr]
  refine (listen_Ours os (by omega) ho g hg).callW (enters_of Tryz.func48 rfl rfl) _ rfl rfl ?_
  rintro _ rfl
  cases hou : ours os g
  · simp only [go_sem, contS_seq, simprocAttr]
    refine awake12.callW (enters_of Tryz.func46 rfl rfl) _ rfl rfl ?_
    rintro _ rfl
    simp only [go_sem, contS_seq, simprocAttr]
    simp only [retK, fullK, iterK, resD, resA, AOp.ex, St.ev, Option.map_some, Option.bind_some, St.get, lk, reduceIte, Nat.reduceEqDiff, Option.getD_some, oneD, List.getElem?_cons_zero, List.getElem?_cons_succ, List.drop_zero, List.drop_succ_cons, List.take_succ_cons, List.take_zero, List.length_cons, List.length_nil, Nat.zero_add, Nat.reduceAdd, Nat.le_refl, Nat.reduceLeDiff, D.pub, D.pubs, Tryz.results14]
    exact ⟨_, rfl, rfl, rfl⟩
  by_cases hb : (g.listeners.length : Int) ≤ 7 ∧ 1 ≤ port ∧ port ≤ 65535
  rotate_left
  · simp only [go_sem, contS_seq, simprocAttr, rows_len]
    repeat' (refine GifP.mk (fun _ => ?_) (fun _ => ?_))
    all_goals first
      | (exfalso; omega)
      | (refine awake12.callW (enters_of Tryz.func46 rfl rfl) _ rfl rfl ?_
         rintro _ rfl
         simp only [go_sem, contS_seq, simprocAttr]
         simp only [retK, fullK, iterK, resD, resA, AOp.ex, St.ev, Option.map_some, Option.bind_some, St.get, lk, reduceIte, Nat.reduceEqDiff, Option.getD_some, oneD, List.getElem?_cons_zero, List.getElem?_cons_succ, List.drop_zero, List.drop_succ_cons, List.take_succ_cons, List.take_zero, List.length_cons, List.length_nil, Nat.zero_add, Nat.reduceAdd, Nat.le_refl, Nat.reduceLeDiff, D.pub, D.pubs, Tryz.results14]
         exact ⟨_, rfl, rfl, rfl⟩)
  obtain ⟨hl, hp1, hp2⟩ := hb
  have t1 : (7 < (g.listeners.length : Int)) = False := eq_false (by omega)
  have t2 : (port < 1) = False := eq_false (by omega)
  have t3 : (65535 < port) = False := eq_false (by omega)
  simp only [go_sem, contS_seq, simprocAttr, rows_len, t1, t2, t3]
  refine loopS (fun k st => ∃ i : Nat, k = g.listeners.length - i ∧ i ≤ g.listeners.length ∧ (∀ x ∈ g.listeners.take i, ¬ x.port = port ∧ ¬ x.name = ⟨#[122, 57]⟩) ∧
    st = ⟨[(0, .pd (.slice (rows AObj.pd os))), (2, int port), (4, .ptr 4 0), (7, .ptr 7 0), (8, str ⟨#[122, 57]⟩), (9, int i)], [(4, g.ds), (7, g.ds)], [], .no⟩) g.listeners.length _ ?_ ⟨0, rfl, by omega, by simp, rfl⟩ ?_
  · exact Weak.less (by simp [lessL, lk]) (by simp [lessL, lk]) (by simp [lessL, lk]) rfl
  rintro k st ⟨i, rfl, hi, hall, rfl⟩
  have hw := i64_succ (show i < 1000000000 by omega)
  by_cases hlt : i < g.listeners.length
  · obtain ⟨x, hx⟩ := at_lt hlt
    have h1 : ((i : Int) < (g.listeners.length : Int)) = True := eq_true (by omega)
    simp only [go_sem, contS_seq, simprocAttr, rows_len, rows_get hx, h1, hw]
    repeat' (refine GifP.mk (fun _ => ?_) (fun _ => ?_))
    all_goals first
      | (refine awake12.callW (enters_of Tryz.func46 rfl rfl) _ rfl rfl ?_
         rintro _ rfl
         simp only [go_sem, contS_seq, simprocAttr]
         simp only [retK, fullK, iterK, resD, resA, AOp.ex, St.ev, Option.map_some, Option.bind_some, St.get, lk, reduceIte, Nat.reduceEqDiff, Option.getD_some, oneD, List.getElem?_cons_zero, List.getElem?_cons_succ, List.drop_zero, List.drop_succ_cons, List.take_succ_cons, List.take_zero, List.length_cons, List.length_nil, Nat.zero_add, Nat.reduceAdd, Nat.le_refl, Nat.reduceLeDiff, D.pub, D.pubs, Tryz.results14]
         exact ⟨_, rfl, rfl, rfl⟩)
      | (refine ⟨g.listeners.length - (i + 1), _, by omega, ?_, i + 1, rfl, by omega, fun y hy => ?_, rfl⟩
         · exact Weak.less (by simp [lessL, lk]) (by simp [lessL, lk]) (by simp [lessL, lk]) rfl
         · rw [take_at hx, List.mem_append, List.mem_singleton] at hy
           rcases hy with hy | rfl
           · exact hall y hy
           · exact ⟨by assumption, by assumption⟩)
  have h1 : ((i : Int) < (g.listeners.length : Int)) = False := eq_false (by omega)
  rw [List.take_of_length_le (by omega)] at hall
  have hgw : gwOk g = true := by simp only [ours, Bool.and_eq_true] at hou; exact hou.1
  have hpo : ∀ x ∈ g.listeners, ¬ x.port = port := fun x hx => (hall x hx).1
  have hgm := moreL_gw hgw hp1 hp2 (by omega) (fun x hx => (hall x hx).2)
  have hmk := moreL_ok hg (by omega) port
  have hc1 : ∀ j : Nat, j < g.listeners.length → served os (moreL g port) j = served os g j := fun j hj => moreL_served hgw hgm hpo hj
  have hc2 : ∀ j : Nat, j < g.listeners.length → conflict (moreL g port) j = conflict g j := fun j hj => moreL_conflict hgw hgm hpo hj
  have hc3 := moreL_yes (os := os) hou hgm hpo
  have hc4 := moreL_calm hgm hpo
  have hrow : rows AListener.pd g.listeners ++ [AListener.pd (zL port)] = rows AListener.pd (moreL g port).listeners := rows_one _ _
  simp only [go_sem, contS_seq, simprocAttr, rows_len, h1]
  refine ⟨rows_row (f := AListener.pd) (n := 9) (fun _ => rfl) _, by unfold maxLen; omega, by omega, by simp, by unfold maxLen; omega, by omega, ?_⟩
  rw [show rows AListener.pd g.listeners ++ [[PD.raw (Value.string ⟨#[122, 57]⟩), PD.raw (Value.int IntKind.i64 port), PD.raw (Value.bool false), PD.raw (Value.string ⟨#[]⟩), PD.raw (Value.int IntKind.i64 0), PD.raw (Value.string ⟨#[]⟩), PD.raw (Value.string ⟨#[]⟩), PD.raw (Value.int IntKind.i64 0), PD.slice []]] = rows AListener.pd (moreL g port).listeners from hrow]
  refine loopS (fun k st => ∃ j : Nat, k = g.listeners.length - j ∧ j ≤ g.listeners.length ∧
    st = ⟨[(0, .pd (.slice (rows AObj.pd os))), (4, .ptr 4 0), (7, .ptr 7 0), (10, int g.listeners.length), (11, int j)],
      [(4, g.ds), (7, [int g.ref.kind, str g.ref.space, str g.ref.name, bln g.good, .pd (.slice (rows APair.pd g.labels)), .pd (.slice (ints g.ports)), str g.cls, .own 82 9 (rows AListener.pd (moreL g port).listeners) 70,
        .pd (.slice (rows AParent.pd g.parents)), .pd (.slice (strs g.hosts)), .pd (.slice (rows ARule.pd g.rules)), .pd (.slice (rows ASide.pd g.from_)), .pd (.slice (rows ASide.pd g.to_))])], [], .no⟩) g.listeners.length _ ?_ ⟨0, rfl, by omega, rfl⟩ ?_
  · exact Weak.less (by simp [lessL, lk]) (by simp [lessL, lk]) (by simp [lessL, lk]) rfl
  rintro k st ⟨j, rfl, hj, rfl⟩
  have hwj := i64_succ (show j < 1000000000 by omega)
  by_cases hjl : j < g.listeners.length
  · have h2 : ((j : Int) < (g.listeners.length : Int)) = True := eq_true (by omega)
    have c1 := listen_Served os (by omega) ho (moreL g port) hmk j
    have c2 := listen_Served os (by omega) ho g hg j
    have c3 := listen_Conflict (moreL g port) hmk j
    have c4 := listen_Conflict g hg j
    rw [hc1 j hjl] at c1
    rw [hc2 j hjl] at c3
    simp only [go_sem, contS_seq, simprocAttr, rows_len, h2]
    refine c1.callX (enters_of Tryz.func44 rfl rfl) _ rfl rfl ?_
    rintro _ rfl
    simp only [go_sem, contS_seq, simprocAttr]
    refine c2.callX (enters_of Tryz.func44 rfl rfl) _ rfl rfl ?_
    rintro _ rfl
    simp only [go_sem, contS_seq, simprocAttr, beq_tt]
    refine c3.callX (enters_of Tryz.func45 rfl rfl) _ rfl rfl ?_
    rintro _ rfl
    simp only [go_sem, contS_seq, simprocAttr]
    refine c4.callX (enters_of Tryz.func45 rfl rfl) _ rfl rfl ?_
    rintro _ rfl
    simp only [go_sem, contS_seq, simprocAttr, hwj]
    refine ⟨g.listeners.length - (j + 1), _, by omega, ?_, j + 1, rfl, by omega, rfl⟩
    exact Weak.less (by simp [lessL, lk]) (by simp [lessL, lk]) (by simp [lessL, lk]) rfl
  · have h2 : ((j : Int) < (g.listeners.length : Int)) = False := eq_false (by omega)
    have c1 := listen_Served os (by omega) ho (moreL g port) hmk (g.listeners.length : Nat)
    have c3 := listen_Conflict (moreL g port) hmk (g.listeners.length : Nat)
    rw [hc3] at c1
    rw [hc4] at c3
    simp only [go_sem, contS_seq, simprocAttr, rows_len, h2]
    refine c1.callW (enters_of Tryz.func44 rfl rfl) _ rfl rfl ?_
    rintro _ rfl
    simp only [go_sem, contS_seq, simprocAttr]
    refine c3.callW (enters_of Tryz.func45 rfl rfl) _ rfl rfl ?_
    rintro _ rfl
    simp only [go_sem, contS_seq, simprocAttr]
    refine awake12.callW (enters_of Tryz.func46 rfl rfl) _ rfl rfl ?_
    rintro _ rfl
    simp only [go_sem, contS_seq, simprocAttr]
    simp only [retK, fullK, iterK, resD, resA, AOp.ex, St.ev, Option.map_some, Option.bind_some, St.get, lk, reduceIte, Nat.reduceEqDiff, Option.getD_some, oneD, List.getElem?_cons_zero, List.getElem?_cons_succ, List.drop_zero, List.drop_succ_cons, List.take_succ_cons, List.take_zero, List.length_cons, List.length_nil, Nat.zero_add, Nat.reduceAdd, Nat.le_refl, Nat.reduceLeDiff, D.pub, D.pubs, Tryz.results14]
    exact ⟨_, rfl, rfl, rfl⟩

end Go.Proofs.YtjhomppadppfnaaGreatDoor
