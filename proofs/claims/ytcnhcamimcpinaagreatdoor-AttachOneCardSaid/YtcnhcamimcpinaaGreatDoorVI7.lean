/- Texts of the prover's, joined: O3. -/
import Derived.Test.YtcnhcamimcpinaaGreatDoorVI6

namespace Go.Proofs.YtcnhcamimcpinaaGreatDoor
open Go Go.RowKit
set_option linter.unusedSimpArgs false
set_option linter.unusedVariables false
set_option maxRecDepth 100000

abbrev AObj.first (r : AObj) (p : AParent) : AObj := { r with parents := [p] }

set_option maxHeartbeats 8000000 in
theorem law_AttachOne (l : List AObj) (r : AObj) : Pure Tryz.prog 5 [.pd (.slice (rows AObj.pd l)), r.d] (fun d => d = bln true) := by
 refine pure_of_run follows an_zrjun Tryz.func5 rfl ok_zrjun.1 ok_zrjun.2 (by simp [Tryz.ntmps5]) ?_
 rw [run_start]
 simp only [ac_zrjun, go_sem, contS_seq, simprocAttr]
 refine (law11_Some l).callX (enters_of Tryz.func9 rfl rfl) _ rfl rfl ?_
 rintro _ rfl
 simp only [go_sem, contS_seq, simprocAttr]
 refine (law9_Few r).callX (enters_of Tryz.func10 rfl rfl) _ rfl rfl ?_
 rintro _ rfl
 have hos : (fewObjs l).length ≤ 1000 := Nat.le_trans (fewObjs_len l) (by omega)
 have ho := fewObjs_ok (l := l)
 have hr := fewObj_ok r
 have hrp := fewObj_pa r
 generalize fewObjs l = os at hos ho ⊢
 generalize fewObj r = r at hr hrp ⊢
 cases hps : r.parents with
 | nil =>
   have c1 := attach_All os (by omega) ho r hr hrp
   rw [show attAll labelsAll os r = [] by unfold attAll; rw [hps]; rfl] at c1
   have h0 : ((r.parents.length : Int) = 0) = True := eq_true (by rw [hps]; rfl)
   simp only [go_sem, contS_seq, simprocAttr, rows_len, h0]
   refine c1.callW (enters_of Tryz.func14 rfl rfl) _ rfl rfl ?_
   rintro _ rfl
   simp only [go_sem, contS_seq, simprocAttr, rows_len]
   refine awake13.callW (enters_of Tryz.func16 rfl rfl) _ rfl rfl ?_
   rintro _ rfl
   simp only [go_sem, contS_seq, simprocAttr]
   simp only [retK, resD, retL, oneD, simprocAttr, Tryz.results5]
   exact ⟨_, rfl, rfl, rfl⟩
 | cons p ps =>
 have h0 : ((r.parents.length : Int) = 0) = False := eq_false (by rw [hps]; simp; omega)
 have hl1 : (1 ≤ r.parents.length) = True := eq_true (by rw [hps]; simp)
 have hrow : rowsOK 4 (rows AParent.pd r.parents) = True := rowsOK_rows (f := AParent.pd) (n := 4) (fun _ => rfl) _
 have htk : List.take 1 (rows AParent.pd r.parents) = rows AParent.pd [p] := by rw [hps]; rfl
 have hg : (rows AParent.pd [p])[0]? = some p.pd := rfl
 simp only [go_sem, contS_seq, simprocAttr, rows_len, h0, hl1, hrow, htk]
 have hf : (r.first p).ok := ⟨hr.la, hr.po, hr.li, by simp, hr.ho, hr.ru, hr.fr, hr.to, hr.lis, hr.rus⟩
 have c1 := attach_At os (by omega) ho (r.first p) hf 0
 have hx : ∀ x ∈ [(r.first p).wide, (r.first p).open_ p], x.ok ∧ ((attAt labelsAll os (r.first p) 0).2.2 = true → (attAt labelsAll os x 0).2.2 = true) ∧
  ∀ s ∈ (attAt labelsAll os (r.first p) 0).1, ((attAt labelsAll os x 0).1.any fun y => y.at_ s.gateway s.listener) = true := fun x hx => by
  have hoff : ∀ s ∈ (attAt labelsAll os (r.first p) 0).1, (attAt labelsAll os (r.first p) 0).2.2 = true := fun s hs => by
   cases h : (attAt labelsAll os (r.first p) 0).2.2 with
   | true => rfl
   | false => rw [attAt_off labelsAll h] at hs; cases hs
  simp only [List.mem_cons, List.not_mem_nil, or_false] at hx
  rcases hx with rfl | rfl
  ·exact ⟨⟨hr.la, hr.po, hr.li, by simp, by simp, hr.ru, hr.fr, hr.to, hr.lis, hr.rus⟩, fun h => (one_wide labelsAll h).1, fun s hs => (one_wide labelsAll (hoff s hs)).2 s hs⟩
  ·exact ⟨⟨hr.la, hr.po, hr.li, by simp, hr.ho, hr.ru, hr.fr, hr.to, hr.lis, hr.rus⟩, fun h => (one_open labelsAll rfl h).1, fun s hs => (one_open labelsAll rfl (hoff s hs)).2 s hs⟩
 have hS := attAt_few os (r.first p) 0
 have hM : ∀ x : AObj, (attAt labelsAll os x 0).1.length ≤ 8 := fun x => attAt_few os x 0
 generalize hW : attAt labelsAll os (r.first p) 0 = W at c1 hx hS
 obtain ⟨S, y, b⟩ := W
 simp only [attD] at c1
 refine c1.callW (enters_of Tryz.func11 rfl rfl) _ rfl rfl ?_
 rintro _ rfl
 simp only [go_sem, contS_seq, simprocAttr, rows_len, hg]
 obtain ⟨X, hX⟩ : ∃ X, X = [(r.first p).wide, (r.first p).open_ p] := ⟨_, rfl⟩
 have hXl : X.length = 2 := by rw [hX]; rfl
 rw [← hX] at hx
 simp only at hx hS
 with_reducible refine And.intro ?_ ?_
 all_goals
  refine loopS (fun k st => ∃ i : Nat, k = X.length - i ∧ i ≤ X.length ∧
   st = ⟨[(0, .pd (.slice (rows AObj.pd os))), (5, .pd (.slice (rows ASpot.pd S))), (7, bln b), (63, .pd (.slice (rows AObj.pd X))), (64, int 2), (65, int i)], [], [], .no⟩) X.length _ ?_ ⟨0, rfl, by omega, rfl⟩ ?_
  ·rw [hX]
   exact Weak.purge 63 (by simp [lessL, lk, St.purge, D.purge, rows]) (by simp [lessL]) (by simp [lessL]) rfl
  rintro k st ⟨i, rfl, hi, rfl⟩
  have hw := i64_succ (show i < 1000000000 by omega)
  by_cases hlt : i < X.length
  rotate_left
  ·have h1 : ((i : Int) < 2) = False := eq_false (by omega)
   simp only [go_sem, contS_seq, simprocAttr, h1]
   refine awake13.callW (enters_of Tryz.func16 rfl rfl) _ rfl rfl ?_
   rintro _ rfl
   simp only [go_sem, contS_seq, simprocAttr]
   simp only [retK, resD, retL, oneD, simprocAttr, Tryz.results5]
   exact ⟨_, rfl, rfl, rfl⟩
  obtain ⟨x, hxi⟩ := at_lt hlt
  have h1 : ((i : Int) < 2) = True := eq_true (by omega)
  obtain ⟨xok, xt, xs⟩ := hx x (List.mem_of_getElem? hxi)
  have c2 := attach_At os (by omega) ho x xok 0
  have hM := hM x
  generalize attAt labelsAll os x 0 = M at c2 hM xt xs
  obtain ⟨M, y2, b2⟩ := M
  simp only [attD] at c2
  simp only at hM xt xs
  simp only [go_sem, contS_seq, simprocAttr, rows_len, rows_get hxi, h1]
  refine c2.callW (enters_of Tryz.func11 rfl rfl) _ rfl rfl ?_
  rintro _ rfl
  have hbb : b = true → b2 = true := xt
  cases b
  case' false =>
   obtain ⟨q, hq⟩ : ∃ q, q = false := ⟨_, rfl⟩
   simp only [go_sem, contS_seq, simprocAttr]
  case' true =>
   obtain ⟨q, hq⟩ : ∃ q, q = true := ⟨_, rfl⟩
   rw [hbb rfl]
   simp only [go_sem, contS_seq, simprocAttr]
  all_goals
   refine loopS (fun k st => ∃ j : Nat, k = S.length - j ∧ j ≤ S.length ∧
    st = ⟨[(0, .pd (.slice (rows AObj.pd os))), (5, .pd (.slice (rows ASpot.pd S))), (7, bln q), (12, .pd (.slice (rows ASpot.pd M))), (15, int j), (63, .pd (.slice (rows AObj.pd X))), (64, int 2), (65, int i)], [], [], .no⟩) S.length _ ?_ ⟨0, rfl, by omega, rfl⟩ ?_
   ·rw [hq]
    exact lessA
   rintro k st ⟨j, rfl, hj, rfl⟩
   have hwj := i64_succ (show j < 1000000000 by omega)
   by_cases hjl : j < S.length
   rotate_left
   ·have h2 : ((j : Int) < (S.length : Int)) = False := eq_false (by omega)
    simp only [go_sem, contS_seq, simprocAttr, rows_len, h2, hw]
    refine ⟨X.length - (i + 1), _, by omega, ?_, i + 1, rfl, by omega, rfl⟩
    rw [hq]
    exact lessA
   obtain ⟨s, hs⟩ := at_lt hjl
   have h2 : ((j : Int) < (S.length : Int)) = True := eq_true (by omega)
   have hany := xs s (List.mem_of_getElem? hs)
   simp only [go_sem, contS_seq, simprocAttr, rows_len, h2]
   refine loopS (fun k st => ∃ (n : Nat) (t : Bool), k = M.length - n ∧ n ≤ M.length ∧ t = ((M.take n).any fun y => y.at_ s.gateway s.listener) ∧
    st = ⟨[(0, .pd (.slice (rows AObj.pd os))), (5, .pd (.slice (rows ASpot.pd S))), (7, bln q), (12, .pd (.slice (rows ASpot.pd M))), (15, int j), (16, bln t), (17, int n), (63, .pd (.slice (rows AObj.pd X))), (64, int 2), (65, int i)], [], [], .no⟩) M.length _ ?_ ⟨0, false, rfl, by omega, rfl, rfl⟩ ?_
   ·exact lessA
   rintro k st ⟨n, t, rfl, hn, ht, rfl⟩
   have hwn := i64_succ (show n < 1000000000 by omega)
   by_cases hnl : n < M.length
   rotate_left
   ·have h3 : ((n : Int) < (M.length : Int)) = False := eq_false (by omega)
    rw [List.take_of_length_le (by omega), hany] at ht
    subst ht
    simp only [go_sem, contS_seq, simprocAttr, rows_len, h3, hwj]
    refine ⟨S.length - (j + 1), _, by omega, ?_, j + 1, rfl, by omega, rfl⟩
    exact lessA
   obtain ⟨z, hz⟩ := at_lt hnl
   have h3 : ((n : Int) < (M.length : Int)) = True := eq_true (by omega)
   have hst : ((M.take (n + 1)).any fun y => y.at_ s.gateway s.listener) = (t || z.at_ s.gateway s.listener) := by
    rw [take_at hz, List.any_append, ← ht]
    simp
   cases t
   ·simp only [go_sem, contS_seq, simprocAttr, rows_len, rows_get hz, rows_get hs, h3, hwn, eqVs, eqV, eq_Ref]
    refine GifP.mk (fun hg => ?_) (fun hg => ?_)
    ·refine ⟨M.length - (n + 1), _, by omega, ?_, n + 1, decide (z.listener = s.listener), rfl, by omega, by rw [hst]; simp [ASpot.at_, hg], rfl⟩
     exact lessA
    ·refine ⟨M.length - (n + 1), _, by omega, ?_, n + 1, false, rfl, by omega, by rw [hst]; simp [ASpot.at_, hg], rfl⟩
     exact lessA
   ·simp only [go_sem, contS_seq, simprocAttr, rows_len, h3, hwn]
    refine ⟨M.length - (n + 1), _, by omega, ?_, n + 1, true, rfl, by omega, by rw [hst]; rfl, rfl⟩
    exact lessA

end Go.Proofs.YtcnhcamimcpinaaGreatDoor


