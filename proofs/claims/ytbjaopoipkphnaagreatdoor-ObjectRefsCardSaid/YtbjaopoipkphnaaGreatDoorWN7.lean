/- Texts of the prover's, joined: Q4 Q5 E7 FF Q6 Q7 FH FL J1 L3 Q8 QA J2 J3 J4. -/
import Derived.Test.YtbjaopoipkphnaaGreatDoorWN6
import Derived.Lib.SlicesCompact
import Derived.Deep.QuietTactic
import Derived.BigQuiet
import Derived.Deep.LoopGhost
import Derived.Shelf.SlicesQ.Reverse

namespace Go.Proofs.YtbjaopoipkphnaaGreatDoor
open Go Go.RowKit Go.Shelf
set_option linter.unusedSimpArgs false
set_option linter.unusedVariables false
set_option maxRecDepth 100000

abbrev aggR (x : ARef) : Value := .agg #[.int .i64 x.kind, .string x.space, .string x.name]

theorem eql_R (x y : ARef) (w : World) : Sem.run Tryz.prog (Op.equal 23 (aggR x) (aggR y)) w = .ok (decide (x = y)) w := by
 have h := (eq_run (P := Tryz.prog) w 40 23 [.int, .str, .str] (by kernel_rfl) Op.maxDepth (by decide) (encR x) (encR y) (decide (x = y)) (by simp only [encR, eqVs, eqV, if_true]; exact congrArg some (by rw [Bool.eq_iff_iff]; obtain ⟨a1, a2, a3⟩ := x; obtain ⟨b1, b2, b3⟩ := y; simp))).1 _ Tryz.underlying23
 exact h

theorem eqop_R (x y : ARef) (w : World) : Sem.run Tryz.prog (binOp .eql 23 (aggR x) (aggR y)) w = .ok (.bool (decide (x = y))) w := by
 rw [binOp_eql_agg]
 have := eql_R x y w
 simp only [aggR] at this
 simp [this]
theorem neqop_R (x y : ARef) (w : World) : Sem.run Tryz.prog (binOp .neq 23 (aggR x) (aggR y)) w = .ok (.bool (!decide (x = y))) w := by
 rw [binOp_neq_agg]
 have := eql_R x y w
 simp only [aggR] at this
 simp [this]

theorem HoldsR.cells {w : World} {b : Nat} {d : Array ARef} (h : Sort.HoldsK encR 3 w b 0 d) {i : Nat} (hi : i < d.size) :
 (w.cell? ⟨b, i * 3, none⟩ = some (.int .i64 d[i]!.kind) ∧ w.cell? ⟨b, i * 3 + 1, none⟩ = some (.string d[i]!.space) ∧ w.cell? ⟨b, i * 3 + 2, none⟩ = some (.string d[i]!.name)) ∧
 w.frozen? ⟨b, i * 3, none⟩ = false ∧ w.frozen? ⟨b, i * 3 + 1, none⟩ = false ∧ w.frozen? ⟨b, i * 3 + 2, none⟩ = false := by
 have h0 := h.cell (i := i) (c := 0) hi (by decide)
 have h1 := h.cell (i := i) (c := 1) hi (by decide)
 have h2 := h.cell (i := i) (c := 2) hi (by decide)
 simp only [Nat.zero_add, Nat.add_zero] at h0 h1 h2
 exact ⟨⟨h0.1, h1.1, h2.1⟩, h0.2, h1.2, h2.2⟩

section
open Go.Sort Go.Lib

theorem setMany_one (d : Array ARef) (i : Nat) (x : ARef) (hi : i < d.size) : setMany (flatK encR 3 d) (i * 3) (encR x) = flatK encR 3 (d.setIfInBounds i x) := by
 refine ext_get! (by simp) fun t ht => ?_
 have ht' : t < d.size * 3 := by simpa using ht
 rw [get_setMany _ _ _ t (by simpa using ht'), get_flatK _ _ _ t ht', get_flatK _ _ _ t (by simpa using ht'), show (encR x).length = 3 from rfl]
 by_cases a : t / 3 = i
 ·rw [if_pos ((blk_iff 3 i t (by decide)).2 a), a, getElem!_set_same d i x hi, show t - i * 3 = t % 3 by rw [← a, Nat.mod_eq_sub_div_mul]]
 ·rw [if_neg (fun h => a ((blk_iff 3 i t (by decide)).1 h)), getElem!_set_other d i (t / 3) x a]

theorem lay_size {α : Type} : ∀ (xs : List α) (d : Array α) (k : Nat), (lay d k xs).size = d.size
 | [], _, _ => rfl
 | x :: r, d, k => by rw [lay, lay_size r]; simp

theorem repl_get (m j : Nat) : (Array.replicate m refZ)[j]! = refZ := by
 by_cases h : j < m
 ·rw [getElem!_pos _ _ (by simpa using h)]
  simp
 ·rw [getElem!_neg _ _ (by simpa using h)]
  rfl

theorem setMany_lay (dk : Array ARef) (kk m : Nat) (h : kk + m ≤ dk.size) : setMany (flatK encR 3 dk) (kk * 3) (flatK encR 3 (Array.replicate m refZ)).toList = flatK encR 3 (lay dk kk (List.replicate m refZ)) := by
 refine ext_get! (by simp [lay_size]) fun t ht => ?_
 have ht' : t < dk.size * 3 := by simpa using ht
 have hl : t / 3 < (lay dk kk (List.replicate m refZ)).size := by rw [lay_size]; omega
 rw [get_setMany _ _ _ t (by simpa using ht'), get_flatK _ _ _ t ht', get_flatK _ _ _ t (by rw [lay_size]; exact ht')]
 have hg := lay_get? (List.replicate m refZ) dk kk (t / 3) (by simpa using h)
 rw [Array.getElem?_eq_getElem hl] at hg
 rw [getElem!_pos (lay dk kk (List.replicate m refZ)) (t / 3) hl]
 simp only [Array.length_toList, size_flatK, Array.size_replicate]
 simp only [List.length_replicate] at hg
 by_cases a : kk ≤ t / 3 ∧ t / 3 < kk + m
 ·rw [if_pos a, List.getElem?_replicate, if_pos (by omega)] at hg
  rw [if_pos (by omega), Option.some.inj hg]
  have e1 : t - kk * 3 < m * 3 := by omega
  have e2 : (flatK encR 3 (Array.replicate m refZ)).toList[t - kk * 3]! = (flatK encR 3 (Array.replicate m refZ))[t - kk * 3]! := by
   rw [getElem!_pos _ _ (by simpa using e1), getElem!_pos _ _ (by simpa using e1)]
   rfl
  rw [e2, get_flatK _ _ _ _ (by simpa using e1), repl_get, show (t - kk * 3) % 3 = t % 3 by omega]
 ·rw [if_neg a, Array.getElem?_eq_getElem (by omega)] at hg
  rw [if_neg (by omega), Option.some.inj hg, getElem!_pos dk _ (by omega)]

theorem store_R {w wr : World} {n q b : Nat} {dk : Array ARef} {i : Nat} (hi : i < dk.size) (hwr : wr = putRowK encR 3 (Sort.ahead w n) b 0 dk) (x : ARef) :
 ((((wr.drewN q).setCell ⟨b, i * 3, none⟩ (.int .i64 x.kind)).setCell ⟨b, i * 3 + 1, none⟩ (.string x.space)).setCell ⟨b, i * 3 + 2, none⟩ (.string x.name)) = putRowK encR 3 (Sort.ahead w (n + q)) b 0 (dk.setIfInBounds i x) := by
 subst hwr
 rw [putRowK_drewN]
 have h := setCells_putRow (Sort.ahead w (n + q)) b 0 (encR x) (i * 3) (flatK encR 3 dk) (by simp; omega)
 rw [Nat.zero_add, setMany_one dk i x hi] at h
 exact h

theorem zero_R (n : Nat) : (Builtin.zeroCells (aggR refZ).cells n) = flatK encR 3 (Array.replicate n refZ) := by
 unfold Builtin.zeroCells flatK
 have h : (aggR refZ).cells = #[.int .i64 0, .string ⟨#[]⟩, .string ⟨#[]⟩] := rfl
 rw [h, Array.size_replicate]
 show (Array.range (n * 3)).map _ = (Array.range (n * 3)).map _
 congr 1
 funext t
 rw [repl_get]
 show (#[Value.int .i64 0, .string ⟨#[]⟩, .string ⟨#[]⟩])[t % 3]! = [Value.int .i64 0, .string ⟨#[]⟩, .string ⟨#[]⟩][t % 3]!
 have h3 : t % 3 < 3 := Nat.mod_lt _ (by decide)
 rcases h4 : t % 3 with _ | _ | _ | j
 ·rfl
 ·rfl
 ·rfl
 ·omega

theorem run_clear_R (w : World) (t ty : TypeId) (ht : Tryz.prog.underlying t = some (.slice 23)) (b c kk m : Nat) (hm : 0 < m) (dk : Array ARef) (hH : HoldsK encR 3 w b 0 dk) (hk : kk + m ≤ dk.size) :
 (Builtin.clear_ #[t] ty #[.slice (some ⟨b, kk * 3, none⟩) m c]).run Tryz.prog w = .ok (.tuple #[]) (w.setCells b (kk * 3) (flatK encR 3 (Array.replicate m refZ)).toList) := by
 have hv := Tryz.zeroValue23
 have hst := stores_of_holds Tryz.prog (W := w) (blk := b) (off := 0) hH (kk * 3) (flatK encR 3 (Array.replicate m refZ)).toList (by simp; omega) (fun v hv => by
  obtain ⟨i, hi, rfl⟩ := List.getElem_of_mem hv
  have hi' : i < m * 3 := by simpa using hi
  have e : (flatK encR 3 (Array.replicate m refZ)).toList[i] = (encR refZ)[i % 3]! := by
   have := get_flatK encR 3 (Array.replicate m refZ) i (by simpa using hi')
   rw [repl_get, getElem!_pos _ _ (by simpa using hi')] at this
   simpa using this
  rw [e]
  refine encR_one refZ _ ?_
  have h3 : i % 3 < 3 := Nat.mod_lt _ (by decide)
  rw [getElem!_pos _ _ (by simpa using h3)]
  exact List.getElem_mem _)
 simp only [Nat.zero_add] at hst
 rw [← zero_R] at hst ⊢
 obtain ⟨m, rfl⟩ : ∃ k, m = k + 1 := ⟨m - 1, by omega⟩
 simp only [aggR, refZ] at hst ⊢
 simp [Builtin.clear_, run_underlying ht, hv, hst]
end

open Go.Lib Go.Sort in
set_option maxHeartbeats 4000000 in
set_option maxRecDepth 1000000 in
theorem mem_Compact (b cap : Nat) (d : Array ARef) (w : World) (hH : Sort.HoldsK encR 3 w b 0 d) (hsz : d.size ≤ 1000000) (hcap : d.size ≤ cap) :
 Calls Tryz.prog 61 #[.slice (some ⟨b, 0, none⟩) d.size cap] w fun e w' => e = .returned (.slice (some ⟨b, 0, none⟩) (Lib.compactUpTo d d.size).length cap) ∧ ∃ q, w' = Sort.putRowK encR 3 (Sort.ahead w q) b 0 (Lib.compactUpTo d d.size ++ List.replicate (d.size - (Lib.compactUpTo d d.size).length) refZ).toArray := by
 have heq' := eqop_R
 have hne' := neqop_R
 have same : ∀ q, (∀ j, j < d.size → keeps d j = true) → (compactUpTo d d.size).length = d.size ∧ w.drewN q = putRowK encR 3 (Sort.ahead w q) b 0 (compactUpTo d d.size ++ List.replicate (d.size - (compactUpTo d d.size).length) refZ).toArray := by
  intro q hall
  have e : compactUpTo d d.size = d.toList := by rw [compactUpTo_all d _ hall, range_map_get]
  rw [e]
  refine ⟨by simp, ?_⟩
  simp only [Array.length_toList, Nat.sub_self, List.replicate_zero, List.append_nil, Array.toArray_toList]
  exact (putRowK_self encR 3 (Sort.ahead w q) b 0 d (holdsK_ahead encR 3 w q b 0 d hH)).symm
 have HS : Aside (∀ q, (∀ j, j < d.size → keeps d j = true) → (compactUpTo d d.size).length = d.size ∧ w.drewN q = putRowK encR 3 (Sort.ahead w q) b 0 (compactUpTo d d.size ++ List.replicate (d.size - (compactUpTo d d.size).length) refZ).toArray) := same
 clear same
 by_cases h2 : d.size < 2
 ·have HH : Aside (HoldsK encR 3 w b 0 d) := hH
  clear hH
  go_enter Tryz.func61, Tryz.ntmps61
  go_wp2
  go_ret
  obtain ⟨e1, e2⟩ := HS.out 0 (fun j hj => keeps_lt_one d j (by omega))
  exact ⟨by rw [e1]; rfl, 0, e2⟩
 ·go_enter Tryz.func61, Tryz.ntmps61
  go_wp2
  go_loopg [3] d.size (fun g s3 wr => ∃ k q : Nat, 1 ≤ k ∧ k ≤ d.size ∧ d.size - k ≤ g ∧ s3 = .int .i64 k ∧ wr = w.drewN q ∧ ∀ j, j < k → keeps d j = true)
  case atStart => exact ⟨1, 0, Nat.le_refl _, by omega, by omega, rfl, rfl, keeps_lt_one d⟩
  case round =>
   obtain ⟨k, q, hk1, hk, hg, rfl, rfl, hall⟩ := hrel
   by_cases hlt : k < d.size
   ·have A : Aside (∀ j, j < k → keeps d j = true) := hall
    have HH : Aside (HoldsK encR 3 w b 0 d) := hH
    clear hall hH
    obtain ⟨⟨p0, p1, p2⟩, _⟩ := HoldsR.cells (w := w.drewN q) (b := b) (show HoldsK encR 3 (w.drewN q) b 0 d from HH) hlt
    obtain ⟨⟨r0, r1, r2⟩, _⟩ := HoldsR.cells (w := w.drewN q) (b := b) (show HoldsK encR 3 (w.drewN q) b 0 d from HH) (show k - 1 < d.size by omega)
    generalize hxk : d[k]! = x at p0 p1 p2
    generalize hyk : d[k - 1]! = y at r0 r1 r2
    have B : Aside (d[k]! = x ∧ d[k - 1]! = y) := ⟨hxk, hyk⟩
    clear hxk hyk
    generalize hwq : w.drewN q = wq at p0 p1 p2 r0 r1 r2 ⊢
    by_cases hdup : x = y
    ·have hD : Sem.run Tryz.prog (binOp .eql 23 (aggR x) (aggR y)) = fun w => .ok (.bool true) w := by funext w; rw [heq', decide_eq_true hdup]
     simp only [aggR] at hD
     go_wp2_with fail
     go_quiet (fail)
     go_wp2
     clear p0 p1 p2 r0 r1 r2 hD
     subst hwq
     go_loopg [3, 5] d.size (fun g s3 s5 wr => ∃ (kk k2 q2 : Nat) (dk : Array ARef), s3 = .int .i64 kk ∧ s5 = .int .i64 k2 ∧ 1 ≤ k2 ∧ k + k2 ≤ d.size ∧ d.size - (k + k2) ≤ g ∧ wr = putRowK encR 3 (Sort.ahead w q2) b 0 dk ∧ CompInv d (k + k2) kk dk)
     case atStart => exact ⟨k, 1, q + nq, d, rfl, rfl, Nat.le_refl _, by omega, by omega, (putRowK_self encR 3 (Sort.ahead w (q + nq)) b 0 d (holdsK_ahead encR 3 w (q + nq) b 0 d HH.out)).symm ▸ (by rw [World.drewN_drewN]; rfl), CompInv.start A.out (keeps_neg (by omega) (by rw [B.out.1, B.out.2, hdup]))⟩
     case round =>
      obtain ⟨kk, k2, q2, dk, rfl, rfl, h1, hle, hg2, hwr, hI⟩ := hrel
      have hkk := hI.lt
      have hds := hI.size
      have hHk : HoldsK encR 3 wr b 0 dk := by rw [hwr]; exact holdsK_putRowK encR 3 _ b 0 d dk (holdsK_ahead encR 3 w q2 b 0 d HH.out) hds
      have W2 : Aside (wr = putRowK encR 3 (Sort.ahead w q2) b 0 dk) := hwr
      have I2 : Aside (CompInv d (k + k2) kk dk) := hI
      clear hwr
      by_cases hlt2 : k + k2 < d.size
      ·obtain ⟨⟨m0, m1, m2⟩, _⟩ := HoldsR.cells hHk (i := k + k2) (by omega)
       obtain ⟨⟨r0, r1, r2⟩, _⟩ := HoldsR.cells hHk (i := k + (k2 - 1)) (by omega)
       obtain ⟨⟨c0, c1, c2⟩, f0, f1, f2⟩ := HoldsR.cells hHk (i := kk) (by omega)
       rw [hI.high (k + k2) (by omega), Nat.add_mul] at m0 m1 m2
       rw [hI.high (k + (k2 - 1)) (by omega), Nat.add_mul] at r0 r1 r2
       clear hHk hI
       generalize hu : d[k + k2]! = u at m0 m1 m2
       generalize hv : d[k + (k2 - 1)]! = v at r0 r1 r2
       generalize dk[kk]! = old at c0 c1 c2
       have C : Aside (d[k + k2]! = u ∧ d[k + k2 - 1]! = v) := ⟨hu, by rw [← hv, show k + k2 - 1 = k + (k2 - 1) by omega]⟩
       clear hu hv
       by_cases huv : u = v
       ·have hD : Sem.run Tryz.prog (binOp .neq 23 (aggR u) (aggR v)) = fun w => .ok (.bool false) w := by funext w; rw [hne', decide_eq_true huv]; rfl
        simp only [aggR] at hD
        go_wp2_with fail
        go_quiet (fail)
        go_wp2
        go_roundg (d.size - (k + (k2 + 1)))
        case measure => omega
        case rel => exact ⟨kk, k2 + 1, q2 + nq, dk, rfl, by go_num, by omega, by omega, Nat.le_refl _, by rw [show wr = _ from W2]; exact putRowK_drewN encR 3 w q2 nq b 0 dk, I2.out.skip (keeps_neg (by omega) (by rw [C.out.1, C.out.2, huv]))⟩
       ·have hD : Sem.run Tryz.prog (binOp .neq 23 (aggR u) (aggR v)) = fun w => .ok (.bool true) w := by funext w; rw [hne', decide_eq_false huv]; rfl
        simp only [aggR] at hD
        go_wp2_with fail
        go_quiet (fail)
        go_wp2_with fail
        go_roundg (d.size - (k + (k2 + 1)))
        case measure => omega
        case rel => exact ⟨kk + 1, k2 + 1, q2 + nq, dk.setIfInBounds kk u, by go_num, by go_num, by omega, by omega, Nat.le_refl _, store_R (by omega) W2 u, by have := I2.out.keep hlt2 (keeps_pos (by rw [C.out.1, C.out.2]; exact huv)); rwa [C.out.1] at this⟩
      ·have hend : k + k2 = d.size := by omega
       have hcl : ∀ ty, (Builtin.clear_ #[38] ty #[.slice (some ⟨b, kk * 3, none⟩) (d.size - kk) (cap - kk)]).run Tryz.prog wr = .ok (.tuple #[]) (wr.setCells b (kk * 3) (flatK encR 3 (Array.replicate (d.size - kk) refZ)).toList) :=
        fun ty => run_clear_R wr _ ty Tryz.underlying38 b _ kk (d.size - kk) (by omega) dk hHk (by omega)
       clear hHk hI
       go_wp2
       go_ret
       have hI := I2.out
       rw [hend] at hI
       refine ⟨by rw [hI.len]; rfl, q2, ?_⟩
       rw [hI.len, ← hI.done refZ, show wr = _ from W2]
       have h := setCells_putRow (Sort.ahead w q2) b 0 (flatK encR 3 (Array.replicate (d.size - kk) refZ)).toList (kk * 3) (flatK encR 3 dk) (by simp; omega)
       rw [Nat.zero_add, setMany_lay dk kk _ (by omega)] at h
       exact h
    ·have hD : Sem.run Tryz.prog (binOp .eql 23 (aggR x) (aggR y)) = fun w => .ok (.bool false) w := by funext w; rw [heq', decide_eq_false hdup]
     simp only [aggR] at hD
     go_wp2_with fail
     go_quiet (fail)
     go_wp2
     go_roundg (d.size - (k + 1))
     case measure => omega
     case rel =>
      refine ⟨k + 1, q + nq, by omega, by omega, Nat.le_refl _, by go_num, by rw [← hwq, World.drewN_drewN], fun j hj => ?_⟩
      by_cases e : j = k
      ·subst e
       exact keeps_pos (by rw [B.out.1, B.out.2]; exact hdup)
      ·exact A.out j (by omega)
   ·have : k = d.size := by omega
    subst this
    have HH : Aside (HoldsK encR 3 w b 0 d) := hH
    clear hH
    go_wp2
    go_ret
    obtain ⟨e1, e2⟩ := HS.out q hall
    exact ⟨by rw [e1]; rfl, q, e2⟩


abbrev refComp (l : List ARef) : List ARef := Lib.compact l

theorem empty_inv {Fz : Nat → Nat → Prop} {w : World} {v : Value} (h : PRep Fz w v (.slice [])) : ∃ a cap, v = .slice a 0 cap := by
 generalize hE : ([] : List (List PD)) = E at h
 cases h with
 | empty a cap => exact ⟨a, cap, rfl⟩
 | slice _ _ n _ _ _ _ hn hpos => rw [← hE] at hn; simp at hn; omega

theorem sort_none {st : St} {t : Nat} {e : TypeId} {K : D → St → Prop} (hk : K (.tup []) st) :
 CallW Tryz.prog 60 [.own e 3 (rows ARef.pd []) t, .fn 20 []] st K := by
 refine ⟨enters_of Tryz.func60 rfl rfl, fun C g a w vs hP hs hr => ?_⟩
 simp only [Reps] at hr
 obtain ⟨v0, vs0, rfl, h0, v1, vs1, rfl, h1, rfl⟩ := hr
 simp only [Rep] at h0 h1
 obtain ⟨cv, rfl, hcv⟩ := h1
 simp only [Caps] at hcv
 subst hcv
 obtain ⟨p, cap, rfl⟩ := empty_inv h0.1
 refine (AnyF.slices_SortFunc_none Tryz.sortRef p cap _ w).mono ?_
 rintro ex w' ⟨rfl, rfl⟩
 exact ⟨.tuple #[], .tup [], st, g, rfl, hk, hs, by simp [Rep, Reps]⟩

theorem sort_effect {st : St} {l : List ARef} (hl : l ≠ []) (hle : l.length ≤ 1000000) {t : Nat} {e : TypeId} (hsolo : st.hs = .solo) {K : D → St → Prop}
 (hk : K (.tup []) ⟨updG t e 3 (rows ARef.pd (refSort l)) st.fr, updB t e 3 (rows ARef.pd (refSort l)) st.bs, [], st.hs⟩) :
 CallW Tryz.prog 60 [.own e 3 (rows ARef.pd l) t, .fn 20 []] st K :=
 sort_callW (enters_of Tryz.func60 rfl rfl) refs_sorted hl hle hsolo hk

theorem mem_Compact_none (p : Option Addr) (cap : Nat) (w : World) : Calls Tryz.prog 61 #[.slice p 0 cap] w fun e w' => e = .returned (.slice p 0 cap) ∧ w' = w := by
 go_enter Tryz.func61, Tryz.ntmps61
 go_wp2
 go_ret
 exact ⟨rfl, rfl⟩

theorem compact_none {st : St} {t : Nat} {e : TypeId} {K : D → St → Prop} (hk : K (.pd (.slice (rows ARef.pd []))) st) :
 CallW Tryz.prog 61 [.own e 3 (rows ARef.pd []) t] st K := by
 refine ⟨enters_of Tryz.func61 rfl rfl, fun C g a w vs hP hs hr => ?_⟩
 simp only [Reps] at hr
 obtain ⟨v0, vs0, rfl, h0, rfl⟩ := hr
 simp only [Rep] at h0
 obtain ⟨p, cap, rfl⟩ := empty_inv h0.1
 refine (mem_Compact_none p cap w).mono ?_
 rintro ex w' ⟨rfl, rfl⟩
 exact ⟨_, .pd (.slice (rows ARef.pd [])), st, g, rfl, hk, hs, by simp only [Rep]; exact h0.1⟩

theorem compact_len (l : List ARef) : (refComp l).length ≤ l.length := by
 unfold refComp Lib.compact Lib.compactUpTo
 rw [List.length_map]
 exact Nat.le_trans (List.length_filter_le _ _) (by simp)

theorem compact_effect {st : St} {l : List ARef} (hl : l ≠ []) (hle : l.length ≤ 1000000) {t : Nat} {e : TypeId} (hsolo : st.hs = .solo) {K : D → St → Prop}
 (hk : ∀ r, K (.pd (.slice (rows ARef.pd (refComp l)))) ⟨updG t e 3 r st.fr, updB t e 3 r st.bs, [], st.hs⟩) :
 CallW Tryz.prog 61 [.own e 3 (rows ARef.pd l) t] st K := by
 refine ⟨enters_of Tryz.func61 rfl rfl, fun C g a w vs hP hs hr => ?_⟩
 simp only [Reps] at hr
 obtain ⟨v0, vs0, rfl, h0, rfl⟩ := hr
 simp only [Rep] at h0
 obtain ⟨hpr, htk, hlens⟩ := h0
 have m := hs.mem
 obtain ⟨ie, n, xs, hie, hpos, hown, hfz⟩ := m.tks t _ _ htk
 obtain ⟨hxl, hform⟩ := hown
 rcases hform with ⟨rfl, hn0, _⟩ | ⟨b, cap, cur, rfl, hb0, hold, hnc, hcm, hcs, htake⟩
 ·exfalso
  generalize hE : rows ARef.pd l = E at hpr
  cases hpr with
  | empty => exact hl (List.map_eq_nil_iff.1 hE)
 have hR := RowR.of hl hpr
 have hlen := hR.hlen
 have hmax := hR.hmax
 have hcap := hR.hcap
 have hbl : b < w.heap.size := (Array.getElem?_eq_some_iff.1 hold).1
 subst hlen
 have hc := mem_Compact b cap l.toArray w (hR.holds hold) (by simpa using hle) (by simpa using hcap)
 have e1 : l.toArray.size = l.length := by simp
 rw [e1] at hc
 refine hc.mono ?_
 rintro ex w' ⟨rfl, q, rfl⟩
 have hcl := compact_len l
 obtain ⟨l', hl'⟩ : ∃ l', l' = refComp l ++ List.replicate (l.length - (refComp l).length) refZ := ⟨_, rfl⟩
 have hll : l'.length = l.length := by rw [hl', List.length_append, List.length_replicate]; omega
 have hne : l' ≠ [] := fun e => hl (List.length_eq_zero_iff.1 (by rw [← hll, e]; rfl))
 rw [show (Lib.compactUpTo l.toArray l.length ++ List.replicate (l.length - (Lib.compactUpTo l.toArray l.length).length) refZ) = l' from hl'.symm]
 have hH : Sort.HoldsK encR 3 (Sort.putRowK encR 3 (Sort.ahead w q) b 0 l'.toArray) b 0 l'.toArray :=
  Sort.holdsK_putRowK _ _ _ _ _ l.toArray _ (Sort.holdsK_ahead _ _ _ _ _ _ _ (hR.holds hold)) (by simpa using hll)
 have hR' := hR.of_holds hll hH
 have hg := grownBy_K (w := w) (b := b) (n := q) (os := #[]) (Sort.flatK encR 3 l'.toArray)
 have hh := heap_K (n := q) (os := #[]) (Sort.flatK encR 3 l'.toArray) hold
 rw [Sort.grow_empty] at hg hh
 refine ⟨_, .pd (.slice (rows ARef.pd (refComp l))), _, g, rfl, hk (rows ARef.pd l'), hs.newrow htk hsolo hg hold hh (by simp [Sort.putCells]) (hR'.rep hne) (rows_row (f := ARef.pd) (n := 3) (fun _ => rfl) _), ?_⟩
 simp only [Rep]
 by_cases hc0 : refComp l = []
 ·rw [hc0, show (Lib.compactUpTo l.toArray l.length).length = 0 by rw [show Lib.compactUpTo l.toArray l.length = refComp l from rfl, hc0]; rfl]
  exact .empty _ _
 ·refine RowR.rep (l := refComp l) ⟨rfl, by rw [show Lib.compactUpTo l.toArray l.length = refComp l from rfl]; omega, by rw [show Lib.compactUpTo l.toArray l.length = refComp l from rfl]; omega, fun j i x u hx hu => ?_⟩ hc0
  exact hR'.hcell j i x u (by rw [hl', List.getElem?_append_left (List.getElem?_eq_some_iff.1 hx).1]; exact hx) hu

end Go.Proofs.YtbjaopoipkphnaaGreatDoor



namespace Go.Proofs.YtbjaopoipkphnaaGreatDoor
open Go Go.RowKit
set_option linter.unusedSimpArgs false
set_option linter.unusedVariables false
set_option maxRecDepth 100000

def few (s : ByteArray) : ByteArray := if s.size ≤ 100 then s else s.extract 0 100

set_option maxRecDepth 100000 in
theorem law1_Few (s : ByteArray) : Pure Tryz.prog 21 [str s] (fun d => d = str (few s)) := by
 refine pure_of_run follows an_zba9k Tryz.func21 rfl ok_zba9k.1 ok_zba9k.2 (by simp [Tryz.ntmps21]) ?_
 rw [run_start]
 by_cases h : 100 < s.size
 ·have h1 : (100 : Int) < (s.size : Int) := by omega
  have h2 : 100 ≤ s.size := by omega
  simp only [ac_zba9k, go_sem, simprocAttr, h1, h2]
  simp only [retK, resD, retL, oneD, simprocAttr, Tryz.results21]
  exact ⟨_, rfl, rfl, by simp [few, show ¬ s.size ≤ 100 by omega, D.pub]⟩
 ·have h1 : ¬ (100 : Int) < (s.size : Int) := by omega
  simp only [ac_zba9k, go_sem, simprocAttr, h1]
  simp only [retK, resD, retL, oneD, simprocAttr, Tryz.results21]
  exact ⟨_, rfl, rfl, by simp [few, show s.size ≤ 100 by omega, D.pub]⟩

def fewRef (r : ARef) : ARef := ⟨r.kind, few r.space, few r.name⟩

set_option maxRecDepth 100000 in
theorem law9_FewRef (r : ARef) : Pure Tryz.prog 19 [r.d] (fun d => d = (fewRef r).d) := by
 refine pure_of_run follows an_zn42u Tryz.func19 rfl ok_zn42u.1 ok_zn42u.2 (by simp [Tryz.ntmps19]) ?_
 rw [run_start]
 simp only [ac_zn42u, go_sem, simprocAttr, go_sem]
 refine (law1_Few r.space).callX (enters_of Tryz.func21 rfl rfl) _ rfl rfl ?_
 rintro d rfl
 simp only [go_sem, simprocAttr, go_sem]
 refine (law1_Few r.name).callX (enters_of Tryz.func21 rfl rfl) _ rfl rfl ?_
 rintro d rfl
 simp only [go_sem, simprocAttr, go_sem]
 simp only [retK, resD, resA, AOp.ex, St.ev, retL, oneD, simprocAttr, ret_zn42u]
 exact ⟨_, rfl, rfl, rfl⟩


theorem Reps.tell {g : Gh} {w : World} {d : D} : ∀ {ds : List D} {vs : List Value} (_ : Reps g w ds vs) (i : Nat) (_ : ∀ v, vs[i]? = some v → Rep g w d v), Reps g w (ds.set i d) vs
 | [], _, h, _, _ => by simpa using h
 | e :: ds, _, h, i, hd => by
   simp only [Reps] at h
   obtain ⟨v, vs', rfl, hv, hs⟩ := h
   cases i with
   | zero => exact ⟨v, vs', rfl, hd v rfl, hs⟩
   | succ i => exact ⟨v, vs', rfl, hv, Reps.tell hs i (fun u hu => hd u (by simpa using hu))⟩

theorem SR.tellB {C : Ctx} {st : St} {g : Gh} {a : Act} {w : World} (h : SR C st g a w) {n : Nat} {ds ds' : List D} (hn : lk st.bs n = some ds) (hd : ∀ vs, Reps g w ds vs → Reps g w ds' vs) : SR C { st with bs := (n, ds') :: st.bs } g a w := by
 have m := h.mem
 refine ⟨h.defers, h.size, h.rep, { m with bxs := fun k es hk => ?_ }, h.x, h.fix⟩
 simp only [lk] at hk
 split at hk
 ·rename_i hkn
  subst hkn
  cases hk
  obtain ⟨b, cs, t, h1, h2, h3⟩ := m.bxs _ ds hn
  exact ⟨b, cs, t, h1, h2, hd _ h3⟩
 ·exact m.bxs k es hk

theorem purges_at : ∀ (t : Nat) (ds : List D) (i : Nat), ds[i]? = some .nils → (D.purges t ds)[i]? = some .nils
 | _, [], _, h => by simp at h
 | t, d :: ds, 0, h => by
   simp only [List.getElem?_cons_zero, Option.some.injEq] at h
   subst h
   simp [D.purges, D.purge]
 | t, d :: ds, i + 1, h => by
   simp only [List.getElem?_cons_succ] at h
   simpa [D.purges] using purges_at t ds i h

theorem lk_purge {st : St} {t n : Nat} {ds : List D} (h : lk st.bs n = some ds) : lk (st.purge t).bs n = some (D.purges t ds) := by
 simp only [St.purge]
 rw [lk_map (fun ds => D.purges t ds) st.bs n, h]; rfl

theorem Weak.ownB0 {P : Program} {st : St} (n i t : Nat) (e : TypeId) {ti : TypeInfo} (hi : P.info? e = some ti) (hpos : 0 < ti.size) {ds : List D} (h : lk st.bs n = some ds) (hn : ds[i]? = some .nils) :
 Weak P st { st.purge t with bs := (n, (D.purges t ds).set i (.own e ti.size [] t)) :: (st.purge t).bs } := by
 intro C g a w hP hs
 subst hP
 have h1 := hs.purge t
 obtain ⟨h2, _⟩ := SR.owned h1 t (by simp) (grownBy_same w none) _ h1.x (fun k e => by cases e) (fun _ h => h) (fun k e => by cases e) e ti hi hpos (.slice none 0 0) 0 [] (World.ownsRow_nil _ _ _ _) (fun b hb => by cases hb) (fun b o _ hb => by cases hb)
 refine ⟨_, h2.tellB (lk_purge h) fun vs hv => ?_⟩
 refine hv.tell i fun v hvi => ?_
 obtain ⟨u, hu, hr⟩ := hv.get i _ (purges_at t ds i hn)
 rw [hvi] at hu
 cases hu
 simp only [Rep] at hr
 rw [hr]
 simp only [Rep]
 exact ⟨.empty _ _, by simp, by simp⟩

theorem Weak.ownB {P : Program} {st st' : St} (n i t : Nat) (e : TypeId) (sz : Nat) (hi : (P.info? e).map (·.size) = some sz) (hpos : 0 < sz) {ds : List D} (h : lk st.bs n = some ds) (hn : ds[i]? = some .nils)
 (hf : lessL st'.fr (st.purge t).fr) (hb : lessL st'.bs ((n, (D.purges t ds).set i (.own e sz [] t)) :: (st.purge t).bs)) (hm : lessL st'.ms st.ms) (hh : st'.hs = st.hs) : Weak P st st' := by
 obtain ⟨ti, h1, rfl⟩ := Option.map_eq_some_iff.1 hi
 exact (Weak.ownB0 n i t e h1 hpos h hn).trans (Weak.less hf hb hm hh)

theorem run_cut {P : Program} {x y : AC} {st s1 : St} {S : List Fr} {K : Exit → St → Prop} (h1 : ∀ K' : Exit → St → Prop, K' .normal s1 → run P x st (contS P [] K')) (h2 : run P y s1 (contS P S K)) : run P (.seq x y) st (contS P S K) := by
 rw [run_seq]; exact h1 (contS P (.seq y :: S) K) h2

theorem few_size (s : ByteArray) : (few s).size ≤ 100 := by
 unfold few
 split
 ·assumption
 ·simp [ByteArray.size_extract]; omega

theorem law3_Few (k : Int) (v : ByteArray) : Pure Tryz.prog 75 [.agg [int k, str v]] (fun d => d = .agg [int k, str (few v)]) := by
 refine pure_of_run follows an_zyx20 Tryz.func75 rfl ok_zyx20.1 ok_zyx20.2 (by simp [Tryz.ntmps75]) ?_
 rw [run_start]
 simp only [ac_zyx20, go_sem, simprocAttr]
 refine (law1_Few v).callW (enters_of Tryz.func21 rfl rfl) _ rfl rfl ?_
 rintro d rfl
 simp only [go_sem, simprocAttr]
 simp only [retK, resD, resA, AOp.ex, St.ev, retL, oneD, simprocAttr, ret_zyx20]
 exact ⟨_, rfl, rfl, rfl⟩

def fewPair (p : APair) : APair := ⟨few p.name, few p.val⟩
def fewPairs (l : List APair) : List APair := (l.take 31).map fewPair

theorem fewPair_ok (p : APair) : (fewPair p).ok := ⟨by have := few_size p.name; simp [fewPair]; omega, by have := few_size p.val; simp [fewPair]; omega⟩

theorem few_step {α β : Type} {f : β → List PD} {g : α → β} {l : List α} {i : Nat} {x : α} (h : l[i]? = some x) : rows f ((l.take i).map g) ++ [f (g x)] = rows f ((l.take (i + 1)).map g) := by
 rw [take_at h, List.map_append]; exact rows_one _ (g x)

theorem few_len {α β : Type} {f : β → List PD} {g : α → β} {l : List α} {i n : Nat} (h : i ≤ n) : (rows f ((l.take i).map g)).length ≤ n := by simp [rows]; omega

theorem few_end {α β : Type} {g : α → β} {l : List α} {i n : Nat} (h : i ≤ n) (hl : i ≤ l.length) (he : ¬ (i < l.length ∧ i < n)) : (l.take i).map g = (l.take n).map g := by
 rcases Nat.lt_or_ge i n with h6 | h6
 ·rw [List.take_of_length_le (by omega), List.take_of_length_le (by omega)]
 ·rw [show i = n by omega]

theorem law5_Few (l : List APair) : Pure Tryz.prog 29 [.pd (.slice (rows APair.pd l))] (fun d => d = .pd (.slice (rows APair.pd (fewPairs l)))) := by
 refine pure_of_run follows an_ztgmw Tryz.func29 rfl ok_ztgmw.1 ok_ztgmw.2 (by simp [Tryz.ntmps29]) ?_
 rw [run_start]
 simp only [ac_ztgmw, go_sem, simprocAttr]
 refine loopS (fun k st => ∃ i : Nat, k = 31 - i ∧ i ≤ 31 ∧ i ≤ l.length ∧
  st = ⟨[(0, .pd (.slice (rows APair.pd l))), (3, .own 88 2 (rows APair.pd ((l.take i).map fewPair)) 30), (4, int i)], [], [], .no⟩) 31 _
  ?_ ⟨0, rfl, by omega, by omega, rfl⟩ ?_
 ·exact Weak.own1 3 30 88 2 (by kernel_rfl) (by decide) rfl (by simp [lessL, lk, St.purge, St.put, D.purge, rows]) (by simp [lessL, lk, St.purge, D.purges, D.purge]) (by simp [lessL]) rfl
 rintro k st ⟨i, rfl, hi6, hi, rfl⟩
 have hw := i64_succ (show i < 1000000000 by omega)
 by_cases hlt : i < l.length ∧ i < 31
 ·obtain ⟨x, hx⟩ := at_lt hlt.1
  have h1 : ((i : Int) < (l.length : Int)) = True := eq_true (by omega)
  have h2 : ((i : Int) < 31) = True := eq_true (by omega)
  simp only [go_sem, simprocAttr, go_sem, rows_len, rows_get hx, h1, h2]
  refine (law1_Few x.name).callX (enters_of Tryz.func21 rfl rfl) _ rfl rfl ?_
  rintro d rfl
  simp only [go_sem, simprocAttr, go_sem, rows_len, rows_get hx]
  refine (law1_Few x.val).callX (enters_of Tryz.func21 rfl rfl) _ rfl rfl ?_
  rintro d rfl
  simp only [go_sem, simprocAttr, go_sem, hw]
  have hl := few_len (f := APair.pd) (g := fewPair) (l := l) hi6
  have hl2 := hl
  rw [rows_len] at hl2
  have e1 : rows APair.pd ((l.take i).map fewPair) ++ [[PD.raw (Value.string (few x.name)), PD.raw (Value.string (few x.val))]] = rows APair.pd ((l.take (i + 1)).map fewPair) := few_step hx
  rw [e1]
  refine ⟨by simp, by unfold maxLen; omega, by omega, 31 - (i + 1), _, by omega, ?_, i + 1, rfl, by omega, by omega, rfl⟩
  exact lessA
 ·have h3 := few_end (g := fewPair) hi6 hi hlt
  rw [h3]
  by_cases h1 : i < l.length
  ·have h1' : ((i : Int) < (l.length : Int)) = True := eq_true (by omega)
   have h2 : ((i : Int) < 31) = False := eq_false (by omega)
   simp only [go_sem, simprocAttr, go_sem, rows_len, h1', h2]
   simp only [retK, resD, retL, oneD, simprocAttr, Tryz.results29]
   exact ⟨_, rfl, rfl, rfl⟩
  ·have h1' : ((i : Int) < (l.length : Int)) = False := eq_false (by omega)
   simp only [go_sem, simprocAttr, go_sem, rows_len, h1']
   simp only [retK, resD, retL, oneD, simprocAttr, Tryz.results29]
   exact ⟨_, rfl, rfl, rfl⟩

def fewFilter (f : AFilter) : AFilter := { f with name := few f.name, val := few f.val, host := few f.host, path := few f.path }
def fewFilters (l : List AFilter) : List AFilter := (l.take 9).map fewFilter
def fewSide (s : ASide) : ASide := ⟨s.kind, few s.space, few s.name⟩
def fewSides (l : List ASide) : List ASide := (l.take 5).map fewSide

theorem law7_Few (l : List AFilter) : Pure Tryz.prog 32 [.pd (.slice (rows AFilter.pd l))] (fun d => d = .pd (.slice (rows AFilter.pd (fewFilters l)))) := by
 refine pure_of_run follows an_z9moo Tryz.func32 rfl ok_z9moo.1 ok_z9moo.2 (by simp [Tryz.ntmps32]) ?_
 rw [run_start]
 simp only [ac_z9moo, go_sem, simprocAttr]
 refine loopS (fun k st => ∃ i : Nat, k = 9 - i ∧ i ≤ 9 ∧ i ≤ l.length ∧
  st = ⟨[(0, .pd (.slice (rows AFilter.pd l))), (3, .own 118 8 (rows AFilter.pd ((l.take i).map fewFilter)) 39), (4, int i)], [], [], .no⟩) 9 _
  ?_ ⟨0, rfl, by omega, by omega, rfl⟩ ?_
 ·exact Weak.own1 3 39 118 8 (by kernel_rfl) (by decide) rfl (by simp [lessL, lk, St.purge, St.put, D.purge, rows]) (by simp [lessL, lk, St.purge, D.purges, D.purge]) (by simp [lessL]) rfl
 rintro k st ⟨i, rfl, hi6, hi, rfl⟩
 have hw := i64_succ (show i < 1000000000 by omega)
 by_cases hlt : i < l.length ∧ i < 9
 ·obtain ⟨x, hx⟩ := at_lt hlt.1
  have h1 : ((i : Int) < (l.length : Int)) = True := eq_true (by omega)
  have h2 : ((i : Int) < 9) = True := eq_true (by omega)
  simp only [go_sem, simprocAttr, rows_get hx, h1, h2]
  refine (law1_Few x.name).callX (enters_of Tryz.func21 rfl rfl) _ rfl rfl ?_
  rintro d rfl
  simp only [go_sem, simprocAttr, rows_get hx]
  refine (law1_Few x.val).callX (enters_of Tryz.func21 rfl rfl) _ rfl rfl ?_
  rintro d rfl
  simp only [go_sem, simprocAttr, rows_get hx]
  refine (law1_Few x.host).callX (enters_of Tryz.func21 rfl rfl) _ rfl rfl ?_
  rintro d rfl
  simp only [go_sem, simprocAttr, rows_get hx]
  refine (law1_Few x.path).callX (enters_of Tryz.func21 rfl rfl) _ rfl rfl ?_
  rintro d rfl
  simp only [go_sem, simprocAttr, rows_get hx, hw]
  have hl := few_len (f := AFilter.pd) (g := fewFilter) (l := l) hi6
  have hl2 := hl
  rw [rows_len] at hl2
  have hl' : ((l.take i).map fewFilter).length ≤ i := by simp; omega
  have e1 : rows AFilter.pd ((l.take i).map fewFilter) ++ [[PD.raw (Value.int IntKind.i64 x.kind), PD.raw (Value.string (few x.name)), PD.raw (Value.string (few x.val)), PD.raw (Value.string (few x.host)), PD.raw (Value.int IntKind.i64 x.port), PD.raw (Value.string (few x.path)), PD.raw (Value.bool x.whole), PD.raw (Value.int IntKind.i64 x.code)]] = rows AFilter.pd ((l.take (i + 1)).map fewFilter) := few_step hx
  rw [e1]
  refine ⟨by simp, by unfold maxLen; omega, by omega, 9 - (i + 1), _, by omega, ?_, i + 1, rfl, by omega, by omega, rfl⟩
  exact lessA
 ·have h3 := few_end (g := fewFilter) hi6 hi hlt
  rw [h3]
  by_cases h1 : i < l.length
  ·have h1' : ((i : Int) < (l.length : Int)) = True := eq_true (by omega)
   have h2 : ((i : Int) < 9) = False := eq_false (by omega)
   simp only [go_sem, simprocAttr, h1', h2]
   simp only [retK, resD, retL, oneD, simprocAttr, Tryz.results32]
   exact ⟨_, rfl, rfl, rfl⟩
  ·have h1' : ((i : Int) < (l.length : Int)) = False := eq_false (by omega)
   simp only [go_sem, simprocAttr, h1']
   simp only [retK, resD, retL, oneD, simprocAttr, Tryz.results32]
   exact ⟨_, rfl, rfl, rfl⟩

theorem law9_sides (l : List ASide) : Pure Tryz.prog 30 [.pd (.slice (rows ASide.pd l))] (fun d => d = .pd (.slice (rows ASide.pd (fewSides l)))) := by
 refine pure_of_run follows an_zg0x2 Tryz.func30 rfl ok_zg0x2.1 ok_zg0x2.2 (by simp [Tryz.ntmps30]) ?_
 rw [run_start]
 simp only [ac_zg0x2, go_sem, simprocAttr]
 refine loopS (fun k st => ∃ i : Nat, k = 5 - i ∧ i ≤ 5 ∧ i ≤ l.length ∧
  st = ⟨[(0, .pd (.slice (rows ASide.pd l))), (3, .own 93 3 (rows ASide.pd ((l.take i).map fewSide)) 35), (4, int i)], [], [], .no⟩) 5 _
  ?_ ⟨0, rfl, by omega, by omega, rfl⟩ ?_
 ·exact Weak.own1 3 35 93 3 (by kernel_rfl) (by decide) rfl (by simp [lessL, lk, St.purge, St.put, D.purge, rows]) (by simp [lessL, lk, St.purge, D.purges, D.purge]) (by simp [lessL]) rfl
 rintro k st ⟨i, rfl, hi6, hi, rfl⟩
 have hw := i64_succ (show i < 1000000000 by omega)
 by_cases hlt : i < l.length ∧ i < 5
 ·obtain ⟨x, hx⟩ := at_lt hlt.1
  have h1 : ((i : Int) < (l.length : Int)) = True := eq_true (by omega)
  have h2 : ((i : Int) < 5) = True := eq_true (by omega)
  simp only [go_sem, simprocAttr, rows_get hx, h1, h2]
  refine (law1_Few x.space).callX (enters_of Tryz.func21 rfl rfl) _ rfl rfl ?_
  rintro d rfl
  simp only [go_sem, simprocAttr, rows_get hx]
  refine (law1_Few x.name).callX (enters_of Tryz.func21 rfl rfl) _ rfl rfl ?_
  rintro d rfl
  simp only [go_sem, simprocAttr, rows_get hx, hw]
  have hl := few_len (f := ASide.pd) (g := fewSide) (l := l) hi6
  have hl2 := hl
  rw [rows_len] at hl2
  have hl' : ((l.take i).map fewSide).length ≤ i := by simp; omega
  have e1 : rows ASide.pd ((l.take i).map fewSide) ++ [[PD.raw (Value.int IntKind.i64 x.kind), PD.raw (Value.string (few x.space)), PD.raw (Value.string (few x.name))]] = rows ASide.pd ((l.take (i + 1)).map fewSide) := few_step hx
  rw [e1]
  refine ⟨by simp, by unfold maxLen; omega, by omega, 5 - (i + 1), _, by omega, ?_, i + 1, rfl, by omega, by omega, rfl⟩
  exact lessA
 ·have h3 := few_end (g := fewSide) hi6 hi hlt
  rw [h3]
  by_cases h1 : i < l.length
  ·have h1' : ((i : Int) < (l.length : Int)) = True := eq_true (by omega)
   have h2 : ((i : Int) < 5) = False := eq_false (by omega)
   simp only [go_sem, simprocAttr, h1', h2]
   simp only [retK, resD, retL, oneD, simprocAttr, Tryz.results30]
   exact ⟨_, rfl, rfl, rfl⟩
  ·have h1' : ((i : Int) < (l.length : Int)) = False := eq_false (by omega)
   simp only [go_sem, simprocAttr, h1']
   simp only [retK, resD, retL, oneD, simprocAttr, Tryz.results30]
   exact ⟨_, rfl, rfl, rfl⟩

def fewMatch (m : AMatch) : AMatch := ⟨m.pkind, few m.pval, few m.method, fewPairs m.head, fewPairs m.query⟩

theorem law6_Few (m : AMatch) : Pure Tryz.prog 33 [m.d] (fun d => d = (fewMatch m).d) := by
 refine pure_of_run follows an_zt3fs Tryz.func33 rfl ok_zt3fs.1 ok_zt3fs.2 (by simp [Tryz.ntmps33]) ?_
 rw [run_start]
 simp only [ac_zt3fs, go_sem, simprocAttr]
 refine (law3_Few m.pkind m.pval).callX (enters_of Tryz.func75 rfl rfl) _ rfl rfl ?_
 rintro d rfl
 simp only [go_sem, simprocAttr]
 refine (law1_Few m.method).callX (enters_of Tryz.func21 rfl rfl) _ rfl rfl ?_
 rintro d rfl
 simp only [go_sem, simprocAttr]
 refine (law5_Few m.head).callX (enters_of Tryz.func29 rfl rfl) _ rfl rfl ?_
 rintro d rfl
 simp only [go_sem, simprocAttr]
 refine (law5_Few m.query).callX (enters_of Tryz.func29 rfl rfl) _ rfl rfl ?_
 rintro d rfl
 simp only [go_sem, simprocAttr]
 simp only [retK, resD, resA, AOp.ex, St.ev, retL, oneD, simprocAttr, ret_zt3fs]
 exact ⟨_, rfl, rfl, rfl⟩

def fewNeed (n : ANeed) : ANeed := ⟨n.kind, few n.name, (n.vals.take 9).map few⟩
def fewNeeds (l : List ANeed) : List ANeed := (l.take 9).map fewNeed

theorem law8_Few (l : List ANeed) : Pure Tryz.prog 31 [.pd (.slice (rows ANeed.pd l))] (fun d => d = .pd (.slice (rows ANeed.pd (fewNeeds l)))) := by
 refine pure_of_run follows an_zpih5 Tryz.func31 rfl ok_zpih5.1 ok_zpih5.2 (by simp [Tryz.ntmps31]) ?_
 rw [run_start]
 simp only [ac_zpih5, go_sem, simprocAttr]
 refine loopS (fun k st => ∃ i : Nat, k = 9 - i ∧ i ≤ 9 ∧ i ≤ l.length ∧
  st = ⟨[(0, .pd (.slice (rows ANeed.pd l))), (3, .own 116 3 (rows ANeed.pd ((l.take i).map fewNeed)) 60), (4, int i)], [], [], .no⟩) 9 _
  ?_ ⟨0, rfl, by omega, by omega, rfl⟩ ?_
 ·exact Weak.own1 3 60 116 3 (by kernel_rfl) (by decide) rfl (by simp [lessL, lk, St.purge, St.put, D.purge, rows]) (by simp [lessL, lk, St.purge, D.purges, D.purge]) (by simp [lessL]) rfl
 rintro k st ⟨i, rfl, hi6, hi, rfl⟩
 have hw := i64_succ (show i < 1000000000 by omega)
 by_cases hlt : i < l.length ∧ i < 9
 ·obtain ⟨x, hx⟩ := at_lt hlt.1
  have h1 : ((i : Int) < (l.length : Int)) = True := eq_true (by omega)
  have h2 : ((i : Int) < 9) = True := eq_true (by omega)
  apply run_cut
  ·intro K' hK
   simp only [go_sem, simprocAttr, h1, h2]
   exact hK
  apply run_cut
  ·intro K' hK
   rw [run_block]
   apply run_cut
   ·intro K'' hK'
    simp only [go_sem, simprocAttr, rows_get hx]
    repeat' (first | exact hK' | (refine (law1_Few x.name).callX (enters_of Tryz.func21 rfl rfl) _ rfl rfl ?_; rintro _ rfl; simp only [go_sem, simprocAttr, rows_get hx]) | refine And.intro ?_ ?_)
   simp only [go_sem, simprocAttr]
   refine loopS (fun k st => ∃ j : Nat, k = 9 - j ∧ j ≤ 9 ∧ j ≤ x.vals.length ∧
    st = ⟨[(0, .pd (.slice (rows ANeed.pd l))), (3, .own 116 3 (rows ANeed.pd ((l.take i).map fewNeed)) 60), (4, int i), (5, .ptr 5 0), (6, int j)],
     [(5, [int x.kind, str (few x.name), .own 9 1 (strs ((x.vals.take j).map few)) 55])], [], .no⟩) 9 _
    ?_ ⟨0, rfl, by omega, by omega, rfl⟩ ?_
   ·exact Weak.ownB 5 2 55 9 1 (by kernel_rfl) (by decide) rfl rfl (by simp [lessL, lk, St.purge, D.purge, rows]) (by simp [lessL, lk, St.purge, D.purges, D.purge, rows]) (by simp [lessL]) rfl
   rintro k st ⟨j, rfl, hj6, hj, rfl⟩
   have hwj := i64_succ (show j < 1000000000 by omega)
   by_cases hltj : j < x.vals.length ∧ j < 9
   ·obtain ⟨v, hv⟩ := at_lt hltj.1
    have h1' : ((j : Int) < (x.vals.length : Int)) = True := eq_true (by omega)
    have h2' : ((j : Int) < 9) = True := eq_true (by omega)
    simp only [go_sem, simprocAttr, rows_get hx, rows_get hv, h1', h2']
    refine (law1_Few v).callX (enters_of Tryz.func21 rfl rfl) _ rfl rfl ?_
    rintro d rfl
    simp only [go_sem, simprocAttr, rows_get hx, rows_get hv, hwj]
    have e1 : strs ((x.vals.take j).map few) ++ [[PD.raw (Value.string (few v))]] = strs ((x.vals.take (j + 1)).map few) := few_step hv
    have hl : (strs ((x.vals.take j).map few)).length ≤ 9 := few_len hj6
    have hl2 := hl
    rw [rows_len] at hl2
    rw [e1]
    refine ⟨by simp, by unfold maxLen; omega, by omega, 9 - (j + 1), _, by omega, ?_, j + 1, rfl, by omega, by omega, rfl⟩
    exact lessA
   ·have h3 := few_end (g := few) hj6 hj hltj
    rw [h3]
    have hl' : ((l.take i).map fewNeed).length ≤ i := by simp; omega
    have e1 : rows ANeed.pd ((l.take i).map fewNeed) ++ [[pInt x.kind, pStr (few x.name), .slice (strs ((x.vals.take 9).map few))]] = rows ANeed.pd ((l.take (i + 1)).map fewNeed) := few_step hx
    by_cases h1 : j < x.vals.length
    ·have h1' : ((j : Int) < (x.vals.length : Int)) = True := eq_true (by omega)
     have h2' : ((j : Int) < 9) = False := eq_false (by omega)
     simp only [go_sem, simprocAttr, rows_get hx, rows_len, h1', h2']
     refine ⟨by simp, by unfold maxLen; omega, by omega, ?_⟩
     rw [e1]
     exact hK
    ·have h1' : ((j : Int) < (x.vals.length : Int)) = False := eq_false (by omega)
     simp only [go_sem, simprocAttr, rows_get hx, rows_len, h1']
     refine ⟨by simp, by unfold maxLen; omega, by omega, ?_⟩
     rw [e1]
     exact hK
  simp only [go_sem, simprocAttr, hw]
  refine ⟨9 - (i + 1), _, by omega, ?_, i + 1, rfl, by omega, by omega, rfl⟩
  exact lessA
 ·have h3 := few_end (g := fewNeed) hi6 hi hlt
  rw [h3]
  by_cases h1 : i < l.length
  ·have h1' : ((i : Int) < (l.length : Int)) = True := eq_true (by omega)
   have h2 : ((i : Int) < 9) = False := eq_false (by omega)
   simp only [go_sem, simprocAttr, h1', h2]
   simp only [retK, resD, retL, oneD, simprocAttr, Tryz.results31]
   exact ⟨_, rfl, rfl, rfl⟩
  ·have h1' : ((i : Int) < (l.length : Int)) = False := eq_false (by omega)
   simp only [go_sem, simprocAttr, h1']
   simp only [retK, resD, retL, oneD, simprocAttr, Tryz.results31]
   exact ⟨_, rfl, rfl, rfl⟩


def nearR (r : ARef) (s : ByteArray) : ARef := if r.space = ⟨#[]⟩ ∧ 2 < r.kind then { r with space := s } else r

set_option maxHeartbeats 2000000 in
theorem add_own (r : ARef) (o : AObj) (L : List ARef) (hL : L.length ≤ 1000000) :
 Full Tryz.prog 59 [r.d, .ptr 1000001 0, .ptr 500003 0] [(1000001, o.ds), (500003, [.own 23 3 (rows ARef.pd L) 500001])] true
  (fun d bs => d = .tup [] ∧ bs = [(500003, [.own 23 3 (rows ARef.pd (L ++ [nearR r o.ref.space])) 19])]) := by
 refine full_of_run follows an_zvrbp Tryz.func59 rfl ok_zvrbp.1 ok_zvrbp.2 (by simp [Tryz.ntmps59]) (by simp [Tryz.ntmps59]) (.inl rfl) ?_
 rw [run_start]
 simp only [ac_zvrbp, go_sem, simprocAttr]
 refine GifP.mk (fun h1 => ?_) (fun h1 => ?_)
 ·refine GifP.mk (fun h2 => ?_) (fun h2 => ?_)
  ·have e : nearR r o.ref.space = ⟨r.kind, o.ref.space, r.name⟩ := by unfold nearR; rw [if_pos ⟨h1, h2⟩]
   rw [e]
   refine ⟨by simp, by unfold maxLen; omega, by omega, ?_⟩
   rw [show rows ARef.pd L ++ [[PD.raw (Value.int IntKind.i64 r.kind), PD.raw (Value.string o.ref.space), PD.raw (Value.string r.name)]] = rows ARef.pd (L ++ [⟨r.kind, o.ref.space, r.name⟩]) from rows_one L ⟨r.kind, o.ref.space, r.name⟩]
   simp only [retK, fullK, resD, retL, oneD, simprocAttr, Tryz.results59]
   exact ⟨_, _, rfl, by simp [lessL, lk], rfl, rfl⟩
  ·have e : nearR r o.ref.space = r := by unfold nearR; rw [if_neg (fun h => h2 h.2)]
   rw [e]
   refine ⟨by simp, by unfold maxLen; omega, by omega, ?_⟩
   rw [show rows ARef.pd L ++ [[PD.raw (Value.int IntKind.i64 r.kind), PD.raw (Value.string r.space), PD.raw (Value.string r.name)]] = rows ARef.pd (L ++ [r]) from rows_one L r]
   simp only [retK, fullK, resD, retL, oneD, simprocAttr, Tryz.results59]
   exact ⟨_, _, rfl, by simp [lessL, lk], rfl, rfl⟩
 ·have e : nearR r o.ref.space = r := by unfold nearR; rw [if_neg (fun h => h1 h.1)]
  rw [e]
  refine ⟨by simp, by unfold maxLen; omega, by omega, ?_⟩
  rw [show rows ARef.pd L ++ [[PD.raw (Value.int IntKind.i64 r.kind), PD.raw (Value.string r.space), PD.raw (Value.string r.name)]] = rows ARef.pd (L ++ [r]) from rows_one L r]
  simp only [retK, fullK, resD, retL, oneD, simprocAttr, Tryz.results59]
  exact ⟨_, _, rfl, by simp [lessL, lk], rfl, rfl⟩

set_option maxHeartbeats 2000000 in
theorem add_nil (r : ARef) (o : AObj) :
 Full Tryz.prog 59 [r.d, .ptr 1000001 0, .ptr 500003 0] [(1000001, o.ds), (500003, [.nils])] true
  (fun d bs => d = .tup [] ∧ bs = [(500003, [.own 23 3 (rows ARef.pd [nearR r o.ref.space]) 19])]) := by
 refine full_of_run follows an_zvrbp Tryz.func59 rfl ok_zvrbp.1 ok_zvrbp.2 (by simp [Tryz.ntmps59]) (by simp [Tryz.ntmps59]) (.inl rfl) ?_
 rw [run_start]
 simp only [ac_zvrbp, go_sem, simprocAttr]
 refine GifP.mk (fun h1 => ?_) (fun h1 => ?_)
 ·refine GifP.mk (fun h2 => ?_) (fun h2 => ?_)
  ·have e : nearR r o.ref.space = ⟨r.kind, o.ref.space, r.name⟩ := by unfold nearR; rw [if_pos ⟨h1, h2⟩]
   rw [e]
   refine ⟨by simp, by simp [maxLen], ?_⟩
   simp only [retK, fullK, resD, retL, oneD, simprocAttr, Tryz.results59]
   exact ⟨_, _, rfl, by simp [lessL, lk], rfl, rfl⟩
  ·have e : nearR r o.ref.space = r := by unfold nearR; rw [if_neg (fun h => h2 h.2)]
   rw [e]
   refine ⟨by simp, by simp [maxLen], ?_⟩
   simp only [retK, fullK, resD, retL, oneD, simprocAttr, Tryz.results59]
   exact ⟨_, _, rfl, by simp [lessL, lk], rfl, rfl⟩
 ·have e : nearR r o.ref.space = r := by unfold nearR; rw [if_neg (fun h => h1 h.1)]
  rw [e]
  refine ⟨by simp, by simp [maxLen], ?_⟩
  simp only [retK, fullK, resD, retL, oneD, simprocAttr, Tryz.results59]
  exact ⟨_, _, rfl, by simp [lessL, lk], rfl, rfl⟩

structure AObj.few (o : AObj) : Prop where
 li : o.listeners.length ≤ 100
 pa : o.parents.length ≤ 100
 ru : o.rules.length ≤ 100
 ba : ∀ r ∈ o.rules, r.backends.length ≤ 100

theorem fstep {α : Type} {p : α → Bool} {l : List α} {i : Nat} {x : α} (hx : l[i]? = some x) : (l.take (i + 1)).filter p = (l.take i).filter p ++ if p x = true then [x] else [] := by
 rw [take_at hx, List.filter_append]
 cases h : p x <;> simp [h]

def refsCls (o : AObj) : List ARef := if o.cls = ⟨#[]⟩ then [] else [nearR ⟨1, ⟨#[]⟩, o.cls⟩ o.ref.space]
def refsLis (s : ByteArray) (l : List AListener) : List ARef := (l.filter fun x => x.tls).map fun x => nearR x.cert s
def refsPar (s : ByteArray) (l : List AParent) : List ARef := l.map fun p => nearR ⟨5, p.space, p.name⟩ s
def refsBack (s : ByteArray) (l : List ABackend) : List ARef := l.map fun b => nearR b.ref s
def refsRul (s : ByteArray) (l : List ARule) : List ARef := l.flatMap fun r => refsBack s r.backends
def refsOwn (o : AObj) : List ARef := if o.ref.kind = 6 then [nearR ⟨2, ⟨#[]⟩, o.ref.space⟩ o.ref.space] else []
def refsList (o : AObj) : List ARef := refsCls o ++ refsLis o.ref.space o.listeners ++ refsPar o.ref.space o.parents ++ refsRul o.ref.space o.rules ++ refsOwn o

theorem refs_nil : refComp (refSort []) = [] := by simp [refSort, refComp, Lib.compact, Lib.compactUpTo]

def refsOf (o : AObj) : List ARef := if objMay o = true then refComp (refSort (refsList o)) else []

set_option maxHeartbeats 8000000 in
theorem object_Refs (o : AObj) (h : o.ok) (hf : o.few) : Pure Tryz.prog 17 [o.d] (fun d => d = .pd (.slice (rows ARef.pd (refsOf o)))) := by
 have hl1 := hf.li
 have hl2 := hf.pa
 have hl3 := hf.ru
 refine pure_of_run_solo follows an_znvpm Tryz.func17 rfl ok_znvpm.1 ok_znvpm.2 (by simp [Tryz.ntmps17]) ?_
 rw [run_start]
 simp only [ac_znvpm, go_sem, simprocAttr]
 refine (object_May o h).callW (enters_of Tryz.func11 rfl rfl) _ rfl rfl ?_
 rintro _ rfl
 unfold refsOf
 cases objMay o
 ·simp only [go_sem, simprocAttr]
  simp only [retK, resD, retL, oneD, simprocAttr, Tryz.results17]
  exact ⟨_, rfl, rfl, rfl⟩
 rw [if_pos rfl]
 obtain ⟨A, hA⟩ : ∃ A, A = refsCls o := ⟨_, rfl⟩
 have hAl : A.length ≤ 1 := by rw [hA]; unfold refsCls; split <;> simp
 by_cases hc : o.cls = ⟨#[]⟩
 case' pos =>
  have hc' := eq_true hc
  have hA0 : A = [] := by rw [hA]; unfold refsCls; rw [if_pos hc]
  simp only [go_sem, simprocAttr, hc', rows_len]
 case' neg =>
  have hc' := eq_false hc
  have hA0 : A = [nearR ⟨1, ⟨#[]⟩, o.cls⟩ o.ref.space] := by rw [hA]; unfold refsCls; rw [if_neg hc]
  simp only [go_sem, simprocAttr, hc']
  refine (add_nil ⟨1, ⟨#[]⟩, o.cls⟩ o).callW (enters_of Tryz.func59 rfl rfl) _ true [(1, 1000001), (3, 500003)] [] [] [(19, 27)] rfl rfl rfl ?_
  rintro d bs ⟨rfl, rfl⟩
  simp only [go_sem, simprocAttr]
 all_goals
  refine loopS (fun k st => ∃ (i : Nat) (L : List ARef), k = o.listeners.length - i ∧ i ≤ o.listeners.length ∧ L = A ++ refsLis o.ref.space (o.listeners.take i) ∧ L.length ≤ 1 + i ∧
   st = ⟨[(1, .ptr 1 0), (3, .ptr 3 0), (4, .fn 59 [(1, 0), (3, 0)]), (26, .pd (.slice (rows AListener.pd o.listeners))), (27, int o.listeners.length), (28, int i)], [(1, o.ds), (3, [.own 23 3 (rows ARef.pd L) 27])], [], .solo⟩) o.listeners.length _ ?_ ⟨0, A, rfl, by omega, by simp [refsLis], by omega, rfl⟩ ?_
  ·rw [hA0]
   first
    | exact Weak.ownB 3 0 27 23 3 (by kernel_rfl) (by decide) rfl rfl (by simp [lessL, lk, St.purge, D.purge, rows]) (by simp [lessL, lk, St.purge, D.purges, D.purge, rows]) (by simp [lessL]) rfl
    | exact Weak.less (by simp [lessL, lk]) (by simp [lessL, lk, rows]) (by simp [lessL, lk]) rfl
  rintro k st ⟨i, L, rfl, hi, hL, hLl, rfl⟩
  have hw := i64_succ (show i < 1000000000 by omega)
  by_cases hlt : i < o.listeners.length
  ·obtain ⟨x, hx⟩ := at_lt hlt
   have h1 : ((i : Int) < (o.listeners.length : Int)) = True := eq_true (by omega)
   have hfs := fstep (p := fun x : AListener => x.tls) hx
   cases ht : x.tls
   ·have hL' : L = A ++ refsLis o.ref.space (o.listeners.take (i + 1)) := by rw [hL]; unfold refsLis; rw [hfs, ht, if_neg (by simp), List.append_nil]
    simp only [go_sem, simprocAttr, rows_get hx, h1, ht, hw]
    refine ⟨o.listeners.length - (i + 1), _, by omega, ?_, i + 1, L, rfl, by omega, hL', by omega, rfl⟩
    exact lessA
   ·have hL' : L ++ [nearR x.cert o.ref.space] = A ++ refsLis o.ref.space (o.listeners.take (i + 1)) := by rw [hL]; unfold refsLis; rw [hfs, ht, if_pos rfl, List.map_append, List.append_assoc]; rfl
    simp only [go_sem, simprocAttr, rows_get hx, h1, ht]
    refine (add_own x.cert o L (by omega)).callW (enters_of Tryz.func59 rfl rfl) _ false [(1, 1000001), (3, 500003)] [(27, 500001)] [] [(19, 27)] rfl rfl rfl ?_
    rintro d bs ⟨rfl, rfl⟩
    simp only [go_sem, simprocAttr, hw]
    refine ⟨o.listeners.length - (i + 1), _, by omega, ?_, i + 1, _, rfl, by omega, hL', by simp; omega, rfl⟩
    exact lessA
  have h1 : ((i : Int) < (o.listeners.length : Int)) = False := eq_false (by omega)
  rw [List.take_of_length_le (by omega)] at hL
  obtain ⟨B, hB⟩ : ∃ B, B = L := ⟨_, rfl⟩
  rw [← hB] at hL hLl ⊢
  clear hB L
  have hBe := hL
  have hBl := hLl
  clear hL hLl
  simp only [go_sem, simprocAttr, h1]
  refine loopS (fun k st => ∃ (i : Nat) (L : List ARef), k = o.parents.length - i ∧ i ≤ o.parents.length ∧ L = B ++ refsPar o.ref.space (o.parents.take i) ∧ L.length ≤ 101 + i ∧
   st = ⟨[(1, .ptr 1 0), (3, .ptr 3 0), (4, .fn 59 [(1, 0), (3, 0)]), (40, .pd (.slice (rows AParent.pd o.parents))), (41, int o.parents.length), (42, int i)], [(1, o.ds), (3, [.own 23 3 (rows ARef.pd L) 27])], [], .solo⟩) o.parents.length _ ?_ ⟨0, B, rfl, by omega, by simp [refsPar], by omega, rfl⟩ ?_
  ·exact lessA
  rintro k st ⟨i, L, rfl, hi, hL, hLl, rfl⟩
  have hw := i64_succ (show i < 1000000000 by omega)
  by_cases hlt : i < o.parents.length
  ·obtain ⟨x, hx⟩ := at_lt hlt
   have h1 : ((i : Int) < (o.parents.length : Int)) = True := eq_true (by omega)
   have hL' : L ++ [nearR ⟨5, x.space, x.name⟩ o.ref.space] = B ++ refsPar o.ref.space (o.parents.take (i + 1)) := by rw [hL]; unfold refsPar; rw [take_at hx, List.map_append, List.append_assoc]; rfl
   simp only [go_sem, simprocAttr, rows_get hx, h1]
   refine (add_own ⟨5, x.space, x.name⟩ o L (by omega)).callW (enters_of Tryz.func59 rfl rfl) _ false [(1, 1000001), (3, 500003)] [(27, 500001)] [] [(19, 27)] rfl rfl rfl ?_
   rintro d bs ⟨rfl, rfl⟩
   simp only [go_sem, simprocAttr, hw]
   refine ⟨o.parents.length - (i + 1), _, by omega, ?_, i + 1, _, rfl, by omega, hL', by simp; omega, rfl⟩
   exact lessA
  have h1 : ((i : Int) < (o.parents.length : Int)) = False := eq_false (by omega)
  rw [List.take_of_length_le (by omega)] at hL
  obtain ⟨C, hC⟩ : ∃ C, C = L := ⟨_, rfl⟩
  rw [← hC] at hL hLl ⊢
  clear hC L
  have hCe := hL
  have hCl := hLl
  clear hL hLl
  simp only [go_sem, simprocAttr, h1]
  refine loopS (fun k st => ∃ (i : Nat) (L : List ARef), k = o.rules.length - i ∧ i ≤ o.rules.length ∧ L = C ++ refsRul o.ref.space (o.rules.take i) ∧ L.length ≤ 201 + i * 100 ∧
   st = ⟨[(1, .ptr 1 0), (3, .ptr 3 0), (4, .fn 59 [(1, 0), (3, 0)]), (55, .pd (.slice (rows ARule.pd o.rules))), (56, int o.rules.length), (57, int i)], [(1, o.ds), (3, [.own 23 3 (rows ARef.pd L) 27])], [], .solo⟩) o.rules.length _ ?_ ⟨0, C, rfl, by omega, by simp [refsRul], by omega, rfl⟩ ?_
  ·exact lessA
  rintro k st ⟨i, L, rfl, hi, hL, hLl, rfl⟩
  have hw := i64_succ (show i < 1000000000 by omega)
  by_cases hlt : i < o.rules.length
  ·obtain ⟨x, hx⟩ := at_lt hlt
   have h1 : ((i : Int) < (o.rules.length : Int)) = True := eq_true (by omega)
   have hb := hf.ba x (List.mem_of_getElem? hx)
   have hL' : L ++ refsBack o.ref.space x.backends = C ++ refsRul o.ref.space (o.rules.take (i + 1)) := by rw [hL]; unfold refsRul; rw [take_at hx, List.flatMap_append, List.append_assoc]; simp
   simp only [go_sem, simprocAttr, rows_get hx, h1]
   refine loopS (fun k st => ∃ (j : Nat) (M : List ARef), k = x.backends.length - j ∧ j ≤ x.backends.length ∧ M = L ++ refsBack o.ref.space (x.backends.take j) ∧ M.length ≤ 201 + i * 100 + j ∧
    st = ⟨[(1, .ptr 1 0), (3, .ptr 3 0), (4, .fn 59 [(1, 0), (3, 0)]), (55, .pd (.slice (rows ARule.pd o.rules))), (56, int o.rules.length), (57, int i), (62, .pd (.slice (rows ABackend.pd x.backends))), (63, int x.backends.length), (64, int j)], [(1, o.ds), (3, [.own 23 3 (rows ARef.pd M) 27])], [], .solo⟩) x.backends.length _ ?_ ⟨0, L, rfl, by omega, by simp [refsBack], by omega, rfl⟩ ?_
   ·exact lessA
   rintro k st ⟨j, M, rfl, hj, hM, hMl, rfl⟩
   have hwj := i64_succ (show j < 1000000000 by omega)
   by_cases hjl : j < x.backends.length
   ·obtain ⟨y, hy⟩ := at_lt hjl
    have h2 : ((j : Int) < (x.backends.length : Int)) = True := eq_true (by omega)
    have hM' : M ++ [nearR y.ref o.ref.space] = L ++ refsBack o.ref.space (x.backends.take (j + 1)) := by rw [hM]; unfold refsBack; rw [take_at hy, List.map_append, List.append_assoc]; rfl
    simp only [go_sem, simprocAttr, rows_get hy, h2]
    refine (add_own y.ref o M (by omega)).callW (enters_of Tryz.func59 rfl rfl) _ false [(1, 1000001), (3, 500003)] [(27, 500001)] [] [(19, 27)] rfl rfl rfl ?_
    rintro d bs ⟨rfl, rfl⟩
    simp only [go_sem, simprocAttr, hwj]
    refine ⟨x.backends.length - (j + 1), _, by omega, ?_, j + 1, _, rfl, by omega, hM', by simp; omega, rfl⟩
    exact lessA
   have h2 : ((j : Int) < (x.backends.length : Int)) = False := eq_false (by omega)
   rw [List.take_of_length_le (by omega)] at hM
   simp only [go_sem, simprocAttr, h2, hw]
   refine ⟨o.rules.length - (i + 1), _, by omega, ?_, i + 1, M, rfl, by omega, hM.trans hL', by omega, rfl⟩
   exact lessA
  have h1 : ((i : Int) < (o.rules.length : Int)) = False := eq_false (by omega)
  rw [List.take_of_length_le (by omega)] at hL
  by_cases h6 : o.ref.kind = 6
  case' pos =>
   have h6' := eq_true h6
   simp only [go_sem, simprocAttr, h1, h6']
   refine (add_own ⟨2, ⟨#[]⟩, o.ref.space⟩ o L (by omega)).callW (enters_of Tryz.func59 rfl rfl) _ false [(1, 1000001), (3, 500003)] [(27, 500001)] [] [(19, 27)] rfl rfl rfl ?_
   rintro d bs ⟨rfl, rfl⟩
   have hall : refsList o = L ++ [nearR ⟨2, ⟨#[]⟩, o.ref.space⟩ o.ref.space] := by unfold refsList refsOwn; rw [if_pos h6, hL, hCe, hBe, hA]
   have hlen : (L ++ [nearR ⟨2, ⟨#[]⟩, o.ref.space⟩ o.ref.space]).length ≤ 1000000 := by simp; omega
   generalize L ++ [nearR ⟨2, ⟨#[]⟩, o.ref.space⟩ o.ref.space] = M at hall hlen ⊢
   simp only [go_sem, simprocAttr]
  case' neg =>
   have h6' := eq_false h6
   have hall : refsList o = L := by unfold refsList refsOwn; rw [if_neg h6, List.append_nil, hL, hCe, hBe, hA]
   have hlen : L.length ≤ 1000000 := by omega
   generalize L = M at hall hlen ⊢
   simp only [go_sem, simprocAttr, h1, h6']
  all_goals
   rw [hall]
   by_cases hM : M = []
   ·subst hM
    refine sort_none ?_
    simp only [go_sem, simprocAttr]
    refine compact_none ?_
    simp only [go_sem, simprocAttr]
    simp only [retK, resD, retL, oneD, simprocAttr, Tryz.results17]
    exact ⟨_, rfl, rfl, by rw [refs_nil]; rfl⟩
   ·have hs : (refSort M).length = M.length := List.length_mergeSort _
    have hM' : refSort M ≠ [] := fun e => hM (List.length_eq_zero_iff.1 (by rw [← hs, e]; rfl))
    refine sort_effect hM hlen rfl ?_
    simp only [updG, updB, List.map_cons, List.map_nil, updR, if_true, go_sem, simprocAttr]
    refine compact_effect hM' (by omega) rfl (fun q => ?_)
    simp only [updG, updB, List.map_cons, List.map_nil, updR, if_true, go_sem, simprocAttr]
    simp only [retK, resD, retL, oneD, simprocAttr, Tryz.results17]
    exact ⟨_, rfl, rfl, rfl⟩


def keyMay (s n : ByteArray) : Bool := (decide (s = ⟨#[]⟩) || label s) && dname n
def keyOf (s n : ByteArray) : ByteArray := s ++ ⟨#[47]⟩ ++ n

theorem dns_Key (s n : ByteArray) : Pure Tryz.prog 67 [str s, str n] (fun d => d = if keyMay s n = true then .tup [str (keyOf s n), int 0] else .tup [str ⟨#[]⟩, int 1]) := by
 refine pure_of_run follows an_z77de Tryz.func67 rfl ok_z77de.1 ok_z77de.2 (by simp [Tryz.ntmps67]) ?_
 rw [run_start]
 by_cases h : keyMay s n = true
 ·rw [if_pos h]
  simp only [keyMay, Bool.and_eq_true, Bool.or_eq_true, decide_eq_true_eq] at h
  obtain ⟨h1, h2⟩ := h
  have z1 : s.size ≤ 20 := by
   rcases h1 with rfl | h1
   ·decide
   ·exact ((label_iff s).1 h1).2.1
  have z2 : n.size ≤ 60 := by
   simp only [dname, Bool.and_eq_true, decide_eq_true_eq] at h2
   exact h2.1
  have c1 : (s.size + #[(47 : UInt8)].size ≤ 9223372036854775807) = True := eq_true (by have : #[(47 : UInt8)].size = 1 := rfl; omega)
  have c2 : (s.size + #[(47 : UInt8)].size + n.size ≤ 9223372036854775807) = True := eq_true (by have : #[(47 : UInt8)].size = 1 := rfl; omega)
  have cN := dns_Name n
  rw [h2] at cN
  by_cases hs : s = ⟨#[]⟩
  ·have hs' := eq_true hs
   simp only [ac_z77de, go_sem, simprocAttr, hs']
   refine cN.callW (enters_of Tryz.func70 rfl rfl) _ rfl rfl ?_
   rintro _ rfl
   simp only [go_sem, simprocAttr, c1, c2]
   simp only [retK, resD, retL, oneD, simprocAttr, Tryz.results67]
   exact ⟨_, rfl, rfl, rfl⟩
  ·have hs' := eq_false hs
   have cL := dns_Label s
   rw [h1.resolve_left hs] at cL
   simp only [ac_z77de, go_sem, simprocAttr, hs']
   refine cL.callW (enters_of Tryz.func71 rfl rfl) _ rfl rfl ?_
   rintro _ rfl
   simp only [go_sem, simprocAttr]
   refine cN.callW (enters_of Tryz.func70 rfl rfl) _ rfl rfl ?_
   rintro _ rfl
   simp only [go_sem, simprocAttr, c1, c2]
   simp only [retK, resD, retL, oneD, simprocAttr, Tryz.results67]
   exact ⟨_, rfl, rfl, rfl⟩
 ·rw [if_neg h]
  have cN := dns_Name n
  have cL := dns_Label s
  by_cases hs : s = ⟨#[]⟩
  ·have hs' := eq_true hs
   have hn : dname n = false := by simpa [keyMay, hs] using h
   rw [hn] at cN
   simp only [ac_z77de, go_sem, simprocAttr, hs']
   refine cN.callW (enters_of Tryz.func70 rfl rfl) _ rfl rfl ?_
   rintro _ rfl
   simp only [go_sem, simprocAttr]
   simp only [retK, resD, retL, oneD, simprocAttr, Tryz.results67]
   exact ⟨_, rfl, rfl, rfl⟩
  ·have hs' := eq_false hs
   simp only [ac_z77de, go_sem, simprocAttr, hs']
   refine cL.callW (enters_of Tryz.func71 rfl rfl) _ rfl rfl ?_
   rintro _ rfl
   cases hl : label s
   ·simp only [go_sem, simprocAttr]
    simp only [retK, resD, retL, oneD, simprocAttr, Tryz.results67]
    exact ⟨_, rfl, rfl, rfl⟩
   ·have hn : dname n = false := by simpa [keyMay, hs, hl] using h
    rw [hn] at cN
    simp only [go_sem, simprocAttr]
    refine cN.callW (enters_of Tryz.func70 rfl rfl) _ rfl rfl ?_
    rintro _ rfl
    simp only [go_sem, simprocAttr]
    simp only [retK, resD, retL, oneD, simprocAttr, Tryz.results67]
    exact ⟨_, rfl, rfl, rfl⟩

theorem index_none {c : UInt8} : ∀ {l : List UInt8}, c ∉ l → Lib.indexByte l c < 0
 | [], _ => by show (-1 : Int) < 0; decide
 | b :: l, h => by
   have h1 : ¬ b = c := fun e => h (by rw [e]; exact List.mem_cons_self)
   have h2 := index_none (l := l) (fun e => h (List.mem_cons_of_mem _ e))
   have h3 := Lib.indexByte_ge l c
   unfold Lib.indexByte
   simp [h1]
   omega

theorem label_name {s : ByteArray} (h : label s = true) : dname s = true := by
 obtain ⟨h1, h2, h3⟩ := (label_iff s).1 h
 have hn : (46 : UInt8) ∉ s.data.toList := fun hm => by
  obtain ⟨j, hj⟩ := List.mem_iff_getElem?.1 hm
  have := h3 j 46 (by rw [bytes_get]; exact hj)
  unfold labAt at this
  simp at this
 simp only [dname, Bool.and_eq_true, decide_eq_true_eq]
 refine ⟨by omega, ?_⟩
 rw [splitB_end (index_none hn)]
 simp [h]

theorem may_key {r : ARef} (h : mayRef r = true) : keyMay r.space r.name = true := by
 simp only [keyMay, Bool.and_eq_true, Bool.or_eq_true, decide_eq_true_eq]
 unfold mayRef at h
 split at h
 ·simp only [Bool.and_eq_true, decide_eq_true_eq] at h
  exact ⟨.inl h.1, h.2⟩
 ·split at h
  ·simp only [Bool.and_eq_true, decide_eq_true_eq] at h
   exact ⟨.inl h.1, label_name h.2⟩
  ·simp only [Bool.and_eq_true] at h
   exact ⟨.inr h.1.2, h.2⟩

def textOf (r : ARef) : ByteArray := ⟨#[UInt8.ofNat (48 + r.kind.toNat)]⟩ ++ ⟨#[32]⟩ ++ keyOf r.space r.name

set_option maxHeartbeats 4000000 in
theorem object_Text (r : ARef) : Pure Tryz.prog 22 [r.d] (fun d => d = if mayRef r = true then .tup [str (textOf r), int 0] else .tup [str ⟨#[]⟩, int 1]) := by
 refine pure_of_run follows an_zngfe Tryz.func22 rfl ok_zngfe.1 ok_zngfe.2 (by simp [Tryz.ntmps22]) ?_
 rw [run_start]
 simp only [ac_zngfe, go_sem, simprocAttr]
 refine (object_MayRef r).callW (enters_of Tryz.func25 rfl rfl) _ rfl rfl ?_
 rintro _ rfl
 cases hm : mayRef r
 ·simp only [go_sem, simprocAttr]
  simp only [retK, resD, retL, oneD, simprocAttr, Tryz.results22]
  exact ⟨_, rfl, rfl, rfl⟩
 rw [if_pos rfl]
 have cK := dns_Key r.space r.name
 rw [if_pos (may_key hm)] at cK
 have hk := may_key hm
 simp only [keyMay, Bool.and_eq_true, Bool.or_eq_true, decide_eq_true_eq] at hk
 have z1 : r.space.size ≤ 20 := by
  rcases hk.1 with h1 | h1
  ·rw [h1]; decide
  ·exact ((label_iff _).1 h1).2.1
 have z2 : r.name.size ≤ 60 := by
  have := hk.2
  simp only [dname, Bool.and_eq_true, decide_eq_true_eq] at this
  exact this.1
 have z3 : (keyOf r.space r.name).size ≤ 81 := by
  have : (ByteArray.mk #[47]).size = 1 := rfl
  unfold keyOf
  rw [ByteArray.size_append, ByteArray.size_append]
  omega
 generalize hkey : keyOf r.space r.name = key at cK z3
 simp only [go_sem, simprocAttr]
 refine cK.callW (enters_of Tryz.func67 rfl rfl) _ rfl rfl ?_
 rintro _ rfl
 simp only [go_sem, simprocAttr]
 have hw : IntKind.i64.wrap (48 + r.kind) = 48 + r.kind := IntWalk.i64_in _ (by have := mayRef_kind hm; omega)
 have hw2 : IntKind.u8.wrap (48 + r.kind) = ((UInt8.ofNat (48 + r.kind.toNat)).toNat : Int) := by
  rcases mayRef_kind hm with e | e | e | e | e | e | e <;> rw [e] <;> decide
 have hb : octStr [((UInt8.ofNat (48 + r.kind.toNat)).toNat : Int)] = ⟨#[UInt8.ofNat (48 + r.kind.toNat)]⟩ := by
  rcases mayRef_kind hm with e | e | e | e | e | e | e <;> rw [e] <;> decide
 rw [hw, hw2, hb]
 have ht : textOf r = ⟨#[UInt8.ofNat (48 + r.kind.toNat)]⟩ ++ ⟨#[32]⟩ ++ key := by unfold textOf; rw [hkey]
 rw [ht]
 generalize UInt8.ofNat (48 + r.kind.toNat) = b
 have e1 : #[b].size = 1 := rfl
 have e2 : #[(32 : UInt8)].size = 1 := rfl
 have d1 : (#[b].size + #[(32 : UInt8)].size ≤ 9223372036854775807) = True := eq_true (by omega)
 have d2 : (#[b].size + #[(32 : UInt8)].size + key.size ≤ 9223372036854775807) = True := eq_true (by omega)
 simp only [go_sem, simprocAttr, d1, d2]
 simp only [retK, resD, retL, oneD, simprocAttr, Tryz.results22]
 exact ⟨_, rfl, rfl, rfl⟩


theorem run_cutJ {P : Program} {x y : AC} {st : St} {S : List Fr} {K : Exit → St → Prop} (J : St → Prop) (h1 : ∀ K' : Exit → St → Prop, (∀ s, J s → K' .normal s) → run P x st (contS P [] K')) (h2 : ∀ s, J s → run P y s (contS P S K)) : run P (.seq x y) st (contS P S K) := by
 rw [run_seq]; exact h1 (contS P (.seq y :: S) K) h2

def fewListener (l : AListener) : AListener := ⟨few l.name, l.port, l.tls, few l.host, fewRef l.cert, l.from_, fewNeeds l.needs⟩
def fewParent (p : AParent) : AParent := ⟨few p.space, few p.name, few p.section_, p.port⟩
def fewBackend (b : ABackend) : ABackend := ⟨fewRef b.ref, b.port, b.weight⟩
def fewRule (r : ARule) : ARule := ⟨(r.matches_.take 5).map fewMatch, fewFilters r.filters, (r.backends.take 5).map fewBackend⟩
def fewObj (o : AObj) : AObj := ⟨fewRef o.ref, o.good, fewPairs o.labels, o.ports.take 9, few o.cls, (o.listeners.take 9).map fewListener, (o.parents.take 5).map fewParent, (o.hosts.take 5).map few, (o.rules.take 7).map fewRule, fewSides o.from_, fewSides o.to_⟩

set_option maxHeartbeats 4000000 in
theorem law9_Few (o : AObj) : Pure Tryz.prog 10 [o.d] (fun d => d = (fewObj o).d) := by
 refine pure_of_run follows an_z8s55 Tryz.func10 rfl ok_z8s55.1 ok_z8s55.2 (by simp [Tryz.ntmps10]) ?_
 rw [run_start]
 simp only [ac_z8s55]
 apply run_cut
 ·intro K' hK
  simp only [go_sem, simprocAttr]
  exact hK
 apply run_cut
 ·intro K' hK
  simp only [go_sem, simprocAttr]
  repeat' (first | exact hK | (refine (law9_FewRef o.ref).callX (enters_of Tryz.func19 rfl rfl) _ rfl rfl ?_; rintro _ rfl; simp only [go_sem, simprocAttr]) | (refine (law5_Few o.labels).callX (enters_of Tryz.func29 rfl rfl) _ rfl rfl ?_; rintro _ rfl; simp only [go_sem, simprocAttr]) | (refine (law1_Few o.cls).callX (enters_of Tryz.func21 rfl rfl) _ rfl rfl ?_; rintro _ rfl; simp only [go_sem, simprocAttr]) | (refine (law9_sides o.from_).callX (enters_of Tryz.func30 rfl rfl) _ rfl rfl ?_; rintro _ rfl; simp only [go_sem, simprocAttr]) | (refine (law9_sides o.to_).callX (enters_of Tryz.func30 rfl rfl) _ rfl rfl ?_; rintro _ rfl; simp only [go_sem, simprocAttr]) | refine And.intro ?_ ?_)
 refine run_cutJ (fun s => ∃ i : Nat, s = ⟨[(41, bln false), (1, .ptr 1 0), (2, .ptr 2 0), (3, .ptr 3 0), (4, int i), (41, bln false)], [(1, [int o.ref.kind, str o.ref.space, str o.ref.name, bln o.good, .pd (.slice (rows APair.pd o.labels)), .pd (.slice (ints o.ports)), str o.cls, .pd (.slice (rows AListener.pd o.listeners)), .pd (.slice (rows AParent.pd o.parents)), .pd (.slice (strs o.hosts)), .pd (.slice (rows ARule.pd o.rules)), .pd (.slice (rows ASide.pd o.from_)), .pd (.slice (rows ASide.pd o.to_))]), (2, [int 0, str ⟨#[]⟩, str ⟨#[]⟩, bln false, .nils, .nils, str ⟨#[]⟩, .nils, .nils, .nils, .nils, .nils, .nils]), (3, [int (fewRef o.ref).kind, str (fewRef o.ref).space, str (fewRef o.ref).name, bln o.good, .pd (.slice (rows APair.pd (fewPairs o.labels))), .own 3 1 (rows cInt ((o.ports.take 9).map id)) 52, str (few o.cls), .nils, .nils, .nils, .nils, .pd (.slice (rows ASide.pd (fewSides o.from_))), .pd (.slice (rows ASide.pd (fewSides o.to_)))])], [], .no⟩) ?_ ?_
 ·intro K' hK
  simp only [go_sem, simprocAttr]
  refine loopS (fun k st => ∃ i : Nat, k = 9 - i ∧ i ≤ 9 ∧ i ≤ o.ports.length ∧
   st = ⟨[(1, .ptr 1 0), (2, .ptr 2 0), (3, .ptr 3 0), (4, int i)], [(1, [int o.ref.kind, str o.ref.space, str o.ref.name, bln o.good, .pd (.slice (rows APair.pd o.labels)), .pd (.slice (ints o.ports)), str o.cls, .pd (.slice (rows AListener.pd o.listeners)), .pd (.slice (rows AParent.pd o.parents)), .pd (.slice (strs o.hosts)), .pd (.slice (rows ARule.pd o.rules)), .pd (.slice (rows ASide.pd o.from_)), .pd (.slice (rows ASide.pd o.to_))]), (2, [int 0, str ⟨#[]⟩, str ⟨#[]⟩, bln false, .nils, .nils, str ⟨#[]⟩, .nils, .nils, .nils, .nils, .nils, .nils]), (3, [int (fewRef o.ref).kind, str (fewRef o.ref).space, str (fewRef o.ref).name, bln o.good, .pd (.slice (rows APair.pd (fewPairs o.labels))), .own 3 1 (rows cInt ((o.ports.take i).map id)) 52, str (few o.cls), .nils, .nils, .nils, .nils, .pd (.slice (rows ASide.pd (fewSides o.from_))), .pd (.slice (rows ASide.pd (fewSides o.to_)))])], [], .no⟩) 9 _
   ?_ ⟨0, rfl, by omega, by omega, rfl⟩ ?_
  ·exact Weak.ownB 3 5 52 3 1 (by kernel_rfl) (by decide) rfl rfl (by simp [lessL, lk, St.purge, D.purge, rows]) (by simp [lessL, lk, St.purge, D.purges, D.purge, rows]) (by simp [lessL]) rfl
  rintro k st ⟨i, rfl, hi6, hi, rfl⟩
  have hw := i64_succ (show i < 1000000000 by omega)
  by_cases hlt : i < o.ports.length ∧ i < 9
  ·obtain ⟨x, hx⟩ := at_lt hlt.1
   have h1 : ((i : Int) < (o.ports.length : Int)) = True := eq_true (by omega)
   have h2 : ((i : Int) < 9) = True := eq_true (by omega)
   have hl' : ((o.ports.take i).map id).length ≤ i := by simp; omega
   have e1 : rows cInt ((o.ports.take i).map id) ++ [[PD.raw (Value.int IntKind.i64 x)]] = rows cInt ((o.ports.take (i + 1)).map id) := few_step hx
   simp only [go_sem, simprocAttr, rows_get hx, h1, h2]
   simp only [go_sem, simprocAttr, hw, e1]
   refine ⟨by simp, by unfold maxLen; omega, by omega, 9 - (i + 1), _, by omega, ?_, i + 1, rfl, by omega, by omega, rfl⟩
   exact lessA
  ·have h3 := few_end (g := id) hi6 hi hlt
   rw [h3]
   by_cases h1 : i < o.ports.length
   ·have h1' : ((i : Int) < (o.ports.length : Int)) = True := eq_true (by omega)
    have h2 : ((i : Int) < 9) = False := eq_false (by omega)
    simp only [go_sem, simprocAttr, h1', h2]
    exact hK _ ⟨i, rfl⟩
   ·have h1' : ((i : Int) < (o.ports.length : Int)) = False := eq_false (by omega)
    simp only [go_sem, simprocAttr, h1']
    exact hK _ ⟨i, rfl⟩
 rintro s ⟨_, rfl⟩
 refine run_cutJ (fun s => ∃ i : Nat, s = ⟨[(62, bln false), (1, .ptr 1 0), (2, .ptr 2 0), (3, .ptr 3 0), (5, int i), (62, bln false)], [(1, [int o.ref.kind, str o.ref.space, str o.ref.name, bln o.good, .pd (.slice (rows APair.pd o.labels)), .pd (.slice (ints o.ports)), str o.cls, .pd (.slice (rows AListener.pd o.listeners)), .pd (.slice (rows AParent.pd o.parents)), .pd (.slice (strs o.hosts)), .pd (.slice (rows ARule.pd o.rules)), .pd (.slice (rows ASide.pd o.from_)), .pd (.slice (rows ASide.pd o.to_))]), (2, [int 0, str ⟨#[]⟩, str ⟨#[]⟩, bln false, .nils, .nils, str ⟨#[]⟩, .nils, .nils, .nils, .nils, .nils, .nils]), (3, [int (fewRef o.ref).kind, str (fewRef o.ref).space, str (fewRef o.ref).name, bln o.good, .pd (.slice (rows APair.pd (fewPairs o.labels))), .own 3 1 (rows cInt ((o.ports.take 9).map id)) 52, str (few o.cls), .own 71 9 (rows AListener.pd ((o.listeners.take 9).map fewListener)) 92, .nils, .nils, .nils, .pd (.slice (rows ASide.pd (fewSides o.from_))), .pd (.slice (rows ASide.pd (fewSides o.to_)))])], [], .no⟩) ?_ ?_
 ·intro K' hK
  simp only [go_sem, simprocAttr]
  refine loopS (fun k st => ∃ i : Nat, k = 9 - i ∧ i ≤ 9 ∧ i ≤ o.listeners.length ∧
   st = ⟨[(1, .ptr 1 0), (2, .ptr 2 0), (3, .ptr 3 0), (5, int i)], [(1, [int o.ref.kind, str o.ref.space, str o.ref.name, bln o.good, .pd (.slice (rows APair.pd o.labels)), .pd (.slice (ints o.ports)), str o.cls, .pd (.slice (rows AListener.pd o.listeners)), .pd (.slice (rows AParent.pd o.parents)), .pd (.slice (strs o.hosts)), .pd (.slice (rows ARule.pd o.rules)), .pd (.slice (rows ASide.pd o.from_)), .pd (.slice (rows ASide.pd o.to_))]), (2, [int 0, str ⟨#[]⟩, str ⟨#[]⟩, bln false, .nils, .nils, str ⟨#[]⟩, .nils, .nils, .nils, .nils, .nils, .nils]), (3, [int (fewRef o.ref).kind, str (fewRef o.ref).space, str (fewRef o.ref).name, bln o.good, .pd (.slice (rows APair.pd (fewPairs o.labels))), .own 3 1 (rows cInt ((o.ports.take 9).map id)) 52, str (few o.cls), .own 71 9 (rows AListener.pd ((o.listeners.take i).map fewListener)) 92, .nils, .nils, .nils, .pd (.slice (rows ASide.pd (fewSides o.from_))), .pd (.slice (rows ASide.pd (fewSides o.to_)))])], [], .no⟩) 9 _
   ?_ ⟨0, rfl, by omega, by omega, rfl⟩ ?_
  ·exact Weak.ownB 3 7 92 71 9 (by kernel_rfl) (by decide) rfl rfl (by simp [lessL, lk, St.purge, D.purge, rows]) (by simp [lessL, lk, St.purge, D.purges, D.purge, rows]) (by simp [lessL]) rfl
  rintro k st ⟨i, rfl, hi6, hi, rfl⟩
  have hw := i64_succ (show i < 1000000000 by omega)
  by_cases hlt : i < o.listeners.length ∧ i < 9
  ·obtain ⟨x, hx⟩ := at_lt hlt.1
   have h1 : ((i : Int) < (o.listeners.length : Int)) = True := eq_true (by omega)
   have h2 : ((i : Int) < 9) = True := eq_true (by omega)
   have hl' : ((o.listeners.take i).map fewListener).length ≤ i := by simp; omega
   have e1 : rows AListener.pd ((o.listeners.take i).map fewListener) ++ [[PD.raw (Value.string (few x.name)), PD.raw (Value.int IntKind.i64 x.port), PD.raw (Value.bool x.tls), PD.raw (Value.string (few x.host)), PD.raw (Value.int IntKind.i64 (fewRef x.cert).kind), PD.raw (Value.string ((fewRef x.cert).space)), PD.raw (Value.string ((fewRef x.cert).name)), PD.raw (Value.int IntKind.i64 x.from_), PD.slice (rows ANeed.pd (fewNeeds x.needs))]] = rows AListener.pd ((o.listeners.take (i + 1)).map fewListener) := few_step hx
   simp only [go_sem, simprocAttr, rows_get hx, h1, h2]
   repeat' (first | (refine (law1_Few x.name).callX (enters_of Tryz.func21 rfl rfl) _ rfl rfl ?_; rintro _ rfl; simp only [go_sem, simprocAttr, rows_get hx]) | (refine (law1_Few x.host).callX (enters_of Tryz.func21 rfl rfl) _ rfl rfl ?_; rintro _ rfl; simp only [go_sem, simprocAttr, rows_get hx]) | (refine (law9_FewRef x.cert).callX (enters_of Tryz.func19 rfl rfl) _ rfl rfl ?_; rintro _ rfl; simp only [go_sem, simprocAttr, rows_get hx]) | (refine (law8_Few x.needs).callX (enters_of Tryz.func31 rfl rfl) _ rfl rfl ?_; rintro _ rfl; simp only [go_sem, simprocAttr, rows_get hx]))
   simp only [go_sem, simprocAttr, hw, e1]
   refine ⟨by simp, by unfold maxLen; omega, by omega, 9 - (i + 1), _, by omega, ?_, i + 1, rfl, by omega, by omega, rfl⟩
   exact lessA
  ·have h3 := few_end (g := fewListener) hi6 hi hlt
   rw [h3]
   by_cases h1 : i < o.listeners.length
   ·have h1' : ((i : Int) < (o.listeners.length : Int)) = True := eq_true (by omega)
    have h2 : ((i : Int) < 9) = False := eq_false (by omega)
    simp only [go_sem, simprocAttr, h1', h2]
    exact hK _ ⟨i, rfl⟩
   ·have h1' : ((i : Int) < (o.listeners.length : Int)) = False := eq_false (by omega)
    simp only [go_sem, simprocAttr, h1']
    exact hK _ ⟨i, rfl⟩
 rintro s ⟨_, rfl⟩
 refine run_cutJ (fun s => ∃ i : Nat, s = ⟨[(102, bln false), (1, .ptr 1 0), (2, .ptr 2 0), (3, .ptr 3 0), (7, int i), (102, bln false)], [(1, [int o.ref.kind, str o.ref.space, str o.ref.name, bln o.good, .pd (.slice (rows APair.pd o.labels)), .pd (.slice (ints o.ports)), str o.cls, .pd (.slice (rows AListener.pd o.listeners)), .pd (.slice (rows AParent.pd o.parents)), .pd (.slice (strs o.hosts)), .pd (.slice (rows ARule.pd o.rules)), .pd (.slice (rows ASide.pd o.from_)), .pd (.slice (rows ASide.pd o.to_))]), (2, [int 0, str ⟨#[]⟩, str ⟨#[]⟩, bln false, .nils, .nils, str ⟨#[]⟩, .nils, .nils, .nils, .nils, .nils, .nils]), (3, [int (fewRef o.ref).kind, str (fewRef o.ref).space, str (fewRef o.ref).name, bln o.good, .pd (.slice (rows APair.pd (fewPairs o.labels))), .own 3 1 (rows cInt ((o.ports.take 9).map id)) 52, str (few o.cls), .own 71 9 (rows AListener.pd ((o.listeners.take 9).map fewListener)) 92, .own 48 4 (rows AParent.pd ((o.parents.take 5).map fewParent)) 125, .nils, .nils, .pd (.slice (rows ASide.pd (fewSides o.from_))), .pd (.slice (rows ASide.pd (fewSides o.to_)))])], [], .no⟩) ?_ ?_
 ·intro K' hK
  simp only [go_sem, simprocAttr]
  refine loopS (fun k st => ∃ i : Nat, k = 5 - i ∧ i ≤ 5 ∧ i ≤ o.parents.length ∧
   st = ⟨[(1, .ptr 1 0), (2, .ptr 2 0), (3, .ptr 3 0), (7, int i)], [(1, [int o.ref.kind, str o.ref.space, str o.ref.name, bln o.good, .pd (.slice (rows APair.pd o.labels)), .pd (.slice (ints o.ports)), str o.cls, .pd (.slice (rows AListener.pd o.listeners)), .pd (.slice (rows AParent.pd o.parents)), .pd (.slice (strs o.hosts)), .pd (.slice (rows ARule.pd o.rules)), .pd (.slice (rows ASide.pd o.from_)), .pd (.slice (rows ASide.pd o.to_))]), (2, [int 0, str ⟨#[]⟩, str ⟨#[]⟩, bln false, .nils, .nils, str ⟨#[]⟩, .nils, .nils, .nils, .nils, .nils, .nils]), (3, [int (fewRef o.ref).kind, str (fewRef o.ref).space, str (fewRef o.ref).name, bln o.good, .pd (.slice (rows APair.pd (fewPairs o.labels))), .own 3 1 (rows cInt ((o.ports.take 9).map id)) 52, str (few o.cls), .own 71 9 (rows AListener.pd ((o.listeners.take 9).map fewListener)) 92, .own 48 4 (rows AParent.pd ((o.parents.take i).map fewParent)) 125, .nils, .nils, .pd (.slice (rows ASide.pd (fewSides o.from_))), .pd (.slice (rows ASide.pd (fewSides o.to_)))])], [], .no⟩) 5 _
   ?_ ⟨0, rfl, by omega, by omega, rfl⟩ ?_
  ·exact Weak.ownB 3 8 125 48 4 (by kernel_rfl) (by decide) rfl rfl (by simp [lessL, lk, St.purge, D.purge, rows]) (by simp [lessL, lk, St.purge, D.purges, D.purge, rows]) (by simp [lessL]) rfl
  rintro k st ⟨i, rfl, hi6, hi, rfl⟩
  have hw := i64_succ (show i < 1000000000 by omega)
  by_cases hlt : i < o.parents.length ∧ i < 5
  ·obtain ⟨x, hx⟩ := at_lt hlt.1
   have h1 : ((i : Int) < (o.parents.length : Int)) = True := eq_true (by omega)
   have h2 : ((i : Int) < 5) = True := eq_true (by omega)
   have hl' : ((o.parents.take i).map fewParent).length ≤ i := by simp; omega
   have e1 : rows AParent.pd ((o.parents.take i).map fewParent) ++ [[PD.raw (Value.string (few x.space)), PD.raw (Value.string (few x.name)), PD.raw (Value.string (few x.section_)), PD.raw (Value.int IntKind.i64 x.port)]] = rows AParent.pd ((o.parents.take (i + 1)).map fewParent) := few_step hx
   simp only [go_sem, simprocAttr, rows_get hx, h1, h2]
   repeat' (first | (refine (law1_Few x.space).callX (enters_of Tryz.func21 rfl rfl) _ rfl rfl ?_; rintro _ rfl; simp only [go_sem, simprocAttr, rows_get hx]) | (refine (law1_Few x.name).callX (enters_of Tryz.func21 rfl rfl) _ rfl rfl ?_; rintro _ rfl; simp only [go_sem, simprocAttr, rows_get hx]) | (refine (law1_Few x.section_).callX (enters_of Tryz.func21 rfl rfl) _ rfl rfl ?_; rintro _ rfl; simp only [go_sem, simprocAttr, rows_get hx]))
   simp only [go_sem, simprocAttr, hw, e1]
   refine ⟨by simp, by unfold maxLen; omega, by omega, 5 - (i + 1), _, by omega, ?_, i + 1, rfl, by omega, by omega, rfl⟩
   exact lessA
  ·have h3 := few_end (g := fewParent) hi6 hi hlt
   rw [h3]
   by_cases h1 : i < o.parents.length
   ·have h1' : ((i : Int) < (o.parents.length : Int)) = True := eq_true (by omega)
    have h2 : ((i : Int) < 5) = False := eq_false (by omega)
    simp only [go_sem, simprocAttr, h1', h2]
    exact hK _ ⟨i, rfl⟩
   ·have h1' : ((i : Int) < (o.parents.length : Int)) = False := eq_false (by omega)
    simp only [go_sem, simprocAttr, h1']
    exact hK _ ⟨i, rfl⟩
 rintro s ⟨_, rfl⟩
 refine run_cutJ (fun s => ∃ i : Nat, s = ⟨[(135, bln false), (1, .ptr 1 0), (2, .ptr 2 0), (3, .ptr 3 0), (9, int i), (135, bln false)], [(1, [int o.ref.kind, str o.ref.space, str o.ref.name, bln o.good, .pd (.slice (rows APair.pd o.labels)), .pd (.slice (ints o.ports)), str o.cls, .pd (.slice (rows AListener.pd o.listeners)), .pd (.slice (rows AParent.pd o.parents)), .pd (.slice (strs o.hosts)), .pd (.slice (rows ARule.pd o.rules)), .pd (.slice (rows ASide.pd o.from_)), .pd (.slice (rows ASide.pd o.to_))]), (2, [int 0, str ⟨#[]⟩, str ⟨#[]⟩, bln false, .nils, .nils, str ⟨#[]⟩, .nils, .nils, .nils, .nils, .nils, .nils]), (3, [int (fewRef o.ref).kind, str (fewRef o.ref).space, str (fewRef o.ref).name, bln o.good, .pd (.slice (rows APair.pd (fewPairs o.labels))), .own 3 1 (rows cInt ((o.ports.take 9).map id)) 52, str (few o.cls), .own 71 9 (rows AListener.pd ((o.listeners.take 9).map fewListener)) 92, .own 48 4 (rows AParent.pd ((o.parents.take 5).map fewParent)) 125, .own 9 1 (rows cStr ((o.hosts.take 5).map few)) 147, .nils, .pd (.slice (rows ASide.pd (fewSides o.from_))), .pd (.slice (rows ASide.pd (fewSides o.to_)))])], [], .no⟩) ?_ ?_
 ·intro K' hK
  simp only [go_sem, simprocAttr]
  refine loopS (fun k st => ∃ i : Nat, k = 5 - i ∧ i ≤ 5 ∧ i ≤ o.hosts.length ∧
   st = ⟨[(1, .ptr 1 0), (2, .ptr 2 0), (3, .ptr 3 0), (9, int i)], [(1, [int o.ref.kind, str o.ref.space, str o.ref.name, bln o.good, .pd (.slice (rows APair.pd o.labels)), .pd (.slice (ints o.ports)), str o.cls, .pd (.slice (rows AListener.pd o.listeners)), .pd (.slice (rows AParent.pd o.parents)), .pd (.slice (strs o.hosts)), .pd (.slice (rows ARule.pd o.rules)), .pd (.slice (rows ASide.pd o.from_)), .pd (.slice (rows ASide.pd o.to_))]), (2, [int 0, str ⟨#[]⟩, str ⟨#[]⟩, bln false, .nils, .nils, str ⟨#[]⟩, .nils, .nils, .nils, .nils, .nils, .nils]), (3, [int (fewRef o.ref).kind, str (fewRef o.ref).space, str (fewRef o.ref).name, bln o.good, .pd (.slice (rows APair.pd (fewPairs o.labels))), .own 3 1 (rows cInt ((o.ports.take 9).map id)) 52, str (few o.cls), .own 71 9 (rows AListener.pd ((o.listeners.take 9).map fewListener)) 92, .own 48 4 (rows AParent.pd ((o.parents.take 5).map fewParent)) 125, .own 9 1 (rows cStr ((o.hosts.take i).map few)) 147, .nils, .pd (.slice (rows ASide.pd (fewSides o.from_))), .pd (.slice (rows ASide.pd (fewSides o.to_)))])], [], .no⟩) 5 _
   ?_ ⟨0, rfl, by omega, by omega, rfl⟩ ?_
  ·exact Weak.ownB 3 9 147 9 1 (by kernel_rfl) (by decide) rfl rfl (by simp [lessL, lk, St.purge, D.purge, rows]) (by simp [lessL, lk, St.purge, D.purges, D.purge, rows]) (by simp [lessL]) rfl
  rintro k st ⟨i, rfl, hi6, hi, rfl⟩
  have hw := i64_succ (show i < 1000000000 by omega)
  by_cases hlt : i < o.hosts.length ∧ i < 5
  ·obtain ⟨x, hx⟩ := at_lt hlt.1
   have h1 : ((i : Int) < (o.hosts.length : Int)) = True := eq_true (by omega)
   have h2 : ((i : Int) < 5) = True := eq_true (by omega)
   have hl' : ((o.hosts.take i).map few).length ≤ i := by simp; omega
   have e1 : rows cStr ((o.hosts.take i).map few) ++ [[PD.raw (Value.string (few x))]] = rows cStr ((o.hosts.take (i + 1)).map few) := few_step hx
   simp only [go_sem, simprocAttr, rows_get hx, h1, h2]
   repeat' (first | (refine (law1_Few x).callX (enters_of Tryz.func21 rfl rfl) _ rfl rfl ?_; rintro _ rfl; simp only [go_sem, simprocAttr, rows_get hx]))
   simp only [go_sem, simprocAttr, hw, e1]
   refine ⟨by simp, by unfold maxLen; omega, by omega, 5 - (i + 1), _, by omega, ?_, i + 1, rfl, by omega, by omega, rfl⟩
   exact lessA
  ·have h3 := few_end (g := few) hi6 hi hlt
   rw [h3]
   by_cases h1 : i < o.hosts.length
   ·have h1' : ((i : Int) < (o.hosts.length : Int)) = True := eq_true (by omega)
    have h2 : ((i : Int) < 5) = False := eq_false (by omega)
    simp only [go_sem, simprocAttr, h1', h2]
    exact hK _ ⟨i, rfl⟩
   ·have h1' : ((i : Int) < (o.hosts.length : Int)) = False := eq_false (by omega)
    simp only [go_sem, simprocAttr, h1']
    exact hK _ ⟨i, rfl⟩
 rintro s ⟨_, rfl⟩
 refine run_cutJ (fun s => ∃ i : Nat, s = ⟨[(157, bln false), (1, .ptr 1 0), (2, .ptr 2 0), (3, .ptr 3 0), (10, int i), (157, bln false)], [(1, [int o.ref.kind, str o.ref.space, str o.ref.name, bln o.good, .pd (.slice (rows APair.pd o.labels)), .pd (.slice (ints o.ports)), str o.cls, .pd (.slice (rows AListener.pd o.listeners)), .pd (.slice (rows AParent.pd o.parents)), .pd (.slice (strs o.hosts)), .pd (.slice (rows ARule.pd o.rules)), .pd (.slice (rows ASide.pd o.from_)), .pd (.slice (rows ASide.pd o.to_))]), (2, [int 0, str ⟨#[]⟩, str ⟨#[]⟩, bln false, .nils, .nils, str ⟨#[]⟩, .nils, .nils, .nils, .nils, .nils, .nils]), (3, [int (fewRef o.ref).kind, str (fewRef o.ref).space, str (fewRef o.ref).name, bln o.good, .pd (.slice (rows APair.pd (fewPairs o.labels))), .own 3 1 (rows cInt ((o.ports.take 9).map id)) 52, str (few o.cls), .own 71 9 (rows AListener.pd ((o.listeners.take 9).map fewListener)) 92, .own 48 4 (rows AParent.pd ((o.parents.take 5).map fewParent)) 125, .own 9 1 (rows cStr ((o.hosts.take 5).map few)) 147, .own 53 3 (rows ARule.pd ((o.rules.take 7).map fewRule)) 239, .pd (.slice (rows ASide.pd (fewSides o.from_))), .pd (.slice (rows ASide.pd (fewSides o.to_)))])], [], .no⟩) ?_ ?_
 ·intro K' hK
  simp only [go_sem, simprocAttr]
  refine loopS (fun k st => ∃ i : Nat, k = 7 - i ∧ i ≤ 7 ∧ i ≤ o.rules.length ∧
   st = ⟨[(1, .ptr 1 0), (2, .ptr 2 0), (3, .ptr 3 0), (10, int i)], [(1, [int o.ref.kind, str o.ref.space, str o.ref.name, bln o.good, .pd (.slice (rows APair.pd o.labels)), .pd (.slice (ints o.ports)), str o.cls, .pd (.slice (rows AListener.pd o.listeners)), .pd (.slice (rows AParent.pd o.parents)), .pd (.slice (strs o.hosts)), .pd (.slice (rows ARule.pd o.rules)), .pd (.slice (rows ASide.pd o.from_)), .pd (.slice (rows ASide.pd o.to_))]), (2, [int 0, str ⟨#[]⟩, str ⟨#[]⟩, bln false, .nils, .nils, str ⟨#[]⟩, .nils, .nils, .nils, .nils, .nils, .nils]), (3, [int (fewRef o.ref).kind, str (fewRef o.ref).space, str (fewRef o.ref).name, bln o.good, .pd (.slice (rows APair.pd (fewPairs o.labels))), .own 3 1 (rows cInt ((o.ports.take 9).map id)) 52, str (few o.cls), .own 71 9 (rows AListener.pd ((o.listeners.take 9).map fewListener)) 92, .own 48 4 (rows AParent.pd ((o.parents.take 5).map fewParent)) 125, .own 9 1 (rows cStr ((o.hosts.take 5).map few)) 147, .own 53 3 (rows ARule.pd ((o.rules.take i).map fewRule)) 239, .pd (.slice (rows ASide.pd (fewSides o.from_))), .pd (.slice (rows ASide.pd (fewSides o.to_)))])], [], .no⟩) 7 _
   ?_ ⟨0, rfl, by omega, by omega, rfl⟩ ?_
  ·exact Weak.ownB 3 10 239 53 3 (by kernel_rfl) (by decide) rfl rfl (by simp [lessL, lk, St.purge, D.purge, rows]) (by simp [lessL, lk, St.purge, D.purges, D.purge, rows]) (by simp [lessL]) rfl
  rintro k st ⟨i, rfl, hi6, hi, rfl⟩
  have hw := i64_succ (show i < 1000000000 by omega)
  by_cases hlt : i < o.rules.length ∧ i < 7
  ·obtain ⟨x, hx⟩ := at_lt hlt.1
   have h1 : ((i : Int) < (o.rules.length : Int)) = True := eq_true (by omega)
   have h2 : ((i : Int) < 7) = True := eq_true (by omega)
   have hl' : ((o.rules.take i).map fewRule).length ≤ i := by simp; omega
   have e1 : rows ARule.pd ((o.rules.take i).map fewRule) ++ [[PD.slice (rows AMatch.pd ((x.matches_.take 5).map fewMatch)), PD.slice (rows AFilter.pd (fewFilters x.filters)), PD.slice (rows ABackend.pd ((x.backends.take 5).map fewBackend))]] = rows ARule.pd ((o.rules.take (i + 1)).map fewRule) := few_step hx
   apply run_cut
   ·intro K' hK
    simp only [go_sem, simprocAttr, h1, h2]
    exact hK
   apply run_cut
   ·intro K' hK
    rw [run_block]
    apply run_cut
    ·intro K' hK
     simp only [go_sem, simprocAttr, rows_get hx]
     refine (law7_Few x.filters).callW (enters_of Tryz.func32 rfl rfl) _ rfl rfl ?_
     rintro _ rfl
     simp only [go_sem, simprocAttr]
     exact hK
    refine run_cutJ (fun s => ∃ j : Nat, s = ⟨[(180, bln false), (1, .ptr 1 0), (2, .ptr 2 0), (3, .ptr 3 0), (10, int i), (11, .ptr 11 0), (12, int j), (180, bln false)], [(1, [int o.ref.kind, str o.ref.space, str o.ref.name, bln o.good, .pd (.slice (rows APair.pd o.labels)), .pd (.slice (ints o.ports)), str o.cls, .pd (.slice (rows AListener.pd o.listeners)), .pd (.slice (rows AParent.pd o.parents)), .pd (.slice (strs o.hosts)), .pd (.slice (rows ARule.pd o.rules)), .pd (.slice (rows ASide.pd o.from_)), .pd (.slice (rows ASide.pd o.to_))]), (2, [int 0, str ⟨#[]⟩, str ⟨#[]⟩, bln false, .nils, .nils, str ⟨#[]⟩, .nils, .nils, .nils, .nils, .nils, .nils]), (3, [int (fewRef o.ref).kind, str (fewRef o.ref).space, str (fewRef o.ref).name, bln o.good, .pd (.slice (rows APair.pd (fewPairs o.labels))), .own 3 1 (rows cInt ((o.ports.take 9).map id)) 52, str (few o.cls), .own 71 9 (rows AListener.pd ((o.listeners.take 9).map fewListener)) 92, .own 48 4 (rows AParent.pd ((o.parents.take 5).map fewParent)) 125, .own 9 1 (rows cStr ((o.hosts.take 5).map few)) 147, .own 53 3 (rows ARule.pd ((o.rules.take i).map fewRule)) 239, .pd (.slice (rows ASide.pd (fewSides o.from_))), .pd (.slice (rows ASide.pd (fewSides o.to_)))]), (11, [.own 77 5 (rows AMatch.pd ((x.matches_.take 5).map fewMatch)) 196, .pd (.slice (rows AFilter.pd (fewFilters x.filters))), .nils])], [], .no⟩) ?_ ?_
    ·intro K' hK
     simp only [go_sem, simprocAttr, rows_get hx]
     refine loopS (fun k st => ∃ j : Nat, k = 5 - j ∧ j ≤ 5 ∧ j ≤ x.matches_.length ∧
      st = ⟨[(1, .ptr 1 0), (2, .ptr 2 0), (3, .ptr 3 0), (10, int i), (11, .ptr 11 0), (12, int j)], [(1, [int o.ref.kind, str o.ref.space, str o.ref.name, bln o.good, .pd (.slice (rows APair.pd o.labels)), .pd (.slice (ints o.ports)), str o.cls, .pd (.slice (rows AListener.pd o.listeners)), .pd (.slice (rows AParent.pd o.parents)), .pd (.slice (strs o.hosts)), .pd (.slice (rows ARule.pd o.rules)), .pd (.slice (rows ASide.pd o.from_)), .pd (.slice (rows ASide.pd o.to_))]), (2, [int 0, str ⟨#[]⟩, str ⟨#[]⟩, bln false, .nils, .nils, str ⟨#[]⟩, .nils, .nils, .nils, .nils, .nils, .nils]), (3, [int (fewRef o.ref).kind, str (fewRef o.ref).space, str (fewRef o.ref).name, bln o.good, .pd (.slice (rows APair.pd (fewPairs o.labels))), .own 3 1 (rows cInt ((o.ports.take 9).map id)) 52, str (few o.cls), .own 71 9 (rows AListener.pd ((o.listeners.take 9).map fewListener)) 92, .own 48 4 (rows AParent.pd ((o.parents.take 5).map fewParent)) 125, .own 9 1 (rows cStr ((o.hosts.take 5).map few)) 147, .own 53 3 (rows ARule.pd ((o.rules.take i).map fewRule)) 239, .pd (.slice (rows ASide.pd (fewSides o.from_))), .pd (.slice (rows ASide.pd (fewSides o.to_)))]), (11, [.own 77 5 (rows AMatch.pd ((x.matches_.take j).map fewMatch)) 196, .pd (.slice (rows AFilter.pd (fewFilters x.filters))), .nils])], [], .no⟩) 5 _
      ?_ ⟨0, rfl, by omega, by omega, rfl⟩ ?_
     ·exact Weak.ownB 11 0 196 77 5 (by kernel_rfl) (by decide) rfl rfl (by simp [lessL, lk, St.purge, D.purge, rows]) (by simp [lessL, lk, St.purge, D.purges, D.purge, rows]) (by simp [lessL]) rfl
     rintro k st ⟨j, rfl, hj6, hj, rfl⟩
     have hwj := i64_succ (show j < 1000000000 by omega)
     by_cases hltj : j < x.matches_.length ∧ j < 5
     ·obtain ⟨y, hy⟩ := at_lt hltj.1
      have h1' : ((j : Int) < (x.matches_.length : Int)) = True := eq_true (by omega)
      have h2' : ((j : Int) < 5) = True := eq_true (by omega)
      have hlj : ((x.matches_.take j).map fewMatch).length ≤ j := by simp; omega
      have e2 : rows AMatch.pd ((x.matches_.take j).map fewMatch) ++ [[PD.raw (Value.int IntKind.i64 (fewMatch y).pkind), PD.raw (Value.string (fewMatch y).pval), PD.raw (Value.string (fewMatch y).method), PD.slice (rows APair.pd (fewMatch y).head), PD.slice (rows APair.pd (fewMatch y).query)]] = rows AMatch.pd ((x.matches_.take (j + 1)).map fewMatch) := few_step hy
      simp only [go_sem, simprocAttr, rows_get hx, rows_get hy, h1', h2']
      repeat' (first | (refine (law6_Few y).callX (enters_of Tryz.func33 rfl rfl) _ rfl rfl ?_; rintro _ rfl; simp only [go_sem, simprocAttr, rows_get hx, rows_get hy]))
      simp only [go_sem, simprocAttr, hwj, e2]
      refine ⟨by simp, by unfold maxLen; omega, by omega, 5 - (j + 1), _, by omega, ?_, j + 1, rfl, by omega, by omega, rfl⟩
      exact lessA
     ·have h3 := few_end (g := fewMatch) hj6 hj hltj
      rw [h3]
      by_cases h1 : j < x.matches_.length
      ·have h1' : ((j : Int) < (x.matches_.length : Int)) = True := eq_true (by omega)
       have h2 : ((j : Int) < 5) = False := eq_false (by omega)
       simp only [go_sem, simprocAttr, rows_get hx, h1', h2]
       exact hK _ ⟨j, rfl⟩
      ·have h1' : ((j : Int) < (x.matches_.length : Int)) = False := eq_false (by omega)
       simp only [go_sem, simprocAttr, rows_get hx, h1']
       exact hK _ ⟨j, rfl⟩
    rintro s ⟨_, rfl⟩
    refine run_cutJ (fun s => ∃ j : Nat, s = ⟨[(210, bln false), (1, .ptr 1 0), (2, .ptr 2 0), (3, .ptr 3 0), (10, int i), (11, .ptr 11 0), (13, int j), (210, bln false)], [(1, [int o.ref.kind, str o.ref.space, str o.ref.name, bln o.good, .pd (.slice (rows APair.pd o.labels)), .pd (.slice (ints o.ports)), str o.cls, .pd (.slice (rows AListener.pd o.listeners)), .pd (.slice (rows AParent.pd o.parents)), .pd (.slice (strs o.hosts)), .pd (.slice (rows ARule.pd o.rules)), .pd (.slice (rows ASide.pd o.from_)), .pd (.slice (rows ASide.pd o.to_))]), (2, [int 0, str ⟨#[]⟩, str ⟨#[]⟩, bln false, .nils, .nils, str ⟨#[]⟩, .nils, .nils, .nils, .nils, .nils, .nils]), (3, [int (fewRef o.ref).kind, str (fewRef o.ref).space, str (fewRef o.ref).name, bln o.good, .pd (.slice (rows APair.pd (fewPairs o.labels))), .own 3 1 (rows cInt ((o.ports.take 9).map id)) 52, str (few o.cls), .own 71 9 (rows AListener.pd ((o.listeners.take 9).map fewListener)) 92, .own 48 4 (rows AParent.pd ((o.parents.take 5).map fewParent)) 125, .own 9 1 (rows cStr ((o.hosts.take 5).map few)) 147, .own 53 3 (rows ARule.pd ((o.rules.take i).map fewRule)) 239, .pd (.slice (rows ASide.pd (fewSides o.from_))), .pd (.slice (rows ASide.pd (fewSides o.to_)))]), (11, [.own 77 5 (rows AMatch.pd ((x.matches_.take 5).map fewMatch)) 196, .pd (.slice (rows AFilter.pd (fewFilters x.filters))), .own 55 5 (rows ABackend.pd ((x.backends.take 5).map fewBackend)) 233])], [], .no⟩) ?_ ?_
    ·intro K' hK
     simp only [go_sem, simprocAttr, rows_get hx]
     refine loopS (fun k st => ∃ j : Nat, k = 5 - j ∧ j ≤ 5 ∧ j ≤ x.backends.length ∧
      st = ⟨[(1, .ptr 1 0), (2, .ptr 2 0), (3, .ptr 3 0), (10, int i), (11, .ptr 11 0), (13, int j)], [(1, [int o.ref.kind, str o.ref.space, str o.ref.name, bln o.good, .pd (.slice (rows APair.pd o.labels)), .pd (.slice (ints o.ports)), str o.cls, .pd (.slice (rows AListener.pd o.listeners)), .pd (.slice (rows AParent.pd o.parents)), .pd (.slice (strs o.hosts)), .pd (.slice (rows ARule.pd o.rules)), .pd (.slice (rows ASide.pd o.from_)), .pd (.slice (rows ASide.pd o.to_))]), (2, [int 0, str ⟨#[]⟩, str ⟨#[]⟩, bln false, .nils, .nils, str ⟨#[]⟩, .nils, .nils, .nils, .nils, .nils, .nils]), (3, [int (fewRef o.ref).kind, str (fewRef o.ref).space, str (fewRef o.ref).name, bln o.good, .pd (.slice (rows APair.pd (fewPairs o.labels))), .own 3 1 (rows cInt ((o.ports.take 9).map id)) 52, str (few o.cls), .own 71 9 (rows AListener.pd ((o.listeners.take 9).map fewListener)) 92, .own 48 4 (rows AParent.pd ((o.parents.take 5).map fewParent)) 125, .own 9 1 (rows cStr ((o.hosts.take 5).map few)) 147, .own 53 3 (rows ARule.pd ((o.rules.take i).map fewRule)) 239, .pd (.slice (rows ASide.pd (fewSides o.from_))), .pd (.slice (rows ASide.pd (fewSides o.to_)))]), (11, [.own 77 5 (rows AMatch.pd ((x.matches_.take 5).map fewMatch)) 196, .pd (.slice (rows AFilter.pd (fewFilters x.filters))), .own 55 5 (rows ABackend.pd ((x.backends.take j).map fewBackend)) 233])], [], .no⟩) 5 _
      ?_ ⟨0, rfl, by omega, by omega, rfl⟩ ?_
     ·exact Weak.ownB 11 2 233 55 5 (by kernel_rfl) (by decide) rfl rfl (by simp [lessL, lk, St.purge, D.purge, rows]) (by simp [lessL, lk, St.purge, D.purges, D.purge, rows]) (by simp [lessL]) rfl
     rintro k st ⟨j, rfl, hj6, hj, rfl⟩
     have hwj := i64_succ (show j < 1000000000 by omega)
     by_cases hltj : j < x.backends.length ∧ j < 5
     ·obtain ⟨y, hy⟩ := at_lt hltj.1
      have h1' : ((j : Int) < (x.backends.length : Int)) = True := eq_true (by omega)
      have h2' : ((j : Int) < 5) = True := eq_true (by omega)
      have hlj : ((x.backends.take j).map fewBackend).length ≤ j := by simp; omega
      have e2 : rows ABackend.pd ((x.backends.take j).map fewBackend) ++ [[PD.raw (Value.int IntKind.i64 (fewRef y.ref).kind), PD.raw (Value.string (fewRef y.ref).space), PD.raw (Value.string (fewRef y.ref).name), PD.raw (Value.int IntKind.i64 y.port), PD.raw (Value.int IntKind.i64 y.weight)]] = rows ABackend.pd ((x.backends.take (j + 1)).map fewBackend) := few_step hy
      simp only [go_sem, simprocAttr, rows_get hx, rows_get hy, h1', h2']
      repeat' (first | (refine (law9_FewRef y.ref).callX (enters_of Tryz.func19 rfl rfl) _ rfl rfl ?_; rintro _ rfl; simp only [go_sem, simprocAttr, rows_get hx, rows_get hy]))
      simp only [go_sem, simprocAttr, hwj, e2]
      refine ⟨by simp, by unfold maxLen; omega, by omega, 5 - (j + 1), _, by omega, ?_, j + 1, rfl, by omega, by omega, rfl⟩
      exact lessA
     ·have h3 := few_end (g := fewBackend) hj6 hj hltj
      rw [h3]
      by_cases h1 : j < x.backends.length
      ·have h1' : ((j : Int) < (x.backends.length : Int)) = True := eq_true (by omega)
       have h2 : ((j : Int) < 5) = False := eq_false (by omega)
       simp only [go_sem, simprocAttr, rows_get hx, h1', h2]
       exact hK _ ⟨j, rfl⟩
      ·have h1' : ((j : Int) < (x.backends.length : Int)) = False := eq_false (by omega)
       simp only [go_sem, simprocAttr, rows_get hx, h1']
       exact hK _ ⟨j, rfl⟩
    rintro s ⟨_, rfl⟩
    simp only [go_sem, simprocAttr, e1]
    refine ⟨by simp, by unfold maxLen; omega, by omega, ?_⟩
    exact hK
   simp only [go_sem, simprocAttr, hw]
   refine ⟨7 - (i + 1), _, by omega, ?_, i + 1, rfl, by omega, by omega, rfl⟩
   exact lessA
  ·have h3 := few_end (g := fewRule) hi6 hi hlt
   rw [h3]
   by_cases h1 : i < o.rules.length
   ·have h1' : ((i : Int) < (o.rules.length : Int)) = True := eq_true (by omega)
    have h2 : ((i : Int) < 7) = False := eq_false (by omega)
    simp only [go_sem, simprocAttr, h1', h2]
    exact hK _ ⟨i, rfl⟩
   ·have h1' : ((i : Int) < (o.rules.length : Int)) = False := eq_false (by omega)
    simp only [go_sem, simprocAttr, h1']
    exact hK _ ⟨i, rfl⟩
 rintro s ⟨_, rfl⟩
 simp only [go_sem, simprocAttr]
 simp only [retK, resD, resA, AOp.ex, St.ev, retL, oneD, simprocAttr, ret_z8s55, List.map_id]
 exact ⟨_, rfl, rfl, rfl⟩


theorem take_map_mem {α β : Type} {g : α → β} {l : List α} {n : Nat} {y : β} (h : y ∈ (l.take n).map g) : ∃ x, x ∈ l ∧ g x = y := by
 obtain ⟨x, hx, rfl⟩ := List.mem_map.1 h
 exact ⟨x, List.mem_of_mem_take hx, rfl⟩

theorem fewPairs_ok {l : List APair} : ∀ p ∈ fewPairs l, p.ok := fun p hp => by
 obtain ⟨x, _, rfl⟩ := take_map_mem hp
 exact fewPair_ok x

theorem fewPairs_len (l : List APair) : (fewPairs l).length ≤ 1000000 := by simp [fewPairs]; omega

theorem fewMatch_ok (m : AMatch) : (fewMatch m).ok := ⟨fewPairs_len _, fewPairs_len _, fewPairs_ok, fewPairs_ok⟩

theorem fewFilter_ok (f : AFilter) : (fewFilter f).ok := ⟨by have := few_size f.name; simp [fewFilter]; omega, by have := few_size f.val; simp [fewFilter]; omega⟩

theorem fewNeed_ok (n : ANeed) : (fewNeed n).ok := by simp [ANeed.ok, fewNeed]; omega

theorem fewListener_ok (l : AListener) : (fewListener l).ok := ⟨by simp [fewListener, fewNeeds]; omega, fun x hx => by
 obtain ⟨y, _, rfl⟩ := take_map_mem hx
 exact fewNeed_ok y⟩

theorem fewRule_ok (r : ARule) : (fewRule r).ok := ⟨by simp [fewRule]; omega, by simp [fewRule, fewFilters]; omega, by simp [fewRule]; omega, fun x hx => by
 obtain ⟨y, _, rfl⟩ := take_map_mem hx
 exact fewMatch_ok y, fun x hx => by
 obtain ⟨y, _, rfl⟩ := take_map_mem hx
 exact fewFilter_ok y⟩

theorem fewObj_ok (o : AObj) : (fewObj o).ok where
 la := fewPairs_len _
 po := by simp [fewObj]; omega
 li := by simp [fewObj]; omega
 pa := by simp [fewObj]; omega
 ho := by simp [fewObj]; omega
 ru := by simp [fewObj]; omega
 fr := by simp [fewObj, fewSides]; omega
 to := by simp [fewObj, fewSides]; omega
 lis := fun x hx => by
  obtain ⟨y, _, rfl⟩ := take_map_mem hx
  exact fewListener_ok y
 rus := fun x hx => by
  obtain ⟨y, _, rfl⟩ := take_map_mem hx
  exact fewRule_ok y


theorem res_no {p : Prop} [Decidable p] (h : ¬p) : bln false = bln (decide p) := by rw [decide_eq_false h]
theorem res_yes {p : Prop} [Decidable p] (h : p) : bln true = bln (decide p) := by rw [decide_eq_true h]
theorem take_step {α : Type} {l m : List α} {i : Nat} {x y : α} (h : l.take i = m.take i) (hx : l[i]? = some x) (hy : m[i]? = some y) (e : x = y) : l.take (i + 1) = m.take (i + 1) := by
 rw [take_at hx, take_at hy, h, e]
theorem take_end {α : Type} {l m : List α} {i : Nat} (h : l.take i = m.take i) (hl : l.length = m.length) (hi : ¬ i < l.length) : l = m := by
 rwa [List.take_of_length_le (by omega), List.take_of_length_le (by omega)] at h

set_option maxHeartbeats 2000000 in
theorem ref1_Same (a b : List ByteArray) (ha : a.length ≤ 1000000) : Pure Tryz.prog 55 [.pd (.slice (rows cStr a)), .pd (.slice (rows cStr b))] (fun d => d = bln (decide (a = b))) := by
 refine pure_of_run follows an_zjxe8 Tryz.func55 rfl ok_zjxe8.1 ok_zjxe8.2 (by simp [Tryz.ntmps55]) ?_
 rw [run_start]
 simp only [ac_zjxe8, go_sem, simprocAttr]
 refine GifP.mk (fun hl => ?_) (fun hl => ?_)
 rotate_left
 ·simp only [retK, resD, retL, oneD, simprocAttr, Tryz.results55]
  exact ⟨_, rfl, rfl, res_no (fun e => hl (by rw [e]))⟩
 have hL : a.length = b.length := by omega
 refine loopS (fun k st => ∃ i : Nat, k = a.length - i ∧ i ≤ a.length ∧ a.take i = b.take i ∧ st = ⟨[(0, .pd (.slice (rows cStr a))), (1, .pd (.slice (rows cStr b))), (5, int i)], [], [], .no⟩) a.length _ ?_ ⟨0, rfl, by omega, rfl, rfl⟩ ?_
 ·exact lessA
 rintro k st ⟨i, rfl, hi, hT, rfl⟩
 have hw := i64_succ (show i < 1000000000 by omega)
 by_cases hlt : i < a.length
 ·obtain ⟨x, hx⟩ := at_lt hlt
  obtain ⟨y, hy⟩ := at_lt (show i < b.length by omega)
  have h1 : ((i : Int) < (a.length : Int)) = True := eq_true (by omega)
  simp only [go_sem, simprocAttr, rows_get hx, rows_get hy, h1, hw]
  ·repeat' (first | refine GifP.mk (fun _ => ?_) (fun _ => ?_) | refine Gif.mk (fun _ => ?_) (fun _ => ?_) | refine And.intro ?_ ?_)
   all_goals first
    | (refine ⟨a.length - (i + 1), _, by omega, ?_, i + 1, rfl, by omega, take_step hT hx hy (by first | assumption | (cases x; cases y; simp_all)), rfl⟩; exact lessA)
    | (simp only [retK, resD, retL, oneD, simprocAttr, Tryz.results55]; exact ⟨_, rfl, rfl, res_no (fun e => by subst e; have hxy := Option.some.inj (hx.symm.trans hy); subst hxy; first | contradiction | simp_all)⟩)
 have h1 : ((i : Int) < (a.length : Int)) = False := eq_false (by omega)
 have hE := take_end hT (by omega) hlt
 clear hT hi hw
 simp only [go_sem, simprocAttr, h1]
 clear h1 hlt i
 simp only [retK, resD, retL, oneD, simprocAttr, Tryz.results55]
 exact ⟨_, rfl, rfl, res_yes hE⟩

set_option maxHeartbeats 2000000 in
theorem ref4_Same (a b : List APair) (ha : a.length ≤ 1000000) : Pure Tryz.prog 54 [.pd (.slice (rows APair.pd a)), .pd (.slice (rows APair.pd b))] (fun d => d = bln (decide (a = b))) := by
 refine pure_of_run follows an_zk76r Tryz.func54 rfl ok_zk76r.1 ok_zk76r.2 (by simp [Tryz.ntmps54]) ?_
 rw [run_start]
 simp only [ac_zk76r, go_sem, simprocAttr]
 refine GifP.mk (fun hl => ?_) (fun hl => ?_)
 rotate_left
 ·simp only [retK, resD, retL, oneD, simprocAttr, Tryz.results54]
  exact ⟨_, rfl, rfl, res_no (fun e => hl (by rw [e]))⟩
 have hL : a.length = b.length := by omega
 refine loopS (fun k st => ∃ i : Nat, k = a.length - i ∧ i ≤ a.length ∧ a.take i = b.take i ∧ st = ⟨[(0, .pd (.slice (rows APair.pd a))), (1, .pd (.slice (rows APair.pd b))), (5, int i)], [], [], .no⟩) a.length _ ?_ ⟨0, rfl, by omega, rfl, rfl⟩ ?_
 ·exact lessA
 rintro k st ⟨i, rfl, hi, hT, rfl⟩
 have hw := i64_succ (show i < 1000000000 by omega)
 by_cases hlt : i < a.length
 ·obtain ⟨x, hx⟩ := at_lt hlt
  obtain ⟨y, hy⟩ := at_lt (show i < b.length by omega)
  have h1 : ((i : Int) < (a.length : Int)) = True := eq_true (by omega)
  simp only [go_sem, simprocAttr, rows_get hx, rows_get hy, h1, hw, eqVs, eqV, eq_Pair]
  ·repeat' (first | refine GifP.mk (fun _ => ?_) (fun _ => ?_) | refine Gif.mk (fun _ => ?_) (fun _ => ?_) | refine And.intro ?_ ?_)
   all_goals first
    | (refine ⟨a.length - (i + 1), _, by omega, ?_, i + 1, rfl, by omega, take_step hT hx hy (by first | assumption | (cases x; cases y; simp_all)), rfl⟩; exact lessA)
    | (simp only [retK, resD, retL, oneD, simprocAttr, Tryz.results54]; exact ⟨_, rfl, rfl, res_no (fun e => by subst e; have hxy := Option.some.inj (hx.symm.trans hy); subst hxy; first | contradiction | simp_all)⟩)
 have h1 : ((i : Int) < (a.length : Int)) = False := eq_false (by omega)
 have hE := take_end hT (by omega) hlt
 clear hT hi hw
 simp only [go_sem, simprocAttr, h1]
 clear h1 hlt i
 simp only [retK, resD, retL, oneD, simprocAttr, Tryz.results54]
 exact ⟨_, rfl, rfl, res_yes hE⟩

set_option maxHeartbeats 2000000 in
theorem ref8_Same (a b : List ANeed) (ha : a.length ≤ 1000000) (hb : ∀ x ∈ a, x.vals.length ≤ 1000000) : Pure Tryz.prog 56 [.pd (.slice (rows ANeed.pd a)), .pd (.slice (rows ANeed.pd b))] (fun d => d = bln (decide (a = b))) := by
 refine pure_of_run follows an_zgrh4 Tryz.func56 rfl ok_zgrh4.1 ok_zgrh4.2 (by simp [Tryz.ntmps56]) ?_
 rw [run_start]
 simp only [ac_zgrh4, go_sem, simprocAttr]
 refine GifP.mk (fun hl => ?_) (fun hl => ?_)
 rotate_left
 ·simp only [retK, resD, retL, oneD, simprocAttr, Tryz.results56]
  exact ⟨_, rfl, rfl, res_no (fun e => hl (by rw [e]))⟩
 have hL : a.length = b.length := by omega
 refine loopS (fun k st => ∃ i : Nat, k = a.length - i ∧ i ≤ a.length ∧ a.take i = b.take i ∧ st = ⟨[(0, .pd (.slice (rows ANeed.pd a))), (1, .pd (.slice (rows ANeed.pd b))), (5, int i)], [], [], .no⟩) a.length _ ?_ ⟨0, rfl, by omega, rfl, rfl⟩ ?_
 ·exact lessA
 rintro k st ⟨i, rfl, hi, hT, rfl⟩
 have hw := i64_succ (show i < 1000000000 by omega)
 by_cases hlt : i < a.length
 ·obtain ⟨x, hx⟩ := at_lt hlt
  obtain ⟨y, hy⟩ := at_lt (show i < b.length by omega)
  have h1 : ((i : Int) < (a.length : Int)) = True := eq_true (by omega)
  simp only [go_sem, simprocAttr, rows_get hx, rows_get hy, h1, hw]
  ·repeat' (first | refine GifP.mk (fun _ => ?_) (fun _ => ?_) | refine Gif.mk (fun _ => ?_) (fun _ => ?_) | (refine (ref1_Same x.vals y.vals (hb x (List.mem_of_getElem? hx))).callX (enters_of Tryz.func55 rfl rfl) _ rfl rfl ?_; rintro _ rfl; simp only [go_sem, simprocAttr, rows_get hx, rows_get hy, hw]) | refine And.intro ?_ ?_)
   all_goals first
    | (refine ⟨a.length - (i + 1), _, by omega, ?_, i + 1, rfl, by omega, take_step hT hx hy (by first | assumption | (cases x; cases y; simp_all)), rfl⟩; exact lessA)
    | (simp only [retK, resD, retL, oneD, simprocAttr, Tryz.results56]; exact ⟨_, rfl, rfl, res_no (fun e => by subst e; have hxy := Option.some.inj (hx.symm.trans hy); subst hxy; first | contradiction | simp_all)⟩)
 have h1 : ((i : Int) < (a.length : Int)) = False := eq_false (by omega)
 have hE := take_end hT (by omega) hlt
 clear hT hi hw
 simp only [go_sem, simprocAttr, h1]
 clear h1 hlt i
 simp only [retK, resD, retL, oneD, simprocAttr, Tryz.results56]
 exact ⟨_, rfl, rfl, res_yes hE⟩

theorem ref6_Same (a b : AMatch) (h1 : a.head.length ≤ 1000000) (h2 : a.query.length ≤ 1000000) : Pure Tryz.prog 111 [.agg [int a.pkind, str a.pval, str a.method, .pd (.slice (rows APair.pd a.head)), .pd (.slice (rows APair.pd a.query))], .agg [int b.pkind, str b.pval, str b.method, .pd (.slice (rows APair.pd b.head)), .pd (.slice (rows APair.pd b.query))]] (fun d => d = bln (decide (a = b))) := by
 refine pure_of_run follows an_zlug8 Tryz.func111 rfl ok_zlug8.1 ok_zlug8.2 (by simp [Tryz.ntmps111]) ?_
 rw [run_start]
 simp only [ac_zlug8, go_sem, simprocAttr, eqVs, eqV]
 (repeat' (first | (refine GifP.mk (fun _ => ?_) (fun _ => ?_)) | (refine Gif.mk (fun _ => ?_) (fun _ => ?_)) | ((first | refine (ref4_Same a.head b.head h1).callW (enters_of Tryz.func54 rfl rfl) _ rfl rfl ?_ | refine (ref4_Same a.query b.query h2).callW (enters_of Tryz.func54 rfl rfl) _ rfl rfl ?_); rintro _ rfl; try simp only [go_sem, simprocAttr, eqVs, eqV]))) <;> (simp only [retK, resD, retL, oneD, simprocAttr, Tryz.results111]; exact ⟨_, rfl, rfl, congrArg bln (by cases a; cases b; rw [Bool.eq_iff_iff]; simp_all)⟩)

set_option maxHeartbeats 2000000 in
theorem ref9_SameRule (a b : ARule) (h1 : a.matches_.length ≤ 1000000) (h2 : a.filters.length ≤ 1000000) (h3 : a.backends.length ≤ 1000000) (h4 : ∀ m ∈ a.matches_, m.head.length ≤ 1000000 ∧ m.query.length ≤ 1000000) :
 Pure Tryz.prog 57 [.agg [.pd (.slice (rows AMatch.pd a.matches_)), .pd (.slice (rows AFilter.pd a.filters)), .pd (.slice (rows ABackend.pd a.backends))], .agg [.pd (.slice (rows AMatch.pd b.matches_)), .pd (.slice (rows AFilter.pd b.filters)), .pd (.slice (rows ABackend.pd b.backends))]] (fun d => d = bln (decide (a = b))) := by
 refine pure_of_run follows an_zt6t3 Tryz.func57 rfl ok_zt6t3.1 ok_zt6t3.2 (by simp [Tryz.ntmps57]) ?_
 rw [run_start]
 simp only [ac_zt6t3, go_sem, simprocAttr]
 repeat' (refine GifP.mk (fun _ => ?_) (fun _ => ?_))
 all_goals first
  | (simp only [retK, resD, retL, oneD, simprocAttr, Tryz.results57]; exact ⟨_, rfl, rfl, res_no (fun e => by subst e; contradiction)⟩)
  | skip
 refine loopS (fun k st => ∃ i : Nat, k = a.matches_.length - i ∧ i ≤ a.matches_.length ∧ a.matches_.take i = b.matches_.take i ∧ st = ⟨[(2, .ptr 2 0), (3, .ptr 3 0), (5, int i)], [(2, [.pd (.slice (rows AMatch.pd a.matches_)), .pd (.slice (rows AFilter.pd a.filters)), .pd (.slice (rows ABackend.pd a.backends))]), (3, [.pd (.slice (rows AMatch.pd b.matches_)), .pd (.slice (rows AFilter.pd b.filters)), .pd (.slice (rows ABackend.pd b.backends))])], [], .no⟩) a.matches_.length _ ?_ ⟨0, rfl, by omega, rfl, rfl⟩ ?_
 ·exact lessA
 rintro k st ⟨i, rfl, hi, hT, rfl⟩
 have hw := i64_succ (show i < 1000000000 by omega)
 by_cases hlt : i < a.matches_.length
 ·obtain ⟨x, hx⟩ := at_lt hlt
  obtain ⟨y, hy⟩ := at_lt (show i < b.matches_.length by omega)
  have h1 : ((i : Int) < (a.matches_.length : Int)) = True := eq_true (by omega)
  simp only [go_sem, simprocAttr, rows_get hx, rows_get hy, h1, hw]
  ·repeat' (first | refine GifP.mk (fun _ => ?_) (fun _ => ?_) | refine Gif.mk (fun _ => ?_) (fun _ => ?_) | (refine (ref6_Same x y (h4 x (List.mem_of_getElem? hx)).1 (h4 x (List.mem_of_getElem? hx)).2).callX (enters_of Tryz.func111 rfl rfl) _ rfl rfl ?_; rintro _ rfl; simp only [go_sem, simprocAttr, rows_get hx, rows_get hy, hw]) | refine And.intro ?_ ?_)
   all_goals first
    | (refine ⟨a.matches_.length - (i + 1), _, by omega, ?_, i + 1, rfl, by omega, take_step hT hx hy (by first | assumption | (cases x; cases y; simp_all)), rfl⟩; exact lessA)
    | (simp only [retK, resD, retL, oneD, simprocAttr, Tryz.results57]; exact ⟨_, rfl, rfl, res_no (fun e => by subst e; have hxy := Option.some.inj (hx.symm.trans hy); subst hxy; first | contradiction | simp_all)⟩)
 have h1 : ((i : Int) < (a.matches_.length : Int)) = False := eq_false (by omega)
 have hM := take_end hT (by omega) hlt
 clear hT hi hw
 simp only [go_sem, simprocAttr, h1]
 clear h1 hlt i
 refine loopS (fun k st => ∃ i : Nat, k = a.filters.length - i ∧ i ≤ a.filters.length ∧ a.filters.take i = b.filters.take i ∧ st = ⟨[(2, .ptr 2 0), (3, .ptr 3 0), (6, int i)], [(2, [.pd (.slice (rows AMatch.pd a.matches_)), .pd (.slice (rows AFilter.pd a.filters)), .pd (.slice (rows ABackend.pd a.backends))]), (3, [.pd (.slice (rows AMatch.pd b.matches_)), .pd (.slice (rows AFilter.pd b.filters)), .pd (.slice (rows ABackend.pd b.backends))])], [], .no⟩) a.filters.length _ ?_ ⟨0, rfl, by omega, rfl, rfl⟩ ?_
 ·exact lessA
 rintro k st ⟨i, rfl, hi, hT, rfl⟩
 have hw := i64_succ (show i < 1000000000 by omega)
 by_cases hlt : i < a.filters.length
 ·obtain ⟨x, hx⟩ := at_lt hlt
  obtain ⟨y, hy⟩ := at_lt (show i < b.filters.length by omega)
  have h1 : ((i : Int) < (a.filters.length : Int)) = True := eq_true (by omega)
  simp only [go_sem, simprocAttr, rows_get hx, rows_get hy, h1, hw, eqVs, eqV, eq_Filter]
  ·repeat' (first | refine GifP.mk (fun _ => ?_) (fun _ => ?_) | refine Gif.mk (fun _ => ?_) (fun _ => ?_) | refine And.intro ?_ ?_)
   all_goals first
    | (refine ⟨a.filters.length - (i + 1), _, by omega, ?_, i + 1, rfl, by omega, take_step hT hx hy (by first | assumption | (cases x; cases y; simp_all)), rfl⟩; exact lessA)
    | (simp only [retK, resD, retL, oneD, simprocAttr, Tryz.results57]; exact ⟨_, rfl, rfl, res_no (fun e => by subst e; have hxy := Option.some.inj (hx.symm.trans hy); subst hxy; first | contradiction | simp_all)⟩)
 have h1 : ((i : Int) < (a.filters.length : Int)) = False := eq_false (by omega)
 have hF := take_end hT (by omega) hlt
 clear hT hi hw
 simp only [go_sem, simprocAttr, h1]
 clear h1 hlt i
 refine loopS (fun k st => ∃ i : Nat, k = a.backends.length - i ∧ i ≤ a.backends.length ∧ a.backends.take i = b.backends.take i ∧ st = ⟨[(2, .ptr 2 0), (3, .ptr 3 0), (7, int i)], [(2, [.pd (.slice (rows AMatch.pd a.matches_)), .pd (.slice (rows AFilter.pd a.filters)), .pd (.slice (rows ABackend.pd a.backends))]), (3, [.pd (.slice (rows AMatch.pd b.matches_)), .pd (.slice (rows AFilter.pd b.filters)), .pd (.slice (rows ABackend.pd b.backends))])], [], .no⟩) a.backends.length _ ?_ ⟨0, rfl, by omega, rfl, rfl⟩ ?_
 ·exact lessA
 rintro k st ⟨i, rfl, hi, hT, rfl⟩
 have hw := i64_succ (show i < 1000000000 by omega)
 by_cases hlt : i < a.backends.length
 ·obtain ⟨x, hx⟩ := at_lt hlt
  obtain ⟨y, hy⟩ := at_lt (show i < b.backends.length by omega)
  have h1 : ((i : Int) < (a.backends.length : Int)) = True := eq_true (by omega)
  simp only [go_sem, simprocAttr, rows_get hx, rows_get hy, h1, hw, eqVs, eqV, eq_Backend]
  ·repeat' (first | refine GifP.mk (fun _ => ?_) (fun _ => ?_) | refine Gif.mk (fun _ => ?_) (fun _ => ?_) | refine And.intro ?_ ?_)
   all_goals first
    | (refine ⟨a.backends.length - (i + 1), _, by omega, ?_, i + 1, rfl, by omega, take_step hT hx hy (by first | assumption | (cases x; cases y; simp_all)), rfl⟩; exact lessA)
    | (simp only [retK, resD, retL, oneD, simprocAttr, Tryz.results57]; exact ⟨_, rfl, rfl, res_no (fun e => by subst e; have hxy := Option.some.inj (hx.symm.trans hy); subst hxy; first | contradiction | simp_all)⟩)
 have h1 : ((i : Int) < (a.backends.length : Int)) = False := eq_false (by omega)
 have hB := take_end hT (by omega) hlt
 clear hT hi hw
 simp only [go_sem, simprocAttr, h1]
 clear h1 hlt i
 simp only [retK, resD, retL, oneD, simprocAttr, Tryz.results57]
 exact ⟨_, rfl, rfl, res_yes (by cases a; cases b; simp_all)⟩

set_option maxHeartbeats 8000000 in
theorem ref9_Same (a b : AObj) (ha : a.ok) : Pure Tryz.prog 14 [a.d, b.d] (fun d => d = bln (decide (a = b))) := by
 have hla := ha.la
 have hpo := ha.po
 have hli := ha.li
 have hpa := ha.pa
 have hho := ha.ho
 have hru := ha.ru
 have hfr := ha.fr
 have hto := ha.to
 refine pure_of_run follows an_zwcd Tryz.func14 rfl ok_zwcd.1 ok_zwcd.2 (by simp [Tryz.ntmps14]) ?_
 rw [run_start]
 simp only [ac_zwcd, go_sem, simprocAttr, eqVs, eqV, eq_Ref]
 repeat' (first | refine GifP.mk (fun _ => ?_) (fun _ => ?_) | refine Gif.mk (fun _ => ?_) (fun _ => ?_) | (refine (ref4_Same a.labels b.labels hla).callW (enters_of Tryz.func54 rfl rfl) _ rfl rfl ?_; rintro _ rfl; simp only [go_sem, simprocAttr]) | (refine (ref1_Same a.hosts b.hosts hho).callW (enters_of Tryz.func55 rfl rfl) _ rfl rfl ?_; rintro _ rfl; simp only [go_sem, simprocAttr]))
 all_goals first
  | (simp only [retK, resD, retL, oneD, simprocAttr, Tryz.results14]; exact ⟨_, rfl, rfl, res_no (fun e => by subst e; first | contradiction | simp_all)⟩)
  | skip
 refine loopS (fun k st => ∃ i : Nat, k = a.ports.length - i ∧ i ≤ a.ports.length ∧ a.ports.take i = b.ports.take i ∧ st = ⟨[(2, .ptr 2 0), (3, .ptr 3 0), (5, int i)], [(2, a.ds), (3, b.ds)], [], .no⟩) a.ports.length _ ?_ ⟨0, rfl, by omega, rfl, rfl⟩ ?_
 ·exact lessA
 rintro k st ⟨i, rfl, hi, hT, rfl⟩
 have hw := i64_succ (show i < 1000000000 by omega)
 by_cases hlt : i < a.ports.length
 ·obtain ⟨x, hx⟩ := at_lt hlt
  obtain ⟨y, hy⟩ := at_lt (show i < b.ports.length by omega)
  have h1 : ((i : Int) < (a.ports.length : Int)) = True := eq_true (by omega)
  simp only [go_sem, simprocAttr, rows_get hx, rows_get hy, h1, hw]
  ·repeat' (first | refine GifP.mk (fun _ => ?_) (fun _ => ?_) | refine Gif.mk (fun _ => ?_) (fun _ => ?_) | refine And.intro ?_ ?_)
   all_goals first
    | (refine ⟨a.ports.length - (i + 1), _, by omega, ?_, i + 1, rfl, by omega, take_step hT hx hy (by first | assumption | (cases x; cases y; simp_all)), rfl⟩; exact lessA)
    | (simp only [retK, resD, retL, oneD, simprocAttr, Tryz.results14]; exact ⟨_, rfl, rfl, res_no (fun e => by subst e; have hxy := Option.some.inj (hx.symm.trans hy); subst hxy; first | contradiction | simp_all)⟩)
 have h1 : ((i : Int) < (a.ports.length : Int)) = False := eq_false (by omega)
 have hE1 := take_end hT (by omega) hlt
 clear hT hi hw
 simp only [go_sem, simprocAttr, h1]
 clear h1 hlt i
 refine loopS (fun k st => ∃ i : Nat, k = a.listeners.length - i ∧ i ≤ a.listeners.length ∧ a.listeners.take i = b.listeners.take i ∧ st = ⟨[(2, .ptr 2 0), (3, .ptr 3 0), (6, int i)], [(2, a.ds), (3, b.ds)], [], .no⟩) a.listeners.length _ ?_ ⟨0, rfl, by omega, rfl, rfl⟩ ?_
 ·exact lessA
 rintro k st ⟨i, rfl, hi, hT, rfl⟩
 have hw := i64_succ (show i < 1000000000 by omega)
 by_cases hlt : i < a.listeners.length
 ·obtain ⟨x, hx⟩ := at_lt hlt
  obtain ⟨y, hy⟩ := at_lt (show i < b.listeners.length by omega)
  have h1 : ((i : Int) < (a.listeners.length : Int)) = True := eq_true (by omega)
  simp only [go_sem, simprocAttr, rows_get hx, rows_get hy, h1, hw, eqVs, eqV, eq_Ref]
  ·repeat' (first | refine GifP.mk (fun _ => ?_) (fun _ => ?_) | refine Gif.mk (fun _ => ?_) (fun _ => ?_) | (refine (ref8_Same x.needs y.needs (ha.lis x (List.mem_of_getElem? hx)).nl (fun n hn => ((ha.lis x (List.mem_of_getElem? hx)).n n hn))).callW (enters_of Tryz.func56 rfl rfl) _ rfl rfl ?_; rintro _ rfl; simp only [go_sem, simprocAttr, rows_get hx, rows_get hy, hw, eqVs, eqV, eq_Ref]) | refine And.intro ?_ ?_)
   all_goals first
    | (refine ⟨a.listeners.length - (i + 1), _, by omega, ?_, i + 1, rfl, by omega, take_step hT hx hy (by first | assumption | (cases x; cases y; simp_all)), rfl⟩; exact lessA)
    | (simp only [retK, resD, retL, oneD, simprocAttr, Tryz.results14]; exact ⟨_, rfl, rfl, res_no (fun e => by subst e; have hxy := Option.some.inj (hx.symm.trans hy); subst hxy; first | contradiction | simp_all)⟩)
 have h1 : ((i : Int) < (a.listeners.length : Int)) = False := eq_false (by omega)
 have hE2 := take_end hT (by omega) hlt
 clear hT hi hw
 simp only [go_sem, simprocAttr, h1]
 clear h1 hlt i
 refine loopS (fun k st => ∃ i : Nat, k = a.parents.length - i ∧ i ≤ a.parents.length ∧ a.parents.take i = b.parents.take i ∧ st = ⟨[(2, .ptr 2 0), (3, .ptr 3 0), (9, int i)], [(2, a.ds), (3, b.ds)], [], .no⟩) a.parents.length _ ?_ ⟨0, rfl, by omega, rfl, rfl⟩ ?_
 ·exact lessA
 rintro k st ⟨i, rfl, hi, hT, rfl⟩
 have hw := i64_succ (show i < 1000000000 by omega)
 by_cases hlt : i < a.parents.length
 ·obtain ⟨x, hx⟩ := at_lt hlt
  obtain ⟨y, hy⟩ := at_lt (show i < b.parents.length by omega)
  have h1 : ((i : Int) < (a.parents.length : Int)) = True := eq_true (by omega)
  simp only [go_sem, simprocAttr, rows_get hx, rows_get hy, h1, hw, eqVs, eqV, eq_Parent]
  ·repeat' (first | refine GifP.mk (fun _ => ?_) (fun _ => ?_) | refine Gif.mk (fun _ => ?_) (fun _ => ?_) | refine And.intro ?_ ?_)
   all_goals first
    | (refine ⟨a.parents.length - (i + 1), _, by omega, ?_, i + 1, rfl, by omega, take_step hT hx hy (by first | assumption | (cases x; cases y; simp_all)), rfl⟩; exact lessA)
    | (simp only [retK, resD, retL, oneD, simprocAttr, Tryz.results14]; exact ⟨_, rfl, rfl, res_no (fun e => by subst e; have hxy := Option.some.inj (hx.symm.trans hy); subst hxy; first | contradiction | simp_all)⟩)
 have h1 : ((i : Int) < (a.parents.length : Int)) = False := eq_false (by omega)
 have hE3 := take_end hT (by omega) hlt
 clear hT hi hw
 simp only [go_sem, simprocAttr, h1]
 clear h1 hlt i
 refine loopS (fun k st => ∃ i : Nat, k = a.from_.length - i ∧ i ≤ a.from_.length ∧ a.from_.take i = b.from_.take i ∧ st = ⟨[(2, .ptr 2 0), (3, .ptr 3 0), (10, int i)], [(2, a.ds), (3, b.ds)], [], .no⟩) a.from_.length _ ?_ ⟨0, rfl, by omega, rfl, rfl⟩ ?_
 ·exact lessA
 rintro k st ⟨i, rfl, hi, hT, rfl⟩
 have hw := i64_succ (show i < 1000000000 by omega)
 by_cases hlt : i < a.from_.length
 ·obtain ⟨x, hx⟩ := at_lt hlt
  obtain ⟨y, hy⟩ := at_lt (show i < b.from_.length by omega)
  have h1 : ((i : Int) < (a.from_.length : Int)) = True := eq_true (by omega)
  simp only [go_sem, simprocAttr, rows_get hx, rows_get hy, h1, hw, eqVs, eqV, eq_Side]
  ·repeat' (first | refine GifP.mk (fun _ => ?_) (fun _ => ?_) | refine Gif.mk (fun _ => ?_) (fun _ => ?_) | refine And.intro ?_ ?_)
   all_goals first
    | (refine ⟨a.from_.length - (i + 1), _, by omega, ?_, i + 1, rfl, by omega, take_step hT hx hy (by first | assumption | (cases x; cases y; simp_all)), rfl⟩; exact lessA)
    | (simp only [retK, resD, retL, oneD, simprocAttr, Tryz.results14]; exact ⟨_, rfl, rfl, res_no (fun e => by subst e; have hxy := Option.some.inj (hx.symm.trans hy); subst hxy; first | contradiction | simp_all)⟩)
 have h1 : ((i : Int) < (a.from_.length : Int)) = False := eq_false (by omega)
 have hE4 := take_end hT (by omega) hlt
 clear hT hi hw
 simp only [go_sem, simprocAttr, h1]
 clear h1 hlt i
 refine loopS (fun k st => ∃ i : Nat, k = a.to_.length - i ∧ i ≤ a.to_.length ∧ a.to_.take i = b.to_.take i ∧ st = ⟨[(2, .ptr 2 0), (3, .ptr 3 0), (11, int i)], [(2, a.ds), (3, b.ds)], [], .no⟩) a.to_.length _ ?_ ⟨0, rfl, by omega, rfl, rfl⟩ ?_
 ·exact lessA
 rintro k st ⟨i, rfl, hi, hT, rfl⟩
 have hw := i64_succ (show i < 1000000000 by omega)
 by_cases hlt : i < a.to_.length
 ·obtain ⟨x, hx⟩ := at_lt hlt
  obtain ⟨y, hy⟩ := at_lt (show i < b.to_.length by omega)
  have h1 : ((i : Int) < (a.to_.length : Int)) = True := eq_true (by omega)
  simp only [go_sem, simprocAttr, rows_get hx, rows_get hy, h1, hw, eqVs, eqV, eq_Side]
  ·repeat' (first | refine GifP.mk (fun _ => ?_) (fun _ => ?_) | refine Gif.mk (fun _ => ?_) (fun _ => ?_) | refine And.intro ?_ ?_)
   all_goals first
    | (refine ⟨a.to_.length - (i + 1), _, by omega, ?_, i + 1, rfl, by omega, take_step hT hx hy (by first | assumption | (cases x; cases y; simp_all)), rfl⟩; exact lessA)
    | (simp only [retK, resD, retL, oneD, simprocAttr, Tryz.results14]; exact ⟨_, rfl, rfl, res_no (fun e => by subst e; have hxy := Option.some.inj (hx.symm.trans hy); subst hxy; first | contradiction | simp_all)⟩)
 have h1 : ((i : Int) < (a.to_.length : Int)) = False := eq_false (by omega)
 have hE5 := take_end hT (by omega) hlt
 clear hT hi hw
 simp only [go_sem, simprocAttr, h1]
 clear h1 hlt i
 refine loopS (fun k st => ∃ i : Nat, k = a.rules.length - i ∧ i ≤ a.rules.length ∧ a.rules.take i = b.rules.take i ∧ st = ⟨[(2, .ptr 2 0), (3, .ptr 3 0), (12, int i)], [(2, a.ds), (3, b.ds)], [], .no⟩) a.rules.length _ ?_ ⟨0, rfl, by omega, rfl, rfl⟩ ?_
 ·exact lessA
 rintro k st ⟨i, rfl, hi, hT, rfl⟩
 have hw := i64_succ (show i < 1000000000 by omega)
 by_cases hlt : i < a.rules.length
 ·obtain ⟨x, hx⟩ := at_lt hlt
  obtain ⟨y, hy⟩ := at_lt (show i < b.rules.length by omega)
  have h1 : ((i : Int) < (a.rules.length : Int)) = True := eq_true (by omega)
  simp only [go_sem, simprocAttr, rows_get hx, rows_get hy, h1, hw]
  ·repeat' (first | refine GifP.mk (fun _ => ?_) (fun _ => ?_) | refine Gif.mk (fun _ => ?_) (fun _ => ?_) | (refine (ref9_SameRule x y (ha.rus x (List.mem_of_getElem? hx)).ml (ha.rus x (List.mem_of_getElem? hx)).fl (ha.rus x (List.mem_of_getElem? hx)).bl (fun m hm => ⟨((ha.rus x (List.mem_of_getElem? hx)).m m hm).hl, ((ha.rus x (List.mem_of_getElem? hx)).m m hm).ql⟩)).callX (enters_of Tryz.func57 rfl rfl) _ rfl rfl ?_; rintro _ rfl; simp only [go_sem, simprocAttr, rows_get hx, rows_get hy, hw]) | refine And.intro ?_ ?_)
   all_goals first
    | (refine ⟨a.rules.length - (i + 1), _, by omega, ?_, i + 1, rfl, by omega, take_step hT hx hy (by first | assumption | (cases x; cases y; simp_all)), rfl⟩; exact lessA)
    | (simp only [retK, resD, retL, oneD, simprocAttr, Tryz.results14]; exact ⟨_, rfl, rfl, res_no (fun e => by subst e; have hxy := Option.some.inj (hx.symm.trans hy); subst hxy; first | contradiction | simp_all)⟩)
 have h1 : ((i : Int) < (a.rules.length : Int)) = False := eq_false (by omega)
 have hE6 := take_end hT (by omega) hlt
 clear hT hi hw
 simp only [go_sem, simprocAttr, h1]
 clear h1 hlt i
 simp only [retK, resD, retL, oneD, simprocAttr, Tryz.results14]
 exact ⟨_, rfl, rfl, res_yes (by cases a; cases b; simp_all)⟩


set_option maxHeartbeats 2000000 in
theorem ref9_SameRefs (a b : List ARef) (ha : a.length ≤ 1000000) : Pure Tryz.prog 16 [.pd (.slice (rows ARef.pd a)), .pd (.slice (rows ARef.pd b))] (fun d => d = bln (decide (a = b))) := by
 refine pure_of_run follows an_zvzmk Tryz.func16 rfl ok_zvzmk.1 ok_zvzmk.2 (by simp [Tryz.ntmps16]) ?_
 rw [run_start]
 simp only [ac_zvzmk, go_sem, simprocAttr]
 refine GifP.mk (fun hl => ?_) (fun hl => ?_)
 rotate_left
 ·simp only [retK, resD, retL, oneD, simprocAttr, Tryz.results16]
  exact ⟨_, rfl, rfl, res_no (fun e => hl (by rw [e]))⟩
 have hL : a.length = b.length := by omega
 refine loopS (fun k st => ∃ i : Nat, k = a.length - i ∧ i ≤ a.length ∧ a.take i = b.take i ∧ st = ⟨[(0, .pd (.slice (rows ARef.pd a))), (1, .pd (.slice (rows ARef.pd b))), (5, int i)], [], [], .no⟩) a.length _ ?_ ⟨0, rfl, by omega, rfl, rfl⟩ ?_
 ·exact lessA
 rintro k st ⟨i, rfl, hi, hT, rfl⟩
 have hw := i64_succ (show i < 1000000000 by omega)
 by_cases hlt : i < a.length
 ·obtain ⟨x, hx⟩ := at_lt hlt
  obtain ⟨y, hy⟩ := at_lt (show i < b.length by omega)
  have h1 : ((i : Int) < (a.length : Int)) = True := eq_true (by omega)
  simp only [go_sem, simprocAttr, rows_get hx, rows_get hy, h1, hw, eqVs, eqV, eq_Ref]
  ·repeat' (first | refine GifP.mk (fun _ => ?_) (fun _ => ?_) | refine Gif.mk (fun _ => ?_) (fun _ => ?_) | refine And.intro ?_ ?_)
   all_goals first
    | (refine ⟨a.length - (i + 1), _, by omega, ?_, i + 1, rfl, by omega, take_step hT hx hy (by first | assumption | (cases x; cases y; simp_all)), rfl⟩; exact lessA)
    | (simp only [retK, resD, retL, oneD, simprocAttr, Tryz.results16]; exact ⟨_, rfl, rfl, res_no (fun e => by subst e; have hxy := Option.some.inj (hx.symm.trans hy); subst hxy; first | contradiction | simp_all)⟩)
 have h1 : ((i : Int) < (a.length : Int)) = False := eq_false (by omega)
 have hE := take_end hT (by omega) hlt
 clear hT hi hw
 simp only [go_sem, simprocAttr, h1]
 clear h1 hlt i
 simp only [retK, resD, retL, oneD, simprocAttr, Tryz.results16]
 exact ⟨_, rfl, rfl, res_yes hE⟩


theorem refSort_eq {l s : List ARef} (hp : s.Perm l) (hs : s.Pairwise fun x y => refLt y x = false) : refSort l = s := by
 refine List.Perm.eq_of_pairwise (le := fun x y => refLt y x = false) (fun a b _ _ h1 h2 => refLt_tri h2 h1) ?_ hs ((List.mergeSort_perm _ _).trans hp.symm)
 have h := List.pairwise_mergeSort (le := fun x y => !refLt y x) (fun a b c h1 h2 => by
  simp only [Bool.not_eq_true'] at *
  cases h3 : refLt c a with
  | false => rfl
  | true =>
    exfalso
    cases h4 : refLt b a with
    | true => rw [h4] at h1; cases h1
    | false =>
      cases h5 : refLt a b with
      | true => have := refLt_tr h3 h5; rw [this] at h2; cases h2
      | false => rw [refLt_tri h5 h4] at h3; rw [h3] at h2; cases h2) (fun a b => by
  cases h1 : refLt b a with
  | false => rfl
  | true => rw [refLt_asym h1]; rfl) l
 exact h.imp fun {a b} h => by simpa using h

abbrev tWeb : ByteArray := ⟨#[119, 101, 98]⟩
abbrev tApp : ByteArray := ⟨#[97, 112, 112]⟩
abbrev tApi : ByteArray := ⟨#[97, 112, 105]⟩
abbrev tGw : ByteArray := ⟨#[103, 119]⟩

def rt9 : AObj := ⟨⟨6, tWeb, ⟨#[97]⟩⟩, false, [], [], ⟨#[]⟩, [], [⟨⟨#[]⟩, tGw, ⟨#[]⟩, 0⟩], [], [⟨[], [], [⟨⟨3, tApp, tApi⟩, 0, 0⟩]⟩], [], []⟩
def gw9 : AObj := ⟨⟨5, tWeb, tGw⟩, false, [], [], ⟨#[99]⟩, [], [], [], [], [], []⟩

theorem rt9_ok : rt9.ok := by
 constructor
 all_goals first
  | (simp [rt9]; done)
  | (intro r hr
     simp only [rt9, List.mem_singleton] at hr
     subst hr
     constructor <;> simp)
theorem gw9_ok : gw9.ok := by constructor <;> simp [gw9]
theorem rt9_few : rt9.few := by constructor <;> simp [rt9]
theorem rt9_refs : refsOf rt9 = [⟨2, ⟨#[]⟩, tWeb⟩, ⟨3, tApp, tApi⟩, ⟨5, tWeb, tGw⟩] := by
 have h1 : objMay rt9 = true := by decide +kernel
 have h2 : refsList rt9 = [⟨5, tWeb, tGw⟩, ⟨3, tApp, tApi⟩, ⟨2, ⟨#[]⟩, tWeb⟩] := by decide +kernel
 unfold refsOf
 rw [if_pos h1, h2, refSort_eq (s := [⟨2, ⟨#[]⟩, tWeb⟩, ⟨3, tApp, tApi⟩, ⟨5, tWeb, tGw⟩]) (by decide) (by decide +kernel)]
 decide +kernel

theorem law9_route : Pure Tryz.prog 58 [] (fun d => d = rt9.d) := by
 refine pure_of_run follows an_zlfbg Tryz.func58 rfl ok_zlfbg.1 ok_zlfbg.2 (by simp [Tryz.ntmps58]) ?_
 rw [run_start]
 simp only [ac_zlfbg, go_sem, simprocAttr]
 simp only [retK, resD, resA, AOp.ex, St.ev, retL, oneD, simprocAttr, ret_zlfbg]
 exact ⟨_, rfl, rfl, rfl⟩

set_option maxHeartbeats 2000000 in
theorem awake9 : Pure Tryz.prog 15 [] (fun d => d = bln true) := by
 have cT := object_Text rt9.ref
 rw [if_pos (show mayRef rt9.ref = true by decide +kernel), show textOf rt9.ref = ⟨#[54, 32, 119, 101, 98, 47, 97]⟩ by decide +kernel] at cT
 have cM := object_May gw9 gw9_ok
 rw [show objMay gw9 = false by decide +kernel] at cM
 have cR := object_Refs rt9 rt9_ok rt9_few
 rw [rt9_refs] at cR
 have cS := ref9_SameRefs [⟨2, ⟨#[]⟩, tWeb⟩, ⟨3, tApp, tApi⟩, ⟨5, tWeb, tGw⟩] [⟨2, ⟨#[]⟩, tWeb⟩, ⟨3, tApp, tApi⟩, ⟨5, tWeb, tGw⟩] (by decide)
 rw [decide_eq_true rfl] at cS
 refine pure_of_run follows an_z7f18 Tryz.func15 rfl ok_z7f18.1 ok_z7f18.2 (by simp [Tryz.ntmps15]) ?_
 rw [run_start]
 simp only [ac_z7f18, go_sem, simprocAttr]
 refine law9_route.callW (enters_of Tryz.func58 rfl rfl) _ rfl rfl ?_
 rintro _ rfl
 simp only [rt9, go_sem, simprocAttr]
 refine cT.callW (enters_of Tryz.func22 rfl rfl) _ rfl rfl ?_
 rintro _ rfl
 simp only [go_sem, simprocAttr]
 refine cM.callW (enters_of Tryz.func11 rfl rfl) _ rfl rfl ?_
 rintro _ rfl
 simp only [go_sem, simprocAttr]
 refine law9_route.callW (enters_of Tryz.func58 rfl rfl) _ rfl rfl ?_
 rintro _ rfl
 simp only [rt9, go_sem, simprocAttr]
 refine cR.callW (enters_of Tryz.func17 rfl rfl) _ rfl rfl ?_
 rintro _ rfl
 simp only [go_sem, simprocAttr]
 refine cS.callW (enters_of Tryz.func16 rfl rfl) _ rfl rfl ?_
 rintro _ rfl
 simp only [go_sem, simprocAttr]
 simp only [retK, resD, retL, oneD, simprocAttr, Tryz.results15]
 exact ⟨_, rfl, rfl, rfl⟩


abbrev Rise (l : List ARef) : Prop := l.Pairwise fun x y => refLt x y = true

theorem rise_unique : ∀ {l m : List ARef}, Rise l → Rise m → (∀ x, x ∈ l ↔ x ∈ m) → l = m
 | [], [], _, _, _ => rfl
 | [], b :: m, _, _, h => by have := (h b).2 List.mem_cons_self; cases this
 | a :: l, [], _, _, h => by have := (h a).1 List.mem_cons_self; cases this
 | a :: l, b :: m, hl, hm, h => by
   obtain ⟨hl1, hl2⟩ := List.pairwise_cons.1 hl
   obtain ⟨hm1, hm2⟩ := List.pairwise_cons.1 hm
   have hab : a = b := by
    rcases List.mem_cons.1 ((h a).1 List.mem_cons_self) with e | e
    ·exact e
    ·rcases List.mem_cons.1 ((h b).2 List.mem_cons_self) with e' | e'
     ·exact e'.symm
     ·have h1 := hm1 a e
      have h2 := hl1 b e'
      rw [refLt_asym h1] at h2
      cases h2
   subst hab
   rw [rise_unique hl2 hm2 fun x => ?_]
   constructor
   ·intro hx
    rcases List.mem_cons.1 ((h x).1 (List.mem_cons_of_mem _ hx)) with e | e
    ·subst e
     have := hl1 x hx
     rw [refLt_self] at this
     cases this
    ·exact e
   ·intro hx
    rcases List.mem_cons.1 ((h x).2 (List.mem_cons_of_mem _ hx)) with e | e
    ·subst e
     have := hm1 x hx
     rw [refLt_self] at this
     cases this
    ·exact e

abbrev refLe (x y : ARef) : Prop := refLt y x = false

theorem le_lt {x y z : ARef} (h : refLe x y) (k : refLt y z = true) : refLt x z = true := by
 cases h1 : refLt x z with
 | true => rfl
 | false =>
   cases h2 : refLt z x with
   | true => have h' : refLt y x = false := h; have := refLt_tr k h2; rw [this] at h'; cases h'
   | false => have h' : refLt y x = false := h; rw [refLt_tri h1 h2] at h'; rw [h'] at k; cases k

theorem le_ne {x y : ARef} (h : refLe x y) (k : ¬ x = y) : refLt x y = true := by
 cases h1 : refLt x y with
 | true => rfl
 | false => exact absurd (refLt_tri h1 h) k

theorem le_tr {x y z : ARef} (h : refLe x y) (k : refLe y z) : refLe x z := by
 have h' : refLt y x = false := h
 have k' : refLt z y = false := k
 show refLt z x = false
 cases h1 : refLt z x with
 | false => rfl
 | true =>
   exfalso
   by_cases e : x = y
   ·subst e; rw [h1] at k'; cases k'
   ·have := refLt_tr h1 (le_ne h e)
    rw [this] at k'
    cases k'

theorem compact_rise {d : Array ARef} (hd : ∀ i j, i ≤ j → j < d.size → refLe d[i]! d[j]!) : ∀ m, m ≤ d.size → Rise (Lib.compactUpTo d m) ∧ (∀ x, x ∈ Lib.compactUpTo d m ↔ ∃ j, j < m ∧ d[j]! = x)
 | 0, _ => by simp [Lib.compactUpTo]
 | m + 1, hm => by
   obtain ⟨h1, h2⟩ := compact_rise hd m (by omega)
   rw [Lib.compactUpTo_succ]
   have hle : ∀ x, x ∈ Lib.compactUpTo d m → refLe x d[m]! := fun x hx => by
    obtain ⟨j, hj, rfl⟩ := (h2 x).1 hx
    exact hd j m (by omega) (by omega)
   by_cases hk : Lib.keeps d m = true
   ·rw [if_pos hk]
    constructor
    ·refine List.pairwise_append.2 ⟨h1, List.pairwise_singleton _ _, fun x hx y hy => ?_⟩
     rw [List.mem_singleton.1 hy]
     simp only [Lib.keeps, decide_eq_true_eq] at hk
     rcases hk with hk | hk
     ·subst hk; cases hx
     ·obtain ⟨j, hj, rfl⟩ := (h2 x).1 hx
      exact le_lt (hd j (m - 1) (by omega) (by omega)) (le_ne (hd (m - 1) m (by omega) (by omega)) (fun e => hk e.symm))
    ·intro x
     rw [List.mem_append, h2, List.mem_singleton]
     constructor
     ·rintro (⟨j, hj, e⟩ | e)
      ·exact ⟨j, by omega, e⟩
      ·exact ⟨m, by omega, e.symm⟩
     ·rintro ⟨j, hj, e⟩
      by_cases hjm : j = m
      ·subst hjm; exact .inr e.symm
      ·exact .inl ⟨j, by omega, e⟩
   ·rw [if_neg hk, List.append_nil]
    refine ⟨h1, fun x => ?_⟩
    rw [h2]
    constructor
    ·rintro ⟨j, hj, e⟩
     exact ⟨j, by omega, e⟩
    ·rintro ⟨j, hj, e⟩
     by_cases hjm : j = m
     ·subst hjm
      simp only [Lib.keeps, decide_eq_true_eq, not_or, Decidable.not_not] at hk
      exact ⟨j - 1, by omega, by rw [← hk.2, e]⟩
     ·exact ⟨j, by omega, e⟩

theorem refSort_le (l : List ARef) : (refSort l).Pairwise refLe := by
 have h := List.pairwise_mergeSort (le := fun x y => !refLt y x) (fun a b c h1 h2 => by
  simp only [Bool.not_eq_true'] at *
  exact le_tr h1 h2) (fun a b => by
  cases h1 : refLt b a with
  | false => rfl
  | true => rw [refLt_asym h1]; rfl) l
 exact h.imp fun {a b} h => by simpa using h

theorem refs_rise (l : List ARef) : Rise (refComp (refSort l)) ∧ ∀ x, x ∈ refComp (refSort l) ↔ x ∈ l := by
 have hp := List.pairwise_iff_getElem.1 (refSort_le l)
 have hd : ∀ i j, i ≤ j → j < (refSort l).toArray.size → refLe (refSort l).toArray[i]! (refSort l).toArray[j]! := fun i j hij hj => by
  have hj' : j < (refSort l).length := by simpa using hj
  rw [getElem!_pos (refSort l).toArray i (by simp; omega), getElem!_pos (refSort l).toArray j hj]
  simp only [List.getElem_toArray]
  rcases Nat.lt_or_ge i j with h | h
  ·exact hp i j (by omega) hj' h
  ·obtain rfl : i = j := by omega
   exact refLt_self _
 obtain ⟨h1, h2⟩ := compact_rise hd (refSort l).toArray.size (Nat.le_refl _)
 have e : refComp (refSort l) = Lib.compactUpTo (refSort l).toArray (refSort l).toArray.size := by unfold refComp Lib.compact; simp
 rw [e]
 refine ⟨h1, fun x => (h2 x).trans ?_⟩
 have hm : x ∈ refSort l ↔ x ∈ l := (List.mergeSort_perm l _).mem_iff
 rw [← hm]
 constructor
 ·rintro ⟨j, hj, e⟩
  rw [getElem!_pos (refSort l).toArray j hj] at e
  have hj' : j < (refSort l).length := by simpa using hj
  rw [← e]
  simp only [List.getElem_toArray]
  exact List.getElem_mem hj'
 ·intro h
  obtain ⟨j, hj, e⟩ := List.getElem_of_mem h
  refine ⟨j, by simpa using hj, ?_⟩
  rw [getElem!_pos (refSort l).toArray j (by simpa using hj)]
  simpa using e

def insR (l : List ARef) (r : ARef) : List ARef := (l.filter fun x => refLt x r) ++ [r] ++ (l.filter fun x => refLt r x)
def insAll (l : List ARef) : List ARef := l.foldl insR []

theorem insR_rise {l : List ARef} {r : ARef} (h : Rise l) : Rise (insR l r) ∧ ∀ x, x ∈ insR l r ↔ x ∈ l ∨ x = r := by
 constructor
 ·unfold insR
  refine List.pairwise_append.2 ⟨List.pairwise_append.2 ⟨h.sublist List.filter_sublist, List.pairwise_singleton _ _, fun x hx y hy => ?_⟩, h.sublist List.filter_sublist, fun x hx y hy => ?_⟩
  ·rw [List.mem_singleton.1 hy]
   exact (List.mem_filter.1 hx).2
  ·have hy' := (List.mem_filter.1 hy).2
   rcases List.mem_append.1 hx with hx | hx
   ·exact refLt_tr (List.mem_filter.1 hx).2 hy'
   ·rw [List.mem_singleton.1 hx]; exact hy'
 ·intro x
  unfold insR
  simp only [List.mem_append, List.mem_filter, List.mem_singleton]
  constructor
  ·rintro ((⟨h1, _⟩ | h1) | ⟨h1, _⟩)
   ·exact .inl h1
   ·exact .inr h1
   ·exact .inl h1
  ·rintro (h1 | h1)
   ·cases k1 : refLt x r with
    | true => exact .inl (.inl ⟨h1, rfl⟩)
    | false =>
      cases k2 : refLt r x with
      | true => exact .inr ⟨h1, rfl⟩
      | false => exact .inl (.inr (refLt_tri k1 k2))
   ·exact .inl (.inr h1)

theorem insAll_from : ∀ {m l : List ARef}, Rise l → Rise (m.foldl insR l) ∧ ∀ x, x ∈ m.foldl insR l ↔ x ∈ l ∨ x ∈ m
 | [], l, h => ⟨h, fun x => by simp⟩
 | r :: m, l, h => by
   obtain ⟨h1, h2⟩ := insR_rise (r := r) h
   obtain ⟨h3, h4⟩ := insAll_from (m := m) h1
   refine ⟨h3, fun x => ?_⟩
   rw [List.foldl_cons, h4, h2, List.mem_cons, or_assoc]

theorem insAll_eq {l m : List ARef} (h : ∀ x, x ∈ l ↔ x ∈ m) : insAll l = refComp (refSort m) := by
 obtain ⟨h1, h2⟩ := insAll_from (m := l) (l := []) List.Pairwise.nil
 obtain ⟨h3, h4⟩ := refs_rise m
 refine rise_unique h1 h3 fun x => ?_
 unfold insAll at *
 rw [h2, h4, ← h x]
 simp


theorem labAt_true {n j : Nat} {b : UInt8} : labAt n j b = true ↔ ((97 ≤ b.toNat ∧ b.toNat ≤ 122) ∨ (48 ≤ b.toNat ∧ b.toNat ≤ 57)) ∨ (b.toNat = 45 ∧ ¬ (j = 0 ∨ j + 1 = n)) := by
 simp [labAt]
theorem labAt_false {n j : Nat} {b : UInt8} : labAt n j b = false ↔ ¬ (((97 ≤ b.toNat ∧ b.toNat ≤ 122) ∨ (48 ≤ b.toNat ∧ b.toNat ≤ 57)) ∨ (b.toNat = 45 ∧ ¬ (j = 0 ∨ j + 1 = n))) := by
 rw [← labAt_true]; simp
theorem bool_no {b : Bool} (h : ¬ b = true) : bln false = bln b := by cases b <;> simp_all
theorem bool_yes {b : Bool} (h : b = true) : bln true = bln b := by rw [h]

set_option maxHeartbeats 1000000 in
theorem ref1_Label (s : ByteArray) (hs : s.size ≤ 1000000) : Pure Tryz.prog 74 [str s] (fun d => d = bln (label s)) := by
 refine pure_of_run follows an_z4drv Tryz.func74 rfl ok_z4drv.1 ok_z4drv.2 (by simp [Tryz.ntmps74]) ?_
 rw [run_start]
 simp only [ac_z4drv, go_sem, simprocAttr]
 refine loopS (fun k st => ∃ i : Nat, k = s.size - i ∧ i ≤ s.size ∧ (∀ (j : Nat) (b : UInt8), j < i → s[j]? = some b → labAt s.size j b = true) ∧ st = ⟨[(0, str s), (3, int i)], [], [], .no⟩) s.size _ ?_ ⟨0, rfl, by omega, fun _ _ h => absurd h (Nat.not_lt_zero _), rfl⟩ ?_
 ·exact lessA
 rintro k st ⟨i, rfl, hi, hT, rfl⟩
 have hw := i64_succ (show i < 1000000000 by omega)
 have hw1 : IntKind.i64.wrap ((s.size : Int) - 1) = (s.size : Int) - 1 := IntWalk.i64_in _ (by omega)
 by_cases hlt : i < s.size
 ·obtain ⟨b, hb⟩ := at_byte hlt
  have h1 : ((i : Int) < (s.size : Int)) = True := eq_true (by omega)
  have bad : labAt s.size i b = false → bln false = bln (label s) := fun h => bool_no fun e => by
   have := ((label_iff s).1 e).2.2 i b hb
   rw [h] at this
   cases this
  have good : labAt s.size i b = true → ∀ st, Weak Tryz.prog st ⟨[(0, str s), (3, int (i + 1 : Nat))], [], [], .no⟩ → Round Tryz.prog (fun k st => ∃ i : Nat, k = s.size - i ∧ i ≤ s.size ∧ (∀ (j : Nat) (b : UInt8), j < i → s[j]? = some b → labAt s.size j b = true) ∧ st = ⟨[(0, str s), (3, int i)], [], [], .no⟩) (s.size - i) st := fun h st hw =>
   ⟨s.size - (i + 1), _, by omega, hw, i + 1, rfl, by omega, fun j b' hj hb' => by
    rcases Nat.lt_or_ge j i with h2 | h2
    ·exact hT j b' h2 hb'
    ·obtain rfl : j = i := by omega
     rw [hb] at hb'; cases hb'; exact h, rfl⟩
  simp only [go_sem, simprocAttr, h1, hb, hw, hw1]
  repeat' (first | refine GifP.mk (fun _ => ?_) (fun _ => ?_) | refine Gif.mk (fun _ => ?_) (fun _ => ?_))
  all_goals first
   | (refine good (labAt_true.2 (by omega)) _ ?_; exact lessA)
   | (simp only [retK, resD, retL, oneD, simprocAttr, Tryz.results74]; exact ⟨_, rfl, rfl, bad (labAt_false.2 (by omega))⟩)
 have h1 : ((i : Int) < (s.size : Int)) = False := eq_false (by omega)
 obtain rfl : i = s.size := by omega
 clear hw hw1
 simp only [go_sem, simprocAttr, h1]
 clear h1
 repeat' (first | refine GifP.mk (fun _ => ?_) (fun _ => ?_) | refine Gif.mk (fun _ => ?_) (fun _ => ?_))
 all_goals
  simp only [retK, resD, retL, oneD, simprocAttr, Tryz.results74]
  first
   | exact ⟨_, rfl, rfl, bool_no fun e => by obtain ⟨e1, e2, _⟩ := (label_iff s).1 e; omega⟩
   | exact ⟨_, rfl, rfl, congrArg bln (Bool.eq_iff_iff.2 ⟨fun h => (label_iff s).2 ⟨by omega, by have := of_decide_eq_true h; omega, fun j b hb => hT j b (by rw [bytes_get] at hb; exact (List.getElem?_eq_some_iff.1 hb).1) hb⟩, fun h => decide_eq_true (by have := ((label_iff s).1 h).2.1; omega)⟩)⟩

set_option maxHeartbeats 1000000 in
theorem ref1_Split (s : ByteArray) (hs : s.size ≤ 1000000) (c : UInt8) (k : Int) (hk : k = c.toNat) : Pure Tryz.prog 117 [str s, u8 k] (fun d => d = .pd (.slice (rows cStr (splitB c s.size s)))) := by
 subst hk
 refine pure_of_run_solo follows an_zwnk2 Tryz.func117 rfl ok_zwnk2.1 ok_zwnk2.2 (by simp [Tryz.ntmps117]) ?_
 rw [run_start]
 simp only [ac_zwnk2, go_sem, simprocAttr]
 refine loopS (fun k st => ∃ (i : Nat) (t : Nat), (t = 7 ∨ t = 21) ∧ k = s.size - i ∧ i ≤ s.size ∧ st = ⟨[(0, str s), (1, u8 c.toNat), (5, .own 9 1 (rows cStr (splitR c (s.data.toList.take i))) t), (6, int i)], [], [], .solo⟩) s.size _ ?_ ⟨0, 7, .inl rfl, rfl, by omega, rfl⟩ ?_
 ·have h0 : rows cStr (splitR c (s.data.toList.take 0)) = [[.raw (.string ⟨#[]⟩)]] := rfl
  rw [h0]; exact lessA
 rintro k st ⟨i, t, ht, rfl, hi, rfl⟩
 have hw := i64_succ (show i < 1000000000 by omega)
 obtain ⟨out, hout⟩ : ∃ out, splitR c (s.data.toList.take i) = out := ⟨_, rfl⟩
 have hlen := splitR_len c (s.data.toList.take i)
 have hsz := splitR_size c (s.data.toList.take i)
 rw [hout, List.length_take, size_list] at hlen
 rw [hout, List.length_take, size_list] at hsz
 rw [hout]
 by_cases hlt : i < s.size
 ·obtain ⟨b, hb⟩ := at_byte hlt
  have h1 : ((i : Int) < (s.size : Int)) = True := eq_true (by omega)
  have hst := splitR_step c hb
  rw [hout] at hst
  obtain ⟨m, hm⟩ : ∃ m, out.length = m + 1 := ⟨out.length - 1, by omega⟩
  obtain ⟨z, hz⟩ := at_lt (show m < out.length by omega)
  have hwl : IntKind.i64.wrap ((out.length : Int) - 1) = (m : Int) := by rw [IntWalk.i64_in _ (by omega)]; omega
  have hm0 : ((0 : Int) ≤ (m : Int)) = True := eq_true (by omega)
  have hzs := hsz z (List.mem_of_getElem? hz)
  have hcat : (z.size + #[b].size ≤ 9223372036854775807) = True := eq_true (by have : #[b].size = 1 := rfl; omega)
  have hs1 : (i ≤ i + 1) = True := eq_true (by omega)
  have hs2 : (i + 1 ≤ s.size) = True := eq_true (by omega)
  have hfl : flatR (rows cStr out) := fun r hr => by
   obtain ⟨x, _, rfl⟩ := List.mem_map.1 hr
   exact ⟨.string x, rfl⟩
  have e1 : b = c → rows cStr out ++ [[PD.raw (Value.string ⟨#[]⟩)]] = rows cStr (splitR c (s.data.toList.take (i + 1))) := fun e => by
   rw [hst, stepR, if_pos e]
   simp [rows]
  have e2 : ¬ b = c → (rows cStr out).set m [PD.raw (Value.string (z ++ ⟨#[b]⟩))] = rows cStr (splitR c (s.data.toList.take (i + 1))) := fun e => by
   have h3 : out.length - 1 = m := by omega
   rw [hst, stepR, if_neg e, h3, List.getD_eq_getElem?_getD, hz, rows, rows, List.map_set]
   rfl
  rcases ht with rfl | rfl
  all_goals
   simp only [go_sem, simprocAttr, h1, hb, hw, rows_len, hwl, rows_get hz, hm0, byte_one hb, hcat, hs1, hs2]
   refine GifP.mk (fun he => ?_) (fun he => ?_)
  ·refine ⟨by simp, by simp only [maxLen]; omega, by omega, s.size - (i + 1), _, by omega, ?_, i + 1, 21, .inr rfl, rfl, by omega, rfl⟩
   rw [e1 (by apply UInt8.toNat_inj.1; omega)]
   exact lessA
  ·refine ⟨rfl, by omega, hfl, s.size - (i + 1), _, by omega, ?_, i + 1, 7, .inl rfl, rfl, by omega, rfl⟩
   rw [e2 (fun e => he (by rw [e]))]
   exact lessA
  ·refine ⟨by simp, by simp only [maxLen]; omega, by omega, s.size - (i + 1), _, by omega, ?_, i + 1, 21, .inr rfl, rfl, by omega, rfl⟩
   rw [e1 (by apply UInt8.toNat_inj.1; omega)]
   exact lessA
  ·refine ⟨rfl, by omega, hfl, s.size - (i + 1), _, by omega, ?_, i + 1, 21, .inr rfl, rfl, by omega, rfl⟩
   rw [e2 (fun e => he (by rw [e]))]
   exact lessA
 have h1 : ((i : Int) < (s.size : Int)) = False := eq_false (by omega)
 obtain rfl : i = s.size := by omega
 have hE : splitB c s.size s = out := by rw [← splitR_eq, ← hout, List.take_of_length_le (Nat.le_of_eq (size_list s))]
 rcases ht with rfl | rfl
 all_goals
  simp only [go_sem, simprocAttr, h1]
  simp only [retK, resD, retL, oneD, simprocAttr, Tryz.results117]
  rw [hE]
  exact ⟨_, rfl, rfl, rfl⟩

set_option maxHeartbeats 1000000 in
theorem ref1_Name (s : ByteArray) : Pure Tryz.prog 73 [str s] (fun d => d = bln (dname s)) := by
 refine pure_of_run follows an_zvp8y Tryz.func73 rfl ok_zvp8y.1 ok_zvp8y.2 (by simp [Tryz.ntmps73]) ?_
 rw [run_start]
 simp only [ac_zvp8y, go_sem, simprocAttr]
 refine GifP.mk (fun h => ?_) (fun h => ?_)
 ·simp only [retK, resD, retL, oneD, simprocAttr, Tryz.results73]
  exact ⟨_, rfl, rfl, congrArg bln (by simp only [dname]; simp; omega)⟩
 have h60 : s.size ≤ 60 := by omega
 refine (ref1_Split s (by omega) 46 46 rfl).callW (enters_of Tryz.func117 rfl rfl) _ rfl rfl ?_
 rintro d rfl
 simp only [go_sem, simprocAttr]
 obtain ⟨l, hl⟩ : ∃ l, splitB 46 s.size s = l := ⟨_, rfl⟩
 have hln : l.length ≤ 61 := by
  have h1 := splitR_len 46 s.data.toList
  rw [splitR_eq, hl, size_list] at h1
  omega
 have hsz : ∀ x ∈ l, x.size ≤ 1000000 := fun x hx => by
  have h1 := splitR_size 46 s.data.toList
  rw [splitR_eq, hl, size_list] at h1
  have := h1 x hx
  omega
 rw [hl]
 refine loopS (fun k st => ∃ i : Nat, k = l.length - i ∧ i ≤ l.length ∧ (l.drop i).all label = l.all label ∧ st = ⟨[(3, .pd (.slice (rows cStr l))), (4, int i)], [], [], .no⟩) l.length _ ?_ ⟨0, rfl, by omega, rfl, rfl⟩ ?_
 ·exact lessA
 rintro k st ⟨i, rfl, hi, hT, rfl⟩
 have hw := i64_succ (show i < 1000000000 by omega)
 by_cases hlt : i < l.length
 ·obtain ⟨x, hx⟩ := at_lt hlt
  have h1 : ((i : Int) < (l.length : Int)) = True := eq_true (by omega)
  rw [drop_at hx, List.all_cons] at hT
  simp only [go_sem, simprocAttr, rows_get hx, h1, hw]
  refine (ref1_Label x (hsz x (List.mem_of_getElem? hx))).callW (enters_of Tryz.func74 rfl rfl) _ rfl rfl ?_
  rintro d rfl
  simp only [go_sem, simprocAttr]
  refine Gif.mk (fun hl' => ?_) (fun hl' => ?_)
  ·refine ⟨l.length - (i + 1), _, by omega, ?_, i + 1, rfl, by omega, by rw [hl', Bool.true_and] at hT; exact hT, rfl⟩
   simp only [hw]
   exact lessA
  ·simp only [retK, resD, retL, oneD, simprocAttr, Tryz.results73]
   refine ⟨_, rfl, rfl, congrArg bln ?_⟩
   rw [hl', Bool.false_and] at hT
   simp [dname, hl, ← hT]
 have h1 : ((i : Int) < (l.length : Int)) = False := eq_false (by omega)
 rw [List.drop_eq_nil_of_le (by omega), List.all_nil] at hT
 simp only [go_sem, simprocAttr, h1]
 simp only [retK, resD, retL, oneD, simprocAttr, Tryz.results73]
 exact ⟨_, rfl, rfl, congrArg bln (by simp [dname, hl, ← hT, h60])⟩

theorem fold_step {s : ByteArray} {i : Nat} {b : UInt8} (hb : s[i]? = some b) : octStr ((s.data.toList.take (i + 1)).map fun b => foldO b.toNat) = octStr ((s.data.toList.take i).map fun b => foldO b.toNat) ++ octStr [foldO b.toNat] := by
 rw [take_at (by rw [← bytes_get]; exact hb), List.map_append]
 unfold octStr
 rw [List.foldl_append]
 simp only [List.map_cons, List.map_nil, List.foldl_cons, List.foldl_nil]
 apply ByteArray.ext
 simp [ByteArray.push]

theorem octStr_size (l : List Int) : (octStr l).size = l.length := by
 unfold octStr
 suffices h : ∀ (l : List Int) (r : ByteArray), (l.foldl (fun r n => r.push (UInt8.ofNat n.toNat)) r).size = r.size + l.length from by simpa using h l ByteArray.empty
 intro l
 induction l with
 | nil => intro r; rfl
 | cons n l ih =>
   intro r
   rw [List.foldl_cons, ih, ByteArray.size_push, List.length_cons]
   omega

theorem low_add (n : Nat) (h : 65 ≤ n ∧ n ≤ 90) : IntKind.u8.wrap ((n : Int) + 32) = low n := by
 have h1 : ∀ k : Fin 26, IntKind.u8.wrap (((k.val + 65 : Nat) : Int) + 32) = low ((k.val + 65 : Nat) : Int) := by decide
 have h2 := h1 ⟨n - 65, by omega⟩
 have h3 : n - 65 + 65 = n := by omega
 simp only [h3] at h2
 exact h2

set_option maxHeartbeats 1000000 in
theorem ref1_Fold (s : ByteArray) (hs : s.size ≤ 1000000) : Pure Tryz.prog 227 [str s] (fun d => d = str (fold s)) := by
 refine pure_of_run follows an_z5okg Tryz.func227 rfl ok_z5okg.1 ok_z5okg.2 (by simp [Tryz.ntmps227]) ?_
 rw [run_start]
 simp only [ac_z5okg, go_sem, simprocAttr]
 refine loopS (fun k st => ∃ i : Nat, k = s.size - i ∧ i ≤ s.size ∧ st = ⟨[(0, str s), (3, str (octStr ((s.data.toList.take i).map fun b => foldO b.toNat))), (4, int i)], [], [], .no⟩) s.size _ ?_ ⟨0, rfl, by omega, rfl⟩ ?_
 ·have h0 : octStr ((s.data.toList.take 0).map fun b => foldO b.toNat) = ⟨#[]⟩ := rfl
  rw [h0]
  exact lessA
 rintro k st ⟨i, rfl, hi, rfl⟩
 have hw := i64_succ (show i < 1000000000 by omega)
 by_cases hlt : i < s.size
 ·obtain ⟨b, hb⟩ := at_byte hlt
  have h1 : ((i : Int) < (s.size : Int)) = True := eq_true (by omega)
  have hf := fold_step hb
  obtain ⟨r, hr⟩ : ∃ r, octStr ((s.data.toList.take i).map fun b => foldO b.toNat) = r := ⟨_, rfl⟩
  have hrs : r.size ≤ 1000000 := by rw [← hr, octStr_size, List.length_map, List.length_take]; omega
  rw [hr] at hf ⊢
  have hcat : ∀ c, (r.size + (octStr [c]).size ≤ 9223372036854775807) = True := fun c => eq_true (by rw [octStr_size]; simp only [List.length_singleton]; omega)
  have go : ∀ (c : Int) st, c = foldO b.toNat → Weak Tryz.prog st ⟨[(0, str s), (3, str (r ++ octStr [c])), (4, int (i + 1 : Nat))], [], [], .no⟩ → Round Tryz.prog (fun k st => ∃ i : Nat, k = s.size - i ∧ i ≤ s.size ∧ st = ⟨[(0, str s), (3, str (octStr ((s.data.toList.take i).map fun b => foldO b.toNat))), (4, int i)], [], [], .no⟩) (s.size - i) st := fun c st e hw => by
   subst e
   rw [← hf] at hw
   exact ⟨s.size - (i + 1), _, by omega, hw, i + 1, rfl, by omega, rfl⟩
  simp only [go_sem, simprocAttr, h1, hb, hw, hcat]
  repeat' (first | refine GifP.mk (fun _ => ?_) (fun _ => ?_) | refine Gif.mk (fun _ => ?_) (fun _ => ?_))
  ·exact go (IntKind.u8.wrap ((b.toNat : Int) + 32)) _ (by rw [foldO, if_pos (by omega)]; exact low_add b.toNat (by omega)) (lessA)
  ·exact go b.toNat _ (by rw [foldO, if_neg (by omega)]) (lessA)
  ·exact go b.toNat _ (by rw [foldO, if_neg (by omega)]) (lessA)
 have h1 : ((i : Int) < (s.size : Int)) = False := eq_false (by omega)
 simp only [go_sem, simprocAttr, h1]
 simp only [retK, resD, retL, oneD, simprocAttr, Tryz.results227]
 exact ⟨_, rfl, rfl, by rw [List.take_of_length_le (by rw [size_list]; omega)]; rfl⟩


theorem bool_dec {p : Prop} [Decidable p] {b : Bool} (h : p ↔ b = true) : bln (decide p) = bln b := congrArg bln (Bool.eq_iff_iff.2 (by rw [decide_eq_true_eq]; exact h))
theorem eight {b : UInt8} {n : Nat} (hn : n < 256) : (b.toNat : Int) = n ↔ b = UInt8.ofNat n := by
 constructor
 ·intro h
  apply UInt8.toNat_inj.1
  rw [UInt8.toNat_ofNat']
  omega
 ·rintro rfl
  rw [UInt8.toNat_ofNat']
  omega

def wide (p : ByteArray) : Bool := hasPrefix p ⟨#[42, 46]⟩

theorem ref2_wide (p : ByteArray) : Pure Tryz.prog 148 [str p] (fun d => d = .tup [str (cutPrefix p ⟨#[42, 46]⟩), bln (wide p)]) := by
 refine pure_of_run follows an_zsoo6 Tryz.func148 rfl ok_zsoo6.1 ok_zsoo6.2 (by simp [Tryz.ntmps148]) ?_
 rw [run_start]
 have no : wide p = false → D.tup [str p, bln false] = .tup [str (cutPrefix p ⟨#[42, 46]⟩), bln (wide p)] := fun h => by
  rw [h]
  unfold wide at h
  rw [cutPrefix, h]
  rfl
 by_cases h2 : 2 ≤ p.size
 ·obtain ⟨a, ha⟩ := at_byte (show 0 < p.size by omega)
  obtain ⟨b, hb⟩ := at_byte (show 1 < p.size by omega)
  have h3 : ((2 : Int) ≤ (p.size : Int)) = True := eq_true (by omega)
  have h2' : (2 ≤ p.size) = True := eq_true h2
  simp only [ac_zsoo6, go_sem, simprocAttr, h3, ha, hb, h2']
  have yes : (a.toNat : Int) = 42 → (b.toNat : Int) = 46 → wide p = true := fun e1 e2 => (hasPrefix_two p 42 46).2 ⟨h2, by rw [ha]; congr 1; exact (eight (n := 42) (by omega)).1 e1, by rw [hb]; congr 1; exact (eight (n := 46) (by omega)).1 e2⟩
  have not : ¬ ((a.toNat : Int) = 42 ∧ (b.toNat : Int) = 46) → wide p = false := fun h => by
   cases hw : wide p with
   | false => rfl
   | true =>
     obtain ⟨_, e1, e2⟩ := (hasPrefix_two p 42 46).1 hw
     rw [ha] at e1; rw [hb] at e2
     cases e1; cases e2
     exact absurd ⟨rfl, rfl⟩ h
  repeat' (first | refine GifP.mk (fun _ => ?_) (fun _ => ?_) | refine Gif.mk (fun _ => ?_) (fun _ => ?_))
  all_goals
   simp only [retK, resD, retL, oneD, simprocAttr, Tryz.results148]
   first
    | exact ⟨_, rfl, rfl, no (not (fun h => by omega))⟩
    | (refine ⟨_, rfl, rfl, ?_⟩
       have h4 := yes (by assumption) (by assumption)
       rw [h4]
       unfold wide at h4
       rw [cutPrefix, h4]
       rfl)
 ·have h3 : ((2 : Int) ≤ (p.size : Int)) = False := eq_false (by omega)
  simp only [ac_zsoo6, go_sem, simprocAttr, h3]
  simp only [retK, resD, retL, oneD, simprocAttr, Tryz.results148]
  exact ⟨_, rfl, rfl, no (by
   cases hw : wide p with
   | false => rfl
   | true => exact absurd ((hasPrefix_two p 42 46).1 hw).1 h2)⟩

theorem hostMay_eq (p : ByteArray) : hostMay p = (decide (p = ⟨#[]⟩) || (decide (p.size ≤ 60) && dname (cutPrefix p ⟨#[42, 46]⟩))) := by
 have h : (hasPrefix p ⟨#[42, 46]⟩ || decide (cutPrefix p ⟨#[42, 46]⟩ = p)) = true := by
  unfold cutPrefix
  cases hasPrefix p ⟨#[42, 46]⟩ <;> simp
 rw [hostMay, h, Bool.and_true]

theorem ref2_May (p : ByteArray) : Pure Tryz.prog 101 [str p] (fun d => d = bln (hostMay p)) := by
 rw [hostMay_eq]
 refine pure_of_run follows an_z8jqh Tryz.func101 rfl ok_z8jqh.1 ok_z8jqh.2 (by simp [Tryz.ntmps101]) ?_
 rw [run_start]
 simp only [ac_z8jqh, go_sem, simprocAttr]
 (repeat' (first | (refine GifP.mk (fun _ => ?_) (fun _ => ?_)) | (refine Gif.mk (fun _ => ?_) (fun _ => ?_)) | ((first | refine (ref2_wide p).callW (enters_of Tryz.func148 rfl rfl) _ rfl rfl ?_ | refine (ref1_Name _).callW (enters_of Tryz.func73 rfl rfl) _ rfl rfl ?_); rintro _ rfl; try simp only [go_sem, simprocAttr]))) <;> (simp only [retK, resD, retL, oneD, simprocAttr, Tryz.results101]; refine ⟨_, rfl, rfl, ?_⟩; by_cases h60 : p.size ≤ 60 <;> first | (exfalso; omega) | exact congrArg bln (by simp [*]))

set_option maxHeartbeats 1000000 in
theorem ref3_Is (s : ByteArray) : Pure Tryz.prog 228 [str s] (fun d => d = bln (pathIs s)) := by
 refine pure_of_run follows an_z9wy Tryz.func228 rfl ok_z9wy.1 ok_z9wy.2 (by simp [Tryz.ntmps228]) ?_
 rw [run_start]
 by_cases h0 : s.size = 0
 ·have h3 : ((s.size : Int) < 1) = True := eq_true (by omega)
  simp only [ac_z9wy, go_sem, simprocAttr, h3]
  simp only [retK, resD, retL, oneD, simprocAttr, Tryz.results228]
  exact ⟨_, rfl, rfl, bool_no fun e => by have := ((pathIs_iff s).1 e).1; omega⟩
 obtain ⟨a, ha⟩ := at_byte (show 0 < s.size by omega)
 have h3 : ((s.size : Int) < 1) = False := eq_false (by omega)
 have hL : 60 < s.size ∨ ¬ a.toNat = 47 → bln false = bln (pathIs s) := fun h => bool_no fun e => by
  obtain ⟨_, e1, e2, _⟩ := (pathIs_iff s).1 e
  rw [ha] at e2; cases e2
  rcases h with h | h
  ·omega
  ·exact h rfl
 simp only [ac_z9wy, go_sem, simprocAttr, h3, ha]
 refine GifP.mk (fun h1 => ?_) (fun h1 => ?_)
 ·simp only [retK, resD, retL, oneD, simprocAttr, Tryz.results228]
  exact ⟨_, rfl, rfl, hL (.inl (by omega))⟩
 refine GifP.mk (fun h2 => ?_) (fun h2 => ?_)
 rotate_left
 ·simp only [retK, resD, retL, oneD, simprocAttr, Tryz.results228]
  exact ⟨_, rfl, rfl, hL (.inr (by omega))⟩
 clear hL
 refine loopS (fun k st => ∃ i : Nat, k = s.size - i ∧ i ≤ s.size ∧ (s.data.toList.drop i).all pathOct = s.data.toList.all pathOct ∧ st = ⟨[(0, str s), (3, int i)], [], [], .no⟩) s.size _ ?_ ⟨0, rfl, by omega, rfl, rfl⟩ ?_
 ·exact lessA
 rintro k st ⟨i, rfl, hi, hT, rfl⟩
 have hw := i64_succ (show i < 1000000000 by omega)
 by_cases hlt : i < s.size
 ·obtain ⟨b, hb, hd⟩ := byte_at hlt
  have h4 : ((i : Int) < (s.size : Int)) = True := eq_true (by omega)
  rw [hd, List.all_cons] at hT
  have good : pathOct b = true → ∀ st, Weak Tryz.prog st ⟨[(0, str s), (3, int (i + 1 : Nat))], [], [], .no⟩ → Round Tryz.prog (fun k st => ∃ i : Nat, k = s.size - i ∧ i ≤ s.size ∧ (s.data.toList.drop i).all pathOct = s.data.toList.all pathOct ∧ st = ⟨[(0, str s), (3, int i)], [], [], .no⟩) (s.size - i) st := fun h st hw => by
   rw [h, Bool.true_and] at hT
   exact ⟨s.size - (i + 1), _, by omega, hw, i + 1, rfl, by omega, hT, rfl⟩
  have bad : pathOct b = false → bln false = bln (pathIs s) := fun h => bool_no fun e => by
   rw [h, Bool.false_and] at hT
   have := ((pathIs_iff s).1 e).2.2.2
   rw [← hT] at this; cases this
  simp only [go_sem, simprocAttr, h4, hb, hw]
  repeat' (first | refine GifP.mk (fun _ => ?_) (fun _ => ?_) | refine Gif.mk (fun _ => ?_) (fun _ => ?_))
  all_goals first
   | (refine good (by simp [pathOct]; omega) _ ?_; exact lessA)
   | (simp only [retK, resD, retL, oneD, simprocAttr, Tryz.results228]; exact ⟨_, rfl, rfl, bad (by simp [pathOct]; omega)⟩)
 have h4 : ((i : Int) < (s.size : Int)) = False := eq_false (by omega)
 rw [byte_end hlt, List.all_nil] at hT
 simp only [go_sem, simprocAttr, h4]
 simp only [retK, resD, retL, oneD, simprocAttr, Tryz.results228]
 exact ⟨_, rfl, rfl, bool_yes ((pathIs_iff s).2 ⟨by omega, by omega, by rw [ha]; congr 1; exact (eight (n := 47) (by omega)).1 (by omega), hT.symm⟩)⟩

set_option maxHeartbeats 1000000 in
theorem ref3_Above (s : ByteArray) : Pure Tryz.prog 229 [str s] (fun d => d = bln (pathAbove s)) := by
 refine pure_of_run follows an_z3bmw Tryz.func229 rfl ok_z3bmw.1 ok_z3bmw.2 (by simp [Tryz.ntmps229]) ?_
 rw [run_start]
 simp only [ac_z3bmw, go_sem, simprocAttr]
 refine (ref3_Is s).callW (enters_of Tryz.func228 rfl rfl) _ rfl rfl ?_
 rintro d rfl
 cases his : pathIs s with
 | false =>
   simp only [go_sem, simprocAttr]
   simp only [retK, resD, retL, oneD, simprocAttr, Tryz.results229]
   exact ⟨_, rfl, rfl, bool_no fun e => by rw [((pathAbove_iff s).1 e).1] at his; cases his⟩
 | true =>
   have h1 := ((pathIs_iff s).1 his).1
   have h60 := ((pathIs_iff s).1 his).2.1
   have hw1 : IntKind.i64.wrap ((s.size : Int) - 1) = (s.size : Int) - 1 := IntWalk.i64_in _ (by omega)
   obtain ⟨b, hb⟩ := at_byte (show s.size - 1 < s.size by omega)
   have h2 : ((s.size : Int) - 1).toNat = s.size - 1 := by omega
   have h3 : (0 ≤ (s.size : Int) - 1) = True := eq_true (by omega)
   simp only [go_sem, simprocAttr, hw1, h2, h3, hb]
   repeat' (first | refine GifP.mk (fun _ => ?_) (fun _ => ?_) | refine Gif.mk (fun _ => ?_) (fun _ => ?_))
   all_goals
    simp only [retK, resD, retL, oneD, simprocAttr, Tryz.results229]
    first
     | exact ⟨_, rfl, rfl, bool_yes ((pathAbove_iff s).2 ⟨his, .inl (by omega)⟩)⟩
     | (refine ⟨_, rfl, rfl, congrArg bln (Bool.eq_iff_iff.2 ?_)⟩
        rw [pathAbove_iff, hb]
        simp only [Bool.not_eq_true', decide_eq_false_iff_not]
        constructor
        ·intro h
         exact ⟨his, .inr fun e => h (by cases e; rfl)⟩
        ·rintro ⟨_, h⟩ h5
         rcases h with h | h
         ·omega
         ·exact h (by congr 1; exact (eight (n := 47) (by omega)).1 h5))

theorem ref3_May (k : Int) (v : ByteArray) : Pure Tryz.prog 197 [.agg [int k, str v]] (fun d => d = bln (pathMay k v)) := by
 refine pure_of_run follows an_zetzt Tryz.func197 rfl ok_zetzt.1 ok_zetzt.2 (by simp [Tryz.ntmps197]) ?_
 rw [run_start]
 simp only [ac_zetzt, go_sem, simprocAttr]
 (repeat' (first | (refine GifP.mk (fun _ => ?_) (fun _ => ?_)) | (refine Gif.mk (fun _ => ?_) (fun _ => ?_)) | ((first | refine (ref3_Is _).callW (enters_of Tryz.func228 rfl rfl) _ rfl rfl ?_ | refine (ref3_Above _).callW (enters_of Tryz.func229 rfl rfl) _ rfl rfl ?_); rintro _ rfl; try simp only [go_sem, simprocAttr]))) <;> (simp only [retK, resD, retL, oneD, simprocAttr, Tryz.results197]; exact ⟨_, rfl, rfl, congrArg bln (by first | rfl | (rw [Bool.eq_iff_iff]; simp only [pathMay]; (first | (simp; done) | (simp; omega) | (simp [*]; done) | (simp [*]; omega))) | (simp_all [pathMay]; done) | (exfalso; omega))⟩)

theorem pairMay_iff (p : APair) : pairMay p = true ↔ 1 ≤ p.name.size ∧ p.name.size ≤ 40 ∧ p.val.size ≤ 40 := by
 simp only [pairMay, Bool.and_eq_true, Bool.not_eq_true', decide_eq_true_eq, decide_eq_false_iff_not, size0]
 omega
theorem off_of {b : Bool} {p : Prop} (h : b = true ↔ p) (hn : ¬ p) : b = false := by cases b <;> simp_all

theorem ref4_May (l : List APair) (hl : l.length ≤ 1000000) : Pure Tryz.prog 199 [.pd (.slice (rows APair.pd l))] (fun d => d = bln (queryMay l)) := by
 refine pure_of_run follows an_z6q89 Tryz.func199 rfl ok_z6q89.1 ok_z6q89.2 (by simp [Tryz.ntmps199]) ?_
 rw [run_start]
 simp only [ac_z6q89, go_sem, simprocAttr]
 refine loopS (fun k st => ∃ i : Nat, k = l.length - i ∧ i ≤ l.length ∧ (l.drop i).all pairMay = l.all pairMay ∧ st = ⟨[(0, .pd (.slice (rows APair.pd l))), (3, int i)], [], [], .no⟩) l.length _ ?_ ⟨0, rfl, by omega, rfl, rfl⟩ ?_
 ·exact lessA
 rintro k st ⟨i, rfl, hi, hT, rfl⟩
 have hw := i64_succ (show i < 1000000000 by omega)
 by_cases hlt : i < l.length
 ·obtain ⟨x, hx⟩ := at_lt hlt
  have h1 : ((i : Int) < (l.length : Int)) = True := eq_true (by omega)
  rw [drop_at hx, List.all_cons] at hT
  have good : pairMay x = true → ∀ st, Weak Tryz.prog st ⟨[(0, .pd (.slice (rows APair.pd l))), (3, int (i + 1 : Nat))], [], [], .no⟩ → Round Tryz.prog (fun k st => ∃ i : Nat, k = l.length - i ∧ i ≤ l.length ∧ (l.drop i).all pairMay = l.all pairMay ∧ st = ⟨[(0, .pd (.slice (rows APair.pd l))), (3, int i)], [], [], .no⟩) (l.length - i) st := fun h st hw => by
   rw [h, Bool.true_and] at hT
   exact ⟨l.length - (i + 1), _, by omega, hw, i + 1, rfl, by omega, hT, rfl⟩
  have bad : pairMay x = false → bln false = bln (queryMay l) := fun h => by
   rw [h, Bool.false_and] at hT
   rw [queryMay, ← hT, Bool.false_and]
  simp only [go_sem, simprocAttr, rows_get hx, h1, hw]
  repeat' (first | refine GifP.mk (fun _ => ?_) (fun _ => ?_) | refine Gif.mk (fun _ => ?_) (fun _ => ?_))
  all_goals first
   | (refine good ((pairMay_iff x).2 (by omega)) _ ?_; exact lessA)
   | (simp only [retK, resD, retL, oneD, simprocAttr, Tryz.results199]; exact ⟨_, rfl, rfl, bad (off_of (pairMay_iff x) (by omega))⟩)
 have h1 : ((i : Int) < (l.length : Int)) = False := eq_false (by omega)
 rw [List.drop_eq_nil_of_le (by omega), List.all_nil] at hT
 simp only [go_sem, simprocAttr, h1]
 simp only [retK, resD, retL, oneD, simprocAttr, Tryz.results199]
 exact ⟨_, rfl, rfl, bool_dec (by rw [queryMay, ← hT]; simp; omega)⟩

theorem token_iff (s : ByteArray) : token s = true ↔ 1 ≤ s.size ∧ s.size ≤ 40 ∧ s.data.toList.all tokenOct = true := by
 simp only [token, Bool.and_eq_true, Bool.not_eq_true', decide_eq_true_eq, decide_eq_false_iff_not, size0]
 constructor
 ·rintro ⟨⟨h1, h2⟩, h3⟩; exact ⟨by omega, h3, h1⟩
 ·rintro ⟨h1, h2, h3⟩; exact ⟨⟨h3, by omega⟩, h2⟩

set_option maxHeartbeats 4000000 in
theorem ref5_Token (s : ByteArray) (hs : s.size ≤ 1000000) : Pure Tryz.prog 200 [str s] (fun d => d = bln (token s)) := by
 refine pure_of_run follows an_zrlh7 Tryz.func200 rfl ok_zrlh7.1 ok_zrlh7.2 (by simp [Tryz.ntmps200]) ?_
 rw [run_start]
 simp only [ac_zrlh7, go_sem, simprocAttr]
 refine loopS (fun k st => ∃ i : Nat, k = s.size - i ∧ i ≤ s.size ∧ (s.data.toList.drop i).all tokenOct = s.data.toList.all tokenOct ∧ st = ⟨[(0, str s), (3, int i)], [], [], .no⟩) s.size _ ?_ ⟨0, rfl, by omega, rfl, rfl⟩ ?_
 ·exact lessA
 rintro k st ⟨i, rfl, hi, hT, rfl⟩
 have hw := i64_succ (show i < 1000000000 by omega)
 by_cases hlt : i < s.size
 ·obtain ⟨b, hb, hd⟩ := byte_at hlt
  have h4 : ((i : Int) < (s.size : Int)) = True := eq_true (by omega)
  rw [hd, List.all_cons] at hT
  have good : tokenOct b = true → ∀ st, Weak Tryz.prog st ⟨[(0, str s), (3, int (i + 1 : Nat))], [], [], .no⟩ → Round Tryz.prog (fun k st => ∃ i : Nat, k = s.size - i ∧ i ≤ s.size ∧ (s.data.toList.drop i).all tokenOct = s.data.toList.all tokenOct ∧ st = ⟨[(0, str s), (3, int i)], [], [], .no⟩) (s.size - i) st := fun h st hw => by
   rw [h, Bool.true_and] at hT
   exact ⟨s.size - (i + 1), _, by omega, hw, i + 1, rfl, by omega, hT, rfl⟩
  have bad : tokenOct b = false → bln false = bln (token s) := fun h => by
   rw [h, Bool.false_and] at hT
   rw [token, ← hT]
   rfl
  rw [tokR_eq] at good bad
  have hm : marks.data.toList.contains b = true ↔ ((b.toNat : Int) = 33 ∨ (b.toNat : Int) = 35 ∨ (b.toNat : Int) = 36 ∨ (b.toNat : Int) = 37 ∨ (b.toNat : Int) = 38 ∨ (b.toNat : Int) = 39 ∨ (b.toNat : Int) = 42 ∨ (b.toNat : Int) = 43 ∨ (b.toNat : Int) = 45 ∨ (b.toNat : Int) = 46 ∨ (b.toNat : Int) = 94 ∨ (b.toNat : Int) = 95 ∨ (b.toNat : Int) = 96 ∨ (b.toNat : Int) = 124 ∨ (b.toNat : Int) = 126) := by
   have h256 : ∀ k : Fin 256, marks.data.toList.contains (UInt8.ofNat k.val) = decide (k.val = 33 ∨ k.val = 35 ∨ k.val = 36 ∨ k.val = 37 ∨ k.val = 38 ∨ k.val = 39 ∨ k.val = 42 ∨ k.val = 43 ∨ k.val = 45 ∨ k.val = 46 ∨ k.val = 94 ∨ k.val = 95 ∨ k.val = 96 ∨ k.val = 124 ∨ k.val = 126) := by decide +kernel
   have h := h256 ⟨b.toNat, b.toNat_lt⟩
   dsimp only at h
   rw [UInt8.ofNat_toNat] at h
   rw [h, decide_eq_true_eq]
   omega
  have tokT : ((48 ≤ b.toNat ∧ b.toNat ≤ 57) ∨ (65 ≤ b.toNat ∧ b.toNat ≤ 90) ∨ (97 ≤ b.toNat ∧ b.toNat ≤ 122)) ∨ marks.data.toList.contains b = true → tokR b = true := fun h => by
   simp only [tokR, Bool.or_eq_true, Bool.and_eq_true, decide_eq_true_eq]
   rcases h with h | h
   ·left; omega
   ·exact .inr h
  have tokF : ¬ (((48 ≤ b.toNat ∧ b.toNat ≤ 57) ∨ (65 ≤ b.toNat ∧ b.toNat ≤ 90) ∨ (97 ≤ b.toNat ∧ b.toNat ≤ 122)) ∨ marks.data.toList.contains b = true) → tokR b = false := fun h => by
   rw [← Bool.not_eq_true]
   intro h'
   simp only [tokR, Bool.or_eq_true, Bool.and_eq_true, decide_eq_true_eq] at h'
   refine h ?_
   rcases h' with h' | h'
   ·left; omega
   ·exact .inr h'
  rw [hm] at tokT tokF
  clear hm
  simp only [go_sem, simprocAttr, h4, hb, hw]
  repeat' (first | refine GifP.mk (fun _ => ?_) (fun _ => ?_) | refine Gif.mk (fun _ => ?_) (fun _ => ?_))
  all_goals first
   | (refine good (tokT (by omega)) _ ?_; exact lessA)
   | (simp only [retK, resD, retL, oneD, simprocAttr, Tryz.results200]; exact ⟨_, rfl, rfl, bad (tokF (by omega))⟩)
 have h4 : ((i : Int) < (s.size : Int)) = False := eq_false (by omega)
 rw [byte_end hlt, List.all_nil] at hT
 simp only [go_sem, simprocAttr, h4]
 repeat' (first | refine GifP.mk (fun _ => ?_) (fun _ => ?_) | refine Gif.mk (fun _ => ?_) (fun _ => ?_))
 all_goals
  simp only [retK, resD, retL, oneD, simprocAttr, Tryz.results200]
  first
   | exact ⟨_, rfl, rfl, bool_no fun e => by obtain ⟨e1, e2, _⟩ := (token_iff s).1 e; omega⟩
   | exact ⟨_, rfl, rfl, bool_dec ⟨fun h => (token_iff s).2 ⟨by omega, by omega, hT.symm⟩, fun h => by have := ((token_iff s).1 h).2.1; omega⟩⟩


theorem snoc_all {α : Type} {l : List α} {i : Nat} {x : α} {P : Nat → α → Prop} (h : ∀ (j : Nat) (x : α), j < i → l[j]? = some x → P j x) (hx : l[i]? = some x) (hp : P i x) : ∀ (j : Nat) (x : α), j < i + 1 → l[j]? = some x → P j x := fun j y hj hy => by
 rcases Nat.lt_or_ge j i with h2 | h2
 ·exact h j y h2 hy
 ·obtain rfl : j = i := by omega
  rw [hx] at hy; cases hy; exact hp

theorem all_at {α : Type} {l : List α} {p : α → Bool} : l.all p = true ↔ ∀ (j : Nat) (x : α), l[j]? = some x → p x = true := by
 rw [List.all_eq_true]
 constructor
 ·intro h j x hx; exact h x (List.mem_of_getElem? hx)
 ·intro h x hx
  obtain ⟨j, hj⟩ := List.getElem?_of_mem hx
  exact h j x hj

theorem any_at {α : Type} {l : List α} {p : α → Bool} : l.any p = false ↔ ∀ (j : Nat) (x : α), l[j]? = some x → p x = false := by
 rw [List.any_eq_false]
 constructor
 ·intro h j x hx; simpa using h x (List.mem_of_getElem? hx)
 ·intro h x hx
  obtain ⟨j, hj⟩ := List.getElem?_of_mem hx
  simpa using h j x hj

set_option maxHeartbeats 1000000 in
theorem ref5_Value (s : ByteArray) (hs : s.size ≤ 1000000) : Pure Tryz.prog 201 [str s] (fun d => d = bln (fvalue s)) := by
 refine pure_of_run follows an_z86s Tryz.func201 rfl ok_z86s.1 ok_z86s.2 (by simp [Tryz.ntmps201]) ?_
 rw [run_start]
 simp only [ac_z86s, go_sem, simprocAttr]
 refine loopS (fun k st => ∃ i : Nat, k = s.size - i ∧ i ≤ s.size ∧ (∀ (j : Nat) (b : UInt8), j < i → s[j]? = some b → 32 ≤ b.toNat ∧ b.toNat ≤ 126 ∧ ¬ (b.toNat = 32 ∧ (j = 0 ∨ j + 1 = s.size))) ∧ st = ⟨[(0, str s), (3, int i)], [], [], .no⟩) s.size _ ?_ ⟨0, rfl, by omega, fun _ _ h => absurd h (Nat.not_lt_zero _), rfl⟩ ?_
 ·exact lessA
 rintro k st ⟨i, rfl, hi, hT, rfl⟩
 have hw := i64_succ (show i < 1000000000 by omega)
 have hw1 : IntKind.i64.wrap ((s.size : Int) - 1) = (s.size : Int) - 1 := IntWalk.i64_in _ (by omega)
 by_cases hlt : i < s.size
 ·obtain ⟨b, hb⟩ := at_byte hlt
  have h1 : ((i : Int) < (s.size : Int)) = True := eq_true (by omega)
  have bad : ¬ (32 ≤ b.toNat ∧ b.toNat ≤ 126 ∧ ¬ (b.toNat = 32 ∧ (i = 0 ∨ i + 1 = s.size))) → bln false = bln (fvalue s) := fun h => bool_no fun e => h (((fvalue_iff s).1 e).2 i b hb)
  have good : (32 ≤ b.toNat ∧ b.toNat ≤ 126 ∧ ¬ (b.toNat = 32 ∧ (i = 0 ∨ i + 1 = s.size))) → ∀ st, Weak Tryz.prog st ⟨[(0, str s), (3, int (i + 1 : Nat))], [], [], .no⟩ → Round Tryz.prog (fun k st => ∃ i : Nat, k = s.size - i ∧ i ≤ s.size ∧ (∀ (j : Nat) (b : UInt8), j < i → s[j]? = some b → 32 ≤ b.toNat ∧ b.toNat ≤ 126 ∧ ¬ (b.toNat = 32 ∧ (j = 0 ∨ j + 1 = s.size))) ∧ st = ⟨[(0, str s), (3, int i)], [], [], .no⟩) (s.size - i) st := fun h st hw =>
   ⟨s.size - (i + 1), _, by omega, hw, i + 1, rfl, by omega, fun j b' hj hb' => by
    rcases Nat.lt_or_ge j i with h2 | h2
    ·exact hT j b' h2 hb'
    ·obtain rfl : j = i := by omega
     rw [hb] at hb'; cases hb'; exact h, rfl⟩
  simp only [go_sem, simprocAttr, h1, hb, hw, hw1]
  repeat' (first | refine GifP.mk (fun _ => ?_) (fun _ => ?_) | refine Gif.mk (fun _ => ?_) (fun _ => ?_))
  all_goals first
   | (refine good (by omega) _ ?_; exact lessA)
   | (simp only [retK, resD, retL, oneD, simprocAttr, Tryz.results201]; exact ⟨_, rfl, rfl, bad (by omega)⟩)
 have h1 : ((i : Int) < (s.size : Int)) = False := eq_false (by omega)
 have hall : ∀ (j : Nat) (b : UInt8), s[j]? = some b → 32 ≤ b.toNat ∧ b.toNat ≤ 126 ∧ ¬ (b.toNat = 32 ∧ (j = 0 ∨ j + 1 = s.size)) := fun j b hb => hT j b (by rw [bytes_get] at hb; have := (List.getElem?_eq_some_iff.1 hb).1; rw [size_list] at this; omega) hb
 clear hw hw1 hT
 simp only [go_sem, simprocAttr, h1]
 simp only [retK, resD, retL, oneD, simprocAttr, Tryz.results201]
 exact ⟨_, rfl, rfl, bool_dec ⟨fun h => (fvalue_iff s).2 ⟨by omega, hall⟩, fun h => by have := ((fvalue_iff s).1 h).1; omega⟩⟩

theorem ref5_Same (a b : ByteArray) (ha : a.size ≤ 1000000) (hb : b.size ≤ 1000000) : Pure Tryz.prog 196 [str a, str b] (fun d => d = bln (foldSame a b)) := by
 refine pure_of_run follows an_zm0ue Tryz.func196 rfl ok_zm0ue.1 ok_zm0ue.2 (by simp [Tryz.ntmps196]) ?_
 rw [run_start]
 simp only [ac_zm0ue, go_sem, simprocAttr]
 (repeat' (first | (refine GifP.mk (fun _ => ?_) (fun _ => ?_)) | (refine Gif.mk (fun _ => ?_) (fun _ => ?_)) | ((first | refine (ref1_Fold a ha).callW (enters_of Tryz.func227 rfl rfl) _ rfl rfl ?_ | refine (ref1_Fold b hb).callW (enters_of Tryz.func227 rfl rfl) _ rfl rfl ?_); rintro _ rfl; try simp only [go_sem, simprocAttr]))) <;> (simp only [retK, resD, retL, oneD, simprocAttr, Tryz.results196]; exact ⟨_, rfl, rfl, congrArg bln (by first | rfl | (rw [Bool.eq_iff_iff]; simp only [foldSame]; (first | (simp; done) | (simp; omega) | (simp [*]; done) | (simp [*]; omega))) | (simp_all [foldSame]; done) | (exfalso; omega))⟩)

set_option maxHeartbeats 1000000 in
theorem ref6_Method (s : ByteArray) (hs : s.size ≤ 1000000) : Pure Tryz.prog 198 [str s] (fun d => d = bln (method s)) := by
 refine pure_of_run follows an_zhynl Tryz.func198 rfl ok_zhynl.1 ok_zhynl.2 (by simp [Tryz.ntmps198]) ?_
 rw [run_start]
 simp only [ac_zhynl, go_sem, simprocAttr]
 refine loopS (fun k st => ∃ i : Nat, k = s.size - i ∧ i ≤ s.size ∧ (s.data.toList.drop i).all methOct = s.data.toList.all methOct ∧ st = ⟨[(0, str s), (3, int i)], [], [], .no⟩) s.size _ ?_ ⟨0, rfl, by omega, rfl, rfl⟩ ?_
 ·exact lessA
 rintro k st ⟨i, rfl, hi, hT, rfl⟩
 have hw := i64_succ (show i < 1000000000 by omega)
 by_cases hlt : i < s.size
 ·obtain ⟨b, hb, hd⟩ := byte_at hlt
  have h4 : ((i : Int) < (s.size : Int)) = True := eq_true (by omega)
  rw [hd, List.all_cons] at hT
  have good : methOct b = true → ∀ st, Weak Tryz.prog st ⟨[(0, str s), (3, int (i + 1 : Nat))], [], [], .no⟩ → Round Tryz.prog (fun k st => ∃ i : Nat, k = s.size - i ∧ i ≤ s.size ∧ (s.data.toList.drop i).all methOct = s.data.toList.all methOct ∧ st = ⟨[(0, str s), (3, int i)], [], [], .no⟩) (s.size - i) st := fun h st hw => by
   rw [h, Bool.true_and] at hT
   exact ⟨s.size - (i + 1), _, by omega, hw, i + 1, rfl, by omega, hT, rfl⟩
  have bad : methOct b = false → bln false = bln (method s) := fun h => bool_no fun e => by
   rw [h, Bool.false_and] at hT
   have := ((method_iff s).1 e).2.2
   rw [← hT] at this; cases this
  simp only [go_sem, simprocAttr, h4, hb, hw]
  repeat' (first | refine GifP.mk (fun _ => ?_) (fun _ => ?_) | refine Gif.mk (fun _ => ?_) (fun _ => ?_))
  all_goals first
   | (refine good (by simp [methOct]; omega) _ ?_; exact lessA)
   | (simp only [retK, resD, retL, oneD, simprocAttr, Tryz.results198]; exact ⟨_, rfl, rfl, bad (by simp [methOct]; omega)⟩)
 have h4 : ((i : Int) < (s.size : Int)) = False := eq_false (by omega)
 rw [byte_end hlt, List.all_nil] at hT
 clear hw
 simp only [go_sem, simprocAttr, h4]
 repeat' (first | refine GifP.mk (fun _ => ?_) (fun _ => ?_) | refine Gif.mk (fun _ => ?_) (fun _ => ?_))
 all_goals
  simp only [retK, resD, retL, oneD, simprocAttr, Tryz.results198]
  first
   | exact ⟨_, rfl, rfl, bool_no fun e => by obtain ⟨e1, e2, _⟩ := (method_iff s).1 e; omega⟩
   | exact ⟨_, rfl, rfl, bool_dec ⟨fun h => (method_iff s).2 ⟨by omega, by omega, hT.symm⟩, fun h => by have := ((method_iff s).1 h).2.1; omega⟩⟩

theorem fold_sym (a b : ByteArray) : foldSame a b = foldSame b a := by
 simp only [foldSame, eq_comm]

theorem matchMay_iff (m : AMatch) : matchMay m = true ↔ (pathMay m.pkind m.pval = true ∧ (m.method = ⟨#[]⟩ ∨ method m.method = true) ∧ m.head.length ≤ 8 ∧ m.query.length ≤ 8 ∧ queryMay m.query = true) ∧
 (∀ (j : Nat) (x : APair), m.head[j]? = some x → (token x.name = true ∧ fvalue x.val = true) ∧ ∀ (k : Nat) (y : APair), k < j → m.head[k]? = some y → foldSame x.name y.name = false) ∧
 (∀ (j : Nat) (x : APair), m.query[j]? = some x → ∀ (k : Nat) (y : APair), k < j → m.query[k]? = some y → ¬ x.name = y.name) := by
 simp only [matchMay, pairTwice, Bool.and_eq_true, Bool.or_eq_true, Bool.not_eq_true', decide_eq_true_eq, any_at, tw_iff, pairOdd, Bool.or_eq_false_iff, Bool.not_eq_false', strSame, decide_eq_false_iff_not]
 constructor
 ·rintro ⟨⟨⟨⟨⟨⟨⟨h1, h2⟩, h3⟩, h4⟩, h5⟩, h6⟩, h7⟩, h8⟩
  exact ⟨⟨h1, h2, h3, h6, h7⟩, fun j x hx => ⟨h4 j x hx, fun k y hk hy => by rw [fold_sym]; exact h5 j x hx k y hk hy⟩, fun j x hx k y hk hy e => h8 j x hx k y hk hy e.symm⟩
 ·rintro ⟨⟨h1, h2, h3, h6, h7⟩, h4, h8⟩
  exact ⟨⟨⟨⟨⟨⟨⟨h1, h2⟩, h3⟩, fun j x hx => (h4 j x hx).1⟩, fun j x hx k y hk hy => by rw [fold_sym]; exact (h4 j x hx).2 k y hk hy⟩, h6⟩, h7⟩, fun j x hx k y hk hy e => h8 j x hx k y hk hy e.symm⟩

set_option maxHeartbeats 4000000 in
theorem ref6_May (m : AMatch) (h : m.ok) (hm : m.method.size ≤ 1000000) : Pure Tryz.prog 151 [m.d] (fun d => d = bln (matchMay m)) := by
 have hhl := h.hl
 have hql := h.ql
 refine pure_of_run follows an_z1jc9 Tryz.func151 rfl ok_z1jc9.1 ok_z1jc9.2 (by simp [Tryz.ntmps151]) ?_
 rw [run_start]
 simp only [ac_z1jc9, go_sem, simprocAttr]
 have key : ¬ (pathMay m.pkind m.pval = true ∧ (m.method = ⟨#[]⟩ ∨ method m.method = true) ∧ m.head.length ≤ 8 ∧ m.query.length ≤ 8 ∧ queryMay m.query = true) → bln false = bln (matchMay m) := fun hn => bool_no fun e => hn ((matchMay_iff m).1 e).1
 repeat' (first | refine GifP.mk (fun _ => ?_) (fun _ => ?_) | refine Gif.mk (fun _ => ?_) (fun _ => ?_) | (refine (ref3_May m.pkind m.pval).callW (enters_of Tryz.func197 rfl rfl) _ rfl rfl ?_; rintro _ rfl; simp only [go_sem, simprocAttr]) | (refine (ref6_Method m.method hm).callW (enters_of Tryz.func198 rfl rfl) _ rfl rfl ?_; rintro _ rfl; simp only [go_sem, simprocAttr]) | (refine (ref4_May m.query hql).callW (enters_of Tryz.func199 rfl rfl) _ rfl rfl ?_; rintro _ rfl; simp only [go_sem, simprocAttr]) | refine And.intro ?_ ?_)
 all_goals first
  | (simp only [retK, resD, retL, oneD, simprocAttr, Tryz.results151]; exact ⟨_, rfl, rfl, key (by first | omega | (simp_all; done) | (simp_all; omega))⟩)
  | skip
 all_goals
  have hA : pathMay m.pkind m.pval = true ∧ (m.method = ⟨#[]⟩ ∨ method m.method = true) ∧ m.head.length ≤ 8 ∧ m.query.length ≤ 8 ∧ queryMay m.query = true := by refine ⟨by assumption, by first | (left; assumption) | (right; assumption), by omega, by omega, by assumption⟩
  clear key
  refine loopS (fun k st => ∃ i : Nat, k = m.head.length - i ∧ i ≤ m.head.length ∧ (∀ (j : Nat) (x : APair), j < i → m.head[j]? = some x → (token x.name = true ∧ fvalue x.val = true) ∧ ∀ (k : Nat) (y : APair), k < (j) → m.head[k]? = some y → foldSame x.name y.name = false) ∧ st = ⟨[(1, .ptr 1 0), (3, int i)], [(1, [int m.pkind, str m.pval, str m.method, .pd (.slice (rows APair.pd m.head)), .pd (.slice (rows APair.pd m.query))])], [], .no⟩) m.head.length _ ?_ ⟨0, rfl, by omega, fun _ _ h => absurd h (Nat.not_lt_zero _), rfl⟩ ?_
  ·exact lessA
  rintro k st ⟨i, rfl, hi, hT, rfl⟩
  have hw := i64_succ (show i < 1000000000 by omega)
  by_cases hlt : i < m.head.length
  ·obtain ⟨x, hx⟩ := at_lt hlt
   have hmem := List.mem_of_getElem? hx
   have h1 : ((i : Int) < (m.head.length : Int)) = True := eq_true (by omega)
   have good : ((token x.name = true ∧ fvalue x.val = true) ∧ ∀ (k : Nat) (y : APair), k < i → m.head[k]? = some y → foldSame x.name y.name = false) → ∀ st, Weak Tryz.prog st ⟨[(1, .ptr 1 0), (3, int (i + 1 : Nat))], [(1, [int m.pkind, str m.pval, str m.method, .pd (.slice (rows APair.pd m.head)), .pd (.slice (rows APair.pd m.query))])], [], .no⟩ → Round Tryz.prog (fun k st => ∃ i : Nat, k = m.head.length - i ∧ i ≤ m.head.length ∧ (∀ (j : Nat) (x : APair), j < i → m.head[j]? = some x → (token x.name = true ∧ fvalue x.val = true) ∧ ∀ (k : Nat) (y : APair), k < (j) → m.head[k]? = some y → foldSame x.name y.name = false) ∧ st = ⟨[(1, .ptr 1 0), (3, int i)], [(1, [int m.pkind, str m.pval, str m.method, .pd (.slice (rows APair.pd m.head)), .pd (.slice (rows APair.pd m.query))])], [], .no⟩) (m.head.length - i) st := fun h st hw => ⟨m.head.length - (i + 1), _, by omega, hw, i + 1, rfl, by omega, snoc_all hT hx h, rfl⟩
   have bad : ¬ ((token x.name = true ∧ fvalue x.val = true) ∧ ∀ (k : Nat) (y : APair), k < i → m.head[k]? = some y → foldSame x.name y.name = false) → bln false = bln (matchMay m) := fun h => bool_no fun e => h (((matchMay_iff m).1 e).2.1 i x hx)
   simp only [go_sem, simprocAttr, rows_get hx, h1, hw]
   repeat' (first | refine GifP.mk (fun _ => ?_) (fun _ => ?_) | refine Gif.mk (fun _ => ?_) (fun _ => ?_) | (refine (ref5_Token x.name (h.h x hmem).1).callW (enters_of Tryz.func200 rfl rfl) _ rfl rfl ?_; rintro _ rfl; simp only [go_sem, simprocAttr, rows_get hx, hw]) | (refine (ref5_Value x.val (h.h x hmem).2).callW (enters_of Tryz.func201 rfl rfl) _ rfl rfl ?_; rintro _ rfl; simp only [go_sem, simprocAttr, rows_get hx, hw]) | refine And.intro ?_ ?_)
   all_goals first
    | (simp only [retK, resD, retL, oneD, simprocAttr, Tryz.results151]; exact ⟨_, rfl, rfl, bad (fun h => by simp_all)⟩)
    | skip
   have htok : token x.name = true ∧ fvalue x.val = true := ⟨by assumption, by assumption⟩
   refine loopS (fun n st => ∃ k : Nat, n = i - k ∧ k ≤ i ∧ (∀ (k' : Nat) (y : APair), k' < k → m.head[k']? = some y → foldSame x.name y.name = false) ∧ st = ⟨[(1, .ptr 1 0), (3, int i), (4, int k)], [(1, [int m.pkind, str m.pval, str m.method, .pd (.slice (rows APair.pd m.head)), .pd (.slice (rows APair.pd m.query))])], [], .no⟩) i _ ?_ ⟨0, rfl, by omega, fun _ _ h => absurd h (Nat.not_lt_zero _), rfl⟩ ?_
   ·exact lessA
   rintro n st ⟨k, rfl, hk, hS, rfl⟩
   have hwk := i64_succ (show k < 1000000000 by omega)
   by_cases hki : k < i
   ·obtain ⟨y, hy⟩ := at_lt (show k < m.head.length by omega)
    have hmy := List.mem_of_getElem? hy
    have h2 : ((k : Int) < (i : Int)) = True := eq_true (by omega)
    have goodk : (foldSame x.name y.name = false) → ∀ st, Weak Tryz.prog st ⟨[(1, .ptr 1 0), (3, int i), (4, int (k + 1 : Nat))], [(1, [int m.pkind, str m.pval, str m.method, .pd (.slice (rows APair.pd m.head)), .pd (.slice (rows APair.pd m.query))])], [], .no⟩ → Round Tryz.prog (fun n st => ∃ k : Nat, n = i - k ∧ k ≤ i ∧ (∀ (k' : Nat) (y : APair), k' < k → m.head[k']? = some y → foldSame x.name y.name = false) ∧ st = ⟨[(1, .ptr 1 0), (3, int i), (4, int k)], [(1, [int m.pkind, str m.pval, str m.method, .pd (.slice (rows APair.pd m.head)), .pd (.slice (rows APair.pd m.query))])], [], .no⟩) (i - k) st := fun h st hw => ⟨i - (k + 1), _, by omega, hw, k + 1, rfl, by omega, snoc_all hS hy h, rfl⟩
    have badk : ¬ (foldSame x.name y.name = false) → bln false = bln (matchMay m) := fun h => bad (fun e => h (e.2 k y hki hy))
    simp only [go_sem, simprocAttr, rows_get hx, rows_get hy, h2, hwk]
    repeat' (first | refine GifP.mk (fun _ => ?_) (fun _ => ?_) | refine Gif.mk (fun _ => ?_) (fun _ => ?_) | (refine (ref5_Same x.name y.name (h.h x hmem).1 (h.h y hmy).1).callX (enters_of Tryz.func196 rfl rfl) _ rfl rfl ?_; rintro _ rfl; simp only [go_sem, simprocAttr, rows_get hx, rows_get hy, hwk]) | refine And.intro ?_ ?_)
    all_goals first
     | (refine goodk (by first | omega | (simp_all; done) | (simp_all; omega)) _ ?_; exact lessA)
     | (simp only [retK, resD, retL, oneD, simprocAttr, Tryz.results151]; exact ⟨_, rfl, rfl, badk (by first | omega | (simp_all; done) | (simp_all; omega))⟩)
   have h2 : ((k : Int) < (i : Int)) = False := eq_false (by omega)
   have hIn : ∀ (k : Nat) (y : APair), k < i → m.head[k]? = some y → foldSame x.name y.name = false := fun k' y hk' hy => hS k' y (by omega) hy
   clear hS hwk hk
   simp only [go_sem, simprocAttr, rows_get hx, h2, hw]
   first | clear h2 hki k | clear h2 hki
   refine good ⟨htok, hIn⟩ _ ?_
   exact lessA
  have h1 : ((i : Int) < (m.head.length : Int)) = False := eq_false (by omega)
  have hHead : ∀ (j : Nat) (x : APair), m.head[j]? = some x → (token x.name = true ∧ fvalue x.val = true) ∧ ∀ (k : Nat) (y : APair), k < (j) → m.head[k]? = some y → foldSame x.name y.name = false := fun j x hx => hT j x (by have := (List.getElem?_eq_some_iff.1 hx).1; omega) hx
  clear hT hw hi
  simp only [go_sem, simprocAttr, h1]
  first | clear h1 hlt i | clear h1 hlt
  refine loopS (fun k st => ∃ i : Nat, k = m.query.length - i ∧ i ≤ m.query.length ∧ (∀ (j : Nat) (x : APair), j < i → m.query[j]? = some x → ∀ (k : Nat) (y : APair), k < (j) → m.query[k]? = some y → ¬ x.name = y.name) ∧ st = ⟨[(1, .ptr 1 0), (5, int i)], [(1, [int m.pkind, str m.pval, str m.method, .pd (.slice (rows APair.pd m.head)), .pd (.slice (rows APair.pd m.query))])], [], .no⟩) m.query.length _ ?_ ⟨0, rfl, by omega, fun _ _ h => absurd h (Nat.not_lt_zero _), rfl⟩ ?_
  ·exact lessA
  rintro k st ⟨i, rfl, hi, hT, rfl⟩
  have hw := i64_succ (show i < 1000000000 by omega)
  by_cases hlt : i < m.query.length
  ·obtain ⟨x, hx⟩ := at_lt hlt
   have hmem := List.mem_of_getElem? hx
   have h1 : ((i : Int) < (m.query.length : Int)) = True := eq_true (by omega)
   have good : (∀ (k : Nat) (y : APair), k < i → m.query[k]? = some y → ¬ x.name = y.name) → ∀ st, Weak Tryz.prog st ⟨[(1, .ptr 1 0), (5, int (i + 1 : Nat))], [(1, [int m.pkind, str m.pval, str m.method, .pd (.slice (rows APair.pd m.head)), .pd (.slice (rows APair.pd m.query))])], [], .no⟩ → Round Tryz.prog (fun k st => ∃ i : Nat, k = m.query.length - i ∧ i ≤ m.query.length ∧ (∀ (j : Nat) (x : APair), j < i → m.query[j]? = some x → ∀ (k : Nat) (y : APair), k < (j) → m.query[k]? = some y → ¬ x.name = y.name) ∧ st = ⟨[(1, .ptr 1 0), (5, int i)], [(1, [int m.pkind, str m.pval, str m.method, .pd (.slice (rows APair.pd m.head)), .pd (.slice (rows APair.pd m.query))])], [], .no⟩) (m.query.length - i) st := fun h st hw => ⟨m.query.length - (i + 1), _, by omega, hw, i + 1, rfl, by omega, snoc_all hT hx h, rfl⟩
   have bad : ¬ (∀ (k : Nat) (y : APair), k < i → m.query[k]? = some y → ¬ x.name = y.name) → bln false = bln (matchMay m) := fun h => bool_no fun e => h (((matchMay_iff m).1 e).2.2 i x hx)
   simp only [go_sem, simprocAttr, rows_get hx, h1, hw]
   refine loopS (fun n st => ∃ k : Nat, n = i - k ∧ k ≤ i ∧ (∀ (k' : Nat) (y : APair), k' < k → m.query[k']? = some y → ¬ x.name = y.name) ∧ st = ⟨[(1, .ptr 1 0), (5, int i), (6, int k)], [(1, [int m.pkind, str m.pval, str m.method, .pd (.slice (rows APair.pd m.head)), .pd (.slice (rows APair.pd m.query))])], [], .no⟩) i _ ?_ ⟨0, rfl, by omega, fun _ _ h => absurd h (Nat.not_lt_zero _), rfl⟩ ?_
   ·exact lessA
   rintro n st ⟨k, rfl, hk, hS, rfl⟩
   have hwk := i64_succ (show k < 1000000000 by omega)
   by_cases hki : k < i
   ·obtain ⟨y, hy⟩ := at_lt (show k < m.query.length by omega)
    have hmy := List.mem_of_getElem? hy
    have h2 : ((k : Int) < (i : Int)) = True := eq_true (by omega)
    have goodk : (¬ x.name = y.name) → ∀ st, Weak Tryz.prog st ⟨[(1, .ptr 1 0), (5, int i), (6, int (k + 1 : Nat))], [(1, [int m.pkind, str m.pval, str m.method, .pd (.slice (rows APair.pd m.head)), .pd (.slice (rows APair.pd m.query))])], [], .no⟩ → Round Tryz.prog (fun n st => ∃ k : Nat, n = i - k ∧ k ≤ i ∧ (∀ (k' : Nat) (y : APair), k' < k → m.query[k']? = some y → ¬ x.name = y.name) ∧ st = ⟨[(1, .ptr 1 0), (5, int i), (6, int k)], [(1, [int m.pkind, str m.pval, str m.method, .pd (.slice (rows APair.pd m.head)), .pd (.slice (rows APair.pd m.query))])], [], .no⟩) (i - k) st := fun h st hw => ⟨i - (k + 1), _, by omega, hw, k + 1, rfl, by omega, snoc_all hS hy h, rfl⟩
    have badk : ¬ (¬ x.name = y.name) → bln false = bln (matchMay m) := fun h => bad (fun e => h (e k y hki hy))
    simp only [go_sem, simprocAttr, rows_get hx, rows_get hy, h2, hwk]
    repeat' (first | refine GifP.mk (fun _ => ?_) (fun _ => ?_) | refine Gif.mk (fun _ => ?_) (fun _ => ?_) | refine And.intro ?_ ?_)
    all_goals first
     | (refine goodk (by first | omega | (simp_all; done) | (simp_all; omega)) _ ?_; exact lessA)
     | (simp only [retK, resD, retL, oneD, simprocAttr, Tryz.results151]; exact ⟨_, rfl, rfl, badk (by first | omega | (simp_all; done) | (simp_all; omega))⟩)
   have h2 : ((k : Int) < (i : Int)) = False := eq_false (by omega)
   have hIn : ∀ (k : Nat) (y : APair), k < i → m.query[k]? = some y → ¬ x.name = y.name := fun k' y hk' hy => hS k' y (by omega) hy
   clear hS hwk hk
   simp only [go_sem, simprocAttr, rows_get hx, h2, hw]
   first | clear h2 hki k | clear h2 hki
   refine good hIn _ ?_
   exact lessA
  have h1 : ((i : Int) < (m.query.length : Int)) = False := eq_false (by omega)
  have hQuery : ∀ (j : Nat) (x : APair), m.query[j]? = some x → ∀ (k : Nat) (y : APair), k < (j) → m.query[k]? = some y → ¬ x.name = y.name := fun j x hx => hT j x (by have := (List.getElem?_eq_some_iff.1 hx).1; omega) hx
  clear hT hw hi
  simp only [go_sem, simprocAttr, h1]
  first | clear h1 hlt i | clear h1 hlt
  simp only [retK, resD, retL, oneD, simprocAttr, Tryz.results151]
  exact ⟨_, rfl, rfl, bool_yes ((matchMay_iff m).2 ⟨hA, hHead, hQuery⟩)⟩

end Go.Proofs.YtbjaopoipkphnaaGreatDoor


