/- Texts of the prover's, joined: F1 F2 F3 F0 F4 F5 D4. -/
import Derived.Test.YtbpgebfejebmlaaGreatDoorK3
import Derived.Lib.Bytealg
import Derived.WalkKit
import Derived.Lib.Walk
import Derived.BigCall
import Derived.BigGuard
import Derived.Deep.Draws
import Derived.Deep.LoopGhost
import Derived.Lib.ConvBytes
import Derived.Laws.BytesString
import Derived.Test.YtbpgebfejebmlaaGreatDoorProg
import Derived.KernelRfl

namespace Go.Proofs.YtbpgebfejebmlaaGreatDoor
open Go Go.RowKit
set_option linter.unusedSimpArgs false
set_option linter.unusedVariables false
set_option maxRecDepth 100000

abbrev i32 (n : Int) : D := .pd (.raw (.int .i32 n))
abbrev u8 (n : Int) : D := .pd (.raw (.int .u8 n))

def octet (c : Int) : Bool := (decide (97 ≤ c) && decide (c ≤ 122)) || (decide (48 ≤ c) && decide (c ≤ 57)) || decide (c = 45)

theorem dns_octet (c : Int) : Pure Tryz.prog 149 [i32 c] (fun d => d = bln (octet c)) := by
  refine pure_of_run follows an_z0 Tryz.func149 rfl ok_z0 dst_z0 (by simp [Tryz.ntmps149]) ?_
  rw [run_start]
  simp only [ac_z0, go_sem, contS_seq, reduceIte, reduceCtorEq, Nat.reduceEqDiff, Nat.reduceAdd, Nat.reduceBEq, Nat.reduceBNe, Int.reduceLE, Int.reduceLT, Int.reduceToNat, Int.reduceEq, Nat.reduceLeDiff, Nat.reduceLT, Nat.reducePow, Nat.reduceDiv, Nat.reduceMod]
  repeat' (first | refine GifP.mk (fun _ => ?_) (fun _ => ?_) | refine Gif.mk (fun _ => ?_) (fun _ => ?_))
  all_goals
    simp only [retK, fullK, iterK, resD, resA, AOp.ex, St.ev, Option.map_some, Option.bind_some, St.get, lk, reduceIte, Nat.reduceEqDiff, Option.getD_some, oneD, List.getElem?_cons_zero, List.getElem?_cons_succ, List.drop_zero, List.drop_succ_cons, List.take_succ_cons, List.take_zero, List.length_cons, List.length_nil, Nat.zero_add, Nat.reduceAdd, Nat.le_refl, Nat.reduceLeDiff, D.pub, D.pubs, Tryz.results149]
    exact ⟨_, rfl, rfl, congrArg bln (by first | rfl | (rw [Bool.eq_iff_iff]; simp only [octet]; simp; done) | (rw [Bool.eq_iff_iff]; simp only [octet]; simp; omega) | (rw [Bool.eq_iff_iff]; simp only [octet]; simp [*]; done) | (rw [Bool.eq_iff_iff]; simp only [octet]; simp [*]; omega) | (simp_all [octet]; done) | (exfalso; omega))⟩

theorem dns_Label_1 (c : Int) : Pure Tryz.prog 148 [i32 c] (fun d => d = bln (!octet c)) := by
  refine pure_of_run follows an_z1 Tryz.func148 rfl ok_z1 dst_z1 (by simp [Tryz.ntmps148]) ?_
  rw [run_start]
  simp only [ac_z1, go_sem, contS_seq, reduceIte, reduceCtorEq, Nat.reduceEqDiff, Nat.reduceAdd, Nat.reduceBEq, Nat.reduceBNe, Int.reduceLE, Int.reduceLT, Int.reduceToNat, Int.reduceEq, Nat.reduceLeDiff, Nat.reduceLT, Nat.reducePow, Nat.reduceDiv, Nat.reduceMod]
  refine (dns_octet _).callW (enters_of Tryz.func149 rfl rfl) _ rfl rfl ?_
  rintro d rfl
  simp only [go_sem, contS_seq, reduceIte, reduceCtorEq, Nat.reduceEqDiff, Nat.reduceAdd, Nat.reduceBEq, Nat.reduceBNe, Int.reduceLE, Int.reduceLT, Int.reduceToNat, Int.reduceEq, Nat.reduceLeDiff, Nat.reduceLT, Nat.reducePow, Nat.reduceDiv, Nat.reduceMod]
  simp only [retK, fullK, iterK, resD, resA, AOp.ex, St.ev, Option.map_some, Option.bind_some, St.get, lk, reduceIte, Nat.reduceEqDiff, Option.getD_some, oneD, List.getElem?_cons_zero, List.getElem?_cons_succ, List.drop_zero, List.drop_succ_cons, List.take_succ_cons, List.take_zero, List.length_cons, List.length_nil, Nat.zero_add, Nat.reduceAdd, Nat.le_refl, Nat.reduceLeDiff, D.pub, D.pubs, Tryz.results148]
  exact ⟨_, rfl, rfl, rfl⟩

/-- The place of the first rune of which p is so; -1: there is none. -/
def runeIdx (p : Int → Bool) (s : ByteArray) : Nat → Nat → Int
  | 0, _ => -1
  | f + 1, pos => if pos < s.size then (if p (Utf8.decode s pos).1 then (pos : Int) else runeIdx p s f (pos + (Utf8.decode s pos).2)) else -1

theorem width_pos (s : ByteArray) (pos : Nat) : 1 ≤ (Utf8.decode s pos).2 := by
  unfold Utf8.decode
  dsimp only
  repeat' split
  all_goals simp

theorem runeIdx_end {p : Int → Bool} {s : ByteArray} {f pos : Nat} (h : ¬ pos < s.size) : runeIdx p s f pos = -1 := by cases f <;> simp [runeIdx, h]

theorem strings_indexFunc (p : Int → Bool) (f : FuncId) (he : Enters Tryz.prog f) (hp : ∀ c, Pure Tryz.prog f [i32 c] (fun d => d = bln (p c))) (s : ByteArray) :
    Pure Tryz.prog 193 [str s, .fn f [], bln true] (fun d => d = int (runeIdx p s s.size 0)) := by
  refine pure_of_run follows an_z2 Tryz.func193 rfl ok_z2 dst_z2 (by simp [Tryz.ntmps193]) ?_
  rw [run_start]
  simp only [ac_z2, go_sem, contS_seq, reduceIte, reduceCtorEq, Nat.reduceEqDiff, Nat.reduceAdd, Nat.reduceBEq, Nat.reduceBNe, Int.reduceLE, Int.reduceLT, Int.reduceToNat, Int.reduceEq, Nat.reduceLeDiff, Nat.reduceLT, Nat.reducePow, Nat.reduceDiv, Nat.reduceMod]
  refine loopS (fun k st => ∃ pos : Nat, s.size ≤ pos + k ∧ runeIdx p s k pos = runeIdx p s s.size 0 ∧
    st = ⟨[(1, .fn f []), (2, bln true), (10, .ptr 10 0)], [], [(10, .sit s pos)], .no⟩) s.size _ (Weak.refl _ _) ⟨0, by omega, rfl, rfl⟩ ?_
  rintro k st ⟨pos, hk, hr, rfl⟩
  by_cases hlt : pos < s.size
  · obtain ⟨k, rfl⟩ : ∃ m, k = m + 1 := ⟨k - 1, by omega⟩
    have hw := width_pos s pos
    simp only [go_sem, contS_seq, reduceIte, reduceCtorEq, Nat.reduceEqDiff, Nat.reduceAdd, Nat.reduceBEq, Nat.reduceBNe, Int.reduceLE, Int.reduceLT, Int.reduceToNat, Int.reduceEq, Nat.reduceLeDiff, Nat.reduceLT, Nat.reducePow, Nat.reduceDiv, Nat.reduceMod, hlt]
    refine (hp _).callW he _ rfl rfl ?_
    rintro d rfl
    simp only [runeIdx, hlt, if_true] at hr
    simp only [go_sem, contS_seq, reduceIte, reduceCtorEq, Nat.reduceEqDiff, Nat.reduceAdd, Nat.reduceBEq, Nat.reduceBNe, Int.reduceLE, Int.reduceLT, Int.reduceToNat, Int.reduceEq, Nat.reduceLeDiff, Nat.reduceLT, Nat.reducePow, Nat.reduceDiv, Nat.reduceMod]
    refine ⟨fun h => ?_, fun h => ?_⟩
    · simp only [retK, fullK, iterK, resD, resA, AOp.ex, St.ev, Option.map_some, Option.bind_some, St.get, lk, reduceIte, Nat.reduceEqDiff, Option.getD_some, oneD, List.getElem?_cons_zero, List.getElem?_cons_succ, List.drop_zero, List.drop_succ_cons, List.take_succ_cons, List.take_zero, List.length_cons, List.length_nil, Nat.zero_add, Nat.reduceAdd, Nat.le_refl, Nat.reduceLeDiff, D.pub, D.pubs, Tryz.results193]
      simp at h
      simp only [h, if_true] at hr
      exact ⟨_, rfl, rfl, congrArg int hr⟩
    · simp at h
      simp only [h, Bool.false_eq_true, if_false] at hr
      refine ⟨k, _, ?_, ?_, pos + (Utf8.decode s pos).2, ?_, hr, rfl⟩
      · omega
      · exact Weak.less (by simp [lessL, lk]) (by simp [lessL, lk]) (by simp [lessL, lk]) rfl
      · omega
  · simp only [go_sem, contS_seq, reduceIte, reduceCtorEq, Nat.reduceEqDiff, Nat.reduceAdd, Nat.reduceBEq, Nat.reduceBNe, Int.reduceLE, Int.reduceLT, Int.reduceToNat, Int.reduceEq, Nat.reduceLeDiff, Nat.reduceLT, Nat.reducePow, Nat.reduceDiv, Nat.reduceMod, hlt]
    simp only [retK, fullK, iterK, resD, resA, AOp.ex, St.ev, Option.map_some, Option.bind_some, St.get, lk, reduceIte, Nat.reduceEqDiff, Option.getD_some, oneD, List.getElem?_cons_zero, List.getElem?_cons_succ, List.drop_zero, List.drop_succ_cons, List.take_succ_cons, List.take_zero, List.length_cons, List.length_nil, Nat.zero_add, Nat.reduceAdd, Nat.le_refl, Nat.reduceLeDiff, D.pub, D.pubs, Tryz.results193]
    rw [runeIdx_end hlt] at hr
    exact ⟨_, rfl, rfl, congrArg int hr⟩

theorem strings_IndexFunc (p : Int → Bool) (f : FuncId) (he : Enters Tryz.prog f) (hp : ∀ c, Pure Tryz.prog f [i32 c] (fun d => d = bln (p c))) (s : ByteArray) :
    Pure Tryz.prog 150 [str s, .fn f []] (fun d => d = int (runeIdx p s s.size 0)) := by
  refine pure_of_run follows an_z3 Tryz.func150 rfl ok_z3 dst_z3 (by simp [Tryz.ntmps150]) ?_
  rw [run_start]
  simp only [ac_z3, go_sem, contS_seq, reduceIte, reduceCtorEq, Nat.reduceEqDiff, Nat.reduceAdd, Nat.reduceBEq, Nat.reduceBNe, Int.reduceLE, Int.reduceLT, Int.reduceToNat, Int.reduceEq, Nat.reduceLeDiff, Nat.reduceLT, Nat.reducePow, Nat.reduceDiv, Nat.reduceMod]
  refine (strings_indexFunc p f he hp s).callW (enters_of Tryz.func193 rfl rfl) _ rfl rfl ?_
  rintro d rfl
  simp only [go_sem, contS_seq, reduceIte, reduceCtorEq, Nat.reduceEqDiff, Nat.reduceAdd, Nat.reduceBEq, Nat.reduceBNe, Int.reduceLE, Int.reduceLT, Int.reduceToNat, Int.reduceEq, Nat.reduceLeDiff, Nat.reduceLT, Nat.reducePow, Nat.reduceDiv, Nat.reduceMod]
  simp only [retK, fullK, iterK, resD, resA, AOp.ex, St.ev, Option.map_some, Option.bind_some, St.get, lk, reduceIte, Nat.reduceEqDiff, Option.getD_some, oneD, List.getElem?_cons_zero, List.getElem?_cons_succ, List.drop_zero, List.drop_succ_cons, List.take_succ_cons, List.take_zero, List.length_cons, List.length_nil, Nat.zero_add, Nat.reduceAdd, Nat.le_refl, Nat.reduceLeDiff, D.pub, D.pubs, Tryz.results150]
  exact ⟨_, rfl, rfl, rfl⟩

def label (s : ByteArray) : Bool :=
  !decide (s = ⟨#[]⟩) && decide (s.size ≤ 20) && decide (runeIdx (fun c => !octet c) s s.size 0 < 0) && (match s[0]? with | some b => !decide (b.toNat = 45) | none => false) && (match s[s.size - 1]? with | some b => !decide (b.toNat = 45) | none => false)

theorem at_byte {s : ByteArray} {i : Nat} (h : i < s.size) : ∃ b, s[i]? = some b := ⟨s[i], by simp [h]⟩

theorem size_pos {s : ByteArray} (h : s ≠ ⟨#[]⟩) : 0 < s.size := by
  rcases Nat.eq_zero_or_pos s.size with h0 | h0
  · exact absurd (by cases s with | mk a => simp only [ByteArray.size] at h0; rw [Array.eq_empty_of_size_eq_zero h0]) h
  · exact h0

theorem dns_Label (s : ByteArray) : Pure Tryz.prog 95 [str s] (fun d => d = bln (label s)) := by
  refine pure_of_run follows an_z4 Tryz.func95 rfl ok_z4 dst_z4 (by simp [Tryz.ntmps95]) ?_
  rw [run_start]
  simp only [ac_z4, go_sem, contS_seq, reduceIte, reduceCtorEq, Nat.reduceEqDiff, Nat.reduceAdd, Nat.reduceBEq, Nat.reduceBNe, Int.reduceLE, Int.reduceLT, Int.reduceToNat, Int.reduceEq, Nat.reduceLeDiff, Nat.reduceLT, Nat.reducePow, Nat.reduceDiv, Nat.reduceMod]
  refine GifP.mk (fun h1 => ?_) (fun h1 => ?_)
  · simp only [retK, fullK, iterK, resD, resA, AOp.ex, St.ev, Option.map_some, Option.bind_some, St.get, lk, reduceIte, Nat.reduceEqDiff, Option.getD_some, oneD, List.getElem?_cons_zero, List.getElem?_cons_succ, List.drop_zero, List.drop_succ_cons, List.take_succ_cons, List.take_zero, List.length_cons, List.length_nil, Nat.zero_add, Nat.reduceAdd, Nat.le_refl, Nat.reduceLeDiff, D.pub, D.pubs, Tryz.results95]
    exact ⟨_, rfl, rfl, congrArg bln (by simp [label, h1])⟩
  have hpos := size_pos h1
  refine GifP.mk (fun h2 => ?_) (fun h2 => ?_)
  rotate_left
  · simp only [retK, fullK, iterK, resD, resA, AOp.ex, St.ev, Option.map_some, Option.bind_some, St.get, lk, reduceIte, Nat.reduceEqDiff, Option.getD_some, oneD, List.getElem?_cons_zero, List.getElem?_cons_succ, List.drop_zero, List.drop_succ_cons, List.take_succ_cons, List.take_zero, List.length_cons, List.length_nil, Nat.zero_add, Nat.reduceAdd, Nat.le_refl, Nat.reduceLeDiff, D.pub, D.pubs, Tryz.results95]
    exact ⟨_, rfl, rfl, congrArg bln (by simp [label]; omega)⟩
  refine (strings_IndexFunc _ _ (enters_of Tryz.func148 rfl rfl) dns_Label_1 s).callW (enters_of Tryz.func150 rfl rfl) _ rfl rfl ?_
  rintro d rfl
  obtain ⟨b0, hb0⟩ : ∃ b, s[0]? = some b := at_byte hpos
  obtain ⟨b1, hb1⟩ : ∃ b, s[s.size - 1]? = some b := at_byte (by omega)
  have hw : IntKind.i64.wrap ((s.size : Int) - 1) = ((s.size - 1 : Nat) : Int) := by rw [IntWalk.i64_in _ (by omega)]; omega
  simp only [go_sem, contS_seq, reduceIte, reduceCtorEq, Nat.reduceEqDiff, Nat.reduceAdd, Nat.reduceBEq, Nat.reduceBNe, Int.reduceLE, Int.reduceLT, Int.reduceToNat, Int.reduceEq, Nat.reduceLeDiff, Nat.reduceLT, Nat.reducePow, Nat.reduceDiv, Nat.reduceMod, hb0, hb1, hw]
  have h20 : s.size ≤ 20 := by omega
  repeat' (first | refine GifP.mk (fun _ => ?_) (fun _ => ?_) | refine Gif.mk (fun _ => ?_) (fun _ => ?_))
  all_goals
    simp only [retK, fullK, iterK, resD, resA, AOp.ex, St.ev, Option.map_some, Option.bind_some, St.get, lk, reduceIte, Nat.reduceEqDiff, Option.getD_some, oneD, List.getElem?_cons_zero, List.getElem?_cons_succ, List.drop_zero, List.drop_succ_cons, List.take_succ_cons, List.take_zero, List.length_cons, List.length_nil, Nat.zero_add, Nat.reduceAdd, Nat.le_refl, Nat.reduceLeDiff, D.pub, D.pubs, Tryz.results95]
    exact ⟨_, rfl, rfl, congrArg bln (by first | rfl | (rw [Bool.eq_iff_iff]; simp only [label, hb0, hb1, h1, h20]; simp; done) | (rw [Bool.eq_iff_iff]; simp only [label, hb0, hb1, h1, h20]; simp; omega) | (rw [Bool.eq_iff_iff]; simp only [label, hb0, hb1, h1, h20]; simp [*]; done) | (rw [Bool.eq_iff_iff]; simp only [label, hb0, hb1, h1, h20]; simp [*]; omega) | (simp_all [label, hb0, hb1, h1, h20]; done) | (exfalso; omega))⟩


/-- A contract at memory's level that leaves the world as it is. -/
theorem pure_of_calls {P : Program} {f : FuncId} {args : List D} {vs : List Value} {v : Value} {d : D} (ha : ∀ g w us, Reps g w args us → us = vs) (hd : d.closed = true) (hv : ∀ g w, Rep g w d v)
    (h : ∀ w, Calls P f vs.toArray w fun e w' => e = .returned v ∧ w' = w) : Pure P f args (fun x => x = d) := by
  intro Fz w us hlt hr
  obtain rfl := ha _ _ _ hr
  refine (h w).mono ?_
  rintro e w' ⟨rfl, rfl⟩
  exact ⟨v, d, Fz, rfl, rfl, hd, Below.refl _ _, Ex.refl _ _, hlt, fun _ _ h _ => h, hv _ _⟩

set_option maxHeartbeats 1000000 in
set_option maxRecDepth 100000 in
theorem run_stringslite_IndexByte (s : ByteArray) (c : Int) (w : World) :
    Calls Tryz.prog 227 #[.string s, .int .u8 c] w fun e w' => e = .returned (.int .i64 (Lib.indexByte s.data.toList c.toNat.toUInt8)) ∧ w' = w := by
  go_enter Tryz.func227, Tryz.ntmps227
  go_wp2
  rw [run_callFunc_extern Tryz.func240 (by kernel_rfl) (by kernel_rfl) (by kernel_rfl) (e := Extern.BytealgIndexByte.indexByte) (by kernel_rfl), Lib.run_indexByteString]
  simp only [Result.andThen]
  rw [Oper.upon_value]
  go_wp2
  go_ret
  exact ⟨rfl, rfl⟩

theorem rep_raw_inv {g : Gh} {w : World} {v u : Value} (h : Rep g w (.pd (.raw v)) u) : u = v := by
  simp only [Rep] at h
  cases h; rfl

theorem reps_two {g : Gh} {w : World} {a b : Value} {us : List Value} (h : Reps g w [.pd (.raw a), .pd (.raw b)] us) : us = [a, b] := by
  simp only [Reps] at h
  obtain ⟨x, r, rfl, hx, y, r', rfl, hy, rfl⟩ := h
  rw [rep_raw_inv hx, rep_raw_inv hy]

theorem stringslite_IndexByte (s : ByteArray) (c : Int) : Pure Tryz.prog 227 [str s, u8 c] (fun d => d = int (Lib.indexByte s.data.toList c.toNat.toUInt8)) :=
  pure_of_calls (vs := [.string s, .int .u8 c]) (v := .int .i64 (Lib.indexByte s.data.toList c.toNat.toUInt8)) (fun _ _ _ h => reps_two h) rfl (fun _ _ => by simp only [Rep]; exact .raw _ rfl) (run_stringslite_IndexByte s c)

theorem strings_IndexByte (s : ByteArray) (c : Int) : Pure Tryz.prog 210 [str s, u8 c] (fun d => d = int (Lib.indexByte s.data.toList c.toNat.toUInt8)) := by
  refine pure_of_run follows an_z24 Tryz.func210 rfl ok_z24 dst_z24 (by simp [Tryz.ntmps210]) ?_
  rw [run_start]
  simp only [ac_z24, go_sem, contS_seq, reduceIte, reduceCtorEq, Nat.reduceEqDiff, Nat.reduceAdd, Nat.reduceBEq, Nat.reduceBNe, Int.reduceLE, Int.reduceLT, Int.reduceToNat, Int.reduceEq, Nat.reduceLeDiff, Nat.reduceLT, Nat.reducePow, Nat.reduceDiv, Nat.reduceMod]
  refine (stringslite_IndexByte s c).callW (enters_of Tryz.func227 rfl rfl) _ rfl rfl ?_
  rintro d rfl
  simp only [go_sem, contS_seq, reduceIte, reduceCtorEq, Nat.reduceEqDiff, Nat.reduceAdd, Nat.reduceBEq, Nat.reduceBNe, Int.reduceLE, Int.reduceLT, Int.reduceToNat, Int.reduceEq, Nat.reduceLeDiff, Nat.reduceLT, Nat.reducePow, Nat.reduceDiv, Nat.reduceMod]
  simp only [retK, fullK, iterK, resD, resA, AOp.ex, St.ev, Option.map_some, Option.bind_some, St.get, lk, reduceIte, Nat.reduceEqDiff, Option.getD_some, oneD, List.getElem?_cons_zero, List.getElem?_cons_succ, List.drop_zero, List.drop_succ_cons, List.take_succ_cons, List.take_zero, List.length_cons, List.length_nil, Nat.zero_add, Nat.reduceAdd, Nat.le_refl, Nat.reduceLeDiff, D.pub, D.pubs, Tryz.results210]
  exact ⟨_, rfl, rfl, rfl⟩

theorem stringslite_Index (s : ByteArray) (c : UInt8) : Pure Tryz.prog 226 [str s, str ⟨#[c]⟩] (fun d => d = int (Lib.indexByte s.data.toList c)) := by
  refine pure_of_run follows an_z6 Tryz.func226 rfl ok_z6 dst_z6 (by simp [Tryz.ntmps226]) ?_
  rw [run_start]
  have h1 : (ByteArray.mk #[c]).size = 1 := rfl
  have h2 : (ByteArray.mk #[c])[0]? = some c := rfl
  have h3 : ((1 : Nat) : Int) = 1 := rfl
  have h4 : ((1 : Int) = 0) = False := by simp
  simp only [ac_z6, go_sem, contS_seq, reduceIte, reduceCtorEq, Nat.reduceEqDiff, Nat.reduceAdd, Nat.reduceBEq, Nat.reduceBNe, Int.reduceLE, Int.reduceLT, Int.reduceToNat, Int.reduceEq, Nat.reduceLeDiff, Nat.reduceLT, Nat.reducePow, Nat.reduceDiv, Nat.reduceMod, h1, h2, h3, h4]
  refine GifP.mk (fun he => ?_) (fun he => ?_)
  · simp only [retK, fullK, iterK, resD, resA, AOp.ex, St.ev, Option.map_some, Option.bind_some, St.get, lk, reduceIte, Nat.reduceEqDiff, Option.getD_some, oneD, List.getElem?_cons_zero, List.getElem?_cons_succ, List.drop_zero, List.drop_succ_cons, List.take_succ_cons, List.take_zero, List.length_cons, List.length_nil, Nat.zero_add, Nat.reduceAdd, Nat.le_refl, Nat.reduceLeDiff, D.pub, D.pubs, Tryz.results226]
    exact ⟨_, rfl, rfl, congrArg int (by rw [← he]; simp [Lib.indexByte])⟩
  refine (stringslite_IndexByte s c.toNat).callW (enters_of Tryz.func227 rfl rfl) _ rfl rfl ?_
  rintro d rfl
  simp only [go_sem, contS_seq, reduceIte, reduceCtorEq, Nat.reduceEqDiff, Nat.reduceAdd, Nat.reduceBEq, Nat.reduceBNe, Int.reduceLE, Int.reduceLT, Int.reduceToNat, Int.reduceEq, Nat.reduceLeDiff, Nat.reduceLT, Nat.reducePow, Nat.reduceDiv, Nat.reduceMod]
  simp only [retK, fullK, iterK, resD, resA, AOp.ex, St.ev, Option.map_some, Option.bind_some, St.get, lk, reduceIte, Nat.reduceEqDiff, Option.getD_some, oneD, List.getElem?_cons_zero, List.getElem?_cons_succ, List.drop_zero, List.drop_succ_cons, List.take_succ_cons, List.take_zero, List.length_cons, List.length_nil, Nat.zero_add, Nat.reduceAdd, Nat.le_refl, Nat.reduceLeDiff, D.pub, D.pubs, Tryz.results226]
  exact ⟨_, rfl, rfl, congrArg int (by simp)⟩

theorem strings_Index (s : ByteArray) (c : UInt8) : Pure Tryz.prog 205 [str s, str ⟨#[c]⟩] (fun d => d = int (Lib.indexByte s.data.toList c)) := by
  refine pure_of_run follows an_z5 Tryz.func205 rfl ok_z5 dst_z5 (by simp [Tryz.ntmps205]) ?_
  rw [run_start]
  simp only [ac_z5, go_sem, contS_seq, reduceIte, reduceCtorEq, Nat.reduceEqDiff, Nat.reduceAdd, Nat.reduceBEq, Nat.reduceBNe, Int.reduceLE, Int.reduceLT, Int.reduceToNat, Int.reduceEq, Nat.reduceLeDiff, Nat.reduceLT, Nat.reducePow, Nat.reduceDiv, Nat.reduceMod]
  refine (stringslite_Index s c).callW (enters_of Tryz.func226 rfl rfl) _ rfl rfl ?_
  rintro d rfl
  simp only [go_sem, contS_seq, reduceIte, reduceCtorEq, Nat.reduceEqDiff, Nat.reduceAdd, Nat.reduceBEq, Nat.reduceBNe, Int.reduceLE, Int.reduceLT, Int.reduceToNat, Int.reduceEq, Nat.reduceLeDiff, Nat.reduceLT, Nat.reducePow, Nat.reduceDiv, Nat.reduceMod]
  simp only [retK, fullK, iterK, resD, resA, AOp.ex, St.ev, Option.map_some, Option.bind_some, St.get, lk, reduceIte, Nat.reduceEqDiff, Option.getD_some, oneD, List.getElem?_cons_zero, List.getElem?_cons_succ, List.drop_zero, List.drop_succ_cons, List.take_succ_cons, List.take_zero, List.length_cons, List.length_nil, Nat.zero_add, Nat.reduceAdd, Nat.le_refl, Nat.reduceLeDiff, D.pub, D.pubs, Tryz.results205]
  exact ⟨_, rfl, rfl, rfl⟩

/-- The parts between an octet. -/
def splitB (c : UInt8) : Nat → ByteArray → List ByteArray
  | 0, s => [s]
  | f + 1, s => if Lib.indexByte s.data.toList c < 0 then [s] else s.extract 0 (Lib.indexByte s.data.toList c).toNat :: splitB c f (s.extract ((Lib.indexByte s.data.toList c).toNat + 1) s.size)

theorem indexByte_lt : ∀ (l : List UInt8) (c : UInt8), Lib.indexByte l c < 0 ∨ Lib.indexByte l c < l.length
  | [], c => by simp [Lib.indexByte]
  | b :: l, c => by
    have := indexByte_lt l c
    simp only [Lib.indexByte, List.length_cons]
    split
    · right; omega
    · split
      · left; decide
      · right; rename_i h1 h2; have := Lib.indexByte_ge l c; simp at h2; omega

theorem size_list (s : ByteArray) : s.data.toList.length = s.size := rfl

theorem drop_cons_at {α : Type} {l r : List α} {i : Nat} {x : α} (h : l.drop i = x :: r) : l[i]? = some x ∧ l.drop (i + 1) = r := by
  constructor
  · have := congrArg (fun m => m[0]?) h
    simpa using this
  · have := congrArg (fun m => m.drop 1) h
    simpa [List.drop_drop] using this

theorem splitB_end {c : UInt8} {k : Nat} {r : ByteArray} (h : Lib.indexByte r.data.toList c < 0) : splitB c k r = [r] := by
  cases k <;> simp [splitB, h]

set_option maxRecDepth 100000 in
theorem splitSeq_1 (c : UInt8) (s : ByteArray) (hs : s.size ≤ 1000000) : IterB Tryz.prog 203 [(500001, 0), (500002, 0), (500003, 0)] [(500001, [str ⟨#[c]⟩]), (500002, [str s]), (500003, [int 0])] ((splitB c s.size s).map Value.string) := by
  refine iter_of_run follows an_z7 Tryz.func203 rfl ok_z7 dst_z7 (by simp [Tryz.ntmps203]) rfl ?_
  intro l
  rw [run_start]
  have h1 : (ByteArray.mk #[c]).size = 1 := rfl
  have h3 : ((1 : Nat) : Int) = 1 := rfl
  have h4 : ((1 : Int) = 0) = False := by simp
  obtain ⟨X, hX⟩ : ∃ X, X = ((splitB c s.size s).map Value.string).map ([·]) := ⟨_, rfl⟩
  rw [← hX]
  simp only [ac_z7, go_sem, contS_seq, reduceIte, reduceCtorEq, Nat.reduceEqDiff, Nat.reduceAdd, Nat.reduceBEq, Nat.reduceBNe, Int.reduceLE, Int.reduceLT, Int.reduceToNat, Int.reduceEq, Nat.reduceLeDiff, Nat.reduceLT, Nat.reducePow, Nat.reduceDiv, Nat.reduceMod, h1, h3, h4]
  refine loopS (fun k st => ∃ (i : Nat) (r : ByteArray), r.size ≤ k ∧ r.size ≤ 1000000 ∧ X.drop i = ((splitB c k r).map Value.string).map ([·]) ∧
    st = ⟨[(0, yieldD l), (1, .ptr 500001 0), (2, .ptr 500002 0), (3, .ptr 500003 0)], [(500001, [str ⟨#[c]⟩]), (500002, [str r]), (500003, [int 0])], [], .it l X i false⟩) s.size _ ?_ ⟨0, s, Nat.le_refl _, hs, hX, rfl⟩ ?_
  · exact Weak.less (by simp [lessL, lk]) (by simp [lessL, lk]) (by simp [lessL, lk]) rfl
  rintro k st ⟨i, r, hk, hrs, hdr, rfl⟩
  obtain ⟨j, hj⟩ : ∃ j, Lib.indexByte r.data.toList c = j := ⟨_, rfl⟩
  simp only [go_sem, contS_seq, reduceIte, reduceCtorEq, Nat.reduceEqDiff, Nat.reduceAdd, Nat.reduceBEq, Nat.reduceBNe, Int.reduceLE, Int.reduceLT, Int.reduceToNat, Int.reduceEq, Nat.reduceLeDiff, Nat.reduceLT, Nat.reducePow, Nat.reduceDiv, Nat.reduceMod]
  refine (strings_Index r c).callW (enters_of Tryz.func205 rfl rfl) _ rfl rfl ?_
  rintro d rfl
  rw [hj]
  by_cases hj0 : j < 0
  · rw [splitB_end (by omega)] at hdr
    obtain ⟨e1, e2⟩ := drop_cons_at hdr
    have e3 : X.length ≤ i + 1 := by simpa using List.drop_eq_nil_iff.1 e2
    have e4 : i < X.length := (List.getElem?_eq_some_iff.1 e1).1
    simp only [go_sem, contS_seq, reduceIte, reduceCtorEq, Nat.reduceEqDiff, Nat.reduceAdd, Nat.reduceBEq, Nat.reduceBNe, Int.reduceLE, Int.reduceLT, Int.reduceToNat, Int.reduceEq, Nat.reduceLeDiff, Nat.reduceLT, Nat.reducePow, Nat.reduceDiv, Nat.reduceMod, hj0, e1]
    exact ⟨⟨[], _, _, rfl, rfl, fun _ => by omega⟩, ⟨[], _, _, rfl, rfl, fun h => by cases h⟩⟩
  · obtain ⟨m, rfl⟩ : ∃ m : Nat, j = m := ⟨j.toNat, by omega⟩
    have hm : m < r.size := by
      have := indexByte_lt r.data.toList c
      rw [hj, size_list] at this
      omega
    obtain ⟨k, rfl⟩ : ∃ n, k = n + 1 := ⟨k - 1, by omega⟩
    have hsp : splitB c (k + 1) r = r.extract 0 m :: splitB c k (r.extract (m + 1) r.size) := by
      rw [splitB, hj, if_neg hj0, Int.toNat_natCast]
    rw [hsp] at hdr
    obtain ⟨e1, e2⟩ := drop_cons_at hdr
    have w1 : IntKind.i64.wrap ((m : Int) + 0) = (m : Int) := by rw [IntWalk.i64_in _ (by omega)]; omega
    have w2 : IntKind.i64.wrap ((m : Int) + 1) = ((m + 1 : Nat) : Int) := by rw [IntWalk.i64_in _ (by omega)]; omega
    have c1 : (m ≤ r.size) = True := by simp; omega
    have c2 : (m + 1 ≤ r.size) = True := by simp; omega
    have hsz : (r.extract (m + 1) r.size).size = r.size - (m + 1) := by simp [ByteArray.size_extract]
    simp only [go_sem, contS_seq, reduceIte, reduceCtorEq, Nat.reduceEqDiff, Nat.reduceAdd, Nat.reduceBEq, Nat.reduceBNe, Int.reduceLE, Int.reduceLT, Int.reduceToNat, Int.reduceEq, Nat.reduceLeDiff, Nat.reduceLT, Nat.reducePow, Nat.reduceDiv, Nat.reduceMod, hj0, w1, w2, h1, h3, c1, c2, e1]
    refine ⟨⟨k, _, ?_, ?_, i + 1, r.extract (m + 1) r.size, ?_, ?_, e2, rfl⟩, ⟨[], _, _, rfl, rfl, fun h => by cases h⟩⟩
    · omega
    · exact Weak.less (by simp [lessL, lk]) (by simp [lessL, lk]) (by simp [lessL, lk]) rfl
    · omega
    · omega

theorem strings_splitSeq (s sep : ByteArray) : Full Tryz.prog 166 [str s, str sep, int 0] [] true (fun d bs => d = .fn 203 [(4, 0), (3, 0), (5, 0)] ∧ bs = [(4, [str sep]), (3, [str s]), (5, [int 0])]) := by
  refine full_of_run follows an_z8 Tryz.func166 rfl ok_z8 dst_z8 (by simp [Tryz.ntmps166]) (by simp [Tryz.ntmps166]) (.inl rfl) ?_
  rw [run_start]
  simp only [ac_z8, go_sem, contS_seq, reduceIte, reduceCtorEq, Nat.reduceEqDiff, Nat.reduceAdd, Nat.reduceBEq, Nat.reduceBNe, Int.reduceLE, Int.reduceLT, Int.reduceToNat, Int.reduceEq, Nat.reduceLeDiff, Nat.reduceLT, Nat.reducePow, Nat.reduceDiv, Nat.reduceMod]
  simp only [retK, fullK, iterK, resD, resA, AOp.ex, St.ev, Option.map_some, Option.bind_some, St.get, lk, reduceIte, Nat.reduceEqDiff, Option.getD_some, oneD, List.getElem?_cons_zero, List.getElem?_cons_succ, List.drop_zero, List.drop_succ_cons, List.take_succ_cons, List.take_zero, List.length_cons, List.length_nil, Nat.zero_add, Nat.reduceAdd, Nat.le_refl, Nat.reduceLeDiff, D.pub, D.pubs, Tryz.results166]
  exact ⟨_, _, rfl, by simp [lessL, lk], rfl, rfl⟩

theorem strings_SplitSeq (s sep : ByteArray) : Full Tryz.prog 128 [str s, str sep] [] true (fun d bs => d = .fn 203 [(200001, 0), (200002, 0), (200003, 0)] ∧ bs = [(200001, [str sep]), (200002, [str s]), (200003, [int 0])]) := by
  refine full_of_run follows an_z9 Tryz.func128 rfl ok_z9 dst_z9 (by simp [Tryz.ntmps128]) (by simp [Tryz.ntmps128]) (.inl rfl) ?_
  rw [run_start]
  simp only [ac_z9, go_sem, contS_seq, reduceIte, reduceCtorEq, Nat.reduceEqDiff, Nat.reduceAdd, Nat.reduceBEq, Nat.reduceBNe, Int.reduceLE, Int.reduceLT, Int.reduceToNat, Int.reduceEq, Nat.reduceLeDiff, Nat.reduceLT, Nat.reducePow, Nat.reduceDiv, Nat.reduceMod]
  refine (strings_splitSeq s sep).callW (enters_of Tryz.func166 rfl rfl) _ false [] [] [(4, 200001), (3, 200002), (5, 200003)] [] rfl rfl rfl ?_
  rintro d bs ⟨rfl, rfl⟩
  simp only [go_sem, contS_seq, reduceIte, reduceCtorEq, Nat.reduceEqDiff, Nat.reduceAdd, Nat.reduceBEq, Nat.reduceBNe, Int.reduceLE, Int.reduceLT, Int.reduceToNat, Int.reduceEq, Nat.reduceLeDiff, Nat.reduceLT, Nat.reducePow, Nat.reduceDiv, Nat.reduceMod]
  simp only [retK, fullK, iterK, resD, resA, AOp.ex, St.ev, Option.map_some, Option.bind_some, St.get, lk, reduceIte, Nat.reduceEqDiff, Option.getD_some, oneD, List.getElem?_cons_zero, List.getElem?_cons_succ, List.drop_zero, List.drop_succ_cons, List.take_succ_cons, List.take_zero, List.length_cons, List.length_nil, Nat.zero_add, Nat.reduceAdd, Nat.le_refl, Nat.reduceLeDiff, D.pub, D.pubs, Tryz.results128]
  exact ⟨_, _, rfl, by simp [lessL, lk], rfl, rfl⟩

/-- Is a text a name? -/
def dname (s : ByteArray) : Bool := decide (s.size ≤ 60) && (splitB 46 s.size s).all label

set_option maxRecDepth 100000 in
theorem dns_Name (s : ByteArray) : Pure Tryz.prog 78 [str s] (fun d => d = bln (dname s)) := by
  refine pure_of_run follows an_z10 Tryz.func78 rfl ok_z10 dst_z10 (by simp [Tryz.ntmps78]) ?_
  rw [run_start]
  simp only [ac_z10, go_sem, contS_seq, reduceIte, reduceCtorEq, Nat.reduceEqDiff, Nat.reduceAdd, Nat.reduceBEq, Nat.reduceBNe, Int.reduceLE, Int.reduceLT, Int.reduceToNat, Int.reduceEq, Nat.reduceLeDiff, Nat.reduceLT, Nat.reducePow, Nat.reduceDiv, Nat.reduceMod]
  refine GifP.mk (fun h => ?_) (fun h => ?_)
  · simp only [retK, fullK, iterK, resD, resA, AOp.ex, St.ev, Option.map_some, Option.bind_some, St.get, lk, reduceIte, Nat.reduceEqDiff, Option.getD_some, oneD, List.getElem?_cons_zero, List.getElem?_cons_succ, List.drop_zero, List.drop_succ_cons, List.take_succ_cons, List.take_zero, List.length_cons, List.length_nil, Nat.zero_add, Nat.reduceAdd, Nat.le_refl, Nat.reduceLeDiff, D.pub, D.pubs, ret_z10]
    exact ⟨_, rfl, rfl, congrArg bln (by simp only [dname]; simp; omega)⟩
  have h60 : s.size ≤ 60 := by omega
  refine (strings_SplitSeq s ⟨#[46]⟩).callW (enters_of Tryz.func128 rfl rfl) _ false [] [] [(200001, 200011), (200002, 200012), (200003, 200013)] [] rfl rfl rfl ?_
  rintro d bs ⟨rfl, rfl⟩
  simp only [go_sem, contS_seq, reduceIte, reduceCtorEq, Nat.reduceEqDiff, Nat.reduceAdd, Nat.reduceBEq, Nat.reduceBNe, Int.reduceLE, Int.reduceLT, Int.reduceToNat, Int.reduceEq, Nat.reduceLeDiff, Nat.reduceLT, Nat.reducePow, Nat.reduceDiv, Nat.reduceMod]
  refine rangeS ((splitB 46 s.size s).map Value.string) (fun i bs => (∀ j x, j < i → (splitB 46 s.size s)[j]? = some x → label x = true) ∧ bs = [(2, [bln false])]) rfl rfl rfl
    ((splitSeq_1 46 s (by omega)).iterW (enters_of Tryz.func203 rfl rfl) false [(200011, 500001), (200012, 500002), (200013, 500003)] rfl rfl rfl) ⟨fun _ _ h => absurd h (Nat.not_lt_zero _), rfl⟩ ?_ ?_
  · rintro i v bs hv ⟨hpre, rfl⟩
    rw [List.getElem?_map] at hv
    obtain ⟨x, hx, rfl⟩ := Option.map_eq_some_iff.1 hv
    simp only [go_sem, contS_seq, reduceIte, reduceCtorEq, Nat.reduceEqDiff, Nat.reduceAdd, Nat.reduceBEq, Nat.reduceBNe, Int.reduceLE, Int.reduceLT, Int.reduceToNat, Int.reduceEq, Nat.reduceLeDiff, Nat.reduceLT, Nat.reducePow, Nat.reduceDiv, Nat.reduceMod]
    refine (dns_Label x).callW (enters_of Tryz.func95 rfl rfl) _ rfl rfl ?_
    rintro d rfl
    simp only [go_sem, contS_seq, reduceIte, reduceCtorEq, Nat.reduceEqDiff, Nat.reduceAdd, Nat.reduceBEq, Nat.reduceBNe, Int.reduceLE, Int.reduceLT, Int.reduceToNat, Int.reduceEq, Nat.reduceLeDiff, Nat.reduceLT, Nat.reducePow, Nat.reduceDiv, Nat.reduceMod]
    refine Gif.mk (fun hl => ?_) (fun hl => ?_)
    · refine fun j y hj hy => ?_
      rcases Nat.lt_or_ge j i with h' | h'
      · exact hpre j y h' hy
      · obtain rfl : j = i := by omega
        rw [hx] at hy; cases hy; exact hl
    · simp only [retK, fullK, iterK, resD, resA, AOp.ex, St.ev, Option.map_some, Option.bind_some, St.get, lk, reduceIte, Nat.reduceEqDiff, Option.getD_some, oneD, List.getElem?_cons_zero, List.getElem?_cons_succ, List.drop_zero, List.drop_succ_cons, List.take_succ_cons, List.take_zero, List.length_cons, List.length_nil, Nat.zero_add, Nat.reduceAdd, Nat.le_refl, Nat.reduceLeDiff, D.pub, D.pubs, ret_z10]
      refine ⟨_, rfl, rfl, congrArg bln ?_⟩
      have : (splitB 46 s.size s).all label = false := List.all_eq_false.2 ⟨x, List.mem_of_getElem? hx, by simp [hl]⟩
      simp [dname, this]
  · rintro bs ⟨hall, rfl⟩
    simp only [go_sem, contS_seq, reduceIte, reduceCtorEq, Nat.reduceEqDiff, Nat.reduceAdd, Nat.reduceBEq, Nat.reduceBNe, Int.reduceLE, Int.reduceLT, Int.reduceToNat, Int.reduceEq, Nat.reduceLeDiff, Nat.reduceLT, Nat.reducePow, Nat.reduceDiv, Nat.reduceMod]
    simp only [retK, fullK, iterK, resD, resA, AOp.ex, St.ev, Option.map_some, Option.bind_some, St.get, lk, reduceIte, Nat.reduceEqDiff, Option.getD_some, oneD, List.getElem?_cons_zero, List.getElem?_cons_succ, List.drop_zero, List.drop_succ_cons, List.take_succ_cons, List.take_zero, List.length_cons, List.length_nil, Nat.zero_add, Nat.reduceAdd, Nat.le_refl, Nat.reduceLeDiff, D.pub, D.pubs, ret_z10]
    refine ⟨_, rfl, rfl, congrArg bln ?_⟩
    have : (splitB 46 s.size s).all label = true := List.all_eq_true.2 fun x hx => by
      obtain ⟨j, hj⟩ := List.getElem?_of_mem hx
      exact hall j x (by have := (List.getElem?_eq_some_iff.1 hj).1; simpa using this) hj
    simp [dname, this, h60]


def hasPrefix (s p : ByteArray) : Bool := decide (p.size ≤ s.size) && decide (s.extract 0 p.size = p)
def hasSuffix (s p : ByteArray) : Bool := decide (p.size ≤ s.size) && decide (s.extract (s.size - p.size) s.size = p)

theorem stringslite_HasPrefix (s p : ByteArray) : Pure Tryz.prog 208 [str s, str p] (fun d => d = bln (hasPrefix s p)) := by
  refine pure_of_run follows an_z13 Tryz.func208 rfl ok_z13 dst_z13 (by simp [Tryz.ntmps208]) ?_
  rw [run_start]
  by_cases h : p.size ≤ s.size
  · have h1 : ((p.size : Int) ≤ (s.size : Int)) = True := by simp; omega
    have h2 : (p.size ≤ s.size) = True := by simp [h]
    simp only [ac_z13, go_sem, contS_seq, reduceIte, reduceCtorEq, Nat.reduceEqDiff, Nat.reduceAdd, Nat.reduceBEq, Nat.reduceBNe, Int.reduceLE, Int.reduceLT, Int.reduceToNat, Int.reduceEq, Nat.reduceLeDiff, Nat.reduceLT, Nat.reducePow, Nat.reduceDiv, Nat.reduceMod, h1, h2]
    simp only [retK, fullK, iterK, resD, resA, AOp.ex, St.ev, Option.map_some, Option.bind_some, St.get, lk, reduceIte, Nat.reduceEqDiff, Option.getD_some, oneD, List.getElem?_cons_zero, List.getElem?_cons_succ, List.drop_zero, List.drop_succ_cons, List.take_succ_cons, List.take_zero, List.length_cons, List.length_nil, Nat.zero_add, Nat.reduceAdd, Nat.le_refl, Nat.reduceLeDiff, D.pub, D.pubs, Tryz.results208]
    exact ⟨_, rfl, rfl, congrArg bln (by simp [hasPrefix, h])⟩
  · have h1 : ((p.size : Int) ≤ (s.size : Int)) = False := by simp; omega
    simp only [ac_z13, go_sem, contS_seq, reduceIte, reduceCtorEq, Nat.reduceEqDiff, Nat.reduceAdd, Nat.reduceBEq, Nat.reduceBNe, Int.reduceLE, Int.reduceLT, Int.reduceToNat, Int.reduceEq, Nat.reduceLeDiff, Nat.reduceLT, Nat.reducePow, Nat.reduceDiv, Nat.reduceMod, h1]
    simp only [retK, fullK, iterK, resD, resA, AOp.ex, St.ev, Option.map_some, Option.bind_some, St.get, lk, reduceIte, Nat.reduceEqDiff, Option.getD_some, oneD, List.getElem?_cons_zero, List.getElem?_cons_succ, List.drop_zero, List.drop_succ_cons, List.take_succ_cons, List.take_zero, List.length_cons, List.length_nil, Nat.zero_add, Nat.reduceAdd, Nat.le_refl, Nat.reduceLeDiff, D.pub, D.pubs, Tryz.results208]
    exact ⟨_, rfl, rfl, congrArg bln (by simp [hasPrefix, h])⟩

theorem stringslite_HasSuffix (s p : ByteArray) (hs : s.size ≤ 1000000) : Pure Tryz.prog 244 [str s, str p] (fun d => d = bln (hasSuffix s p)) := by
  refine pure_of_run follows an_z16 Tryz.func244 rfl ok_z16 dst_z16 (by simp [Tryz.ntmps244]) ?_
  rw [run_start]
  by_cases h : p.size ≤ s.size
  · have h1 : ((p.size : Int) ≤ (s.size : Int)) = True := by simp; omega
    have h2 : (s.size - p.size ≤ s.size) = True := by simp
    have h3 : IntKind.i64.wrap ((s.size : Int) - (p.size : Int)) = ((s.size - p.size : Nat) : Int) := by rw [IntWalk.i64_in _ (by omega)]; omega
    simp only [ac_z16, go_sem, contS_seq, reduceIte, reduceCtorEq, Nat.reduceEqDiff, Nat.reduceAdd, Nat.reduceBEq, Nat.reduceBNe, Int.reduceLE, Int.reduceLT, Int.reduceToNat, Int.reduceEq, Nat.reduceLeDiff, Nat.reduceLT, Nat.reducePow, Nat.reduceDiv, Nat.reduceMod, h1, h2, h3]
    simp only [retK, fullK, iterK, resD, resA, AOp.ex, St.ev, Option.map_some, Option.bind_some, St.get, lk, reduceIte, Nat.reduceEqDiff, Option.getD_some, oneD, List.getElem?_cons_zero, List.getElem?_cons_succ, List.drop_zero, List.drop_succ_cons, List.take_succ_cons, List.take_zero, List.length_cons, List.length_nil, Nat.zero_add, Nat.reduceAdd, Nat.le_refl, Nat.reduceLeDiff, D.pub, D.pubs, Tryz.results244]
    exact ⟨_, rfl, rfl, congrArg bln (by simp [hasSuffix, h])⟩
  · have h1 : ((p.size : Int) ≤ (s.size : Int)) = False := by simp; omega
    simp only [ac_z16, go_sem, contS_seq, reduceIte, reduceCtorEq, Nat.reduceEqDiff, Nat.reduceAdd, Nat.reduceBEq, Nat.reduceBNe, Int.reduceLE, Int.reduceLT, Int.reduceToNat, Int.reduceEq, Nat.reduceLeDiff, Nat.reduceLT, Nat.reducePow, Nat.reduceDiv, Nat.reduceMod, h1]
    simp only [retK, fullK, iterK, resD, resA, AOp.ex, St.ev, Option.map_some, Option.bind_some, St.get, lk, reduceIte, Nat.reduceEqDiff, Option.getD_some, oneD, List.getElem?_cons_zero, List.getElem?_cons_succ, List.drop_zero, List.drop_succ_cons, List.take_succ_cons, List.take_zero, List.length_cons, List.length_nil, Nat.zero_add, Nat.reduceAdd, Nat.le_refl, Nat.reduceLeDiff, D.pub, D.pubs, Tryz.results244]
    exact ⟨_, rfl, rfl, congrArg bln (by simp [hasSuffix, h])⟩

theorem strings_HasPrefix (s p : ByteArray) : Pure Tryz.prog 235 [str s, str p] (fun d => d = bln (hasPrefix s p)) := by
  refine pure_of_run follows an_z14 Tryz.func235 rfl ok_z14 dst_z14 (by simp [Tryz.ntmps235]) ?_
  rw [run_start]
  simp only [ac_z14, go_sem, contS_seq, reduceIte, reduceCtorEq, Nat.reduceEqDiff, Nat.reduceAdd, Nat.reduceBEq, Nat.reduceBNe, Int.reduceLE, Int.reduceLT, Int.reduceToNat, Int.reduceEq, Nat.reduceLeDiff, Nat.reduceLT, Nat.reducePow, Nat.reduceDiv, Nat.reduceMod]
  (repeat' (first | (refine GifP.mk (fun _ => ?_) (fun _ => ?_)) | (refine Gif.mk (fun _ => ?_) (fun _ => ?_)) | (refine (stringslite_HasPrefix _ _).callW (enters_of Tryz.func208 rfl rfl) _ rfl rfl ?_; rintro _ rfl; try simp only [go_sem, contS_seq, reduceIte, reduceCtorEq, Nat.reduceEqDiff, Nat.reduceAdd, Nat.reduceBEq, Nat.reduceBNe, Int.reduceLE, Int.reduceLT, Int.reduceToNat, Int.reduceEq, Nat.reduceLeDiff, Nat.reduceLT, Nat.reducePow, Nat.reduceDiv, Nat.reduceMod]))) <;> (simp only [retK, fullK, iterK, resD, resA, AOp.ex, St.ev, Option.map_some, Option.bind_some, St.get, lk, reduceIte, Nat.reduceEqDiff, Option.getD_some, oneD, List.getElem?_cons_zero, List.getElem?_cons_succ, List.drop_zero, List.drop_succ_cons, List.take_succ_cons, List.take_zero, List.length_cons, List.length_nil, Nat.zero_add, Nat.reduceAdd, Nat.le_refl, Nat.reduceLeDiff, D.pub, D.pubs, Tryz.results235]; exact ⟨_, rfl, rfl, congrArg bln (by first | rfl | (rw [Bool.eq_iff_iff]; simp only [hasPrefix]; simp; done) | (rw [Bool.eq_iff_iff]; simp only [hasPrefix]; simp; omega) | (rw [Bool.eq_iff_iff]; simp only [hasPrefix]; simp [*]; done) | (rw [Bool.eq_iff_iff]; simp only [hasPrefix]; simp [*]; omega) | (simp_all [hasPrefix]; done) | (exfalso; omega))⟩)

theorem strings_HasSuffix (s p : ByteArray) (hs : s.size ≤ 1000000) : Pure Tryz.prog 236 [str s, str p] (fun d => d = bln (hasSuffix s p)) := by
  refine pure_of_run follows an_z15 Tryz.func236 rfl ok_z15 dst_z15 (by simp [Tryz.ntmps236]) ?_
  rw [run_start]
  simp only [ac_z15, go_sem, contS_seq, reduceIte, reduceCtorEq, Nat.reduceEqDiff, Nat.reduceAdd, Nat.reduceBEq, Nat.reduceBNe, Int.reduceLE, Int.reduceLT, Int.reduceToNat, Int.reduceEq, Nat.reduceLeDiff, Nat.reduceLT, Nat.reducePow, Nat.reduceDiv, Nat.reduceMod]
  (repeat' (first | (refine GifP.mk (fun _ => ?_) (fun _ => ?_)) | (refine Gif.mk (fun _ => ?_) (fun _ => ?_)) | (refine (stringslite_HasSuffix _ _ hs).callW (enters_of Tryz.func244 rfl rfl) _ rfl rfl ?_; rintro _ rfl; try simp only [go_sem, contS_seq, reduceIte, reduceCtorEq, Nat.reduceEqDiff, Nat.reduceAdd, Nat.reduceBEq, Nat.reduceBNe, Int.reduceLE, Int.reduceLT, Int.reduceToNat, Int.reduceEq, Nat.reduceLeDiff, Nat.reduceLT, Nat.reducePow, Nat.reduceDiv, Nat.reduceMod]))) <;> (simp only [retK, fullK, iterK, resD, resA, AOp.ex, St.ev, Option.map_some, Option.bind_some, St.get, lk, reduceIte, Nat.reduceEqDiff, Option.getD_some, oneD, List.getElem?_cons_zero, List.getElem?_cons_succ, List.drop_zero, List.drop_succ_cons, List.take_succ_cons, List.take_zero, List.length_cons, List.length_nil, Nat.zero_add, Nat.reduceAdd, Nat.le_refl, Nat.reduceLeDiff, D.pub, D.pubs, Tryz.results236]; exact ⟨_, rfl, rfl, congrArg bln (by first | rfl | (rw [Bool.eq_iff_iff]; simp only [hasSuffix]; simp; done) | (rw [Bool.eq_iff_iff]; simp only [hasSuffix]; simp; omega) | (rw [Bool.eq_iff_iff]; simp only [hasSuffix]; simp [*]; done) | (rw [Bool.eq_iff_iff]; simp only [hasSuffix]; simp [*]; omega) | (simp_all [hasSuffix]; done) | (exfalso; omega))⟩)

def cutPrefix (s p : ByteArray) : ByteArray := if hasPrefix s p then s.extract p.size s.size else s

theorem stringslite_CutPrefix (s p : ByteArray) : Pure Tryz.prog 173 [str s, str p] (fun d => d = .tup [str (cutPrefix s p), bln (hasPrefix s p)]) := by
  refine pure_of_run follows an_z12 Tryz.func173 rfl ok_z12 dst_z12 (by simp [Tryz.ntmps173]) ?_
  rw [run_start]
  simp only [ac_z12, go_sem, contS_seq, reduceIte, reduceCtorEq, Nat.reduceEqDiff, Nat.reduceAdd, Nat.reduceBEq, Nat.reduceBNe, Int.reduceLE, Int.reduceLT, Int.reduceToNat, Int.reduceEq, Nat.reduceLeDiff, Nat.reduceLT, Nat.reducePow, Nat.reduceDiv, Nat.reduceMod]
  refine (stringslite_HasPrefix s p).callW (enters_of Tryz.func208 rfl rfl) _ rfl rfl ?_
  rintro d rfl
  simp only [go_sem, contS_seq, reduceIte, reduceCtorEq, Nat.reduceEqDiff, Nat.reduceAdd, Nat.reduceBEq, Nat.reduceBNe, Int.reduceLE, Int.reduceLT, Int.reduceToNat, Int.reduceEq, Nat.reduceLeDiff, Nat.reduceLT, Nat.reducePow, Nat.reduceDiv, Nat.reduceMod]
  refine Gif.mk (fun h => ?_) (fun h => ?_)
  · have h1 : p.size ≤ s.size := by simp only [hasPrefix, Bool.and_eq_true, decide_eq_true_eq] at h; exact h.1
    have h2 : (p.size ≤ s.size) = True := by simp [h1]
    simp only [go_sem, contS_seq, reduceIte, reduceCtorEq, Nat.reduceEqDiff, Nat.reduceAdd, Nat.reduceBEq, Nat.reduceBNe, Int.reduceLE, Int.reduceLT, Int.reduceToNat, Int.reduceEq, Nat.reduceLeDiff, Nat.reduceLT, Nat.reducePow, Nat.reduceDiv, Nat.reduceMod, h2]
    simp only [retK, fullK, iterK, resD, resA, AOp.ex, St.ev, Option.map_some, Option.bind_some, St.get, lk, reduceIte, Nat.reduceEqDiff, Option.getD_some, oneD, List.getElem?_cons_zero, List.getElem?_cons_succ, List.drop_zero, List.drop_succ_cons, List.take_succ_cons, List.take_zero, List.length_cons, List.length_nil, Nat.zero_add, Nat.reduceAdd, Nat.le_refl, Nat.reduceLeDiff, D.pub, D.pubs, Tryz.results173]
    exact ⟨_, rfl, rfl, by simp [cutPrefix, h, D.pub, D.pubs]⟩
  · simp only [retK, fullK, iterK, resD, resA, AOp.ex, St.ev, Option.map_some, Option.bind_some, St.get, lk, reduceIte, Nat.reduceEqDiff, Option.getD_some, oneD, List.getElem?_cons_zero, List.getElem?_cons_succ, List.drop_zero, List.drop_succ_cons, List.take_succ_cons, List.take_zero, List.length_cons, List.length_nil, Nat.zero_add, Nat.reduceAdd, Nat.le_refl, Nat.reduceLeDiff, D.pub, D.pubs, Tryz.results173]
    exact ⟨_, rfl, rfl, by simp [cutPrefix, h, D.pub, D.pubs]⟩

theorem strings_CutPrefix (s p : ByteArray) : Pure Tryz.prog 138 [str s, str p] (fun d => d = .tup [str (cutPrefix s p), bln (hasPrefix s p)]) := by
  refine pure_of_run follows an_z11 Tryz.func138 rfl ok_z11 dst_z11 (by simp [Tryz.ntmps138]) ?_
  rw [run_start]
  simp only [ac_z11, go_sem, contS_seq, reduceIte, reduceCtorEq, Nat.reduceEqDiff, Nat.reduceAdd, Nat.reduceBEq, Nat.reduceBNe, Int.reduceLE, Int.reduceLT, Int.reduceToNat, Int.reduceEq, Nat.reduceLeDiff, Nat.reduceLT, Nat.reducePow, Nat.reduceDiv, Nat.reduceMod]
  refine (stringslite_CutPrefix s p).callW (enters_of Tryz.func173 rfl rfl) _ rfl rfl ?_
  rintro d rfl
  simp only [go_sem, contS_seq, reduceIte, reduceCtorEq, Nat.reduceEqDiff, Nat.reduceAdd, Nat.reduceBEq, Nat.reduceBNe, Int.reduceLE, Int.reduceLT, Int.reduceToNat, Int.reduceEq, Nat.reduceLeDiff, Nat.reduceLT, Nat.reducePow, Nat.reduceDiv, Nat.reduceMod]
  simp only [retK, fullK, iterK, resD, resA, AOp.ex, St.ev, Option.map_some, Option.bind_some, St.get, lk, reduceIte, Nat.reduceEqDiff, Option.getD_some, oneD, List.getElem?_cons_zero, List.getElem?_cons_succ, List.drop_zero, List.drop_succ_cons, List.take_succ_cons, List.take_zero, List.length_cons, List.length_nil, Nat.zero_add, Nat.reduceAdd, Nat.le_refl, Nat.reduceLeDiff, D.pub, D.pubs, Tryz.results138]
  exact ⟨_, rfl, rfl, rfl⟩

/-- May a text be a host's pattern? -/
def hostMay (p : ByteArray) : Bool := decide (p = ⟨#[]⟩) || (decide (p.size ≤ 60) && dname (cutPrefix p ⟨#[42, 46]⟩) && (hasPrefix p ⟨#[42, 46]⟩ || decide (cutPrefix p ⟨#[42, 46]⟩ = p)))

set_option maxRecDepth 100000 in
theorem host_May (p : ByteArray) : Pure Tryz.prog 87 [str p] (fun d => d = bln (hostMay p)) := by
  refine pure_of_run follows an_z17 Tryz.func87 rfl ok_z17 dst_z17 (by simp [Tryz.ntmps87]) ?_
  rw [run_start]
  simp only [ac_z17, go_sem, contS_seq, reduceIte, reduceCtorEq, Nat.reduceEqDiff, Nat.reduceAdd, Nat.reduceBEq, Nat.reduceBNe, Int.reduceLE, Int.reduceLT, Int.reduceToNat, Int.reduceEq, Nat.reduceLeDiff, Nat.reduceLT, Nat.reducePow, Nat.reduceDiv, Nat.reduceMod]
  (repeat' (first | (refine GifP.mk (fun _ => ?_) (fun _ => ?_)) | (refine Gif.mk (fun _ => ?_) (fun _ => ?_)) | ((first | refine (strings_CutPrefix _ _).callW (enters_of Tryz.func138 rfl rfl) _ rfl rfl ?_ | refine (dns_Name _).callW (enters_of Tryz.func78 rfl rfl) _ rfl rfl ?_); rintro _ rfl; try simp only [go_sem, contS_seq, reduceIte, reduceCtorEq, Nat.reduceEqDiff, Nat.reduceAdd, Nat.reduceBEq, Nat.reduceBNe, Int.reduceLE, Int.reduceLT, Int.reduceToNat, Int.reduceEq, Nat.reduceLeDiff, Nat.reduceLT, Nat.reducePow, Nat.reduceDiv, Nat.reduceMod]))) <;> (simp only [retK, fullK, iterK, resD, resA, AOp.ex, St.ev, Option.map_some, Option.bind_some, St.get, lk, reduceIte, Nat.reduceEqDiff, Option.getD_some, oneD, List.getElem?_cons_zero, List.getElem?_cons_succ, List.drop_zero, List.drop_succ_cons, List.take_succ_cons, List.take_zero, List.length_cons, List.length_nil, Nat.zero_add, Nat.reduceAdd, Nat.le_refl, Nat.reduceLeDiff, D.pub, D.pubs, Tryz.results87]; exact ⟨_, rfl, rfl, congrArg bln (by first | rfl | (rw [Bool.eq_iff_iff]; simp only [hostMay]; simp; done) | (rw [Bool.eq_iff_iff]; simp only [hostMay]; simp; omega) | (rw [Bool.eq_iff_iff]; simp only [hostMay]; simp [*]; done) | (rw [Bool.eq_iff_iff]; simp only [hostMay]; simp [*]; omega) | (simp_all [hostMay]; done) | (exfalso; omega))⟩)

def labValue (s : ByteArray) : Bool := decide (s = ⟨#[]⟩) || label s

theorem label_value (s : ByteArray) : Pure Tryz.prog 123 [str s] (fun d => d = bln (labValue s)) := by
  refine pure_of_run follows an_z21 Tryz.func123 rfl ok_z21 dst_z21 (by simp [Tryz.ntmps123]) ?_
  rw [run_start]
  simp only [ac_z21, go_sem, contS_seq, reduceIte, reduceCtorEq, Nat.reduceEqDiff, Nat.reduceAdd, Nat.reduceBEq, Nat.reduceBNe, Int.reduceLE, Int.reduceLT, Int.reduceToNat, Int.reduceEq, Nat.reduceLeDiff, Nat.reduceLT, Nat.reducePow, Nat.reduceDiv, Nat.reduceMod]
  (repeat' (first | (refine GifP.mk (fun _ => ?_) (fun _ => ?_)) | (refine Gif.mk (fun _ => ?_) (fun _ => ?_)) | (refine (dns_Label _).callW (enters_of Tryz.func95 rfl rfl) _ rfl rfl ?_; rintro _ rfl; try simp only [go_sem, contS_seq, reduceIte, reduceCtorEq, Nat.reduceEqDiff, Nat.reduceAdd, Nat.reduceBEq, Nat.reduceBNe, Int.reduceLE, Int.reduceLT, Int.reduceToNat, Int.reduceEq, Nat.reduceLeDiff, Nat.reduceLT, Nat.reducePow, Nat.reduceDiv, Nat.reduceMod]))) <;> (simp only [retK, fullK, iterK, resD, resA, AOp.ex, St.ev, Option.map_some, Option.bind_some, St.get, lk, reduceIte, Nat.reduceEqDiff, Option.getD_some, oneD, List.getElem?_cons_zero, List.getElem?_cons_succ, List.drop_zero, List.drop_succ_cons, List.take_succ_cons, List.take_zero, List.length_cons, List.length_nil, Nat.zero_add, Nat.reduceAdd, Nat.le_refl, Nat.reduceLeDiff, D.pub, D.pubs, Tryz.results123]; exact ⟨_, rfl, rfl, congrArg bln (by first | rfl | (rw [Bool.eq_iff_iff]; simp only [labValue]; simp; done) | (rw [Bool.eq_iff_iff]; simp only [labValue]; simp; omega) | (rw [Bool.eq_iff_iff]; simp only [labValue]; simp [*]; done) | (rw [Bool.eq_iff_iff]; simp only [labValue]; simp [*]; omega) | (simp_all [labValue]; done) | (exfalso; omega))⟩)

theorem bytes_get (s : ByteArray) (i : Nat) : s[i]? = s.data.toList[i]? := by
  by_cases h : i < s.size
  · rw [getElem?_pos s i h, getElem?_pos s.data.toList i (by rw [size_list]; exact h)]; rfl
  · rw [getElem?_neg s i h, getElem?_neg s.data.toList i (by rw [size_list]; exact h)]

theorem byte_at {s : ByteArray} {i : Nat} (h : i < s.size) : ∃ b, s[i]? = some b ∧ s.data.toList.drop i = b :: s.data.toList.drop (i + 1) := by
  obtain ⟨b, hb⟩ := at_byte h
  exact ⟨b, hb, drop_at (by rw [← bytes_get]; exact hb)⟩

theorem byte_end {s : ByteArray} {i : Nat} (h : ¬ i < s.size) : s.data.toList.drop i = [] := List.drop_eq_nil_of_le (by rw [size_list]; omega)

theorem i64_succ {i : Nat} (h : i < 1000000000) : IntKind.i64.wrap ((i : Int) + 1) = ((i + 1 : Nat) : Int) := by rw [IntWalk.i64_in _ (by omega)]; omega

/-- The runes of a text, from a place on. -/
def runeAll (p : Int → Bool) (s : ByteArray) : Nat → Nat → Bool
  | 0, _ => true
  | f + 1, pos => if pos < s.size then p (Utf8.decode s pos).1 && runeAll p s f (pos + (Utf8.decode s pos).2) else true

theorem runeAll_end {p : Int → Bool} {s : ByteArray} {f pos : Nat} (h : ¬ pos < s.size) : runeAll p s f pos = true := by cases f <;> simp [runeAll, h]

def pathRune (c : Int) : Bool := decide (33 ≤ c) && decide (c ≤ 126) && !decide (c = 63) && !decide (c = 35)

def pathIs (s : ByteArray) : Bool := runeAll pathRune s s.size 0 && hasPrefix s ⟨#[47]⟩ && decide (s.size ≤ 60)

set_option maxRecDepth 100000 in
theorem path_Is (s : ByteArray) : Pure Tryz.prog 212 [str s] (fun d => d = bln (pathIs s)) := by
  refine pure_of_run follows an_z18 Tryz.func212 rfl ok_z18 dst_z18 (by simp [Tryz.ntmps212]) ?_
  rw [run_start]
  simp only [ac_z18, go_sem, contS_seq, reduceIte, reduceCtorEq, Nat.reduceEqDiff, Nat.reduceAdd, Nat.reduceBEq, Nat.reduceBNe, Int.reduceLE, Int.reduceLT, Int.reduceToNat, Int.reduceEq, Nat.reduceLeDiff, Nat.reduceLT, Nat.reducePow, Nat.reduceDiv, Nat.reduceMod]
  refine loopS (fun k st => ∃ pos : Nat, s.size ≤ pos + k ∧ runeAll pathRune s k pos = runeAll pathRune s s.size 0 ∧
    st = ⟨[(0, str s), (6, .ptr 6 0)], [], [(6, .sit s pos)], .no⟩) s.size _ (Weak.refl _ _) ⟨0, by omega, rfl, rfl⟩ ?_
  rintro k st ⟨pos, hk, hr, rfl⟩
  by_cases hlt : pos < s.size
  · obtain ⟨k, rfl⟩ : ∃ m, k = m + 1 := ⟨k - 1, by omega⟩
    have hw := width_pos s pos
    simp only [runeAll, hlt, if_true] at hr
    simp only [go_sem, contS_seq, reduceIte, reduceCtorEq, Nat.reduceEqDiff, Nat.reduceAdd, Nat.reduceBEq, Nat.reduceBNe, Int.reduceLE, Int.reduceLT, Int.reduceToNat, Int.reduceEq, Nat.reduceLeDiff, Nat.reduceLT, Nat.reducePow, Nat.reduceDiv, Nat.reduceMod, hlt]
    obtain ⟨c, hc⟩ : ∃ c : Int, ((Utf8.decode s pos).1 : Int) = c := ⟨_, rfl⟩
    rw [hc] at hr ⊢
    have bad : ∀ (h : pathRune c = false), pathIs s = false := fun h => by
      rw [h] at hr
      simp only [Bool.false_and] at hr
      simp [pathIs, ← hr]
    repeat' (first | refine GifP.mk (fun _ => ?_) (fun _ => ?_) | refine Gif.mk (fun _ => ?_) (fun _ => ?_))
    iterate 4
      · simp only [retK, fullK, iterK, resD, resA, AOp.ex, St.ev, Option.map_some, Option.bind_some, St.get, lk, reduceIte, Nat.reduceEqDiff, Option.getD_some, oneD, List.getElem?_cons_zero, List.getElem?_cons_succ, List.drop_zero, List.drop_succ_cons, List.take_succ_cons, List.take_zero, List.length_cons, List.length_nil, Nat.zero_add, Nat.reduceAdd, Nat.le_refl, Nat.reduceLeDiff, D.pub, D.pubs, Tryz.results212]
        exact ⟨_, rfl, rfl, congrArg bln (bad (by simp [pathRune]; omega)).symm⟩
    · have hg : pathRune c = true := by simp [pathRune]; omega
      rw [hg, Bool.true_and] at hr
      refine ⟨k, _, ?_, ?_, pos + (Utf8.decode s pos).2, ?_, hr, rfl⟩
      · omega
      · exact Weak.less (by simp [lessL, lk]) (by simp [lessL, lk]) (by simp [lessL, lk]) rfl
      · omega
  · simp only [go_sem, contS_seq, reduceIte, reduceCtorEq, Nat.reduceEqDiff, Nat.reduceAdd, Nat.reduceBEq, Nat.reduceBNe, Int.reduceLE, Int.reduceLT, Int.reduceToNat, Int.reduceEq, Nat.reduceLeDiff, Nat.reduceLT, Nat.reducePow, Nat.reduceDiv, Nat.reduceMod, hlt]
    rw [runeAll_end hlt] at hr
    have hr' := hr.symm
    clear hr
    refine (strings_HasPrefix s _).callW (enters_of Tryz.func235 rfl rfl) _ rfl rfl ?_
    rintro d rfl
    simp only [go_sem, contS_seq, reduceIte, reduceCtorEq, Nat.reduceEqDiff, Nat.reduceAdd, Nat.reduceBEq, Nat.reduceBNe, Int.reduceLE, Int.reduceLT, Int.reduceToNat, Int.reduceEq, Nat.reduceLeDiff, Nat.reduceLT, Nat.reducePow, Nat.reduceDiv, Nat.reduceMod]
    repeat' (first | refine GifP.mk (fun _ => ?_) (fun _ => ?_) | refine Gif.mk (fun _ => ?_) (fun _ => ?_))
    all_goals
      simp only [retK, fullK, iterK, resD, resA, AOp.ex, St.ev, Option.map_some, Option.bind_some, St.get, lk, reduceIte, Nat.reduceEqDiff, Option.getD_some, oneD, List.getElem?_cons_zero, List.getElem?_cons_succ, List.drop_zero, List.drop_succ_cons, List.take_succ_cons, List.take_zero, List.length_cons, List.length_nil, Nat.zero_add, Nat.reduceAdd, Nat.le_refl, Nat.reduceLeDiff, D.pub, D.pubs, Tryz.results212]
      exact ⟨_, rfl, rfl, congrArg bln (by first | rfl | (rw [Bool.eq_iff_iff]; simp only [pathIs, hr']; simp; done) | (rw [Bool.eq_iff_iff]; simp only [pathIs, hr']; simp; omega) | (rw [Bool.eq_iff_iff]; simp only [pathIs, hr']; simp [*]; done) | (rw [Bool.eq_iff_iff]; simp only [pathIs, hr']; simp [*]; omega) | (simp_all [pathIs, hr']; done) | (exfalso; omega))⟩


/-- An octet as a small letter. -/
def low (c : Int) : Int := IntKind.u8.wrap (BitVec.ofInt IntKind.u8.bits c ||| BitVec.ofInt IntKind.u8.bits 32).toNat

def foldO (c : Int) : Int := if 65 ≤ c ∧ c ≤ 90 then low c else c

/-- The row of octets, the first i of them folded. -/
structure FoldW (w : World) (s : ByteArray) (i : Nat) (wr : World) : Prop where
  below : Below w.heap.size w wr
  row : ∃ cs z, wr.heap[w.heap.size]? = some (.cells cs 5 z) ∧ s.size ≤ cs.size ∧ cs.size ≤ z.1 ∧ ∀ (j : Nat) b, s[j]? = some b → cs[j]? = some (.int .u8 (if j < i then foldO b.toNat else b.toNat))

theorem FoldW.next {w : World} {s : ByteArray} {i : Nat} {b : UInt8} (hb : s[i]? = some b) {cs : Array Value} {z : Nat × Nat} (h2 : s.size ≤ cs.size) (h3 : cs.size ≤ z.1)
    (h4 : ∀ (j : Nat) b, s[j]? = some b → cs[j]? = some (.int .u8 (if j < i then foldO b.toNat else b.toNat))) (cs' : Array Value) (W : World) (q1 : W.heap[w.heap.size]? = some (.cells cs' 5 z)) (q2 : cs'.size = cs.size) (q3 : Below w.heap.size w W)
    (q4 : ∀ j, j ≠ i → cs'[j]? = cs[j]?) (q5 : cs'[i]? = some (.int .u8 (foldO b.toNat))) : FoldW w s (i + 1) W :=
  ⟨q3, cs', z, q1, by omega, by omega, fun j b' hj => by
    by_cases e : j = i
    · subst e
      rw [hb] at hj; cases hj
      rw [if_pos (by omega)]; exact q5
    · rw [q4 j e, h4 j b' hj]
      by_cases e2 : j < i
      · rw [if_pos e2, if_pos (by omega)]
      · rw [if_neg e2, if_neg (by omega)]⟩

/-- A text with small letters. -/
def fold (s : ByteArray) : ByteArray := octStr (s.data.toList.map fun b => foldO b.toNat)

set_option maxHeartbeats 1000000 in
theorem run_Fold (s : ByteArray) (hs : s.size ≤ 1000000) (w : World) :
    Calls Tryz.prog 217 #[.string s] w fun e w' => e = .returned (.string (fold s)) ∧ Below w.heap.size w w' := by
  have hconv := fun w' => Lib.run_convert_string_bytes (P := Tryz.prog) w' 9 22 5 s Tryz.underlying9 Tryz.underlying22 Tryz.underlying5
  go_enter Tryz.func217, Tryz.ntmps217
  go_wp2
  go_loopg [10] s.size (fun k c wr => ∃ i : Nat, k = s.size - i ∧ i ≤ s.size ∧ c = .int .i64 i ∧ FoldW w s i wr)
  case atStart =>
    have hcs : s.size ≤ (Lib.bytesCells w 5 s).size := by simp [Lib.bytesCells]
    refine ⟨0, rfl, Nat.zero_le _, rfl, ?_, _, _, Lib.bytesWorld_at_new w _ s, hcs, Nat.le_refl _, fun j b hb => ?_⟩
    · exact ⟨rfl, rfl, rfl, by rw [Lib.bytesWorld_size]; omega, fun k hk => Lib.bytesWorld_at_old w _ s k hk⟩
    · rw [if_neg (Nat.not_lt_zero j)]
      have hj : j < s.size := (List.getElem?_eq_some_iff.1 ((bytes_get s j).symm.trans hb)).1
      have hb' : s.data[j]? = some b := by rw [← Array.getElem?_toList, ← bytes_get]; exact hb
      simp only [Lib.bytesCells]
      rw [Array.getElem?_append_left (by simpa using hj), Array.getElem?_map, hb']
      rfl
  case round =>
    obtain ⟨i, hk, hi, rfl, hf⟩ := hrel
    obtain ⟨hbel, cs, z, h1, h2, h3, h4⟩ := hf
    by_cases hlt : i < s.size
    · obtain ⟨b, hb⟩ := at_byte hlt
      have hcs := h4 i b hb
      rw [if_neg (Nat.lt_irrefl i)] at hcs
      have hcell : wr.cell? ⟨w.heap.size, i, none⟩ = some (.int .u8 b.toNat) := by simp [World.cell?, h1, hcs]
      have hfz : wr.frozen? ⟨w.heap.size, i, none⟩ = false := by
        simp [World.frozen?, h1]; omega
      have hlt' : (i : Int) < (s.size : Int) := by omega
      go_wp2
      · have hset : (wr.setCell ⟨w.heap.size, i, none⟩ (.int .u8 (bits .or .u8 (b.toNat : Int) 32))).heap[w.heap.size]? = some (.cells (cs.setIfInBounds i (.int .u8 (bits .or .u8 (b.toNat : Int) 32))) 5 z) := by
          simp only [World.setCell, Array.getElem?_modify, if_true, h1, Option.map_some]
          rfl
        go_roundg (s.size - (i + 1))
        case measure => omega
        case rel =>
          refine ⟨i + 1, rfl, by omega, by simp, FoldW.next hb h2 h3 h4 _ _ hset (by simp) (hbel.setCell (Nat.le_refl _) _) (fun j hj => by simp [Array.getElem?_setIfInBounds, Ne.symm hj]) ?_⟩
          have hic : i < cs.size := by omega
          rw [Array.getElem?_setIfInBounds, if_pos rfl, if_pos hic]
          rw [foldO, if_pos (by omega)]
          rfl
      · go_roundg (s.size - (i + 1))
        case measure => omega
        case rel => exact ⟨i + 1, rfl, by omega, by simp, FoldW.next hb h2 h3 h4 _ _ h1 rfl hbel (fun _ _ => rfl) (by rw [hcs, foldO, if_neg (by omega)])⟩
      · go_roundg (s.size - (i + 1))
        case measure => omega
        case rel => exact ⟨i + 1, rfl, by omega, by simp, FoldW.next hb h2 h3 h4 _ _ h1 rfl hbel (fun _ _ => rfl) (by rw [hcs, foldO, if_neg (by omega)])⟩
    · have hi2 : i = s.size := by omega
      subst hi2
      have hload := run_loadCells_list (P := Tryz.prog) (w := wr) (⟨w.heap.size, 0, none⟩ : Addr) ((s.data.toList.map fun b => foldO b.toNat).map (Value.int .u8)) (fun j v hj => by
        rw [List.getElem?_map, List.getElem?_map] at hj
        cases hb : s.data.toList[j]? with
        | none => rw [hb] at hj; cases hj
        | some b =>
          rw [hb] at hj
          cases hj
          have hjs : j < s.size := (List.getElem?_eq_some_iff.1 hb).1
          have := h4 j b (by rw [bytes_get]; exact hb)
          rw [if_pos hjs] at this
          rw [add_off, Nat.zero_add]
          simp [World.cell?, h1, this])
      have hlen : ((s.data.toList.map fun b => foldO b.toNat).map (Value.int .u8)).length = s.size := by simp [size_list]
      rw [hlen] at hload
      have hback := run_bytesToString wr ⟨w.heap.size, 0, none⟩ s.size (grownCap w s.size 0 5) _ hload
      have hconv2 := (run_convert_bytes_string (P := Tryz.prog) wr 22 9 5 (some ⟨w.heap.size, 0, none⟩) s.size (grownCap w s.size 0 5) Tryz.underlying22 Tryz.underlying5 Tryz.underlying9).trans hback
      have hlt' : ¬ (s.size : Int) < (s.size : Int) := by omega
      go_wp2
      go_ret
      exact ⟨rfl, hbel⟩

theorem dns_Fold (s : ByteArray) (hs : s.size ≤ 1000000) : Pure Tryz.prog 217 [str s] (fun d => d = str (fold s)) := by
  intro Fz w us hlt hr
  simp only [Reps] at hr
  obtain ⟨x, r, rfl, hx, rfl⟩ := hr
  obtain rfl := rep_raw_inv hx
  refine (run_Fold s hs w).mono ?_
  rintro e w' ⟨rfl, hb⟩
  exact ⟨_, _, Fz, rfl, rfl, rfl, hb, fun b o hf => ⟨hf, hb.cell (hlt b o hf)⟩, fun b o hf => Nat.lt_of_lt_of_le (hlt b o hf) hb.size, fun _ _ h _ => h, by simp only [Rep]; exact .raw _ rfl⟩


theorem pathIs_size {s : ByteArray} (h : pathIs s = true) : s.size ≤ 1000000 := by
  simp only [pathIs, Bool.and_eq_true, decide_eq_true_eq] at h
  omega

def pathAbove (s : ByteArray) : Bool := pathIs s && (decide (s = ⟨#[47]⟩) || !hasSuffix s ⟨#[47]⟩)

theorem path_above (s : ByteArray) : Pure Tryz.prog 213 [str s] (fun d => d = bln (pathAbove s)) := by
  refine pure_of_run follows an_z19 Tryz.func213 rfl ok_z19 dst_z19 (by simp [Tryz.ntmps213]) ?_
  rw [run_start]
  simp only [ac_z19, go_sem, contS_seq, reduceIte, reduceCtorEq, Nat.reduceEqDiff, Nat.reduceAdd, Nat.reduceBEq, Nat.reduceBNe, Int.reduceLE, Int.reduceLT, Int.reduceToNat, Int.reduceEq, Nat.reduceLeDiff, Nat.reduceLT, Nat.reducePow, Nat.reduceDiv, Nat.reduceMod]
  (repeat' (first | (refine GifP.mk (fun _ => ?_) (fun _ => ?_)) | (refine Gif.mk (fun _ => ?_) (fun _ => ?_)) | ((first | refine (path_Is _).callW (enters_of Tryz.func212 rfl rfl) _ rfl rfl ?_ | refine (strings_HasSuffix _ _ (pathIs_size (by assumption))).callW (enters_of Tryz.func236 rfl rfl) _ rfl rfl ?_); rintro _ rfl; try simp only [go_sem, contS_seq, reduceIte, reduceCtorEq, Nat.reduceEqDiff, Nat.reduceAdd, Nat.reduceBEq, Nat.reduceBNe, Int.reduceLE, Int.reduceLT, Int.reduceToNat, Int.reduceEq, Nat.reduceLeDiff, Nat.reduceLT, Nat.reducePow, Nat.reduceDiv, Nat.reduceMod]))) <;> (simp only [retK, fullK, iterK, resD, resA, AOp.ex, St.ev, Option.map_some, Option.bind_some, St.get, lk, reduceIte, Nat.reduceEqDiff, Option.getD_some, oneD, List.getElem?_cons_zero, List.getElem?_cons_succ, List.drop_zero, List.drop_succ_cons, List.take_succ_cons, List.take_zero, List.length_cons, List.length_nil, Nat.zero_add, Nat.reduceAdd, Nat.le_refl, Nat.reduceLeDiff, D.pub, D.pubs, Tryz.results213]; exact ⟨_, rfl, rfl, congrArg bln (by first | rfl | (rw [Bool.eq_iff_iff]; simp only [pathAbove]; simp; done) | (rw [Bool.eq_iff_iff]; simp only [pathAbove]; simp; omega) | (rw [Bool.eq_iff_iff]; simp only [pathAbove]; simp [*]; done) | (rw [Bool.eq_iff_iff]; simp only [pathAbove]; simp [*]; omega) | (simp_all [pathAbove]; done) | (exfalso; omega))⟩)

def pathMay (k : Int) (v : ByteArray) : Bool := (decide (k = 1) && pathIs v) || (decide (k = 2) && pathAbove v)

theorem path_May (k : Int) (v : ByteArray) : Pure Tryz.prog 180 [.agg [int k, str v]] (fun d => d = bln (pathMay k v)) := by
  refine pure_of_run follows an_z20 Tryz.func180 rfl ok_z20 dst_z20 (by simp [Tryz.ntmps180]) ?_
  rw [run_start]
  simp only [ac_z20, go_sem, contS_seq, reduceIte, reduceCtorEq, Nat.reduceEqDiff, Nat.reduceAdd, Nat.reduceBEq, Nat.reduceBNe, Int.reduceLE, Int.reduceLT, Int.reduceToNat, Int.reduceEq, Nat.reduceLeDiff, Nat.reduceLT, Nat.reducePow, Nat.reduceDiv, Nat.reduceMod]
  (repeat' (first | (refine GifP.mk (fun _ => ?_) (fun _ => ?_)) | (refine Gif.mk (fun _ => ?_) (fun _ => ?_)) | ((first | refine (path_Is _).callW (enters_of Tryz.func212 rfl rfl) _ rfl rfl ?_ | refine (path_above _).callW (enters_of Tryz.func213 rfl rfl) _ rfl rfl ?_); rintro _ rfl; try simp only [go_sem, contS_seq, reduceIte, reduceCtorEq, Nat.reduceEqDiff, Nat.reduceAdd, Nat.reduceBEq, Nat.reduceBNe, Int.reduceLE, Int.reduceLT, Int.reduceToNat, Int.reduceEq, Nat.reduceLeDiff, Nat.reduceLT, Nat.reducePow, Nat.reduceDiv, Nat.reduceMod]))) <;> (simp only [retK, fullK, iterK, resD, resA, AOp.ex, St.ev, Option.map_some, Option.bind_some, St.get, lk, reduceIte, Nat.reduceEqDiff, Option.getD_some, oneD, List.getElem?_cons_zero, List.getElem?_cons_succ, List.drop_zero, List.drop_succ_cons, List.take_succ_cons, List.take_zero, List.length_cons, List.length_nil, Nat.zero_add, Nat.reduceAdd, Nat.le_refl, Nat.reduceLeDiff, D.pub, D.pubs, Tryz.results180]; exact ⟨_, rfl, rfl, congrArg bln (by first | rfl | (rw [Bool.eq_iff_iff]; simp only [pathMay]; simp; done) | (rw [Bool.eq_iff_iff]; simp only [pathMay]; simp; omega) | (rw [Bool.eq_iff_iff]; simp only [pathMay]; simp [*]; done) | (rw [Bool.eq_iff_iff]; simp only [pathMay]; simp [*]; omega) | (simp_all [pathMay]; done) | (exfalso; omega))⟩)

def methodRune (c : Int) : Bool := decide (65 ≤ c) && decide (c ≤ 90)

theorem rule_Method_1 (c : Int) : Pure Tryz.prog 214 [i32 c] (fun d => d = bln (!methodRune c)) := by
  refine pure_of_run follows an_z33 Tryz.func214 rfl ok_z33 dst_z33 (by simp [Tryz.ntmps214]) ?_
  rw [run_start]
  simp only [ac_z33, go_sem, contS_seq, reduceIte, reduceCtorEq, Nat.reduceEqDiff, Nat.reduceAdd, Nat.reduceBEq, Nat.reduceBNe, Int.reduceLE, Int.reduceLT, Int.reduceToNat, Int.reduceEq, Nat.reduceLeDiff, Nat.reduceLT, Nat.reducePow, Nat.reduceDiv, Nat.reduceMod]
  (repeat' (first | (refine GifP.mk (fun _ => ?_) (fun _ => ?_)) | (refine Gif.mk (fun _ => ?_) (fun _ => ?_)))) <;> (simp only [retK, fullK, iterK, resD, resA, AOp.ex, St.ev, Option.map_some, Option.bind_some, St.get, lk, reduceIte, Nat.reduceEqDiff, Option.getD_some, oneD, List.getElem?_cons_zero, List.getElem?_cons_succ, List.drop_zero, List.drop_succ_cons, List.take_succ_cons, List.take_zero, List.length_cons, List.length_nil, Nat.zero_add, Nat.reduceAdd, Nat.le_refl, Nat.reduceLeDiff, D.pub, D.pubs, Tryz.results214]; exact ⟨_, rfl, rfl, congrArg bln (by first | rfl | (rw [Bool.eq_iff_iff]; simp only [methodRune]; simp; done) | (rw [Bool.eq_iff_iff]; simp only [methodRune]; simp; omega) | (rw [Bool.eq_iff_iff]; simp only [methodRune]; simp [*]; done) | (rw [Bool.eq_iff_iff]; simp only [methodRune]; simp [*]; omega) | (simp_all [methodRune]; done) | (exfalso; omega))⟩)

def method (s : ByteArray) : Bool := !decide (s = ⟨#[]⟩) && decide (s.size ≤ 10) && decide (runeIdx (fun c => !methodRune c) s s.size 0 < 0)

theorem rule_Method (s : ByteArray) : Pure Tryz.prog 181 [str s] (fun d => d = bln (method s)) := by
  refine pure_of_run follows an_z32 Tryz.func181 rfl ok_z32 dst_z32 (by simp [Tryz.ntmps181]) ?_
  rw [run_start]
  simp only [ac_z32, go_sem, contS_seq, reduceIte, reduceCtorEq, Nat.reduceEqDiff, Nat.reduceAdd, Nat.reduceBEq, Nat.reduceBNe, Int.reduceLE, Int.reduceLT, Int.reduceToNat, Int.reduceEq, Nat.reduceLeDiff, Nat.reduceLT, Nat.reducePow, Nat.reduceDiv, Nat.reduceMod]
  (repeat' (first | (refine GifP.mk (fun _ => ?_) (fun _ => ?_)) | (refine Gif.mk (fun _ => ?_) (fun _ => ?_)) | (refine (strings_IndexFunc _ _ (enters_of Tryz.func214 rfl rfl) rule_Method_1 _).callW (enters_of Tryz.func150 rfl rfl) _ rfl rfl ?_; rintro _ rfl; try simp only [go_sem, contS_seq, reduceIte, reduceCtorEq, Nat.reduceEqDiff, Nat.reduceAdd, Nat.reduceBEq, Nat.reduceBNe, Int.reduceLE, Int.reduceLT, Int.reduceToNat, Int.reduceEq, Nat.reduceLeDiff, Nat.reduceLT, Nat.reducePow, Nat.reduceDiv, Nat.reduceMod]))) <;> (simp only [retK, fullK, iterK, resD, resA, AOp.ex, St.ev, Option.map_some, Option.bind_some, St.get, lk, reduceIte, Nat.reduceEqDiff, Option.getD_some, oneD, List.getElem?_cons_zero, List.getElem?_cons_succ, List.drop_zero, List.drop_succ_cons, List.take_succ_cons, List.take_zero, List.length_cons, List.length_nil, Nat.zero_add, Nat.reduceAdd, Nat.le_refl, Nat.reduceLeDiff, D.pub, D.pubs, Tryz.results181]; exact ⟨_, rfl, rfl, congrArg bln (by first | rfl | (rw [Bool.eq_iff_iff]; simp only [method]; simp; done) | (rw [Bool.eq_iff_iff]; simp only [method]; simp; omega) | (rw [Bool.eq_iff_iff]; simp only [method]; simp [*]; done) | (rw [Bool.eq_iff_iff]; simp only [method]; simp [*]; omega) | (simp_all [method]; done) | (exfalso; omega))⟩)

def pairMay (p : APair) : Bool := !decide (p.name = ⟨#[]⟩) && decide (p.name.size ≤ 40) && decide (p.val.size ≤ 40)

def queryMay (l : List APair) : Bool := l.all pairMay && decide (l.length ≤ 20)

set_option maxRecDepth 100000 in
theorem query_May (l : List APair) (hl : l.length ≤ 1000000) : Pure Tryz.prog 185 [.pd (.slice (rows APair.pd l))] (fun d => d = bln (queryMay l)) := by
  refine pure_of_run follows an_z23 Tryz.func185 rfl ok_z23 dst_z23 (by simp [Tryz.ntmps185]) ?_
  rw [run_start]
  simp only [ac_z23, go_sem, contS_seq, reduceIte, reduceCtorEq, Nat.reduceEqDiff, Nat.reduceAdd, Nat.reduceBEq, Nat.reduceBNe, Int.reduceLE, Int.reduceLT, Int.reduceToNat, Int.reduceEq, Nat.reduceLeDiff, Nat.reduceLT, Nat.reducePow, Nat.reduceDiv, Nat.reduceMod, rows_len]
  refine loopS (fun k st => ∃ i : Nat, k = l.length - i ∧ i ≤ l.length ∧ (l.drop i).all pairMay = l.all pairMay ∧
    st = ⟨[(0, .pd (.slice (rows APair.pd l))), (5, .pd (.slice (rows APair.pd l))), (6, int l.length), (7, int i)], [], [], .no⟩) l.length _ (Weak.refl _ _) ⟨0, rfl, Nat.zero_le _, rfl, rfl⟩ ?_
  rintro k st ⟨i, rfl, hi, hr, rfl⟩
  by_cases hlt : i < l.length
  · obtain ⟨x, hx⟩ := at_lt hlt
    have hlt' : ((i : Int) < (l.length : Int)) = True := by simp; omega
    rw [drop_at hx, List.all_cons] at hr
    have bad : pairMay x = false → queryMay l = false := fun h => by
      rw [h, Bool.false_and] at hr
      simp [queryMay, ← hr]
    simp only [go_sem, contS_seq, reduceIte, reduceCtorEq, Nat.reduceEqDiff, Nat.reduceAdd, Nat.reduceBEq, Nat.reduceBNe, Int.reduceLE, Int.reduceLT, Int.reduceToNat, Int.reduceEq, Nat.reduceLeDiff, Nat.reduceLT, Nat.reducePow, Nat.reduceDiv, Nat.reduceMod, hlt', rows_get hx, i64_succ (show i < 1000000000 by omega)]
    repeat' (first | refine GifP.mk (fun _ => ?_) (fun _ => ?_) | refine Gif.mk (fun _ => ?_) (fun _ => ?_))
    iterate 3
      · simp only [retK, fullK, iterK, resD, resA, AOp.ex, St.ev, Option.map_some, Option.bind_some, St.get, lk, reduceIte, Nat.reduceEqDiff, Option.getD_some, oneD, List.getElem?_cons_zero, List.getElem?_cons_succ, List.drop_zero, List.drop_succ_cons, List.take_succ_cons, List.take_zero, List.length_cons, List.length_nil, Nat.zero_add, Nat.reduceAdd, Nat.le_refl, Nat.reduceLeDiff, D.pub, D.pubs, Tryz.results185]
        exact ⟨_, rfl, rfl, congrArg bln (bad (by simp [pairMay, *]; try omega)).symm⟩
    · have hg : pairMay x = true := by simp [pairMay, *]; omega
      rw [hg, Bool.true_and] at hr
      refine ⟨l.length - (i + 1), _, ?_, ?_, i + 1, rfl, ?_, hr, rfl⟩
      · omega
      · exact Weak.less (by simp [lessL, lk]) (by simp [lessL, lk]) (by simp [lessL, lk]) rfl
      · omega
  · have hlt' : ((i : Int) < (l.length : Int)) = False := by simp; omega
    rw [List.drop_eq_nil_of_le (by omega)] at hr
    have hr' := hr.symm
    rw [List.all_nil] at hr'
    simp only [go_sem, contS_seq, reduceIte, reduceCtorEq, Nat.reduceEqDiff, Nat.reduceAdd, Nat.reduceBEq, Nat.reduceBNe, Int.reduceLE, Int.reduceLT, Int.reduceToNat, Int.reduceEq, Nat.reduceLeDiff, Nat.reduceLT, Nat.reducePow, Nat.reduceDiv, Nat.reduceMod, rows_len, hlt']
    repeat' (first | refine GifP.mk (fun _ => ?_) (fun _ => ?_) | refine Gif.mk (fun _ => ?_) (fun _ => ?_))
    all_goals
      simp only [retK, fullK, iterK, resD, resA, AOp.ex, St.ev, Option.map_some, Option.bind_some, St.get, lk, reduceIte, Nat.reduceEqDiff, Option.getD_some, oneD, List.getElem?_cons_zero, List.getElem?_cons_succ, List.drop_zero, List.drop_succ_cons, List.take_succ_cons, List.take_zero, List.length_cons, List.length_nil, Nat.zero_add, Nat.reduceAdd, Nat.le_refl, Nat.reduceLeDiff, D.pub, D.pubs, Tryz.results185]
      exact ⟨_, rfl, rfl, congrArg bln (by first | rfl | (rw [Bool.eq_iff_iff]; simp only [queryMay, hr']; simp; done) | (rw [Bool.eq_iff_iff]; simp only [queryMay, hr']; simp; omega) | (rw [Bool.eq_iff_iff]; simp only [queryMay, hr']; simp [*]; done) | (rw [Bool.eq_iff_iff]; simp only [queryMay, hr']; simp [*]; omega) | (simp_all [queryMay, hr']; done) | (exfalso; omega))⟩

def marks : ByteArray := ⟨#[33, 35, 36, 37, 38, 39, 42, 43, 45, 46, 94, 95, 96, 124, 126]⟩

def tokenOct (b : UInt8) : Bool := (decide (97 ≤ low b.toNat) && decide (low b.toNat ≤ 122)) || (decide (48 ≤ b.toNat) && decide (b.toNat ≤ 57)) || decide (0 ≤ Lib.indexByte marks.data.toList b)

def token (s : ByteArray) : Bool := s.data.toList.all tokenOct && !decide (s = ⟨#[]⟩) && decide (s.size ≤ 40)

theorem toNat_u8 (b : UInt8) : ((b.toNat : Int)).toNat.toUInt8 = b := by simp

theorem pairs_Token (s : ByteArray) (hs : s.size ≤ 1000000) : Pure Tryz.prog 178 [str s] (fun d => d = bln (token s)) := by
  refine pure_of_run follows an_z26 Tryz.func178 rfl ok_z26 dst_z26 (by simp [Tryz.ntmps178]) ?_
  rw [run_start]
  simp only [ac_z26, go_sem, contS_seq, reduceIte, reduceCtorEq, Nat.reduceEqDiff, Nat.reduceAdd, Nat.reduceBEq, Nat.reduceBNe, Int.reduceLE, Int.reduceLT, Int.reduceToNat, Int.reduceEq, Nat.reduceLeDiff, Nat.reduceLT, Nat.reducePow, Nat.reduceDiv, Nat.reduceMod, rows_len]
  refine loopS (fun k st => ∃ i : Nat, k = s.size - i ∧ i ≤ s.size ∧ (s.data.toList.drop i).all tokenOct = s.data.toList.all tokenOct ∧
    st = ⟨[(0, str s), (6, int s.size), (7, int i)], [], [], .no⟩) s.size _ (Weak.refl _ _) ⟨0, rfl, Nat.zero_le _, rfl, rfl⟩ ?_
  rintro k st ⟨i, rfl, hi, hr, rfl⟩
  by_cases hlt : i < s.size
  · obtain ⟨b, hb, hd⟩ := byte_at hlt
    have hlt' : ((i : Int) < (s.size : Int)) = True := by simp; omega
    rw [hd, List.all_cons] at hr
    have bad : tokenOct b = false → token s = false := fun h => by
      rw [h, Bool.false_and] at hr
      simp only [token, ← hr, Bool.false_and]
    have hlow : IntKind.u8.wrap (BitVec.ofInt IntKind.u8.bits (b.toNat : Int) ||| BitVec.ofInt IntKind.u8.bits 32).toNat = low b.toNat := rfl
    have hw := i64_succ (show i < 1000000000 by omega)
    simp only [go_sem, contS_seq, reduceIte, reduceCtorEq, Nat.reduceEqDiff, Nat.reduceAdd, Nat.reduceBEq, Nat.reduceBNe, Int.reduceLE, Int.reduceLT, Int.reduceToNat, Int.reduceEq, Nat.reduceLeDiff, Nat.reduceLT, Nat.reducePow, Nat.reduceDiv, Nat.reduceMod, hlt', hb, hw, ↓hlow]
    have good : tokenOct b = true → ∀ st, Weak Tryz.prog st ⟨[(0, str s), (6, int s.size), (7, int (i + 1 : Nat))], [], [], .no⟩ → Round Tryz.prog (fun k st => ∃ i : Nat, k = s.size - i ∧ i ≤ s.size ∧ (s.data.toList.drop i).all tokenOct = s.data.toList.all tokenOct ∧
        st = ⟨[(0, str s), (6, int s.size), (7, int i)], [], [], .no⟩) (s.size - i) st := fun h st hw => by
      rw [h, Bool.true_and] at hr
      exact ⟨s.size - (i + 1), _, by omega, hw, i + 1, rfl, by omega, hr, rfl⟩
    repeat' (first | refine GifP.mk (fun _ => ?_) (fun _ => ?_) | refine Gif.mk (fun _ => ?_) (fun _ => ?_) | (refine (strings_IndexByte _ _).callW (enters_of Tryz.func210 rfl rfl) _ rfl rfl ?_; rintro _ rfl; rw [toNat_u8]; simp only [go_sem, contS_seq, reduceIte, reduceCtorEq, Nat.reduceEqDiff, Nat.reduceAdd, Nat.reduceBEq, Nat.reduceBNe, Int.reduceLE, Int.reduceLT, Int.reduceToNat, Int.reduceEq, Nat.reduceLeDiff, Nat.reduceLT, Nat.reducePow, Nat.reduceDiv, Nat.reduceMod, hw]))
    all_goals first
      | (refine good (by simp [tokenOct, marks, *]; try omega) _ ?_; exact Weak.less (by simp [lessL, lk]) (by simp [lessL, lk]) (by simp [lessL, lk]) rfl)
      | (simp only [retK, fullK, iterK, resD, resA, AOp.ex, St.ev, Option.map_some, Option.bind_some, St.get, lk, reduceIte, Nat.reduceEqDiff, Option.getD_some, oneD, List.getElem?_cons_zero, List.getElem?_cons_succ, List.drop_zero, List.drop_succ_cons, List.take_succ_cons, List.take_zero, List.length_cons, List.length_nil, Nat.zero_add, Nat.reduceAdd, Nat.le_refl, Nat.reduceLeDiff, D.pub, D.pubs, Tryz.results178]
         exact ⟨_, rfl, rfl, congrArg bln (bad (by simp [tokenOct, marks, *]; try omega)).symm⟩)
  · have hlt' : ((i : Int) < (s.size : Int)) = False := by simp; omega
    rw [byte_end hlt] at hr
    have hr' := hr.symm
    rw [List.all_nil] at hr'
    simp only [go_sem, contS_seq, reduceIte, reduceCtorEq, Nat.reduceEqDiff, Nat.reduceAdd, Nat.reduceBEq, Nat.reduceBNe, Int.reduceLE, Int.reduceLT, Int.reduceToNat, Int.reduceEq, Nat.reduceLeDiff, Nat.reduceLT, Nat.reducePow, Nat.reduceDiv, Nat.reduceMod, rows_len, hlt']
    repeat' (first | refine GifP.mk (fun _ => ?_) (fun _ => ?_) | refine Gif.mk (fun _ => ?_) (fun _ => ?_))
    all_goals
      simp only [retK, fullK, iterK, resD, resA, AOp.ex, St.ev, Option.map_some, Option.bind_some, St.get, lk, reduceIte, Nat.reduceEqDiff, Option.getD_some, oneD, List.getElem?_cons_zero, List.getElem?_cons_succ, List.drop_zero, List.drop_succ_cons, List.take_succ_cons, List.take_zero, List.length_cons, List.length_nil, Nat.zero_add, Nat.reduceAdd, Nat.le_refl, Nat.reduceLeDiff, D.pub, D.pubs, Tryz.results178]
      exact ⟨_, rfl, rfl, congrArg bln (by first | rfl | (rw [Bool.eq_iff_iff]; simp only [token, hr']; simp; done) | (rw [Bool.eq_iff_iff]; simp only [token, hr']; simp; omega) | (rw [Bool.eq_iff_iff]; simp only [token, hr']; simp [*]; done) | (rw [Bool.eq_iff_iff]; simp only [token, hr']; simp [*]; omega) | (simp_all [token, hr']; done) | (exfalso; omega))⟩

/-! Trimming one octet. -/

def trimL (c : Int) : Nat → ByteArray → ByteArray
  | 0, s => s
  | f + 1, s => match s[0]? with
    | some b => if (b.toNat : Int) = c then trimL c f (s.extract 1 s.size) else s
    | none => s

def trimR (c : Int) : Nat → ByteArray → ByteArray
  | 0, s => s
  | f + 1, s => match s[s.size - 1]? with
    | some b => if (b.toNat : Int) = c then trimR c f (s.extract 0 (s.size - 1)) else s
    | none => s

theorem byte_none {s : ByteArray} {i : Nat} (h : ¬ i < s.size) : s[i]? = none := by rw [bytes_get]; exact List.getElem?_eq_none (by rw [size_list]; omega)

theorem strings_trimLeftByte (s : ByteArray) (c : Int) : Pure Tryz.prog 228 [str s, u8 c] (fun d => d = str (trimL c s.size s)) := by
  refine pure_of_run follows an_z29 Tryz.func228 rfl ok_z29 dst_z29 (by simp [Tryz.ntmps228]) ?_
  rw [run_start]
  simp only [ac_z29, go_sem, contS_seq, reduceIte, reduceCtorEq, Nat.reduceEqDiff, Nat.reduceAdd, Nat.reduceBEq, Nat.reduceBNe, Int.reduceLE, Int.reduceLT, Int.reduceToNat, Int.reduceEq, Nat.reduceLeDiff, Nat.reduceLT, Nat.reducePow, Nat.reduceDiv, Nat.reduceMod]
  refine loopS (fun k st => ∃ r : ByteArray, r.size ≤ k ∧ trimL c k r = trimL c s.size s ∧
    st = ⟨[(0, str r), (1, u8 c)], [], [], .no⟩) s.size _ (Weak.refl _ _) ⟨s, Nat.le_refl _, rfl, rfl⟩ ?_
  rintro k st ⟨r, hk, hr, rfl⟩
  by_cases hlt : 0 < r.size
  · obtain ⟨b, hb⟩ := at_byte hlt
    obtain ⟨k, rfl⟩ : ∃ m, k = m + 1 := ⟨k - 1, by omega⟩
    have h1 : ((0 : Int) < (r.size : Int)) = True := eq_true (by omega)
    have h2 : (1 ≤ r.size) = True := by simp; omega
    have h3 : (r.extract 1 r.size).size = r.size - 1 := by simp [ByteArray.size_extract]
    simp only [trimL, hb] at hr
    simp only [go_sem, contS_seq, reduceIte, reduceCtorEq, Nat.reduceEqDiff, Nat.reduceAdd, Nat.reduceBEq, Nat.reduceBNe, Int.reduceLE, Int.reduceLT, Int.reduceToNat, Int.reduceEq, Nat.reduceLeDiff, Nat.reduceLT, Nat.reducePow, Nat.reduceDiv, Nat.reduceMod, h1, hb, h2]
    refine GifP.mk (fun h => ?_) (fun h => ?_)
    · rw [if_pos h] at hr
      refine ⟨k, _, ?_, ?_, r.extract 1 r.size, ?_, hr, rfl⟩
      · omega
      · exact Weak.less (by simp [lessL, lk]) (by simp [lessL, lk]) (by simp [lessL, lk]) rfl
      · omega
    · rw [if_neg h] at hr
      simp only [retK, fullK, iterK, resD, resA, AOp.ex, St.ev, Option.map_some, Option.bind_some, St.get, lk, reduceIte, Nat.reduceEqDiff, Option.getD_some, oneD, List.getElem?_cons_zero, List.getElem?_cons_succ, List.drop_zero, List.drop_succ_cons, List.take_succ_cons, List.take_zero, List.length_cons, List.length_nil, Nat.zero_add, Nat.reduceAdd, Nat.le_refl, Nat.reduceLeDiff, D.pub, D.pubs, Tryz.results228]
      exact ⟨_, rfl, rfl, congrArg (fun x => str x) hr⟩
  · have h1 : ((0 : Int) < (r.size : Int)) = False := eq_false (by omega)
    have hn : trimL c k r = r := by
      cases k with
      | zero => rfl
      | succ k => simp only [trimL, byte_none hlt]
    rw [hn] at hr
    simp only [go_sem, contS_seq, reduceIte, reduceCtorEq, Nat.reduceEqDiff, Nat.reduceAdd, Nat.reduceBEq, Nat.reduceBNe, Int.reduceLE, Int.reduceLT, Int.reduceToNat, Int.reduceEq, Nat.reduceLeDiff, Nat.reduceLT, Nat.reducePow, Nat.reduceDiv, Nat.reduceMod, h1]
    simp only [retK, fullK, iterK, resD, resA, AOp.ex, St.ev, Option.map_some, Option.bind_some, St.get, lk, reduceIte, Nat.reduceEqDiff, Option.getD_some, oneD, List.getElem?_cons_zero, List.getElem?_cons_succ, List.drop_zero, List.drop_succ_cons, List.take_succ_cons, List.take_zero, List.length_cons, List.length_nil, Nat.zero_add, Nat.reduceAdd, Nat.le_refl, Nat.reduceLeDiff, D.pub, D.pubs, Tryz.results228]
    exact ⟨_, rfl, rfl, congrArg (fun x => str x) hr⟩

theorem strings_trimRightByte (s : ByteArray) (c : Int) (hs : s.size ≤ 1000000) : Pure Tryz.prog 229 [str s, u8 c] (fun d => d = str (trimR c s.size s)) := by
  refine pure_of_run follows an_z30 Tryz.func229 rfl ok_z30 dst_z30 (by simp [Tryz.ntmps229]) ?_
  rw [run_start]
  simp only [ac_z30, go_sem, contS_seq, reduceIte, reduceCtorEq, Nat.reduceEqDiff, Nat.reduceAdd, Nat.reduceBEq, Nat.reduceBNe, Int.reduceLE, Int.reduceLT, Int.reduceToNat, Int.reduceEq, Nat.reduceLeDiff, Nat.reduceLT, Nat.reducePow, Nat.reduceDiv, Nat.reduceMod]
  refine loopS (fun k st => ∃ r : ByteArray, r.size ≤ k ∧ r.size ≤ 1000000 ∧ trimR c k r = trimR c s.size s ∧
    st = ⟨[(0, str r), (1, u8 c)], [], [], .no⟩) s.size _ (Weak.refl _ _) ⟨s, Nat.le_refl _, hs, rfl, rfl⟩ ?_
  rintro k st ⟨r, hk, hrs, hr, rfl⟩
  by_cases hlt : 0 < r.size
  · obtain ⟨b, hb⟩ := at_byte (show r.size - 1 < r.size by omega)
    obtain ⟨k, rfl⟩ : ∃ m, k = m + 1 := ⟨k - 1, by omega⟩
    have h1 : ((0 : Int) < (r.size : Int)) = True := eq_true (by omega)
    have h2 : (r.size - 1 ≤ r.size) = True := by simp
    have h3 : (r.extract 0 (r.size - 1)).size = r.size - 1 := by simp [ByteArray.size_extract]
    have hw : IntKind.i64.wrap ((r.size : Int) - 1) = ((r.size - 1 : Nat) : Int) := by rw [IntWalk.i64_in _ (by omega)]; omega
    simp only [trimR, hb] at hr
    simp only [go_sem, contS_seq, reduceIte, reduceCtorEq, Nat.reduceEqDiff, Nat.reduceAdd, Nat.reduceBEq, Nat.reduceBNe, Int.reduceLE, Int.reduceLT, Int.reduceToNat, Int.reduceEq, Nat.reduceLeDiff, Nat.reduceLT, Nat.reducePow, Nat.reduceDiv, Nat.reduceMod, h1, hw, hb, h2]
    refine GifP.mk (fun h => ?_) (fun h => ?_)
    · rw [if_pos h] at hr
      refine ⟨k, _, ?_, ?_, r.extract 0 (r.size - 1), ?_, ?_, hr, rfl⟩
      · omega
      · exact Weak.less (by simp [lessL, lk]) (by simp [lessL, lk]) (by simp [lessL, lk]) rfl
      · omega
      · omega
    · rw [if_neg h] at hr
      simp only [retK, fullK, iterK, resD, resA, AOp.ex, St.ev, Option.map_some, Option.bind_some, St.get, lk, reduceIte, Nat.reduceEqDiff, Option.getD_some, oneD, List.getElem?_cons_zero, List.getElem?_cons_succ, List.drop_zero, List.drop_succ_cons, List.take_succ_cons, List.take_zero, List.length_cons, List.length_nil, Nat.zero_add, Nat.reduceAdd, Nat.le_refl, Nat.reduceLeDiff, D.pub, D.pubs, Tryz.results229]
      exact ⟨_, rfl, rfl, congrArg (fun x => str x) hr⟩
  · have h1 : ((0 : Int) < (r.size : Int)) = False := eq_false (by omega)
    have hn : trimR c k r = r := by
      cases k with
      | zero => rfl
      | succ k => simp only [trimR, byte_none (show ¬ r.size - 1 < r.size by omega)]
    rw [hn] at hr
    simp only [go_sem, contS_seq, reduceIte, reduceCtorEq, Nat.reduceEqDiff, Nat.reduceAdd, Nat.reduceBEq, Nat.reduceBNe, Int.reduceLE, Int.reduceLT, Int.reduceToNat, Int.reduceEq, Nat.reduceLeDiff, Nat.reduceLT, Nat.reducePow, Nat.reduceDiv, Nat.reduceMod, h1]
    simp only [retK, fullK, iterK, resD, resA, AOp.ex, St.ev, Option.map_some, Option.bind_some, St.get, lk, reduceIte, Nat.reduceEqDiff, Option.getD_some, oneD, List.getElem?_cons_zero, List.getElem?_cons_succ, List.drop_zero, List.drop_succ_cons, List.take_succ_cons, List.take_zero, List.length_cons, List.length_nil, Nat.zero_add, Nat.reduceAdd, Nat.le_refl, Nat.reduceLeDiff, D.pub, D.pubs, Tryz.results229]
    exact ⟨_, rfl, rfl, congrArg (fun x => str x) hr⟩

/-- Without spaces at either end. -/
def trim (s : ByteArray) : ByteArray := trimL 32 (trimR 32 s.size s).size (trimR 32 s.size s)

theorem strings_Trim (s : ByteArray) (hs : s.size ≤ 1000000) : Pure Tryz.prog 211 [str s, str ⟨#[32]⟩] (fun d => d = str (trim s)) := by
  refine pure_of_run follows an_z28 Tryz.func211 rfl ok_z28 dst_z28 (by simp [Tryz.ntmps211]) ?_
  rw [run_start]
  have h1 : (ByteArray.mk #[32]).size = 1 := rfl
  have h2 : (ByteArray.mk #[32])[0]? = some 32 := rfl
  have h3 : ((1 : Nat) : Int) = 1 := rfl
  have h4 : (ByteArray.mk #[32] = ByteArray.mk #[]) = False := by simp
  have h5 : ((UInt8.toNat 32 : Nat) : Int) = 32 := rfl
  simp only [ac_z28, go_sem, contS_seq, reduceIte, reduceCtorEq, Nat.reduceEqDiff, Nat.reduceAdd, Nat.reduceBEq, Nat.reduceBNe, Int.reduceLE, Int.reduceLT, Int.reduceToNat, Int.reduceEq, Nat.reduceLeDiff, Nat.reduceLT, Nat.reducePow, Nat.reduceDiv, Nat.reduceMod, go_sem, h1, h2, h3, h4, h5]
  refine GifP.mk (fun he => ?_) (fun he => ?_)
  · simp only [retK, fullK, iterK, resD, resA, AOp.ex, St.ev, Option.map_some, Option.bind_some, St.get, lk, reduceIte, Nat.reduceEqDiff, Option.getD_some, oneD, List.getElem?_cons_zero, List.getElem?_cons_succ, List.drop_zero, List.drop_succ_cons, List.take_succ_cons, List.take_zero, List.length_cons, List.length_nil, Nat.zero_add, Nat.reduceAdd, Nat.le_refl, Nat.reduceLeDiff, D.pub, D.pubs, Tryz.results211]
    refine ⟨_, rfl, rfl, congrArg (fun x => str x) ?_⟩
    subst he; rfl
  · refine (strings_trimRightByte s 32 hs).callX (enters_of Tryz.func229 rfl rfl) _ rfl rfl ?_
    rintro d rfl
    simp only [go_sem, contS_seq, reduceIte, reduceCtorEq, Nat.reduceEqDiff, Nat.reduceAdd, Nat.reduceBEq, Nat.reduceBNe, Int.reduceLE, Int.reduceLT, Int.reduceToNat, Int.reduceEq, Nat.reduceLeDiff, Nat.reduceLT, Nat.reducePow, Nat.reduceDiv, Nat.reduceMod, go_sem, h1, h2, h5]
    refine (strings_trimLeftByte _ 32).callX (enters_of Tryz.func228 rfl rfl) _ rfl rfl ?_
    rintro d rfl
    simp only [go_sem, contS_seq, reduceIte, reduceCtorEq, Nat.reduceEqDiff, Nat.reduceAdd, Nat.reduceBEq, Nat.reduceBNe, Int.reduceLE, Int.reduceLT, Int.reduceToNat, Int.reduceEq, Nat.reduceLeDiff, Nat.reduceLT, Nat.reducePow, Nat.reduceDiv, Nat.reduceMod, go_sem]
    simp only [retK, fullK, iterK, resD, resA, AOp.ex, St.ev, Option.map_some, Option.bind_some, St.get, lk, reduceIte, Nat.reduceEqDiff, Option.getD_some, oneD, List.getElem?_cons_zero, List.getElem?_cons_succ, List.drop_zero, List.drop_succ_cons, List.take_succ_cons, List.take_zero, List.length_cons, List.length_nil, Nat.zero_add, Nat.reduceAdd, Nat.le_refl, Nat.reduceLeDiff, D.pub, D.pubs, Tryz.results211]
    exact ⟨_, rfl, rfl, rfl⟩


abbrev idr (bs : List (Nat × List D)) : List (Nat × Nat) := bs.map fun p => (p.1, p.1)
def capD (caps : List (Nat × Nat)) : List D := caps.map fun c => .ptr c.1 c.2

def dnd : List Nat → Bool
  | [] => true
  | a :: l => !l.contains a && dnd l

/-- A closure's variables, by names that everyone may use. -/
structure Cl (bs : List (Nat × List D)) (caps : List (Nat × Nat)) : Prop where
  ok : renOK (idr bs) = true
  see : seeBs (idr bs) bs (idr bs) = bs
  cap : D.sees (idr bs) (capD caps) = capD caps
  capf : seeCaps (idr bs) caps = some caps
  nd : dnd (bs.map (·.1)) = true

theorem Cl.of {bs : List (Nat × List D)} {caps : List (Nat × Nat)} (h1 : renOK (idr bs) = true) (h2 : seeBs (idr bs) bs (idr bs) = bs) (h3 : D.sees (idr bs) (capD caps) = capD caps) (h4 : seeCaps (idr bs) caps = some caps) (h5 : dnd (bs.map (·.1)) = true) : Cl bs caps := ⟨h1, h2, h3, h4, h5⟩

theorem Cl.args {bs : List (Nat × List D)} {caps : List (Nat × Nat)} (h : Cl bs caps) {d : D} (hd : D.see (idr bs) d = d) : D.sees (idr bs) (d :: capD caps) = d :: capD caps := by
  rw [D.sees, hd, h.cap]

theorem Cl.two {bs : List (Nat × List D)} {caps : List (Nat × Nat)} (h : Cl bs caps) {x : PD} {g : FuncId} : D.sees (idr bs) [.pd x, .fn g caps] = [.pd x, .fn g caps] := by
  simp only [D.sees, D.see, h.capf]

theorem lk_none {α : Type} {n : Nat} : ∀ {l : List (Nat × α)}, (l.map (·.1)).contains n = false → lk l n = none
  | [], _ => rfl
  | (m, d) :: l, h => by
    simp only [List.map_cons, List.contains_cons, Bool.or_eq_false_iff, beq_eq_false_iff_ne] at h
    simp only [lk, if_neg h.1]
    exact lk_none h.2

theorem lessL_of {α : Type} : ∀ {r l : List (Nat × α)}, (∀ p ∈ r, lk l p.1 = some p.2) → lessL r l
  | [], _, _ => trivial
  | _ :: _, _, h => ⟨h _ (List.mem_cons_self ..), lessL_of fun p hp => h p (List.mem_cons_of_mem _ hp)⟩

theorem lk_mem_nd {α : Type} : ∀ {l : List (Nat × α)}, dnd (l.map (·.1)) = true → ∀ p ∈ l, lk l p.1 = some p.2
  | [], _, _, h => by cases h
  | (m, d) :: l, hn, p, h => by
    simp only [List.map_cons, dnd, Bool.and_eq_true, Bool.not_eq_true'] at hn
    rcases List.mem_cons.1 h with rfl | h
    · simp [lk]
    · have hne : p.1 ≠ m := fun e => by
        have : (l.map (·.1)).contains m = true := by rw [List.contains_iff_mem]; exact List.mem_map.2 ⟨p, h, e⟩
        rw [hn.1] at this; cases this
      simp only [lk, if_neg hne]
      exact lk_mem_nd hn.2 p h

theorem lessL_refl {α : Type} {l : List (Nat × α)} (h : dnd (l.map (·.1)) = true) : lessL l l := lessL_of (lk_mem_nd h)

theorem Mem.toNfn {P : Program} {w0 : World} {Fz0 : Nat → Nat → Prop} {S : Nat → Prop} {N : Nat} {bs : List (Nat × List D)} {ms : List (Nat × MO)} {g : Gh} {w : World} (m : Mem (.fn P w0 Fz0 S N) bs ms g w) (N' : Nat) : Mem (.fn P w0 Fz0 S N') bs ms g w where
  os := m.os
  tape := m.tape
  output := m.output
  hsz := m.hsz
  old := m.old
  keep := m.keep
  newfz := m.newfz
  fzlt := m.fzlt
  bxs := m.bxs
  mps := m.mps
  bxok := m.bxok
  bxinj := m.bxinj
  tks := m.tks
  tkinj := m.tkinj
  bxtk := m.bxtk
  dfs := m.dfs
  dnd := m.dnd
  bxdf := m.bxdf
  bxdm := m.bxdm

theorem PureB.pure {P : Program} {f : FuncId} {args : List D} {R : D → Prop} (h : PureB P f args [] R) : Pure P f args R := by
  intro Fz w vs hlt hr
  exact h (gh0 Fz) w vs rfl rfl (fun N => (init_SR (P := P) (N := args.length) (Nat.le_refl _) hlt hr).mem.toNfn N) hr

theorem Pure.pureB {P : Program} {f : FuncId} {args : List D} {R : D → Prop} (h : Pure P f args R) (hc : D.closeds args = true) : PureB P f args [] R := by
  intro g0 w vs _ _ hm hr
  exact h g0.Fz w vs (hm 0).fzlt (Reps.close (g := g0) (g' := gh0 g0.Fz) (Ex.refl _ _) hc hr)

/-- The place of the first of which p is so. -/
def lidx {α : Type} (p : α → Bool) : List α → Nat → Int
  | [], _ => -1
  | x :: l, i => if p x = true then (i : Int) else lidx p l (i + 1)

theorem lidx_any' {α : Type} (p : α → Bool) : ∀ (l : List α) (i : Nat), decide (0 ≤ lidx p l i) = l.any p
  | [], _ => by simp [lidx]
  | x :: l, i => by
    rw [lidx, List.any_cons]
    by_cases h : p x = true
    · rw [if_pos h, h]; simp
    · rw [if_neg h, lidx_any' p l (i + 1)]; simp at h; simp [h]

theorem lidx_any {α : Type} (p : α → Bool) (l : List α) : decide (0 ≤ lidx p l 0) = l.any p := lidx_any' p l 0

def every {α : Type} (p : α → Bool) (l : List α) (n : Int) : Bool := decide ((l.length : Int) ≤ n) && l.all p

def twiceFrom {α : Type} (q : α → α → Bool) (l : List α) : Nat → Nat → Bool
  | 0, _ => false
  | k + 1, i => (match l[i]? with
    | some x => (l.take i).any fun y => q x y
    | none => false) || twiceFrom q l k (i + 1)

/-- Are two the same? -/
def twice {α : Type} (q : α → α → Bool) (l : List α) : Bool := twiceFrom q l l.length 0

abbrev ASide.d (s : ASide) : D := .agg [int s.kind, str s.space, str s.name]
abbrev APair.d (p : APair) : D := .agg [str p.name, str p.val]
abbrev ANeed.d (n : ANeed) : D := .agg [int n.kind, str n.name, .pd (.slice (strs n.vals))]
abbrev AListener.d (l : AListener) : D := .agg [str l.name, int l.port, bln l.tls, str l.host, int l.cert.kind, str l.cert.space, str l.cert.name, int l.from_, .pd (.slice (rows ANeed.pd l.needs))]
abbrev AParent.d (p : AParent) : D := .agg [str p.space, str p.name, str p.section_, int p.port]
abbrev AMatch.d (m : AMatch) : D := .agg [int m.pkind, str m.pval, str m.method, .pd (.slice (rows APair.pd m.head)), .pd (.slice (rows APair.pd m.query))]
abbrev AFilter.d (f : AFilter) : D := .agg [int f.kind, str f.name, str f.val, str f.host, int f.port, str f.path, bln f.whole, int f.code]
abbrev ARule.d (r : ARule) : D := .agg [.pd (.slice (rows AMatch.pd r.matches_)), .pd (.slice (rows AFilter.pd r.filters)), .pd (.slice (rows ABackend.pd r.backends))]

abbrev ASide.ds (s : ASide) : List D := [int s.kind, str s.space, str s.name]
abbrev AListener.ds (l : AListener) : List D := [str l.name, int l.port, bln l.tls, str l.host, int l.cert.kind, str l.cert.space, str l.cert.name, int l.from_, .pd (.slice (rows ANeed.pd l.needs))]
abbrev AParent.ds (p : AParent) : List D := [str p.space, str p.name, str p.section_, int p.port]
abbrev ints_ (n : Int) : List D := [int n]
abbrev strs_ (n : ByteArray) : List D := [str n]

/-- Are two lists the same, thing by thing? -/
def eqf {α : Type} (q : α → α → Bool) : List α → List α → Bool
  | [], [] => true
  | x :: l, y :: m => q x y && eqf q l m
  | _, _ => false

theorem eqf_len {α : Type} (q : α → α → Bool) : ∀ {l m : List α}, l.length ≠ m.length → eqf q l m = false
  | [], [], h => absurd rfl h
  | [], _ :: _, _ => rfl
  | _ :: _, [], _ => rfl
  | x :: l, y :: m, h => by
    rw [eqf, eqf_len q (by simpa using h), Bool.and_false]

theorem eq_int (x y : Int) : decide (x = y) = decide (x = y) := rfl
theorem eq_string (x y : ByteArray) : decide (x = y) = decide (x = y) := rfl
theorem eq_Pair (x y : APair) : (decide (x.name = y.name) && decide (x.val = y.val)) = decide (x = y) := by
  cases x; cases y; rw [Bool.eq_iff_iff]; simp
theorem eq_Side (x y : ASide) : (decide (x.kind = y.kind) && (decide (x.space = y.space) && decide (x.name = y.name))) = decide (x = y) := by
  cases x; cases y; rw [Bool.eq_iff_iff]; simp
theorem eq_Parent (x y : AParent) : (decide (x.space = y.space) && (decide (x.name = y.name) && (decide (x.section_ = y.section_) && decide (x.port = y.port)))) = decide (x = y) := by
  cases x; cases y; rw [Bool.eq_iff_iff]; simp
theorem eq_Ref (x y : ARef) : (decide (x.kind = y.kind) && (decide (x.space = y.space) && decide (x.name = y.name))) = decide (x = y) := by
  cases x; cases y; rw [Bool.eq_iff_iff]; simp
theorem eq_Backend (x y : ABackend) : (decide (x.ref.kind = y.ref.kind) && (decide (x.ref.space = y.ref.space) && (decide (x.ref.name = y.ref.name) && (decide (x.port = y.port) && decide (x.weight = y.weight))))) = decide (x = y) := by
  obtain ⟨⟨a, b, c⟩, d, e⟩ := x; obtain ⟨⟨a', b', c'⟩, d', e'⟩ := y; rw [Bool.eq_iff_iff]; simp [and_assoc]
theorem eq_Filter (x y : AFilter) : (decide (x.kind = y.kind) && (decide (x.name = y.name) && (decide (x.val = y.val) && (decide (x.host = y.host) && (decide (x.port = y.port) && (decide (x.path = y.path) && (x.whole == y.whole && decide (x.code = y.code)))))))) = decide (x = y) := by
  cases x; cases y; rw [Bool.eq_iff_iff]; simp

end Go.Proofs.YtbpgebfejebmlaaGreatDoor

namespace Go.Proofs.YtbpgebfejebmlaaGreatDoor
open Go

/-- slices.Contains[[]int,int] -/
def an_z34 : Ann := ⟨[(0, [0, 1]), (1, [4])], [], []⟩
def ac_z34 : AC := (.seq (.region [.mk none (some 4) (.mv (.const (.bool false)))] (some [0, 1])) (.seq (.region [.mk none (some 5) (.mv (.tmp 0)), .mk none (some 6) (.mv (.tmp 1)), .mk none (some 7) (.call 59 [.tmp 5, .tmp 6]), .mk none (some 8) (.bin .geq (.tmp 7) (.const (.int .i64 0))), .mk none (some 4) (.mv (.tmp 8))] (some [4])) .ret))
theorem ok_z34 : compC Tryz.prog an_z34 (Tryz.f39.body.getD .skip) = some ac_z34 := by kernel_rfl
theorem dst_z34 : ac_z34.dstOK Tryz.f39.ntmps (fun i => decide (i < Tryz.f39.ntmps)) = true := by kernel_rfl

/-- slices.IndexFunc[[]toll/api.Object,toll/api.Object] -/
def an_z35 : Ann := ⟨[(0, [0, 1]), (1, [0, 1, 7, 8]), (2, [0, 1, 7, 8, 9]), (3, [0, 1, 5, 7, 8]), (4, [0, 1, 5, 7, 8, 16]), (5, [4]), (6, [0, 1, 7, 8]), (7, [4])], [], []⟩
def ac_z35 : AC := (.seq (.region [.mk none (some 4) (.mv (.const (.int .i64 0)))] (some [0, 1])) (.seq (.seq (.region [.mk none (some 6) (.mv (.tmp 0)), .mk none (some 7) (.len (.tmp 6) false), .mk none (some 8) (.mv (.const (.int .i64 0)))] (some [0, 1, 7, 8])) (.block 0 (.loop (.seq (.region [.mk none (some 9) (.bin .lss (.tmp 8) (.tmp 7))] (some [0, 1, 7, 8, 9])) (.seq (.cond (.tmp 9) .skip (.exit 0)) (.seq (.block 1 (.seq (.region [.mk none (some 10) (.mv (.tmp 8)), .mk none (some 5) (.mv (.tmp 10))] (some [0, 1, 5, 7, 8])) (.seq (.region [.mk none (some 11) (.mv (.tmp 1)), .mk none (some 12) (.mv (.tmp 0)), .mk none (some 13) (.mv (.tmp 5)), .mk none (some 14) (.idxA 13 (.tmp 12) (.tmp 13)), .mk none (some 15) (.load (some 13) (.tmp 14)), .mk none (some 16) (.callv (.tmp 11) [.tmp 15])] (some [0, 1, 5, 7, 8, 16])) (.cond (.tmp 16) (.seq (.region [.mk none (some 17) (.mv (.tmp 5)), .mk none (some 4) (.mv (.tmp 17))] (some [4])) .ret) .skip)))) (.region [.mk none (some 18) (.bin .add (.tmp 8) (.const (.int .i64 1))), .mk none (some 8) (.mv (.tmp 18))] (some [0, 1, 7, 8])))))))) (.seq (.region [.mk none (some 4) (.mv (.const (.int .i64 (-1))))] (some [4])) .ret)))
theorem ok_z35 : compC Tryz.prog an_z35 (Tryz.f49.body.getD .skip) = some ac_z35 := by kernel_rfl
theorem dst_z35 : ac_z35.dstOK Tryz.f49.ntmps (fun i => decide (i < Tryz.f49.ntmps)) = true := by kernel_rfl

/-- slices.Index[[]int,int] -/
def an_z36 : Ann := ⟨[(0, [0, 1]), (1, [0, 1, 7, 8]), (2, [0, 1, 7, 8, 9]), (3, [0, 1, 5, 7, 8]), (4, [0, 1, 5, 7, 8, 16]), (5, [4]), (6, [0, 1, 7, 8]), (7, [4])], [], []⟩
def ac_z36 : AC := (.seq (.region [.mk none (some 4) (.mv (.const (.int .i64 0)))] (some [0, 1])) (.seq (.seq (.region [.mk none (some 6) (.mv (.tmp 0)), .mk none (some 7) (.len (.tmp 6) false), .mk none (some 8) (.mv (.const (.int .i64 0)))] (some [0, 1, 7, 8])) (.block 0 (.loop (.seq (.region [.mk none (some 9) (.bin .lss (.tmp 8) (.tmp 7))] (some [0, 1, 7, 8, 9])) (.seq (.cond (.tmp 9) .skip (.exit 0)) (.seq (.block 1 (.seq (.region [.mk none (some 10) (.mv (.tmp 8)), .mk none (some 5) (.mv (.tmp 10))] (some [0, 1, 5, 7, 8])) (.seq (.region [.mk none (some 11) (.mv (.tmp 1)), .mk none (some 12) (.mv (.tmp 0)), .mk none (some 13) (.mv (.tmp 5)), .mk none (some 14) (.idxA 1 (.tmp 12) (.tmp 13)), .mk none (some 15) (.load none (.tmp 14)), .mk none (some 16) (.bin .eql (.tmp 11) (.tmp 15))] (some [0, 1, 5, 7, 8, 16])) (.cond (.tmp 16) (.seq (.region [.mk none (some 17) (.mv (.tmp 5)), .mk none (some 4) (.mv (.tmp 17))] (some [4])) .ret) .skip)))) (.region [.mk none (some 18) (.bin .add (.tmp 8) (.const (.int .i64 1))), .mk none (some 8) (.mv (.tmp 18))] (some [0, 1, 7, 8])))))))) (.seq (.region [.mk none (some 4) (.mv (.const (.int .i64 (-1))))] (some [4])) .ret)))
theorem ok_z36 : compC Tryz.prog an_z36 (Tryz.f59.body.getD .skip) = some ac_z36 := by kernel_rfl
theorem dst_z36 : ac_z36.dstOK Tryz.f59.ntmps (fun i => decide (i < Tryz.f59.ntmps)) = true := by kernel_rfl

/-- toll/object.every[int] -/
def an_z37 : Ann := ⟨[(0, [0, 1, 5]), (1, [6])], [], []⟩
def ac_z37 : AC := (.seq (.region [.mk none (some 5) (.box 117 (.tmp 2)), .mk none (some 6) (.mv (.const (.bool false)))] (some [0, 1, 5])) (.seq (.region [.mk none (some 7) (.mv (.tmp 0)), .mk none (some 8) (.len (.tmp 7) false), .mk none (some 9) (.mv (.tmp 1)), .mk none (some 10) (.bin .leq (.tmp 8) (.tmp 9)), .mk none (some 11) (.mv (.tmp 10)), .mk (some (11, true)) (some 12) (.mv (.tmp 0)), .mk (some (11, true)) (some 13) (.mkfn 125 [.tmp 5]), .mk (some (11, true)) (some 14) (.call 124 [.tmp 12, .tmp 13]), .mk (some (11, true)) (some 15) (.un .not (.tmp 14)), .mk none (some 16) (.pick (.tmp 11) (.tmp 15) (.const (.bool false))), .mk none (some 6) (.mv (.tmp 16))] (some [6])) .ret))
theorem ok_z37 : compC Tryz.prog an_z37 (Tryz.f72.body.getD .skip) = some ac_z37 := by kernel_rfl
theorem dst_z37 : ac_z37.dstOK Tryz.f72.ntmps (fun i => decide (i < Tryz.f72.ntmps)) = true := by kernel_rfl

/-- slices.IsSorted[[]int,int] -/
def an_z38 : Ann := ⟨[(0, [0]), (1, [0, 3]), (2, [0, 3, 8]), (3, [0, 3]), (4, [0, 3, 20]), (5, [2]), (6, [2])], [(4, ([0, 0, 3, 7, 0, 0, 32, 112, 240, 511], .take 0 (.take 1 (.take 2 (.take 3 (.take 4 (.take 5 (.take 6 (.take 7 (.take 8 (.alts (.cons 9 true (.done) (.nil)))))))))))))], []⟩
def ac_z38 : AC := (.seq (.region [.mk none (some 2) (.mv (.const (.bool false)))] (some [0])) (.seq (.seq (.region [.mk none (some 4) (.mv (.tmp 0)), .mk none (some 5) (.len (.tmp 4) false), .mk none (some 6) (.bin .sub (.tmp 5) (.const (.int .i64 1))), .mk none (some 3) (.mv (.tmp 6))] (some [0, 3])) (.block 0 (.loop (.seq (.seq (.region [.mk none (some 7) (.mv (.tmp 3)), .mk none (some 8) (.bin .gtr (.tmp 7) (.const (.int .i64 0)))] (some [0, 3, 8])) (.cond (.tmp 8) .skip (.exit 0))) (.seq (.block 1 (.seq (.draw [.mk none (some 11) (.mv (.tmp 0)), .mk none (some 12) (.mv (.tmp 3)), .mk none (some 13) (.idxA 1 (.tmp 11) (.tmp 12)), .mk none (some 14) (.load none (.tmp 13)), .mk none (some 15) (.mv (.tmp 0)), .mk none (some 16) (.mv (.tmp 3)), .mk none (some 17) (.bin .sub (.tmp 16) (.const (.int .i64 1))), .mk none (some 18) (.idxA 1 (.tmp 15) (.tmp 17)), .mk none (some 19) (.load none (.tmp 18)), .mk none (some 20) (.call 126 [.tmp 14, .tmp 19])] [0, 0, 3, 7, 0, 0, 32, 112, 240, 511] (.take 0 (.take 1 (.take 2 (.take 3 (.take 4 (.take 5 (.take 6 (.take 7 (.take 8 (.alts (.cons 9 true .done .nil))))))))))) (some [0, 3, 20])) (.cond (.tmp 20) (.seq (.region [.mk none (some 2) (.mv (.const (.bool false)))] (some [2])) .ret) .skip))) (.region [.mk none (some 9) (.mv (.tmp 3)), .mk none (some 10) (.bin .sub (.tmp 9) (.const (.int .i64 1))), .mk none (some 3) (.mv (.tmp 10))] (some [0, 3]))))))) (.seq (.region [.mk none (some 2) (.mv (.const (.bool true)))] (some [2])) .ret)))
theorem ok_z38 : compC Tryz.prog an_z38 (Tryz.f74.body.getD .skip) = some ac_z38 := by kernel_rfl
theorem dst_z38 : ac_z38.dstOK Tryz.f74.ntmps (fun i => decide (i < Tryz.f74.ntmps)) = true := by kernel_rfl

/-- toll/object.twice[int] -/
def an_z39 : Ann := ⟨[(0, [0, 3]), (1, [0, 3, 7, 8, 9]), (2, [0, 3, 7, 8, 9, 10]), (3, [0, 3, 5, 6, 7, 8, 9]), (4, [0, 3, 7, 8, 9, 18]), (5, [4]), (6, [0, 3, 7, 8, 9]), (7, [4])], [], []⟩
def ac_z39 : AC := (.seq (.region [.mk none (some 3) (.box 122 (.tmp 1)), .mk none (some 4) (.mv (.const (.bool false)))] (some [0, 3])) (.seq (.seq (.region [.mk none (some 7) (.mv (.tmp 0)), .mk none (some 8) (.len (.tmp 7) false), .mk none (some 9) (.mv (.const (.int .i64 0)))] (some [0, 3, 7, 8, 9])) (.block 0 (.loop (.seq (.region [.mk none (some 10) (.bin .lss (.tmp 9) (.tmp 8))] (some [0, 3, 7, 8, 9, 10])) (.seq (.cond (.tmp 10) .skip (.exit 0)) (.seq (.block 1 (.seq (.region [.mk none (some 11) (.mv (.tmp 9)), .mk none (some 12) (.idxA 1 (.tmp 7) (.tmp 9)), .mk none (some 13) (.load none (.tmp 12)), .mk none (some 6) (.alloc 3 [.pd (.raw (.int .i64 0))]), .mk none (some 5) (.mv (.tmp 11)), .mk none none (.store 1 (.tmp 6) (.tmp 13))] (some [0, 3, 5, 6, 7, 8, 9])) (.seq (.region [.mk none (some 14) (.mv (.tmp 0)), .mk none (some 15) (.mv (.tmp 5)), .mk none (some 16) (.slcL 1 (.tmp 14) none (some (.tmp 15))), .mk none (some 17) (.mkfn 127 [.tmp 3, .tmp 6]), .mk none (some 18) (.call 124 [.tmp 16, .tmp 17])] (some [0, 3, 7, 8, 9, 18])) (.cond (.tmp 18) (.seq (.region [.mk none (some 4) (.mv (.const (.bool true)))] (some [4])) .ret) .skip)))) (.region [.mk none (some 19) (.bin .add (.tmp 9) (.const (.int .i64 1))), .mk none (some 9) (.mv (.tmp 19))] (some [0, 3, 7, 8, 9])))))))) (.seq (.region [.mk none (some 4) (.mv (.const (.bool false)))] (some [4])) .ret)))
theorem ok_z39 : compC Tryz.prog an_z39 (Tryz.f75.body.getD .skip) = some ac_z39 := by kernel_rfl
theorem dst_z39 : ac_z39.dstOK Tryz.f75.ntmps (fun i => decide (i < Tryz.f75.ntmps)) = true := by kernel_rfl

/-- toll/object.every[toll/api.Listener] -/
def an_z40 : Ann := ⟨[(0, [0, 1, 5]), (1, [6])], [], []⟩
def ac_z40 : AC := (.seq (.region [.mk none (some 5) (.box 126 (.tmp 2)), .mk none (some 6) (.mv (.const (.bool false)))] (some [0, 1, 5])) (.seq (.region [.mk none (some 7) (.mv (.tmp 0)), .mk none (some 8) (.len (.tmp 7) false), .mk none (some 9) (.mv (.tmp 1)), .mk none (some 10) (.bin .leq (.tmp 8) (.tmp 9)), .mk none (some 11) (.mv (.tmp 10)), .mk (some (11, true)) (some 12) (.mv (.tmp 0)), .mk (some (11, true)) (some 13) (.mkfn 130 [.tmp 5]), .mk (some (11, true)) (some 14) (.call 129 [.tmp 12, .tmp 13]), .mk (some (11, true)) (some 15) (.un .not (.tmp 14)), .mk none (some 16) (.pick (.tmp 11) (.tmp 15) (.const (.bool false))), .mk none (some 6) (.mv (.tmp 16))] (some [6])) .ret))
theorem ok_z40 : compC Tryz.prog an_z40 (Tryz.f79.body.getD .skip) = some ac_z40 := by kernel_rfl
theorem dst_z40 : ac_z40.dstOK Tryz.f79.ntmps (fun i => decide (i < Tryz.f79.ntmps)) = true := by kernel_rfl

/-- toll/object.twice[toll/api.Listener] -/
def an_z41 : Ann := ⟨[(0, [0, 3]), (1, [0, 3, 7, 8, 9]), (2, [0, 3, 7, 8, 9, 10]), (3, [0, 3, 5, 6, 7, 8, 9]), (4, [0, 3, 7, 8, 9, 18]), (5, [4]), (6, [0, 3, 7, 8, 9]), (7, [4])], [], []⟩
def ac_z41 : AC := (.seq (.region [.mk none (some 3) (.box 123 (.tmp 1)), .mk none (some 4) (.mv (.const (.bool false)))] (some [0, 3])) (.seq (.seq (.region [.mk none (some 7) (.mv (.tmp 0)), .mk none (some 8) (.len (.tmp 7) false), .mk none (some 9) (.mv (.const (.int .i64 0)))] (some [0, 3, 7, 8, 9])) (.block 0 (.loop (.seq (.region [.mk none (some 10) (.bin .lss (.tmp 9) (.tmp 8))] (some [0, 3, 7, 8, 9, 10])) (.seq (.cond (.tmp 10) .skip (.exit 0)) (.seq (.block 1 (.seq (.region [.mk none (some 11) (.mv (.tmp 9)), .mk none (some 12) (.idxA 9 (.tmp 7) (.tmp 9)), .mk none (some 13) (.load (some 9) (.tmp 12)), .mk none (some 6) (.alloc 77 [.pd (.raw (.string ⟨#[]⟩)), .pd (.raw (.int .i64 0)), .pd (.raw (.bool false)), .pd (.raw (.string ⟨#[]⟩)), .pd (.raw (.int .i64 0)), .pd (.raw (.string ⟨#[]⟩)), .pd (.raw (.string ⟨#[]⟩)), .pd (.raw (.int .i64 0)), .nils]), .mk none (some 5) (.mv (.tmp 11)), .mk none none (.store 9 (.tmp 6) (.tmp 13))] (some [0, 3, 5, 6, 7, 8, 9])) (.seq (.region [.mk none (some 14) (.mv (.tmp 0)), .mk none (some 15) (.mv (.tmp 5)), .mk none (some 16) (.slcL 9 (.tmp 14) none (some (.tmp 15))), .mk none (some 17) (.mkfn 133 [.tmp 3, .tmp 6]), .mk none (some 18) (.call 129 [.tmp 16, .tmp 17])] (some [0, 3, 7, 8, 9, 18])) (.cond (.tmp 18) (.seq (.region [.mk none (some 4) (.mv (.const (.bool true)))] (some [4])) .ret) .skip)))) (.region [.mk none (some 19) (.bin .add (.tmp 9) (.const (.int .i64 1))), .mk none (some 9) (.mv (.tmp 19))] (some [0, 3, 7, 8, 9])))))))) (.seq (.region [.mk none (some 4) (.mv (.const (.bool false)))] (some [4])) .ret)))
theorem ok_z41 : compC Tryz.prog an_z41 (Tryz.f81.body.getD .skip) = some ac_z41 := by kernel_rfl
theorem dst_z41 : ac_z41.dstOK Tryz.f81.ntmps (fun i => decide (i < Tryz.f81.ntmps)) = true := by kernel_rfl

/-- toll/object.twice[toll/api.Parent] -/
def an_z42 : Ann := ⟨[(0, [0, 3]), (1, [0, 3, 7, 8, 9]), (2, [0, 3, 7, 8, 9, 10]), (3, [0, 3, 5, 6, 7, 8, 9]), (4, [0, 3, 7, 8, 9, 18]), (5, [4]), (6, [0, 3, 7, 8, 9]), (7, [4])], [], []⟩
def ac_z42 : AC := (.seq (.region [.mk none (some 3) (.box 129 (.tmp 1)), .mk none (some 4) (.mv (.const (.bool false)))] (some [0, 3])) (.seq (.seq (.region [.mk none (some 7) (.mv (.tmp 0)), .mk none (some 8) (.len (.tmp 7) false), .mk none (some 9) (.mv (.const (.int .i64 0)))] (some [0, 3, 7, 8, 9])) (.block 0 (.loop (.seq (.region [.mk none (some 10) (.bin .lss (.tmp 9) (.tmp 8))] (some [0, 3, 7, 8, 9, 10])) (.seq (.cond (.tmp 10) .skip (.exit 0)) (.seq (.block 1 (.seq (.region [.mk none (some 11) (.mv (.tmp 9)), .mk none (some 12) (.idxA 4 (.tmp 7) (.tmp 9)), .mk none (some 13) (.load (some 4) (.tmp 12)), .mk none (some 6) (.alloc 80 [.pd (.raw (.string ⟨#[]⟩)), .pd (.raw (.string ⟨#[]⟩)), .pd (.raw (.string ⟨#[]⟩)), .pd (.raw (.int .i64 0))]), .mk none (some 5) (.mv (.tmp 11)), .mk none none (.store 4 (.tmp 6) (.tmp 13))] (some [0, 3, 5, 6, 7, 8, 9])) (.seq (.region [.mk none (some 14) (.mv (.tmp 0)), .mk none (some 15) (.mv (.tmp 5)), .mk none (some 16) (.slcL 4 (.tmp 14) none (some (.tmp 15))), .mk none (some 17) (.mkfn 135 [.tmp 3, .tmp 6]), .mk none (some 18) (.call 134 [.tmp 16, .tmp 17])] (some [0, 3, 7, 8, 9, 18])) (.cond (.tmp 18) (.seq (.region [.mk none (some 4) (.mv (.const (.bool true)))] (some [4])) .ret) .skip)))) (.region [.mk none (some 19) (.bin .add (.tmp 9) (.const (.int .i64 1))), .mk none (some 9) (.mv (.tmp 19))] (some [0, 3, 7, 8, 9])))))))) (.seq (.region [.mk none (some 4) (.mv (.const (.bool false)))] (some [4])) .ret)))
theorem ok_z42 : compC Tryz.prog an_z42 (Tryz.f82.body.getD .skip) = some ac_z42 := by kernel_rfl
theorem dst_z42 : ac_z42.dstOK Tryz.f82.ntmps (fun i => decide (i < Tryz.f82.ntmps)) = true := by kernel_rfl

/-- toll/object.twice[string] -/
def an_z43 : Ann := ⟨[(0, [0, 3]), (1, [0, 3, 7, 8, 9]), (2, [0, 3, 7, 8, 9, 10]), (3, [0, 3, 5, 6, 7, 8, 9]), (4, [0, 3, 7, 8, 9, 18]), (5, [4]), (6, [0, 3, 7, 8, 9]), (7, [4])], [], []⟩
def ac_z43 : AC := (.seq (.region [.mk none (some 3) (.box 131 (.tmp 1)), .mk none (some 4) (.mv (.const (.bool false)))] (some [0, 3])) (.seq (.seq (.region [.mk none (some 7) (.mv (.tmp 0)), .mk none (some 8) (.len (.tmp 7) false), .mk none (some 9) (.mv (.const (.int .i64 0)))] (some [0, 3, 7, 8, 9])) (.block 0 (.loop (.seq (.region [.mk none (some 10) (.bin .lss (.tmp 9) (.tmp 8))] (some [0, 3, 7, 8, 9, 10])) (.seq (.cond (.tmp 10) .skip (.exit 0)) (.seq (.block 1 (.seq (.region [.mk none (some 11) (.mv (.tmp 9)), .mk none (some 12) (.idxA 1 (.tmp 7) (.tmp 9)), .mk none (some 13) (.load none (.tmp 12)), .mk none (some 6) (.alloc 9 [.pd (.raw (.string ⟨#[]⟩))]), .mk none (some 5) (.mv (.tmp 11)), .mk none none (.store 1 (.tmp 6) (.tmp 13))] (some [0, 3, 5, 6, 7, 8, 9])) (.seq (.region [.mk none (some 14) (.mv (.tmp 0)), .mk none (some 15) (.mv (.tmp 5)), .mk none (some 16) (.slcL 1 (.tmp 14) none (some (.tmp 15))), .mk none (some 17) (.mkfn 137 [.tmp 3, .tmp 6]), .mk none (some 18) (.call 136 [.tmp 16, .tmp 17])] (some [0, 3, 7, 8, 9, 18])) (.cond (.tmp 18) (.seq (.region [.mk none (some 4) (.mv (.const (.bool true)))] (some [4])) .ret) .skip)))) (.region [.mk none (some 19) (.bin .add (.tmp 9) (.const (.int .i64 1))), .mk none (some 9) (.mv (.tmp 19))] (some [0, 3, 7, 8, 9])))))))) (.seq (.region [.mk none (some 4) (.mv (.const (.bool false)))] (some [4])) .ret)))
theorem ok_z43 : compC Tryz.prog an_z43 (Tryz.f84.body.getD .skip) = some ac_z43 := by kernel_rfl
theorem dst_z43 : ac_z43.dstOK Tryz.f84.ntmps (fun i => decide (i < Tryz.f84.ntmps)) = true := by kernel_rfl

/-- toll/object.every[toll/api.Parent] -/
def an_z44 : Ann := ⟨[(0, [0, 1, 5]), (1, [6])], [], []⟩
def ac_z44 : AC := (.seq (.region [.mk none (some 5) (.box 133 (.tmp 2)), .mk none (some 6) (.mv (.const (.bool false)))] (some [0, 1, 5])) (.seq (.region [.mk none (some 7) (.mv (.tmp 0)), .mk none (some 8) (.len (.tmp 7) false), .mk none (some 9) (.mv (.tmp 1)), .mk none (some 10) (.bin .leq (.tmp 8) (.tmp 9)), .mk none (some 11) (.mv (.tmp 10)), .mk (some (11, true)) (some 12) (.mv (.tmp 0)), .mk (some (11, true)) (some 13) (.mkfn 139 [.tmp 5]), .mk (some (11, true)) (some 14) (.call 134 [.tmp 12, .tmp 13]), .mk (some (11, true)) (some 15) (.un .not (.tmp 14)), .mk none (some 16) (.pick (.tmp 11) (.tmp 15) (.const (.bool false))), .mk none (some 6) (.mv (.tmp 16))] (some [6])) .ret))
theorem ok_z44 : compC Tryz.prog an_z44 (Tryz.f88.body.getD .skip) = some ac_z44 := by kernel_rfl
theorem dst_z44 : ac_z44.dstOK Tryz.f88.ntmps (fun i => decide (i < Tryz.f88.ntmps)) = true := by kernel_rfl

/-- toll/object.every[string] -/
def an_z45 : Ann := ⟨[(0, [0, 1, 5]), (1, [6])], [], []⟩
def ac_z45 : AC := (.seq (.region [.mk none (some 5) (.box 124 (.tmp 2)), .mk none (some 6) (.mv (.const (.bool false)))] (some [0, 1, 5])) (.seq (.region [.mk none (some 7) (.mv (.tmp 0)), .mk none (some 8) (.len (.tmp 7) false), .mk none (some 9) (.mv (.tmp 1)), .mk none (some 10) (.bin .leq (.tmp 8) (.tmp 9)), .mk none (some 11) (.mv (.tmp 10)), .mk (some (11, true)) (some 12) (.mv (.tmp 0)), .mk (some (11, true)) (some 13) (.mkfn 140 [.tmp 5]), .mk (some (11, true)) (some 14) (.call 136 [.tmp 12, .tmp 13]), .mk (some (11, true)) (some 15) (.un .not (.tmp 14)), .mk none (some 16) (.pick (.tmp 11) (.tmp 15) (.const (.bool false))), .mk none (some 6) (.mv (.tmp 16))] (some [6])) .ret))
theorem ok_z45 : compC Tryz.prog an_z45 (Tryz.f90.body.getD .skip) = some ac_z45 := by kernel_rfl
theorem dst_z45 : ac_z45.dstOK Tryz.f90.ntmps (fun i => decide (i < Tryz.f90.ntmps)) = true := by kernel_rfl

/-- toll/object.every[toll/api.Rule] -/
def an_z46 : Ann := ⟨[(0, [0, 1, 5]), (1, [6])], [], []⟩
def ac_z46 : AC := (.seq (.region [.mk none (some 5) (.box 136 (.tmp 2)), .mk none (some 6) (.mv (.const (.bool false)))] (some [0, 1, 5])) (.seq (.region [.mk none (some 7) (.mv (.tmp 0)), .mk none (some 8) (.len (.tmp 7) false), .mk none (some 9) (.mv (.tmp 1)), .mk none (some 10) (.bin .leq (.tmp 8) (.tmp 9)), .mk none (some 11) (.mv (.tmp 10)), .mk (some (11, true)) (some 12) (.mv (.tmp 0)), .mk (some (11, true)) (some 13) (.mkfn 142 [.tmp 5]), .mk (some (11, true)) (some 14) (.call 141 [.tmp 12, .tmp 13]), .mk (some (11, true)) (some 15) (.un .not (.tmp 14)), .mk none (some 16) (.pick (.tmp 11) (.tmp 15) (.const (.bool false))), .mk none (some 6) (.mv (.tmp 16))] (some [6])) .ret))
theorem ok_z46 : compC Tryz.prog an_z46 (Tryz.f91.body.getD .skip) = some ac_z46 := by kernel_rfl
theorem dst_z46 : ac_z46.dstOK Tryz.f91.ntmps (fun i => decide (i < Tryz.f91.ntmps)) = true := by kernel_rfl

/-- toll/object.every[toll/api.Side] -/
def an_z47 : Ann := ⟨[(0, [0, 1, 5]), (1, [6])], [], []⟩
def ac_z47 : AC := (.seq (.region [.mk none (some 5) (.box 137 (.tmp 2)), .mk none (some 6) (.mv (.const (.bool false)))] (some [0, 1, 5])) (.seq (.region [.mk none (some 7) (.mv (.tmp 0)), .mk none (some 8) (.len (.tmp 7) false), .mk none (some 9) (.mv (.tmp 1)), .mk none (some 10) (.bin .leq (.tmp 8) (.tmp 9)), .mk none (some 11) (.mv (.tmp 10)), .mk (some (11, true)) (some 12) (.mv (.tmp 0)), .mk (some (11, true)) (some 13) (.mkfn 151 [.tmp 5]), .mk (some (11, true)) (some 14) (.call 122 [.tmp 12, .tmp 13]), .mk (some (11, true)) (some 15) (.un .not (.tmp 14)), .mk none (some 16) (.pick (.tmp 11) (.tmp 15) (.const (.bool false))), .mk none (some 6) (.mv (.tmp 16))] (some [6])) .ret))
theorem ok_z47 : compC Tryz.prog an_z47 (Tryz.f97.body.getD .skip) = some ac_z47 := by kernel_rfl
theorem dst_z47 : ac_z47.dstOK Tryz.f97.ntmps (fun i => decide (i < Tryz.f97.ntmps)) = true := by kernel_rfl

/-- slices.Equal[[]toll/api.Pair,toll/api.Pair] -/
def an_z48 : Ann := ⟨[(0, [0, 1]), (1, [0, 1, 10]), (2, [4]), (3, [0, 1, 12, 13]), (4, [0, 1, 12, 13, 14]), (5, [0, 1, 5, 12, 13]), (6, [0, 1, 12, 13, 24]), (7, [4]), (8, [0, 1, 12, 13]), (9, [4])], [(6, ([0, 0, 3, 7, 0, 0, 48, 112, 255], .take 0 (.take 1 (.take 2 (.take 3 (.take 4 (.take 5 (.take 6 (.take 7 (.take 8 (.done)))))))))))], []⟩
def ac_z48 : AC := (.seq (.region [.mk none (some 4) (.mv (.const (.bool false)))] (some [0, 1])) (.seq (.seq (.region [.mk none (some 6) (.mv (.tmp 0)), .mk none (some 7) (.len (.tmp 6) false), .mk none (some 8) (.mv (.tmp 1)), .mk none (some 9) (.len (.tmp 8) false), .mk none (some 10) (.bin .neq (.tmp 7) (.tmp 9))] (some [0, 1, 10])) (.cond (.tmp 10) (.seq (.region [.mk none (some 4) (.mv (.const (.bool false)))] (some [4])) .ret) .skip)) (.seq (.seq (.region [.mk none (some 11) (.mv (.tmp 0)), .mk none (some 12) (.len (.tmp 11) false), .mk none (some 13) (.mv (.const (.int .i64 0)))] (some [0, 1, 12, 13])) (.block 0 (.loop (.seq (.region [.mk none (some 14) (.bin .lss (.tmp 13) (.tmp 12))] (some [0, 1, 12, 13, 14])) (.seq (.cond (.tmp 14) .skip (.exit 0)) (.seq (.block 1 (.seq (.region [.mk none (some 15) (.mv (.tmp 13)), .mk none (some 5) (.mv (.tmp 15))] (some [0, 1, 5, 12, 13])) (.seq (.draw [.mk none (some 16) (.mv (.tmp 0)), .mk none (some 17) (.mv (.tmp 5)), .mk none (some 18) (.idxA 2 (.tmp 16) (.tmp 17)), .mk none (some 19) (.load (some 2) (.tmp 18)), .mk none (some 20) (.mv (.tmp 1)), .mk none (some 21) (.mv (.tmp 5)), .mk none (some 22) (.idxA 2 (.tmp 20) (.tmp 21)), .mk none (some 23) (.load (some 2) (.tmp 22)), .mk none (some 24) (.eqs true [.str, .str] (.tmp 19) (.tmp 23))] [0, 0, 3, 7, 0, 0, 48, 112, 255] (.take 0 (.take 1 (.take 2 (.take 3 (.take 4 (.take 5 (.take 6 (.take 7 (.take 8 .done))))))))) (some [0, 1, 12, 13, 24])) (.cond (.tmp 24) (.seq (.region [.mk none (some 4) (.mv (.const (.bool false)))] (some [4])) .ret) .skip)))) (.region [.mk none (some 25) (.bin .add (.tmp 13) (.const (.int .i64 1))), .mk none (some 13) (.mv (.tmp 25))] (some [0, 1, 12, 13])))))))) (.seq (.region [.mk none (some 4) (.mv (.const (.bool true)))] (some [4])) .ret))))
theorem ok_z48 : compC Tryz.prog an_z48 (Tryz.f98.body.getD .skip) = some ac_z48 := by kernel_rfl
theorem dst_z48 : ac_z48.dstOK Tryz.f98.ntmps (fun i => decide (i < Tryz.f98.ntmps)) = true := by kernel_rfl

/-- slices.Equal[[]int,int] -/
def an_z49 : Ann := ⟨[(0, [0, 1]), (1, [0, 1, 10]), (2, [4]), (3, [0, 1, 12, 13]), (4, [0, 1, 12, 13, 14]), (5, [0, 1, 5, 12, 13]), (6, [0, 1, 12, 13, 24]), (7, [4]), (8, [0, 1, 12, 13]), (9, [4])], [(6, ([0, 0, 3, 7, 0, 0, 48, 112, 255], .take 0 (.take 1 (.take 2 (.take 3 (.take 4 (.take 5 (.take 6 (.take 7 (.take 8 (.done)))))))))))], []⟩
def ac_z49 : AC := (.seq (.region [.mk none (some 4) (.mv (.const (.bool false)))] (some [0, 1])) (.seq (.seq (.region [.mk none (some 6) (.mv (.tmp 0)), .mk none (some 7) (.len (.tmp 6) false), .mk none (some 8) (.mv (.tmp 1)), .mk none (some 9) (.len (.tmp 8) false), .mk none (some 10) (.bin .neq (.tmp 7) (.tmp 9))] (some [0, 1, 10])) (.cond (.tmp 10) (.seq (.region [.mk none (some 4) (.mv (.const (.bool false)))] (some [4])) .ret) .skip)) (.seq (.seq (.region [.mk none (some 11) (.mv (.tmp 0)), .mk none (some 12) (.len (.tmp 11) false), .mk none (some 13) (.mv (.const (.int .i64 0)))] (some [0, 1, 12, 13])) (.block 0 (.loop (.seq (.region [.mk none (some 14) (.bin .lss (.tmp 13) (.tmp 12))] (some [0, 1, 12, 13, 14])) (.seq (.cond (.tmp 14) .skip (.exit 0)) (.seq (.block 1 (.seq (.region [.mk none (some 15) (.mv (.tmp 13)), .mk none (some 5) (.mv (.tmp 15))] (some [0, 1, 5, 12, 13])) (.seq (.draw [.mk none (some 16) (.mv (.tmp 0)), .mk none (some 17) (.mv (.tmp 5)), .mk none (some 18) (.idxA 1 (.tmp 16) (.tmp 17)), .mk none (some 19) (.load none (.tmp 18)), .mk none (some 20) (.mv (.tmp 1)), .mk none (some 21) (.mv (.tmp 5)), .mk none (some 22) (.idxA 1 (.tmp 20) (.tmp 21)), .mk none (some 23) (.load none (.tmp 22)), .mk none (some 24) (.bin .neq (.tmp 19) (.tmp 23))] [0, 0, 3, 7, 0, 0, 48, 112, 255] (.take 0 (.take 1 (.take 2 (.take 3 (.take 4 (.take 5 (.take 6 (.take 7 (.take 8 .done))))))))) (some [0, 1, 12, 13, 24])) (.cond (.tmp 24) (.seq (.region [.mk none (some 4) (.mv (.const (.bool false)))] (some [4])) .ret) .skip)))) (.region [.mk none (some 25) (.bin .add (.tmp 13) (.const (.int .i64 1))), .mk none (some 13) (.mv (.tmp 25))] (some [0, 1, 12, 13])))))))) (.seq (.region [.mk none (some 4) (.mv (.const (.bool true)))] (some [4])) .ret))))
theorem ok_z49 : compC Tryz.prog an_z49 (Tryz.f99.body.getD .skip) = some ac_z49 := by kernel_rfl
theorem dst_z49 : ac_z49.dstOK Tryz.f99.ntmps (fun i => decide (i < Tryz.f99.ntmps)) = true := by kernel_rfl

/-- slices.Equal[[]string,string] -/
def an_z50 : Ann := ⟨[(0, [0, 1]), (1, [0, 1, 10]), (2, [4]), (3, [0, 1, 12, 13]), (4, [0, 1, 12, 13, 14]), (5, [0, 1, 5, 12, 13]), (6, [0, 1, 12, 13, 24]), (7, [4]), (8, [0, 1, 12, 13]), (9, [4])], [(6, ([0, 0, 3, 7, 0, 0, 48, 112, 255], .take 0 (.take 1 (.take 2 (.take 3 (.take 4 (.take 5 (.take 6 (.take 7 (.take 8 (.done)))))))))))], []⟩
def ac_z50 : AC := (.seq (.region [.mk none (some 4) (.mv (.const (.bool false)))] (some [0, 1])) (.seq (.seq (.region [.mk none (some 6) (.mv (.tmp 0)), .mk none (some 7) (.len (.tmp 6) false), .mk none (some 8) (.mv (.tmp 1)), .mk none (some 9) (.len (.tmp 8) false), .mk none (some 10) (.bin .neq (.tmp 7) (.tmp 9))] (some [0, 1, 10])) (.cond (.tmp 10) (.seq (.region [.mk none (some 4) (.mv (.const (.bool false)))] (some [4])) .ret) .skip)) (.seq (.seq (.region [.mk none (some 11) (.mv (.tmp 0)), .mk none (some 12) (.len (.tmp 11) false), .mk none (some 13) (.mv (.const (.int .i64 0)))] (some [0, 1, 12, 13])) (.block 0 (.loop (.seq (.region [.mk none (some 14) (.bin .lss (.tmp 13) (.tmp 12))] (some [0, 1, 12, 13, 14])) (.seq (.cond (.tmp 14) .skip (.exit 0)) (.seq (.block 1 (.seq (.region [.mk none (some 15) (.mv (.tmp 13)), .mk none (some 5) (.mv (.tmp 15))] (some [0, 1, 5, 12, 13])) (.seq (.draw [.mk none (some 16) (.mv (.tmp 0)), .mk none (some 17) (.mv (.tmp 5)), .mk none (some 18) (.idxA 1 (.tmp 16) (.tmp 17)), .mk none (some 19) (.load none (.tmp 18)), .mk none (some 20) (.mv (.tmp 1)), .mk none (some 21) (.mv (.tmp 5)), .mk none (some 22) (.idxA 1 (.tmp 20) (.tmp 21)), .mk none (some 23) (.load none (.tmp 22)), .mk none (some 24) (.bin .neq (.tmp 19) (.tmp 23))] [0, 0, 3, 7, 0, 0, 48, 112, 255] (.take 0 (.take 1 (.take 2 (.take 3 (.take 4 (.take 5 (.take 6 (.take 7 (.take 8 .done))))))))) (some [0, 1, 12, 13, 24])) (.cond (.tmp 24) (.seq (.region [.mk none (some 4) (.mv (.const (.bool false)))] (some [4])) .ret) .skip)))) (.region [.mk none (some 25) (.bin .add (.tmp 13) (.const (.int .i64 1))), .mk none (some 13) (.mv (.tmp 25))] (some [0, 1, 12, 13])))))))) (.seq (.region [.mk none (some 4) (.mv (.const (.bool true)))] (some [4])) .ret))))
theorem ok_z50 : compC Tryz.prog an_z50 (Tryz.f100.body.getD .skip) = some ac_z50 := by kernel_rfl
theorem dst_z50 : ac_z50.dstOK Tryz.f100.ntmps (fun i => decide (i < Tryz.f100.ntmps)) = true := by kernel_rfl

/-- slices.Equal[[]toll/api.Parent,toll/api.Parent] -/
def an_z51 : Ann := ⟨[(0, [0, 1]), (1, [0, 1, 10]), (2, [4]), (3, [0, 1, 12, 13]), (4, [0, 1, 12, 13, 14]), (5, [0, 1, 5, 12, 13]), (6, [0, 1, 12, 13, 24]), (7, [4]), (8, [0, 1, 12, 13]), (9, [4])], [(6, ([0, 0, 3, 7, 0, 0, 48, 112, 255], .take 0 (.take 1 (.take 2 (.take 3 (.take 4 (.take 5 (.take 6 (.take 7 (.take 8 (.done)))))))))))], []⟩
def ac_z51 : AC := (.seq (.region [.mk none (some 4) (.mv (.const (.bool false)))] (some [0, 1])) (.seq (.seq (.region [.mk none (some 6) (.mv (.tmp 0)), .mk none (some 7) (.len (.tmp 6) false), .mk none (some 8) (.mv (.tmp 1)), .mk none (some 9) (.len (.tmp 8) false), .mk none (some 10) (.bin .neq (.tmp 7) (.tmp 9))] (some [0, 1, 10])) (.cond (.tmp 10) (.seq (.region [.mk none (some 4) (.mv (.const (.bool false)))] (some [4])) .ret) .skip)) (.seq (.seq (.region [.mk none (some 11) (.mv (.tmp 0)), .mk none (some 12) (.len (.tmp 11) false), .mk none (some 13) (.mv (.const (.int .i64 0)))] (some [0, 1, 12, 13])) (.block 0 (.loop (.seq (.region [.mk none (some 14) (.bin .lss (.tmp 13) (.tmp 12))] (some [0, 1, 12, 13, 14])) (.seq (.cond (.tmp 14) .skip (.exit 0)) (.seq (.block 1 (.seq (.region [.mk none (some 15) (.mv (.tmp 13)), .mk none (some 5) (.mv (.tmp 15))] (some [0, 1, 5, 12, 13])) (.seq (.draw [.mk none (some 16) (.mv (.tmp 0)), .mk none (some 17) (.mv (.tmp 5)), .mk none (some 18) (.idxA 4 (.tmp 16) (.tmp 17)), .mk none (some 19) (.load (some 4) (.tmp 18)), .mk none (some 20) (.mv (.tmp 1)), .mk none (some 21) (.mv (.tmp 5)), .mk none (some 22) (.idxA 4 (.tmp 20) (.tmp 21)), .mk none (some 23) (.load (some 4) (.tmp 22)), .mk none (some 24) (.eqs true [.str, .str, .str, .int] (.tmp 19) (.tmp 23))] [0, 0, 3, 7, 0, 0, 48, 112, 255] (.take 0 (.take 1 (.take 2 (.take 3 (.take 4 (.take 5 (.take 6 (.take 7 (.take 8 .done))))))))) (some [0, 1, 12, 13, 24])) (.cond (.tmp 24) (.seq (.region [.mk none (some 4) (.mv (.const (.bool false)))] (some [4])) .ret) .skip)))) (.region [.mk none (some 25) (.bin .add (.tmp 13) (.const (.int .i64 1))), .mk none (some 13) (.mv (.tmp 25))] (some [0, 1, 12, 13])))))))) (.seq (.region [.mk none (some 4) (.mv (.const (.bool true)))] (some [4])) .ret))))
theorem ok_z51 : compC Tryz.prog an_z51 (Tryz.f101.body.getD .skip) = some ac_z51 := by kernel_rfl
theorem dst_z51 : ac_z51.dstOK Tryz.f101.ntmps (fun i => decide (i < Tryz.f101.ntmps)) = true := by kernel_rfl

/-- slices.Equal[[]toll/api.Side,toll/api.Side] -/
def an_z52 : Ann := ⟨[(0, [0, 1]), (1, [0, 1, 10]), (2, [4]), (3, [0, 1, 12, 13]), (4, [0, 1, 12, 13, 14]), (5, [0, 1, 5, 12, 13]), (6, [0, 1, 12, 13, 24]), (7, [4]), (8, [0, 1, 12, 13]), (9, [4])], [(6, ([0, 0, 3, 7, 0, 0, 48, 112, 255], .take 0 (.take 1 (.take 2 (.take 3 (.take 4 (.take 5 (.take 6 (.take 7 (.take 8 (.done)))))))))))], []⟩
def ac_z52 : AC := (.seq (.region [.mk none (some 4) (.mv (.const (.bool false)))] (some [0, 1])) (.seq (.seq (.region [.mk none (some 6) (.mv (.tmp 0)), .mk none (some 7) (.len (.tmp 6) false), .mk none (some 8) (.mv (.tmp 1)), .mk none (some 9) (.len (.tmp 8) false), .mk none (some 10) (.bin .neq (.tmp 7) (.tmp 9))] (some [0, 1, 10])) (.cond (.tmp 10) (.seq (.region [.mk none (some 4) (.mv (.const (.bool false)))] (some [4])) .ret) .skip)) (.seq (.seq (.region [.mk none (some 11) (.mv (.tmp 0)), .mk none (some 12) (.len (.tmp 11) false), .mk none (some 13) (.mv (.const (.int .i64 0)))] (some [0, 1, 12, 13])) (.block 0 (.loop (.seq (.region [.mk none (some 14) (.bin .lss (.tmp 13) (.tmp 12))] (some [0, 1, 12, 13, 14])) (.seq (.cond (.tmp 14) .skip (.exit 0)) (.seq (.block 1 (.seq (.region [.mk none (some 15) (.mv (.tmp 13)), .mk none (some 5) (.mv (.tmp 15))] (some [0, 1, 5, 12, 13])) (.seq (.draw [.mk none (some 16) (.mv (.tmp 0)), .mk none (some 17) (.mv (.tmp 5)), .mk none (some 18) (.idxA 3 (.tmp 16) (.tmp 17)), .mk none (some 19) (.load (some 3) (.tmp 18)), .mk none (some 20) (.mv (.tmp 1)), .mk none (some 21) (.mv (.tmp 5)), .mk none (some 22) (.idxA 3 (.tmp 20) (.tmp 21)), .mk none (some 23) (.load (some 3) (.tmp 22)), .mk none (some 24) (.eqs true [.int, .str, .str] (.tmp 19) (.tmp 23))] [0, 0, 3, 7, 0, 0, 48, 112, 255] (.take 0 (.take 1 (.take 2 (.take 3 (.take 4 (.take 5 (.take 6 (.take 7 (.take 8 .done))))))))) (some [0, 1, 12, 13, 24])) (.cond (.tmp 24) (.seq (.region [.mk none (some 4) (.mv (.const (.bool false)))] (some [4])) .ret) .skip)))) (.region [.mk none (some 25) (.bin .add (.tmp 13) (.const (.int .i64 1))), .mk none (some 13) (.mv (.tmp 25))] (some [0, 1, 12, 13])))))))) (.seq (.region [.mk none (some 4) (.mv (.const (.bool true)))] (some [4])) .ret))))
theorem ok_z52 : compC Tryz.prog an_z52 (Tryz.f102.body.getD .skip) = some ac_z52 := by kernel_rfl
theorem dst_z52 : ac_z52.dstOK Tryz.f102.ntmps (fun i => decide (i < Tryz.f102.ntmps)) = true := by kernel_rfl

/-- slices.EqualFunc[[]toll/api.Listener,[]toll/api.Listener,toll/api.Listener,toll/api.Listener] -/
def an_z53 : Ann := ⟨[(0, [0, 1, 2]), (1, [0, 1, 2, 14]), (2, [6]), (3, [1, 2, 15, 16, 17]), (4, [1, 2, 15, 16, 17, 18]), (5, [1, 2, 7, 8, 15, 16, 17]), (6, [1, 2, 8, 9, 15, 16, 17]), (7, [1, 2, 15, 16, 17, 30]), (8, [6]), (9, [1, 2, 15, 16, 17]), (10, [6])], [], []⟩
def ac_z53 : AC := (.seq (.region [.mk none (some 6) (.mv (.const (.bool false)))] (some [0, 1, 2])) (.seq (.seq (.region [.mk none (some 10) (.mv (.tmp 0)), .mk none (some 11) (.len (.tmp 10) false), .mk none (some 12) (.mv (.tmp 1)), .mk none (some 13) (.len (.tmp 12) false), .mk none (some 14) (.bin .neq (.tmp 11) (.tmp 13))] (some [0, 1, 2, 14])) (.cond (.tmp 14) (.seq (.region [.mk none (some 6) (.mv (.const (.bool false)))] (some [6])) .ret) .skip)) (.seq (.seq (.region [.mk none (some 15) (.mv (.tmp 0)), .mk none (some 16) (.len (.tmp 15) false), .mk none (some 17) (.mv (.const (.int .i64 0)))] (some [1, 2, 15, 16, 17])) (.block 0 (.loop (.seq (.region [.mk none (some 18) (.bin .lss (.tmp 17) (.tmp 16))] (some [1, 2, 15, 16, 17, 18])) (.seq (.cond (.tmp 18) .skip (.exit 0)) (.seq (.block 1 (.seq (.region [.mk none (some 19) (.mv (.tmp 17)), .mk none (some 20) (.idxA 9 (.tmp 15) (.tmp 17)), .mk none (some 21) (.load (some 9) (.tmp 20)), .mk none (some 8) (.alloc 77 [.pd (.raw (.string ⟨#[]⟩)), .pd (.raw (.int .i64 0)), .pd (.raw (.bool false)), .pd (.raw (.string ⟨#[]⟩)), .pd (.raw (.int .i64 0)), .pd (.raw (.string ⟨#[]⟩)), .pd (.raw (.string ⟨#[]⟩)), .pd (.raw (.int .i64 0)), .nils]), .mk none (some 7) (.mv (.tmp 19)), .mk none none (.store 9 (.tmp 8) (.tmp 21))] (some [1, 2, 7, 8, 15, 16, 17])) (.seq (.region [.mk none (some 22) (.mv (.tmp 1)), .mk none (some 23) (.mv (.tmp 7)), .mk none (some 24) (.idxA 9 (.tmp 22) (.tmp 23)), .mk none (some 25) (.load (some 9) (.tmp 24)), .mk none (some 9) (.alloc 77 [.pd (.raw (.string ⟨#[]⟩)), .pd (.raw (.int .i64 0)), .pd (.raw (.bool false)), .pd (.raw (.string ⟨#[]⟩)), .pd (.raw (.int .i64 0)), .pd (.raw (.string ⟨#[]⟩)), .pd (.raw (.string ⟨#[]⟩)), .pd (.raw (.int .i64 0)), .nils]), .mk none none (.store 9 (.tmp 9) (.tmp 25))] (some [1, 2, 8, 9, 15, 16, 17])) (.seq (.region [.mk none (some 26) (.mv (.tmp 2)), .mk none (some 27) (.load (some 9) (.tmp 8)), .mk none (some 28) (.load (some 9) (.tmp 9)), .mk none (some 29) (.callv (.tmp 26) [.tmp 27, .tmp 28]), .mk none (some 30) (.un .not (.tmp 29))] (some [1, 2, 15, 16, 17, 30])) (.cond (.tmp 30) (.seq (.region [.mk none (some 6) (.mv (.const (.bool false)))] (some [6])) .ret) .skip))))) (.region [.mk none (some 31) (.bin .add (.tmp 17) (.const (.int .i64 1))), .mk none (some 17) (.mv (.tmp 31))] (some [1, 2, 15, 16, 17])))))))) (.seq (.region [.mk none (some 6) (.mv (.const (.bool true)))] (some [6])) .ret))))
theorem ok_z53 : compC Tryz.prog an_z53 (Tryz.f103.body.getD .skip) = some ac_z53 := by kernel_rfl
theorem dst_z53 : ac_z53.dstOK Tryz.f103.ntmps (fun i => decide (i < Tryz.f103.ntmps)) = true := by kernel_rfl

/-- slices.EqualFunc[[]toll/api.Rule,[]toll/api.Rule,toll/api.Rule,toll/api.Rule] -/
def an_z54 : Ann := ⟨[(0, [0, 1, 2]), (1, [0, 1, 2, 14]), (2, [6]), (3, [1, 2, 15, 16, 17]), (4, [1, 2, 15, 16, 17, 18]), (5, [1, 2, 7, 8, 15, 16, 17]), (6, [1, 2, 8, 9, 15, 16, 17]), (7, [1, 2, 15, 16, 17, 30]), (8, [6]), (9, [1, 2, 15, 16, 17]), (10, [6])], [], []⟩
def ac_z54 : AC := (.seq (.region [.mk none (some 6) (.mv (.const (.bool false)))] (some [0, 1, 2])) (.seq (.seq (.region [.mk none (some 10) (.mv (.tmp 0)), .mk none (some 11) (.len (.tmp 10) false), .mk none (some 12) (.mv (.tmp 1)), .mk none (some 13) (.len (.tmp 12) false), .mk none (some 14) (.bin .neq (.tmp 11) (.tmp 13))] (some [0, 1, 2, 14])) (.cond (.tmp 14) (.seq (.region [.mk none (some 6) (.mv (.const (.bool false)))] (some [6])) .ret) .skip)) (.seq (.seq (.region [.mk none (some 15) (.mv (.tmp 0)), .mk none (some 16) (.len (.tmp 15) false), .mk none (some 17) (.mv (.const (.int .i64 0)))] (some [1, 2, 15, 16, 17])) (.block 0 (.loop (.seq (.region [.mk none (some 18) (.bin .lss (.tmp 17) (.tmp 16))] (some [1, 2, 15, 16, 17, 18])) (.seq (.cond (.tmp 18) .skip (.exit 0)) (.seq (.block 1 (.seq (.region [.mk none (some 19) (.mv (.tmp 17)), .mk none (some 20) (.idxA 3 (.tmp 15) (.tmp 17)), .mk none (some 21) (.load (some 3) (.tmp 20)), .mk none (some 8) (.alloc 66 [.nils, .nils, .nils]), .mk none (some 7) (.mv (.tmp 19)), .mk none none (.store 3 (.tmp 8) (.tmp 21))] (some [1, 2, 7, 8, 15, 16, 17])) (.seq (.region [.mk none (some 22) (.mv (.tmp 1)), .mk none (some 23) (.mv (.tmp 7)), .mk none (some 24) (.idxA 3 (.tmp 22) (.tmp 23)), .mk none (some 25) (.load (some 3) (.tmp 24)), .mk none (some 9) (.alloc 66 [.nils, .nils, .nils]), .mk none none (.store 3 (.tmp 9) (.tmp 25))] (some [1, 2, 8, 9, 15, 16, 17])) (.seq (.region [.mk none (some 26) (.mv (.tmp 2)), .mk none (some 27) (.load (some 3) (.tmp 8)), .mk none (some 28) (.load (some 3) (.tmp 9)), .mk none (some 29) (.callv (.tmp 26) [.tmp 27, .tmp 28]), .mk none (some 30) (.un .not (.tmp 29))] (some [1, 2, 15, 16, 17, 30])) (.cond (.tmp 30) (.seq (.region [.mk none (some 6) (.mv (.const (.bool false)))] (some [6])) .ret) .skip))))) (.region [.mk none (some 31) (.bin .add (.tmp 17) (.const (.int .i64 1))), .mk none (some 17) (.mv (.tmp 31))] (some [1, 2, 15, 16, 17])))))))) (.seq (.region [.mk none (some 6) (.mv (.const (.bool true)))] (some [6])) .ret))))
theorem ok_z54 : compC Tryz.prog an_z54 (Tryz.f105.body.getD .skip) = some ac_z54 := by kernel_rfl
theorem dst_z54 : ac_z54.dstOK Tryz.f105.ntmps (fun i => decide (i < Tryz.f105.ntmps)) = true := by kernel_rfl

/-- slices.ContainsFunc[[]toll/api.Side,toll/api.Side] -/
def an_z55 : Ann := ⟨[(0, [0, 1]), (1, [4])], [], []⟩
def ac_z55 : AC := (.seq (.region [.mk none (some 4) (.mv (.const (.bool false)))] (some [0, 1])) (.seq (.region [.mk none (some 5) (.mv (.tmp 0)), .mk none (some 6) (.mv (.tmp 1)), .mk none (some 7) (.call 163 [.tmp 5, .tmp 6]), .mk none (some 8) (.bin .geq (.tmp 7) (.const (.int .i64 0))), .mk none (some 4) (.mv (.tmp 8))] (some [4])) .ret))
theorem ok_z55 : compC Tryz.prog an_z55 (Tryz.f122.body.getD .skip) = some ac_z55 := by kernel_rfl
theorem dst_z55 : ac_z55.dstOK Tryz.f122.ntmps (fun i => decide (i < Tryz.f122.ntmps)) = true := by kernel_rfl

/-- slices.ContainsFunc[[]int,int] -/
def an_z56 : Ann := ⟨[(0, [0, 1]), (1, [4])], [], []⟩
def ac_z56 : AC := (.seq (.region [.mk none (some 4) (.mv (.const (.bool false)))] (some [0, 1])) (.seq (.region [.mk none (some 5) (.mv (.tmp 0)), .mk none (some 6) (.mv (.tmp 1)), .mk none (some 7) (.call 164 [.tmp 5, .tmp 6]), .mk none (some 8) (.bin .geq (.tmp 7) (.const (.int .i64 0))), .mk none (some 4) (.mv (.tmp 8))] (some [4])) .ret))
theorem ok_z56 : compC Tryz.prog an_z56 (Tryz.f124.body.getD .skip) = some ac_z56 := by kernel_rfl
theorem dst_z56 : ac_z56.dstOK Tryz.f124.ntmps (fun i => decide (i < Tryz.f124.ntmps)) = true := by kernel_rfl

/-- toll/object.every[int]$1 -/
def an_z57 : Ann := ⟨[(0, [0, 1]), (1, [3])], [], []⟩
def ac_z57 : AC := (.seq (.region [.mk none (some 3) (.mv (.const (.bool false)))] (some [0, 1])) (.seq (.region [.mk none (some 4) (.load none (.tmp 1)), .mk none (some 5) (.mv (.tmp 0)), .mk none (some 6) (.callv (.tmp 4) [.tmp 5]), .mk none (some 7) (.un .not (.tmp 6)), .mk none (some 3) (.mv (.tmp 7))] (some [3])) .ret))
theorem ok_z57 : compC Tryz.prog an_z57 (Tryz.f125.body.getD .skip) = some ac_z57 := by kernel_rfl
theorem dst_z57 : ac_z57.dstOK Tryz.f125.ntmps (fun i => decide (i < Tryz.f125.ntmps)) = true := by kernel_rfl

/-- toll/object.twice[int]$1 -/
def an_z58 : Ann := ⟨[(0, [0, 1, 2]), (1, [4])], [], []⟩
def ac_z58 : AC := (.seq (.region [.mk none (some 4) (.mv (.const (.bool false)))] (some [0, 1, 2])) (.seq (.region [.mk none (some 5) (.load none (.tmp 1)), .mk none (some 6) (.load none (.tmp 2)), .mk none (some 7) (.mv (.tmp 0)), .mk none (some 8) (.callv (.tmp 5) [.tmp 6, .tmp 7]), .mk none (some 4) (.mv (.tmp 8))] (some [4])) .ret))
theorem ok_z58 : compC Tryz.prog an_z58 (Tryz.f127.body.getD .skip) = some ac_z58 := by kernel_rfl
theorem dst_z58 : ac_z58.dstOK Tryz.f127.ntmps (fun i => decide (i < Tryz.f127.ntmps)) = true := by kernel_rfl

/-- slices.ContainsFunc[[]toll/api.Listener,toll/api.Listener] -/
def an_z59 : Ann := ⟨[(0, [0, 1]), (1, [4])], [], []⟩
def ac_z59 : AC := (.seq (.region [.mk none (some 4) (.mv (.const (.bool false)))] (some [0, 1])) (.seq (.region [.mk none (some 5) (.mv (.tmp 0)), .mk none (some 6) (.mv (.tmp 1)), .mk none (some 7) (.call 167 [.tmp 5, .tmp 6]), .mk none (some 8) (.bin .geq (.tmp 7) (.const (.int .i64 0))), .mk none (some 4) (.mv (.tmp 8))] (some [4])) .ret))
theorem ok_z59 : compC Tryz.prog an_z59 (Tryz.f129.body.getD .skip) = some ac_z59 := by kernel_rfl
theorem dst_z59 : ac_z59.dstOK Tryz.f129.ntmps (fun i => decide (i < Tryz.f129.ntmps)) = true := by kernel_rfl

/-- toll/object.every[toll/api.Listener]$1 -/
def an_z60 : Ann := ⟨[(0, [1, 2]), (1, [3])], [], []⟩
def ac_z60 : AC := (.seq (.region [.mk none (some 2) (.box 77 (.tmp 0)), .mk none (some 3) (.mv (.const (.bool false)))] (some [1, 2])) (.seq (.region [.mk none (some 4) (.load none (.tmp 1)), .mk none (some 5) (.load (some 9) (.tmp 2)), .mk none (some 6) (.callv (.tmp 4) [.tmp 5]), .mk none (some 7) (.un .not (.tmp 6)), .mk none (some 3) (.mv (.tmp 7))] (some [3])) .ret))
theorem ok_z60 : compC Tryz.prog an_z60 (Tryz.f130.body.getD .skip) = some ac_z60 := by kernel_rfl
theorem dst_z60 : ac_z60.dstOK Tryz.f130.ntmps (fun i => decide (i < Tryz.f130.ntmps)) = true := by kernel_rfl

/-- toll/object.twice[toll/api.Listener]$1 -/
def an_z61 : Ann := ⟨[(0, [1, 2, 3]), (1, [4])], [], []⟩
def ac_z61 : AC := (.seq (.region [.mk none (some 3) (.box 77 (.tmp 0)), .mk none (some 4) (.mv (.const (.bool false)))] (some [1, 2, 3])) (.seq (.region [.mk none (some 5) (.load none (.tmp 1)), .mk none (some 6) (.load (some 9) (.tmp 2)), .mk none (some 7) (.load (some 9) (.tmp 3)), .mk none (some 8) (.callv (.tmp 5) [.tmp 6, .tmp 7]), .mk none (some 4) (.mv (.tmp 8))] (some [4])) .ret))
theorem ok_z61 : compC Tryz.prog an_z61 (Tryz.f133.body.getD .skip) = some ac_z61 := by kernel_rfl
theorem dst_z61 : ac_z61.dstOK Tryz.f133.ntmps (fun i => decide (i < Tryz.f133.ntmps)) = true := by kernel_rfl

/-- slices.ContainsFunc[[]toll/api.Parent,toll/api.Parent] -/
def an_z62 : Ann := ⟨[(0, [0, 1]), (1, [4])], [], []⟩
def ac_z62 : AC := (.seq (.region [.mk none (some 4) (.mv (.const (.bool false)))] (some [0, 1])) (.seq (.region [.mk none (some 5) (.mv (.tmp 0)), .mk none (some 6) (.mv (.tmp 1)), .mk none (some 7) (.call 171 [.tmp 5, .tmp 6]), .mk none (some 8) (.bin .geq (.tmp 7) (.const (.int .i64 0))), .mk none (some 4) (.mv (.tmp 8))] (some [4])) .ret))
theorem ok_z62 : compC Tryz.prog an_z62 (Tryz.f134.body.getD .skip) = some ac_z62 := by kernel_rfl
theorem dst_z62 : ac_z62.dstOK Tryz.f134.ntmps (fun i => decide (i < Tryz.f134.ntmps)) = true := by kernel_rfl

/-- toll/object.twice[toll/api.Parent]$1 -/
def an_z63 : Ann := ⟨[(0, [1, 2, 3]), (1, [4])], [], []⟩
def ac_z63 : AC := (.seq (.region [.mk none (some 3) (.box 80 (.tmp 0)), .mk none (some 4) (.mv (.const (.bool false)))] (some [1, 2, 3])) (.seq (.region [.mk none (some 5) (.load none (.tmp 1)), .mk none (some 6) (.load (some 4) (.tmp 2)), .mk none (some 7) (.load (some 4) (.tmp 3)), .mk none (some 8) (.callv (.tmp 5) [.tmp 6, .tmp 7]), .mk none (some 4) (.mv (.tmp 8))] (some [4])) .ret))
theorem ok_z63 : compC Tryz.prog an_z63 (Tryz.f135.body.getD .skip) = some ac_z63 := by kernel_rfl
theorem dst_z63 : ac_z63.dstOK Tryz.f135.ntmps (fun i => decide (i < Tryz.f135.ntmps)) = true := by kernel_rfl

/-- slices.ContainsFunc[[]string,string] -/
def an_z64 : Ann := ⟨[(0, [0, 1]), (1, [4])], [], []⟩
def ac_z64 : AC := (.seq (.region [.mk none (some 4) (.mv (.const (.bool false)))] (some [0, 1])) (.seq (.region [.mk none (some 5) (.mv (.tmp 0)), .mk none (some 6) (.mv (.tmp 1)), .mk none (some 7) (.call 172 [.tmp 5, .tmp 6]), .mk none (some 8) (.bin .geq (.tmp 7) (.const (.int .i64 0))), .mk none (some 4) (.mv (.tmp 8))] (some [4])) .ret))
theorem ok_z64 : compC Tryz.prog an_z64 (Tryz.f136.body.getD .skip) = some ac_z64 := by kernel_rfl
theorem dst_z64 : ac_z64.dstOK Tryz.f136.ntmps (fun i => decide (i < Tryz.f136.ntmps)) = true := by kernel_rfl

/-- toll/object.twice[string]$1 -/
def an_z65 : Ann := ⟨[(0, [0, 1, 2]), (1, [4])], [], []⟩
def ac_z65 : AC := (.seq (.region [.mk none (some 4) (.mv (.const (.bool false)))] (some [0, 1, 2])) (.seq (.region [.mk none (some 5) (.load none (.tmp 1)), .mk none (some 6) (.load none (.tmp 2)), .mk none (some 7) (.mv (.tmp 0)), .mk none (some 8) (.callv (.tmp 5) [.tmp 6, .tmp 7]), .mk none (some 4) (.mv (.tmp 8))] (some [4])) .ret))
theorem ok_z65 : compC Tryz.prog an_z65 (Tryz.f137.body.getD .skip) = some ac_z65 := by kernel_rfl
theorem dst_z65 : ac_z65.dstOK Tryz.f137.ntmps (fun i => decide (i < Tryz.f137.ntmps)) = true := by kernel_rfl

/-- toll/object.every[toll/api.Parent]$1 -/
def an_z66 : Ann := ⟨[(0, [1, 2]), (1, [3])], [], []⟩
def ac_z66 : AC := (.seq (.region [.mk none (some 2) (.box 80 (.tmp 0)), .mk none (some 3) (.mv (.const (.bool false)))] (some [1, 2])) (.seq (.region [.mk none (some 4) (.load none (.tmp 1)), .mk none (some 5) (.load (some 4) (.tmp 2)), .mk none (some 6) (.callv (.tmp 4) [.tmp 5]), .mk none (some 7) (.un .not (.tmp 6)), .mk none (some 3) (.mv (.tmp 7))] (some [3])) .ret))
theorem ok_z66 : compC Tryz.prog an_z66 (Tryz.f139.body.getD .skip) = some ac_z66 := by kernel_rfl
theorem dst_z66 : ac_z66.dstOK Tryz.f139.ntmps (fun i => decide (i < Tryz.f139.ntmps)) = true := by kernel_rfl

/-- toll/object.every[string]$1 -/
def an_z67 : Ann := ⟨[(0, [0, 1]), (1, [3])], [], []⟩
def ac_z67 : AC := (.seq (.region [.mk none (some 3) (.mv (.const (.bool false)))] (some [0, 1])) (.seq (.region [.mk none (some 4) (.load none (.tmp 1)), .mk none (some 5) (.mv (.tmp 0)), .mk none (some 6) (.callv (.tmp 4) [.tmp 5]), .mk none (some 7) (.un .not (.tmp 6)), .mk none (some 3) (.mv (.tmp 7))] (some [3])) .ret))
theorem ok_z67 : compC Tryz.prog an_z67 (Tryz.f140.body.getD .skip) = some ac_z67 := by kernel_rfl
theorem dst_z67 : ac_z67.dstOK Tryz.f140.ntmps (fun i => decide (i < Tryz.f140.ntmps)) = true := by kernel_rfl

/-- slices.ContainsFunc[[]toll/api.Rule,toll/api.Rule] -/
def an_z68 : Ann := ⟨[(0, [0, 1]), (1, [4])], [], []⟩
def ac_z68 : AC := (.seq (.region [.mk none (some 4) (.mv (.const (.bool false)))] (some [0, 1])) (.seq (.region [.mk none (some 5) (.mv (.tmp 0)), .mk none (some 6) (.mv (.tmp 1)), .mk none (some 7) (.call 174 [.tmp 5, .tmp 6]), .mk none (some 8) (.bin .geq (.tmp 7) (.const (.int .i64 0))), .mk none (some 4) (.mv (.tmp 8))] (some [4])) .ret))
theorem ok_z68 : compC Tryz.prog an_z68 (Tryz.f141.body.getD .skip) = some ac_z68 := by kernel_rfl
theorem dst_z68 : ac_z68.dstOK Tryz.f141.ntmps (fun i => decide (i < Tryz.f141.ntmps)) = true := by kernel_rfl

/-- toll/object.every[toll/api.Rule]$1 -/
def an_z69 : Ann := ⟨[(0, [1, 2]), (1, [3])], [], []⟩
def ac_z69 : AC := (.seq (.region [.mk none (some 2) (.box 66 (.tmp 0)), .mk none (some 3) (.mv (.const (.bool false)))] (some [1, 2])) (.seq (.region [.mk none (some 4) (.load none (.tmp 1)), .mk none (some 5) (.load (some 3) (.tmp 2)), .mk none (some 6) (.callv (.tmp 4) [.tmp 5]), .mk none (some 7) (.un .not (.tmp 6)), .mk none (some 3) (.mv (.tmp 7))] (some [3])) .ret))
theorem ok_z69 : compC Tryz.prog an_z69 (Tryz.f142.body.getD .skip) = some ac_z69 := by kernel_rfl
theorem dst_z69 : ac_z69.dstOK Tryz.f142.ntmps (fun i => decide (i < Tryz.f142.ntmps)) = true := by kernel_rfl

/-- toll/object.every[toll/api.Match] -/
def an_z70 : Ann := ⟨[(0, [0, 1, 5]), (1, [6])], [], []⟩
def ac_z70 : AC := (.seq (.region [.mk none (some 5) (.box 161 (.tmp 2)), .mk none (some 6) (.mv (.const (.bool false)))] (some [0, 1, 5])) (.seq (.region [.mk none (some 7) (.mv (.tmp 0)), .mk none (some 8) (.len (.tmp 7) false), .mk none (some 9) (.mv (.tmp 1)), .mk none (some 10) (.bin .leq (.tmp 8) (.tmp 9)), .mk none (some 11) (.mv (.tmp 10)), .mk (some (11, true)) (some 12) (.mv (.tmp 0)), .mk (some (11, true)) (some 13) (.mkfn 176 [.tmp 5]), .mk (some (11, true)) (some 14) (.call 175 [.tmp 12, .tmp 13]), .mk (some (11, true)) (some 15) (.un .not (.tmp 14)), .mk none (some 16) (.pick (.tmp 11) (.tmp 15) (.const (.bool false))), .mk none (some 6) (.mv (.tmp 16))] (some [6])) .ret))
theorem ok_z70 : compC Tryz.prog an_z70 (Tryz.f143.body.getD .skip) = some ac_z70 := by kernel_rfl
theorem dst_z70 : ac_z70.dstOK Tryz.f143.ntmps (fun i => decide (i < Tryz.f143.ntmps)) = true := by kernel_rfl

/-- toll/object.every[toll/api.Backend] -/
def an_z71 : Ann := ⟨[(0, [0, 1, 5]), (1, [6])], [], []⟩
def ac_z71 : AC := (.seq (.region [.mk none (some 5) (.box 164 (.tmp 2)), .mk none (some 6) (.mv (.const (.bool false)))] (some [0, 1, 5])) (.seq (.region [.mk none (some 7) (.mv (.tmp 0)), .mk none (some 8) (.len (.tmp 7) false), .mk none (some 9) (.mv (.tmp 1)), .mk none (some 10) (.bin .leq (.tmp 8) (.tmp 9)), .mk none (some 11) (.mv (.tmp 10)), .mk (some (11, true)) (some 12) (.mv (.tmp 0)), .mk (some (11, true)) (some 13) (.mkfn 192 [.tmp 5]), .mk (some (11, true)) (some 14) (.call 191 [.tmp 12, .tmp 13]), .mk (some (11, true)) (some 15) (.un .not (.tmp 14)), .mk none (some 16) (.pick (.tmp 11) (.tmp 15) (.const (.bool false))), .mk none (some 6) (.mv (.tmp 16))] (some [6])) .ret))
theorem ok_z71 : compC Tryz.prog an_z71 (Tryz.f146.body.getD .skip) = some ac_z71 := by kernel_rfl
theorem dst_z71 : ac_z71.dstOK Tryz.f146.ntmps (fun i => decide (i < Tryz.f146.ntmps)) = true := by kernel_rfl

/-- toll/object.every[toll/api.Side]$1 -/
def an_z72 : Ann := ⟨[(0, [1, 2]), (1, [3])], [], []⟩
def ac_z72 : AC := (.seq (.region [.mk none (some 2) (.box 60 (.tmp 0)), .mk none (some 3) (.mv (.const (.bool false)))] (some [1, 2])) (.seq (.region [.mk none (some 4) (.load none (.tmp 1)), .mk none (some 5) (.load (some 3) (.tmp 2)), .mk none (some 6) (.callv (.tmp 4) [.tmp 5]), .mk none (some 7) (.un .not (.tmp 6)), .mk none (some 3) (.mv (.tmp 7))] (some [3])) .ret))
theorem ok_z72 : compC Tryz.prog an_z72 (Tryz.f151.body.getD .skip) = some ac_z72 := by kernel_rfl
theorem dst_z72 : ac_z72.dstOK Tryz.f151.ntmps (fun i => decide (i < Tryz.f151.ntmps)) = true := by kernel_rfl

/-- slices.EqualFunc[[]toll/api.Match,[]toll/api.Match,toll/api.Match,toll/api.Match] -/
def an_z73 : Ann := ⟨[(0, [0, 1, 2]), (1, [0, 1, 2, 14]), (2, [6]), (3, [1, 2, 15, 16, 17]), (4, [1, 2, 15, 16, 17, 18]), (5, [1, 2, 7, 8, 15, 16, 17]), (6, [1, 2, 8, 9, 15, 16, 17]), (7, [1, 2, 15, 16, 17, 30]), (8, [6]), (9, [1, 2, 15, 16, 17]), (10, [6])], [], []⟩
def ac_z73 : AC := (.seq (.region [.mk none (some 6) (.mv (.const (.bool false)))] (some [0, 1, 2])) (.seq (.seq (.region [.mk none (some 10) (.mv (.tmp 0)), .mk none (some 11) (.len (.tmp 10) false), .mk none (some 12) (.mv (.tmp 1)), .mk none (some 13) (.len (.tmp 12) false), .mk none (some 14) (.bin .neq (.tmp 11) (.tmp 13))] (some [0, 1, 2, 14])) (.cond (.tmp 14) (.seq (.region [.mk none (some 6) (.mv (.const (.bool false)))] (some [6])) .ret) .skip)) (.seq (.seq (.region [.mk none (some 15) (.mv (.tmp 0)), .mk none (some 16) (.len (.tmp 15) false), .mk none (some 17) (.mv (.const (.int .i64 0)))] (some [1, 2, 15, 16, 17])) (.block 0 (.loop (.seq (.region [.mk none (some 18) (.bin .lss (.tmp 17) (.tmp 16))] (some [1, 2, 15, 16, 17, 18])) (.seq (.cond (.tmp 18) .skip (.exit 0)) (.seq (.block 1 (.seq (.region [.mk none (some 19) (.mv (.tmp 17)), .mk none (some 20) (.idxA 5 (.tmp 15) (.tmp 17)), .mk none (some 21) (.load (some 5) (.tmp 20)), .mk none (some 8) (.alloc 85 [.pd (.raw (.int .i64 0)), .pd (.raw (.string ⟨#[]⟩)), .pd (.raw (.string ⟨#[]⟩)), .nils, .nils]), .mk none (some 7) (.mv (.tmp 19)), .mk none none (.store 5 (.tmp 8) (.tmp 21))] (some [1, 2, 7, 8, 15, 16, 17])) (.seq (.region [.mk none (some 22) (.mv (.tmp 1)), .mk none (some 23) (.mv (.tmp 7)), .mk none (some 24) (.idxA 5 (.tmp 22) (.tmp 23)), .mk none (some 25) (.load (some 5) (.tmp 24)), .mk none (some 9) (.alloc 85 [.pd (.raw (.int .i64 0)), .pd (.raw (.string ⟨#[]⟩)), .pd (.raw (.string ⟨#[]⟩)), .nils, .nils]), .mk none none (.store 5 (.tmp 9) (.tmp 25))] (some [1, 2, 8, 9, 15, 16, 17])) (.seq (.region [.mk none (some 26) (.mv (.tmp 2)), .mk none (some 27) (.load (some 5) (.tmp 8)), .mk none (some 28) (.load (some 5) (.tmp 9)), .mk none (some 29) (.callv (.tmp 26) [.tmp 27, .tmp 28]), .mk none (some 30) (.un .not (.tmp 29))] (some [1, 2, 15, 16, 17, 30])) (.cond (.tmp 30) (.seq (.region [.mk none (some 6) (.mv (.const (.bool false)))] (some [6])) .ret) .skip))))) (.region [.mk none (some 31) (.bin .add (.tmp 17) (.const (.int .i64 1))), .mk none (some 17) (.mv (.tmp 31))] (some [1, 2, 15, 16, 17])))))))) (.seq (.region [.mk none (some 6) (.mv (.const (.bool true)))] (some [6])) .ret))))
theorem ok_z73 : compC Tryz.prog an_z73 (Tryz.f153.body.getD .skip) = some ac_z73 := by kernel_rfl
theorem dst_z73 : ac_z73.dstOK Tryz.f153.ntmps (fun i => decide (i < Tryz.f153.ntmps)) = true := by kernel_rfl

/-- slices.Equal[[]toll/api.Filter,toll/api.Filter] -/
def an_z74 : Ann := ⟨[(0, [0, 1]), (1, [0, 1, 10]), (2, [4]), (3, [0, 1, 12, 13]), (4, [0, 1, 12, 13, 14]), (5, [0, 1, 5, 12, 13]), (6, [0, 1, 12, 13, 24]), (7, [4]), (8, [0, 1, 12, 13]), (9, [4])], [(6, ([0, 0, 3, 7, 0, 0, 48, 112, 255], .take 0 (.take 1 (.take 2 (.take 3 (.take 4 (.take 5 (.take 6 (.take 7 (.take 8 (.done)))))))))))], []⟩
def ac_z74 : AC := (.seq (.region [.mk none (some 4) (.mv (.const (.bool false)))] (some [0, 1])) (.seq (.seq (.region [.mk none (some 6) (.mv (.tmp 0)), .mk none (some 7) (.len (.tmp 6) false), .mk none (some 8) (.mv (.tmp 1)), .mk none (some 9) (.len (.tmp 8) false), .mk none (some 10) (.bin .neq (.tmp 7) (.tmp 9))] (some [0, 1, 10])) (.cond (.tmp 10) (.seq (.region [.mk none (some 4) (.mv (.const (.bool false)))] (some [4])) .ret) .skip)) (.seq (.seq (.region [.mk none (some 11) (.mv (.tmp 0)), .mk none (some 12) (.len (.tmp 11) false), .mk none (some 13) (.mv (.const (.int .i64 0)))] (some [0, 1, 12, 13])) (.block 0 (.loop (.seq (.region [.mk none (some 14) (.bin .lss (.tmp 13) (.tmp 12))] (some [0, 1, 12, 13, 14])) (.seq (.cond (.tmp 14) .skip (.exit 0)) (.seq (.block 1 (.seq (.region [.mk none (some 15) (.mv (.tmp 13)), .mk none (some 5) (.mv (.tmp 15))] (some [0, 1, 5, 12, 13])) (.seq (.draw [.mk none (some 16) (.mv (.tmp 0)), .mk none (some 17) (.mv (.tmp 5)), .mk none (some 18) (.idxA 8 (.tmp 16) (.tmp 17)), .mk none (some 19) (.load (some 8) (.tmp 18)), .mk none (some 20) (.mv (.tmp 1)), .mk none (some 21) (.mv (.tmp 5)), .mk none (some 22) (.idxA 8 (.tmp 20) (.tmp 21)), .mk none (some 23) (.load (some 8) (.tmp 22)), .mk none (some 24) (.eqs true [.int, .str, .str, .str, .int, .str, .bool, .int] (.tmp 19) (.tmp 23))] [0, 0, 3, 7, 0, 0, 48, 112, 255] (.take 0 (.take 1 (.take 2 (.take 3 (.take 4 (.take 5 (.take 6 (.take 7 (.take 8 .done))))))))) (some [0, 1, 12, 13, 24])) (.cond (.tmp 24) (.seq (.region [.mk none (some 4) (.mv (.const (.bool false)))] (some [4])) .ret) .skip)))) (.region [.mk none (some 25) (.bin .add (.tmp 13) (.const (.int .i64 1))), .mk none (some 13) (.mv (.tmp 25))] (some [0, 1, 12, 13])))))))) (.seq (.region [.mk none (some 4) (.mv (.const (.bool true)))] (some [4])) .ret))))
theorem ok_z74 : compC Tryz.prog an_z74 (Tryz.f155.body.getD .skip) = some ac_z74 := by kernel_rfl
theorem dst_z74 : ac_z74.dstOK Tryz.f155.ntmps (fun i => decide (i < Tryz.f155.ntmps)) = true := by kernel_rfl

/-- slices.Equal[[]toll/api.Backend,toll/api.Backend] -/
def an_z75 : Ann := ⟨[(0, [0, 1]), (1, [0, 1, 10]), (2, [4]), (3, [0, 1, 12, 13]), (4, [0, 1, 12, 13, 14]), (5, [0, 1, 5, 12, 13]), (6, [0, 1, 12, 13, 24]), (7, [4]), (8, [0, 1, 12, 13]), (9, [4])], [(6, ([0, 0, 3, 7, 0, 0, 48, 112, 255], .take 0 (.take 1 (.take 2 (.take 3 (.take 4 (.take 5 (.take 6 (.take 7 (.take 8 (.done)))))))))))], []⟩
def ac_z75 : AC := (.seq (.region [.mk none (some 4) (.mv (.const (.bool false)))] (some [0, 1])) (.seq (.seq (.region [.mk none (some 6) (.mv (.tmp 0)), .mk none (some 7) (.len (.tmp 6) false), .mk none (some 8) (.mv (.tmp 1)), .mk none (some 9) (.len (.tmp 8) false), .mk none (some 10) (.bin .neq (.tmp 7) (.tmp 9))] (some [0, 1, 10])) (.cond (.tmp 10) (.seq (.region [.mk none (some 4) (.mv (.const (.bool false)))] (some [4])) .ret) .skip)) (.seq (.seq (.region [.mk none (some 11) (.mv (.tmp 0)), .mk none (some 12) (.len (.tmp 11) false), .mk none (some 13) (.mv (.const (.int .i64 0)))] (some [0, 1, 12, 13])) (.block 0 (.loop (.seq (.region [.mk none (some 14) (.bin .lss (.tmp 13) (.tmp 12))] (some [0, 1, 12, 13, 14])) (.seq (.cond (.tmp 14) .skip (.exit 0)) (.seq (.block 1 (.seq (.region [.mk none (some 15) (.mv (.tmp 13)), .mk none (some 5) (.mv (.tmp 15))] (some [0, 1, 5, 12, 13])) (.seq (.draw [.mk none (some 16) (.mv (.tmp 0)), .mk none (some 17) (.mv (.tmp 5)), .mk none (some 18) (.idxA 5 (.tmp 16) (.tmp 17)), .mk none (some 19) (.load (some 5) (.tmp 18)), .mk none (some 20) (.mv (.tmp 1)), .mk none (some 21) (.mv (.tmp 5)), .mk none (some 22) (.idxA 5 (.tmp 20) (.tmp 21)), .mk none (some 23) (.load (some 5) (.tmp 22)), .mk none (some 24) (.eqs true [.int, .str, .str, .int, .int] (.tmp 19) (.tmp 23))] [0, 0, 3, 7, 0, 0, 48, 112, 255] (.take 0 (.take 1 (.take 2 (.take 3 (.take 4 (.take 5 (.take 6 (.take 7 (.take 8 .done))))))))) (some [0, 1, 12, 13, 24])) (.cond (.tmp 24) (.seq (.region [.mk none (some 4) (.mv (.const (.bool false)))] (some [4])) .ret) .skip)))) (.region [.mk none (some 25) (.bin .add (.tmp 13) (.const (.int .i64 1))), .mk none (some 13) (.mv (.tmp 25))] (some [0, 1, 12, 13])))))))) (.seq (.region [.mk none (some 4) (.mv (.const (.bool true)))] (some [4])) .ret))))
theorem ok_z75 : compC Tryz.prog an_z75 (Tryz.f156.body.getD .skip) = some ac_z75 := by kernel_rfl
theorem dst_z75 : ac_z75.dstOK Tryz.f156.ntmps (fun i => decide (i < Tryz.f156.ntmps)) = true := by kernel_rfl

/-- slices.IndexFunc[[]toll/api.Side,toll/api.Side] -/
def an_z76 : Ann := ⟨[(0, [0, 1]), (1, [0, 1, 7, 8]), (2, [0, 1, 7, 8, 9]), (3, [0, 1, 5, 7, 8]), (4, [0, 1, 5, 7, 8, 16]), (5, [4]), (6, [0, 1, 7, 8]), (7, [4])], [], []⟩
def ac_z76 : AC := (.seq (.region [.mk none (some 4) (.mv (.const (.int .i64 0)))] (some [0, 1])) (.seq (.seq (.region [.mk none (some 6) (.mv (.tmp 0)), .mk none (some 7) (.len (.tmp 6) false), .mk none (some 8) (.mv (.const (.int .i64 0)))] (some [0, 1, 7, 8])) (.block 0 (.loop (.seq (.region [.mk none (some 9) (.bin .lss (.tmp 8) (.tmp 7))] (some [0, 1, 7, 8, 9])) (.seq (.cond (.tmp 9) .skip (.exit 0)) (.seq (.block 1 (.seq (.region [.mk none (some 10) (.mv (.tmp 8)), .mk none (some 5) (.mv (.tmp 10))] (some [0, 1, 5, 7, 8])) (.seq (.region [.mk none (some 11) (.mv (.tmp 1)), .mk none (some 12) (.mv (.tmp 0)), .mk none (some 13) (.mv (.tmp 5)), .mk none (some 14) (.idxA 3 (.tmp 12) (.tmp 13)), .mk none (some 15) (.load (some 3) (.tmp 14)), .mk none (some 16) (.callv (.tmp 11) [.tmp 15])] (some [0, 1, 5, 7, 8, 16])) (.cond (.tmp 16) (.seq (.region [.mk none (some 17) (.mv (.tmp 5)), .mk none (some 4) (.mv (.tmp 17))] (some [4])) .ret) .skip)))) (.region [.mk none (some 18) (.bin .add (.tmp 8) (.const (.int .i64 1))), .mk none (some 8) (.mv (.tmp 18))] (some [0, 1, 7, 8])))))))) (.seq (.region [.mk none (some 4) (.mv (.const (.int .i64 (-1))))] (some [4])) .ret)))
theorem ok_z76 : compC Tryz.prog an_z76 (Tryz.f163.body.getD .skip) = some ac_z76 := by kernel_rfl
theorem dst_z76 : ac_z76.dstOK Tryz.f163.ntmps (fun i => decide (i < Tryz.f163.ntmps)) = true := by kernel_rfl

/-- slices.IndexFunc[[]int,int] -/
def an_z77 : Ann := ⟨[(0, [0, 1]), (1, [0, 1, 7, 8]), (2, [0, 1, 7, 8, 9]), (3, [0, 1, 5, 7, 8]), (4, [0, 1, 5, 7, 8, 16]), (5, [4]), (6, [0, 1, 7, 8]), (7, [4])], [], []⟩
def ac_z77 : AC := (.seq (.region [.mk none (some 4) (.mv (.const (.int .i64 0)))] (some [0, 1])) (.seq (.seq (.region [.mk none (some 6) (.mv (.tmp 0)), .mk none (some 7) (.len (.tmp 6) false), .mk none (some 8) (.mv (.const (.int .i64 0)))] (some [0, 1, 7, 8])) (.block 0 (.loop (.seq (.region [.mk none (some 9) (.bin .lss (.tmp 8) (.tmp 7))] (some [0, 1, 7, 8, 9])) (.seq (.cond (.tmp 9) .skip (.exit 0)) (.seq (.block 1 (.seq (.region [.mk none (some 10) (.mv (.tmp 8)), .mk none (some 5) (.mv (.tmp 10))] (some [0, 1, 5, 7, 8])) (.seq (.region [.mk none (some 11) (.mv (.tmp 1)), .mk none (some 12) (.mv (.tmp 0)), .mk none (some 13) (.mv (.tmp 5)), .mk none (some 14) (.idxA 1 (.tmp 12) (.tmp 13)), .mk none (some 15) (.load none (.tmp 14)), .mk none (some 16) (.callv (.tmp 11) [.tmp 15])] (some [0, 1, 5, 7, 8, 16])) (.cond (.tmp 16) (.seq (.region [.mk none (some 17) (.mv (.tmp 5)), .mk none (some 4) (.mv (.tmp 17))] (some [4])) .ret) .skip)))) (.region [.mk none (some 18) (.bin .add (.tmp 8) (.const (.int .i64 1))), .mk none (some 8) (.mv (.tmp 18))] (some [0, 1, 7, 8])))))))) (.seq (.region [.mk none (some 4) (.mv (.const (.int .i64 (-1))))] (some [4])) .ret)))
theorem ok_z77 : compC Tryz.prog an_z77 (Tryz.f164.body.getD .skip) = some ac_z77 := by kernel_rfl
theorem dst_z77 : ac_z77.dstOK Tryz.f164.ntmps (fun i => decide (i < Tryz.f164.ntmps)) = true := by kernel_rfl

/-- slices.IndexFunc[[]toll/api.Listener,toll/api.Listener] -/
def an_z78 : Ann := ⟨[(0, [0, 1]), (1, [0, 1, 7, 8]), (2, [0, 1, 7, 8, 9]), (3, [0, 1, 5, 7, 8]), (4, [0, 1, 5, 7, 8, 16]), (5, [4]), (6, [0, 1, 7, 8]), (7, [4])], [], []⟩
def ac_z78 : AC := (.seq (.region [.mk none (some 4) (.mv (.const (.int .i64 0)))] (some [0, 1])) (.seq (.seq (.region [.mk none (some 6) (.mv (.tmp 0)), .mk none (some 7) (.len (.tmp 6) false), .mk none (some 8) (.mv (.const (.int .i64 0)))] (some [0, 1, 7, 8])) (.block 0 (.loop (.seq (.region [.mk none (some 9) (.bin .lss (.tmp 8) (.tmp 7))] (some [0, 1, 7, 8, 9])) (.seq (.cond (.tmp 9) .skip (.exit 0)) (.seq (.block 1 (.seq (.region [.mk none (some 10) (.mv (.tmp 8)), .mk none (some 5) (.mv (.tmp 10))] (some [0, 1, 5, 7, 8])) (.seq (.region [.mk none (some 11) (.mv (.tmp 1)), .mk none (some 12) (.mv (.tmp 0)), .mk none (some 13) (.mv (.tmp 5)), .mk none (some 14) (.idxA 9 (.tmp 12) (.tmp 13)), .mk none (some 15) (.load (some 9) (.tmp 14)), .mk none (some 16) (.callv (.tmp 11) [.tmp 15])] (some [0, 1, 5, 7, 8, 16])) (.cond (.tmp 16) (.seq (.region [.mk none (some 17) (.mv (.tmp 5)), .mk none (some 4) (.mv (.tmp 17))] (some [4])) .ret) .skip)))) (.region [.mk none (some 18) (.bin .add (.tmp 8) (.const (.int .i64 1))), .mk none (some 8) (.mv (.tmp 18))] (some [0, 1, 7, 8])))))))) (.seq (.region [.mk none (some 4) (.mv (.const (.int .i64 (-1))))] (some [4])) .ret)))
theorem ok_z78 : compC Tryz.prog an_z78 (Tryz.f167.body.getD .skip) = some ac_z78 := by kernel_rfl
theorem dst_z78 : ac_z78.dstOK Tryz.f167.ntmps (fun i => decide (i < Tryz.f167.ntmps)) = true := by kernel_rfl

/-- slices.ContainsFunc[[]toll/api.Need,toll/api.Need] -/
def an_z79 : Ann := ⟨[(0, [0, 1]), (1, [4])], [], []⟩
def ac_z79 : AC := (.seq (.region [.mk none (some 4) (.mv (.const (.bool false)))] (some [0, 1])) (.seq (.region [.mk none (some 5) (.mv (.tmp 0)), .mk none (some 6) (.mv (.tmp 1)), .mk none (some 7) (.call 206 [.tmp 5, .tmp 6]), .mk none (some 8) (.bin .geq (.tmp 7) (.const (.int .i64 0))), .mk none (some 4) (.mv (.tmp 8))] (some [4])) .ret))
theorem ok_z79 : compC Tryz.prog an_z79 (Tryz.f168.body.getD .skip) = some ac_z79 := by kernel_rfl
theorem dst_z79 : ac_z79.dstOK Tryz.f168.ntmps (fun i => decide (i < Tryz.f168.ntmps)) = true := by kernel_rfl

/-- slices.IndexFunc[[]toll/api.Parent,toll/api.Parent] -/
def an_z80 : Ann := ⟨[(0, [0, 1]), (1, [0, 1, 7, 8]), (2, [0, 1, 7, 8, 9]), (3, [0, 1, 5, 7, 8]), (4, [0, 1, 5, 7, 8, 16]), (5, [4]), (6, [0, 1, 7, 8]), (7, [4])], [], []⟩
def ac_z80 : AC := (.seq (.region [.mk none (some 4) (.mv (.const (.int .i64 0)))] (some [0, 1])) (.seq (.seq (.region [.mk none (some 6) (.mv (.tmp 0)), .mk none (some 7) (.len (.tmp 6) false), .mk none (some 8) (.mv (.const (.int .i64 0)))] (some [0, 1, 7, 8])) (.block 0 (.loop (.seq (.region [.mk none (some 9) (.bin .lss (.tmp 8) (.tmp 7))] (some [0, 1, 7, 8, 9])) (.seq (.cond (.tmp 9) .skip (.exit 0)) (.seq (.block 1 (.seq (.region [.mk none (some 10) (.mv (.tmp 8)), .mk none (some 5) (.mv (.tmp 10))] (some [0, 1, 5, 7, 8])) (.seq (.region [.mk none (some 11) (.mv (.tmp 1)), .mk none (some 12) (.mv (.tmp 0)), .mk none (some 13) (.mv (.tmp 5)), .mk none (some 14) (.idxA 4 (.tmp 12) (.tmp 13)), .mk none (some 15) (.load (some 4) (.tmp 14)), .mk none (some 16) (.callv (.tmp 11) [.tmp 15])] (some [0, 1, 5, 7, 8, 16])) (.cond (.tmp 16) (.seq (.region [.mk none (some 17) (.mv (.tmp 5)), .mk none (some 4) (.mv (.tmp 17))] (some [4])) .ret) .skip)))) (.region [.mk none (some 18) (.bin .add (.tmp 8) (.const (.int .i64 1))), .mk none (some 8) (.mv (.tmp 18))] (some [0, 1, 7, 8])))))))) (.seq (.region [.mk none (some 4) (.mv (.const (.int .i64 (-1))))] (some [4])) .ret)))
theorem ok_z80 : compC Tryz.prog an_z80 (Tryz.f171.body.getD .skip) = some ac_z80 := by kernel_rfl
theorem dst_z80 : ac_z80.dstOK Tryz.f171.ntmps (fun i => decide (i < Tryz.f171.ntmps)) = true := by kernel_rfl

/-- slices.IndexFunc[[]string,string] -/
def an_z81 : Ann := ⟨[(0, [0, 1]), (1, [0, 1, 7, 8]), (2, [0, 1, 7, 8, 9]), (3, [0, 1, 5, 7, 8]), (4, [0, 1, 5, 7, 8, 16]), (5, [4]), (6, [0, 1, 7, 8]), (7, [4])], [], []⟩
def ac_z81 : AC := (.seq (.region [.mk none (some 4) (.mv (.const (.int .i64 0)))] (some [0, 1])) (.seq (.seq (.region [.mk none (some 6) (.mv (.tmp 0)), .mk none (some 7) (.len (.tmp 6) false), .mk none (some 8) (.mv (.const (.int .i64 0)))] (some [0, 1, 7, 8])) (.block 0 (.loop (.seq (.region [.mk none (some 9) (.bin .lss (.tmp 8) (.tmp 7))] (some [0, 1, 7, 8, 9])) (.seq (.cond (.tmp 9) .skip (.exit 0)) (.seq (.block 1 (.seq (.region [.mk none (some 10) (.mv (.tmp 8)), .mk none (some 5) (.mv (.tmp 10))] (some [0, 1, 5, 7, 8])) (.seq (.region [.mk none (some 11) (.mv (.tmp 1)), .mk none (some 12) (.mv (.tmp 0)), .mk none (some 13) (.mv (.tmp 5)), .mk none (some 14) (.idxA 1 (.tmp 12) (.tmp 13)), .mk none (some 15) (.load none (.tmp 14)), .mk none (some 16) (.callv (.tmp 11) [.tmp 15])] (some [0, 1, 5, 7, 8, 16])) (.cond (.tmp 16) (.seq (.region [.mk none (some 17) (.mv (.tmp 5)), .mk none (some 4) (.mv (.tmp 17))] (some [4])) .ret) .skip)))) (.region [.mk none (some 18) (.bin .add (.tmp 8) (.const (.int .i64 1))), .mk none (some 8) (.mv (.tmp 18))] (some [0, 1, 7, 8])))))))) (.seq (.region [.mk none (some 4) (.mv (.const (.int .i64 (-1))))] (some [4])) .ret)))
theorem ok_z81 : compC Tryz.prog an_z81 (Tryz.f172.body.getD .skip) = some ac_z81 := by kernel_rfl
theorem dst_z81 : ac_z81.dstOK Tryz.f172.ntmps (fun i => decide (i < Tryz.f172.ntmps)) = true := by kernel_rfl

/-- slices.IndexFunc[[]toll/api.Rule,toll/api.Rule] -/
def an_z82 : Ann := ⟨[(0, [0, 1]), (1, [0, 1, 7, 8]), (2, [0, 1, 7, 8, 9]), (3, [0, 1, 5, 7, 8]), (4, [0, 1, 5, 7, 8, 16]), (5, [4]), (6, [0, 1, 7, 8]), (7, [4])], [], []⟩
def ac_z82 : AC := (.seq (.region [.mk none (some 4) (.mv (.const (.int .i64 0)))] (some [0, 1])) (.seq (.seq (.region [.mk none (some 6) (.mv (.tmp 0)), .mk none (some 7) (.len (.tmp 6) false), .mk none (some 8) (.mv (.const (.int .i64 0)))] (some [0, 1, 7, 8])) (.block 0 (.loop (.seq (.region [.mk none (some 9) (.bin .lss (.tmp 8) (.tmp 7))] (some [0, 1, 7, 8, 9])) (.seq (.cond (.tmp 9) .skip (.exit 0)) (.seq (.block 1 (.seq (.region [.mk none (some 10) (.mv (.tmp 8)), .mk none (some 5) (.mv (.tmp 10))] (some [0, 1, 5, 7, 8])) (.seq (.region [.mk none (some 11) (.mv (.tmp 1)), .mk none (some 12) (.mv (.tmp 0)), .mk none (some 13) (.mv (.tmp 5)), .mk none (some 14) (.idxA 3 (.tmp 12) (.tmp 13)), .mk none (some 15) (.load (some 3) (.tmp 14)), .mk none (some 16) (.callv (.tmp 11) [.tmp 15])] (some [0, 1, 5, 7, 8, 16])) (.cond (.tmp 16) (.seq (.region [.mk none (some 17) (.mv (.tmp 5)), .mk none (some 4) (.mv (.tmp 17))] (some [4])) .ret) .skip)))) (.region [.mk none (some 18) (.bin .add (.tmp 8) (.const (.int .i64 1))), .mk none (some 8) (.mv (.tmp 18))] (some [0, 1, 7, 8])))))))) (.seq (.region [.mk none (some 4) (.mv (.const (.int .i64 (-1))))] (some [4])) .ret)))
theorem ok_z82 : compC Tryz.prog an_z82 (Tryz.f174.body.getD .skip) = some ac_z82 := by kernel_rfl
theorem dst_z82 : ac_z82.dstOK Tryz.f174.ntmps (fun i => decide (i < Tryz.f174.ntmps)) = true := by kernel_rfl

/-- slices.ContainsFunc[[]toll/api.Match,toll/api.Match] -/
def an_z83 : Ann := ⟨[(0, [0, 1]), (1, [4])], [], []⟩
def ac_z83 : AC := (.seq (.region [.mk none (some 4) (.mv (.const (.bool false)))] (some [0, 1])) (.seq (.region [.mk none (some 5) (.mv (.tmp 0)), .mk none (some 6) (.mv (.tmp 1)), .mk none (some 7) (.call 209 [.tmp 5, .tmp 6]), .mk none (some 8) (.bin .geq (.tmp 7) (.const (.int .i64 0))), .mk none (some 4) (.mv (.tmp 8))] (some [4])) .ret))
theorem ok_z83 : compC Tryz.prog an_z83 (Tryz.f175.body.getD .skip) = some ac_z83 := by kernel_rfl
theorem dst_z83 : ac_z83.dstOK Tryz.f175.ntmps (fun i => decide (i < Tryz.f175.ntmps)) = true := by kernel_rfl

/-- toll/object.every[toll/api.Match]$1 -/
def an_z84 : Ann := ⟨[(0, [1, 2]), (1, [3])], [], []⟩
def ac_z84 : AC := (.seq (.region [.mk none (some 2) (.box 85 (.tmp 0)), .mk none (some 3) (.mv (.const (.bool false)))] (some [1, 2])) (.seq (.region [.mk none (some 4) (.load none (.tmp 1)), .mk none (some 5) (.load (some 5) (.tmp 2)), .mk none (some 6) (.callv (.tmp 4) [.tmp 5]), .mk none (some 7) (.un .not (.tmp 6)), .mk none (some 3) (.mv (.tmp 7))] (some [3])) .ret))
theorem ok_z84 : compC Tryz.prog an_z84 (Tryz.f176.body.getD .skip) = some ac_z84 := by kernel_rfl
theorem dst_z84 : ac_z84.dstOK Tryz.f176.ntmps (fun i => decide (i < Tryz.f176.ntmps)) = true := by kernel_rfl

/-- slices.ContainsFunc[[]toll/api.Pair,toll/api.Pair] -/
def an_z85 : Ann := ⟨[(0, [0, 1]), (1, [4])], [], []⟩
def ac_z85 : AC := (.seq (.region [.mk none (some 4) (.mv (.const (.bool false)))] (some [0, 1])) (.seq (.region [.mk none (some 5) (.mv (.tmp 0)), .mk none (some 6) (.mv (.tmp 1)), .mk none (some 7) (.call 215 [.tmp 5, .tmp 6]), .mk none (some 8) (.bin .geq (.tmp 7) (.const (.int .i64 0))), .mk none (some 4) (.mv (.tmp 8))] (some [4])) .ret))
theorem ok_z85 : compC Tryz.prog an_z85 (Tryz.f182.body.getD .skip) = some ac_z85 := by kernel_rfl
theorem dst_z85 : ac_z85.dstOK Tryz.f182.ntmps (fun i => decide (i < Tryz.f182.ntmps)) = true := by kernel_rfl

/-- slices.ContainsFunc[[]toll/api.Filter,toll/api.Filter] -/
def an_z86 : Ann := ⟨[(0, [0, 1]), (1, [4])], [], []⟩
def ac_z86 : AC := (.seq (.region [.mk none (some 4) (.mv (.const (.bool false)))] (some [0, 1])) (.seq (.region [.mk none (some 5) (.mv (.tmp 0)), .mk none (some 6) (.mv (.tmp 1)), .mk none (some 7) (.call 219 [.tmp 5, .tmp 6]), .mk none (some 8) (.bin .geq (.tmp 7) (.const (.int .i64 0))), .mk none (some 4) (.mv (.tmp 8))] (some [4])) .ret))
theorem ok_z86 : compC Tryz.prog an_z86 (Tryz.f190.body.getD .skip) = some ac_z86 := by kernel_rfl
theorem dst_z86 : ac_z86.dstOK Tryz.f190.ntmps (fun i => decide (i < Tryz.f190.ntmps)) = true := by kernel_rfl

/-- slices.ContainsFunc[[]toll/api.Backend,toll/api.Backend] -/
def an_z87 : Ann := ⟨[(0, [0, 1]), (1, [4])], [], []⟩
def ac_z87 : AC := (.seq (.region [.mk none (some 4) (.mv (.const (.bool false)))] (some [0, 1])) (.seq (.region [.mk none (some 5) (.mv (.tmp 0)), .mk none (some 6) (.mv (.tmp 1)), .mk none (some 7) (.call 220 [.tmp 5, .tmp 6]), .mk none (some 8) (.bin .geq (.tmp 7) (.const (.int .i64 0))), .mk none (some 4) (.mv (.tmp 8))] (some [4])) .ret))
theorem ok_z87 : compC Tryz.prog an_z87 (Tryz.f191.body.getD .skip) = some ac_z87 := by kernel_rfl
theorem dst_z87 : ac_z87.dstOK Tryz.f191.ntmps (fun i => decide (i < Tryz.f191.ntmps)) = true := by kernel_rfl

/-- toll/object.every[toll/api.Backend]$1 -/
def an_z88 : Ann := ⟨[(0, [1, 2]), (1, [3])], [], []⟩
def ac_z88 : AC := (.seq (.region [.mk none (some 2) (.box 43 (.tmp 0)), .mk none (some 3) (.mv (.const (.bool false)))] (some [1, 2])) (.seq (.region [.mk none (some 4) (.load none (.tmp 1)), .mk none (some 5) (.load (some 5) (.tmp 2)), .mk none (some 6) (.callv (.tmp 4) [.tmp 5]), .mk none (some 7) (.un .not (.tmp 6)), .mk none (some 3) (.mv (.tmp 7))] (some [3])) .ret))
theorem ok_z88 : compC Tryz.prog an_z88 (Tryz.f192.body.getD .skip) = some ac_z88 := by kernel_rfl
theorem dst_z88 : ac_z88.dstOK Tryz.f192.ntmps (fun i => decide (i < Tryz.f192.ntmps)) = true := by kernel_rfl

/-- slices.EqualFunc[[]toll/api.Need,[]toll/api.Need,toll/api.Need,toll/api.Need] -/
def an_z89 : Ann := ⟨[(0, [0, 1, 2]), (1, [0, 1, 2, 14]), (2, [6]), (3, [1, 2, 15, 16, 17]), (4, [1, 2, 15, 16, 17, 18]), (5, [1, 2, 7, 8, 15, 16, 17]), (6, [1, 2, 8, 9, 15, 16, 17]), (7, [1, 2, 15, 16, 17, 30]), (8, [6]), (9, [1, 2, 15, 16, 17]), (10, [6])], [], []⟩
def ac_z89 : AC := (.seq (.region [.mk none (some 6) (.mv (.const (.bool false)))] (some [0, 1, 2])) (.seq (.seq (.region [.mk none (some 10) (.mv (.tmp 0)), .mk none (some 11) (.len (.tmp 10) false), .mk none (some 12) (.mv (.tmp 1)), .mk none (some 13) (.len (.tmp 12) false), .mk none (some 14) (.bin .neq (.tmp 11) (.tmp 13))] (some [0, 1, 2, 14])) (.cond (.tmp 14) (.seq (.region [.mk none (some 6) (.mv (.const (.bool false)))] (some [6])) .ret) .skip)) (.seq (.seq (.region [.mk none (some 15) (.mv (.tmp 0)), .mk none (some 16) (.len (.tmp 15) false), .mk none (some 17) (.mv (.const (.int .i64 0)))] (some [1, 2, 15, 16, 17])) (.block 0 (.loop (.seq (.region [.mk none (some 18) (.bin .lss (.tmp 17) (.tmp 16))] (some [1, 2, 15, 16, 17, 18])) (.seq (.cond (.tmp 18) .skip (.exit 0)) (.seq (.block 1 (.seq (.region [.mk none (some 19) (.mv (.tmp 17)), .mk none (some 20) (.idxA 3 (.tmp 15) (.tmp 17)), .mk none (some 21) (.load (some 3) (.tmp 20)), .mk none (some 8) (.alloc 97 [.pd (.raw (.int .i64 0)), .pd (.raw (.string ⟨#[]⟩)), .nils]), .mk none (some 7) (.mv (.tmp 19)), .mk none none (.store 3 (.tmp 8) (.tmp 21))] (some [1, 2, 7, 8, 15, 16, 17])) (.seq (.region [.mk none (some 22) (.mv (.tmp 1)), .mk none (some 23) (.mv (.tmp 7)), .mk none (some 24) (.idxA 3 (.tmp 22) (.tmp 23)), .mk none (some 25) (.load (some 3) (.tmp 24)), .mk none (some 9) (.alloc 97 [.pd (.raw (.int .i64 0)), .pd (.raw (.string ⟨#[]⟩)), .nils]), .mk none none (.store 3 (.tmp 9) (.tmp 25))] (some [1, 2, 8, 9, 15, 16, 17])) (.seq (.region [.mk none (some 26) (.mv (.tmp 2)), .mk none (some 27) (.load (some 3) (.tmp 8)), .mk none (some 28) (.load (some 3) (.tmp 9)), .mk none (some 29) (.callv (.tmp 26) [.tmp 27, .tmp 28]), .mk none (some 30) (.un .not (.tmp 29))] (some [1, 2, 15, 16, 17, 30])) (.cond (.tmp 30) (.seq (.region [.mk none (some 6) (.mv (.const (.bool false)))] (some [6])) .ret) .skip))))) (.region [.mk none (some 31) (.bin .add (.tmp 17) (.const (.int .i64 1))), .mk none (some 17) (.mv (.tmp 31))] (some [1, 2, 15, 16, 17])))))))) (.seq (.region [.mk none (some 6) (.mv (.const (.bool true)))] (some [6])) .ret))))
theorem ok_z89 : compC Tryz.prog an_z89 (Tryz.f194.body.getD .skip) = some ac_z89 := by kernel_rfl
theorem dst_z89 : ac_z89.dstOK Tryz.f194.ntmps (fun i => decide (i < Tryz.f194.ntmps)) = true := by kernel_rfl

/-- slices.IndexFunc[[]toll/api.Need,toll/api.Need] -/
def an_z90 : Ann := ⟨[(0, [0, 1]), (1, [0, 1, 7, 8]), (2, [0, 1, 7, 8, 9]), (3, [0, 1, 5, 7, 8]), (4, [0, 1, 5, 7, 8, 16]), (5, [4]), (6, [0, 1, 7, 8]), (7, [4])], [], []⟩
def ac_z90 : AC := (.seq (.region [.mk none (some 4) (.mv (.const (.int .i64 0)))] (some [0, 1])) (.seq (.seq (.region [.mk none (some 6) (.mv (.tmp 0)), .mk none (some 7) (.len (.tmp 6) false), .mk none (some 8) (.mv (.const (.int .i64 0)))] (some [0, 1, 7, 8])) (.block 0 (.loop (.seq (.region [.mk none (some 9) (.bin .lss (.tmp 8) (.tmp 7))] (some [0, 1, 7, 8, 9])) (.seq (.cond (.tmp 9) .skip (.exit 0)) (.seq (.block 1 (.seq (.region [.mk none (some 10) (.mv (.tmp 8)), .mk none (some 5) (.mv (.tmp 10))] (some [0, 1, 5, 7, 8])) (.seq (.region [.mk none (some 11) (.mv (.tmp 1)), .mk none (some 12) (.mv (.tmp 0)), .mk none (some 13) (.mv (.tmp 5)), .mk none (some 14) (.idxA 3 (.tmp 12) (.tmp 13)), .mk none (some 15) (.load (some 3) (.tmp 14)), .mk none (some 16) (.callv (.tmp 11) [.tmp 15])] (some [0, 1, 5, 7, 8, 16])) (.cond (.tmp 16) (.seq (.region [.mk none (some 17) (.mv (.tmp 5)), .mk none (some 4) (.mv (.tmp 17))] (some [4])) .ret) .skip)))) (.region [.mk none (some 18) (.bin .add (.tmp 8) (.const (.int .i64 1))), .mk none (some 8) (.mv (.tmp 18))] (some [0, 1, 7, 8])))))))) (.seq (.region [.mk none (some 4) (.mv (.const (.int .i64 (-1))))] (some [4])) .ret)))
theorem ok_z90 : compC Tryz.prog an_z90 (Tryz.f206.body.getD .skip) = some ac_z90 := by kernel_rfl
theorem dst_z90 : ac_z90.dstOK Tryz.f206.ntmps (fun i => decide (i < Tryz.f206.ntmps)) = true := by kernel_rfl

/-- slices.IndexFunc[[]toll/api.Match,toll/api.Match] -/
def an_z91 : Ann := ⟨[(0, [0, 1]), (1, [0, 1, 7, 8]), (2, [0, 1, 7, 8, 9]), (3, [0, 1, 5, 7, 8]), (4, [0, 1, 5, 7, 8, 16]), (5, [4]), (6, [0, 1, 7, 8]), (7, [4])], [], []⟩
def ac_z91 : AC := (.seq (.region [.mk none (some 4) (.mv (.const (.int .i64 0)))] (some [0, 1])) (.seq (.seq (.region [.mk none (some 6) (.mv (.tmp 0)), .mk none (some 7) (.len (.tmp 6) false), .mk none (some 8) (.mv (.const (.int .i64 0)))] (some [0, 1, 7, 8])) (.block 0 (.loop (.seq (.region [.mk none (some 9) (.bin .lss (.tmp 8) (.tmp 7))] (some [0, 1, 7, 8, 9])) (.seq (.cond (.tmp 9) .skip (.exit 0)) (.seq (.block 1 (.seq (.region [.mk none (some 10) (.mv (.tmp 8)), .mk none (some 5) (.mv (.tmp 10))] (some [0, 1, 5, 7, 8])) (.seq (.region [.mk none (some 11) (.mv (.tmp 1)), .mk none (some 12) (.mv (.tmp 0)), .mk none (some 13) (.mv (.tmp 5)), .mk none (some 14) (.idxA 5 (.tmp 12) (.tmp 13)), .mk none (some 15) (.load (some 5) (.tmp 14)), .mk none (some 16) (.callv (.tmp 11) [.tmp 15])] (some [0, 1, 5, 7, 8, 16])) (.cond (.tmp 16) (.seq (.region [.mk none (some 17) (.mv (.tmp 5)), .mk none (some 4) (.mv (.tmp 17))] (some [4])) .ret) .skip)))) (.region [.mk none (some 18) (.bin .add (.tmp 8) (.const (.int .i64 1))), .mk none (some 8) (.mv (.tmp 18))] (some [0, 1, 7, 8])))))))) (.seq (.region [.mk none (some 4) (.mv (.const (.int .i64 (-1))))] (some [4])) .ret)))
theorem ok_z91 : compC Tryz.prog an_z91 (Tryz.f209.body.getD .skip) = some ac_z91 := by kernel_rfl
theorem dst_z91 : ac_z91.dstOK Tryz.f209.ntmps (fun i => decide (i < Tryz.f209.ntmps)) = true := by kernel_rfl

/-- slices.IndexFunc[[]toll/api.Pair,toll/api.Pair] -/
def an_z92 : Ann := ⟨[(0, [0, 1]), (1, [0, 1, 7, 8]), (2, [0, 1, 7, 8, 9]), (3, [0, 1, 5, 7, 8]), (4, [0, 1, 5, 7, 8, 16]), (5, [4]), (6, [0, 1, 7, 8]), (7, [4])], [], []⟩
def ac_z92 : AC := (.seq (.region [.mk none (some 4) (.mv (.const (.int .i64 0)))] (some [0, 1])) (.seq (.seq (.region [.mk none (some 6) (.mv (.tmp 0)), .mk none (some 7) (.len (.tmp 6) false), .mk none (some 8) (.mv (.const (.int .i64 0)))] (some [0, 1, 7, 8])) (.block 0 (.loop (.seq (.region [.mk none (some 9) (.bin .lss (.tmp 8) (.tmp 7))] (some [0, 1, 7, 8, 9])) (.seq (.cond (.tmp 9) .skip (.exit 0)) (.seq (.block 1 (.seq (.region [.mk none (some 10) (.mv (.tmp 8)), .mk none (some 5) (.mv (.tmp 10))] (some [0, 1, 5, 7, 8])) (.seq (.region [.mk none (some 11) (.mv (.tmp 1)), .mk none (some 12) (.mv (.tmp 0)), .mk none (some 13) (.mv (.tmp 5)), .mk none (some 14) (.idxA 2 (.tmp 12) (.tmp 13)), .mk none (some 15) (.load (some 2) (.tmp 14)), .mk none (some 16) (.callv (.tmp 11) [.tmp 15])] (some [0, 1, 5, 7, 8, 16])) (.cond (.tmp 16) (.seq (.region [.mk none (some 17) (.mv (.tmp 5)), .mk none (some 4) (.mv (.tmp 17))] (some [4])) .ret) .skip)))) (.region [.mk none (some 18) (.bin .add (.tmp 8) (.const (.int .i64 1))), .mk none (some 8) (.mv (.tmp 18))] (some [0, 1, 7, 8])))))))) (.seq (.region [.mk none (some 4) (.mv (.const (.int .i64 (-1))))] (some [4])) .ret)))
theorem ok_z92 : compC Tryz.prog an_z92 (Tryz.f215.body.getD .skip) = some ac_z92 := by kernel_rfl
theorem dst_z92 : ac_z92.dstOK Tryz.f215.ntmps (fun i => decide (i < Tryz.f215.ntmps)) = true := by kernel_rfl

/-- slices.IndexFunc[[]toll/api.Filter,toll/api.Filter] -/
def an_z93 : Ann := ⟨[(0, [0, 1]), (1, [0, 1, 7, 8]), (2, [0, 1, 7, 8, 9]), (3, [0, 1, 5, 7, 8]), (4, [0, 1, 5, 7, 8, 16]), (5, [4]), (6, [0, 1, 7, 8]), (7, [4])], [], []⟩
def ac_z93 : AC := (.seq (.region [.mk none (some 4) (.mv (.const (.int .i64 0)))] (some [0, 1])) (.seq (.seq (.region [.mk none (some 6) (.mv (.tmp 0)), .mk none (some 7) (.len (.tmp 6) false), .mk none (some 8) (.mv (.const (.int .i64 0)))] (some [0, 1, 7, 8])) (.block 0 (.loop (.seq (.region [.mk none (some 9) (.bin .lss (.tmp 8) (.tmp 7))] (some [0, 1, 7, 8, 9])) (.seq (.cond (.tmp 9) .skip (.exit 0)) (.seq (.block 1 (.seq (.region [.mk none (some 10) (.mv (.tmp 8)), .mk none (some 5) (.mv (.tmp 10))] (some [0, 1, 5, 7, 8])) (.seq (.region [.mk none (some 11) (.mv (.tmp 1)), .mk none (some 12) (.mv (.tmp 0)), .mk none (some 13) (.mv (.tmp 5)), .mk none (some 14) (.idxA 8 (.tmp 12) (.tmp 13)), .mk none (some 15) (.load (some 8) (.tmp 14)), .mk none (some 16) (.callv (.tmp 11) [.tmp 15])] (some [0, 1, 5, 7, 8, 16])) (.cond (.tmp 16) (.seq (.region [.mk none (some 17) (.mv (.tmp 5)), .mk none (some 4) (.mv (.tmp 17))] (some [4])) .ret) .skip)))) (.region [.mk none (some 18) (.bin .add (.tmp 8) (.const (.int .i64 1))), .mk none (some 8) (.mv (.tmp 18))] (some [0, 1, 7, 8])))))))) (.seq (.region [.mk none (some 4) (.mv (.const (.int .i64 (-1))))] (some [4])) .ret)))
theorem ok_z93 : compC Tryz.prog an_z93 (Tryz.f219.body.getD .skip) = some ac_z93 := by kernel_rfl
theorem dst_z93 : ac_z93.dstOK Tryz.f219.ntmps (fun i => decide (i < Tryz.f219.ntmps)) = true := by kernel_rfl

/-- slices.IndexFunc[[]toll/api.Backend,toll/api.Backend] -/
def an_z94 : Ann := ⟨[(0, [0, 1]), (1, [0, 1, 7, 8]), (2, [0, 1, 7, 8, 9]), (3, [0, 1, 5, 7, 8]), (4, [0, 1, 5, 7, 8, 16]), (5, [4]), (6, [0, 1, 7, 8]), (7, [4])], [], []⟩
def ac_z94 : AC := (.seq (.region [.mk none (some 4) (.mv (.const (.int .i64 0)))] (some [0, 1])) (.seq (.seq (.region [.mk none (some 6) (.mv (.tmp 0)), .mk none (some 7) (.len (.tmp 6) false), .mk none (some 8) (.mv (.const (.int .i64 0)))] (some [0, 1, 7, 8])) (.block 0 (.loop (.seq (.region [.mk none (some 9) (.bin .lss (.tmp 8) (.tmp 7))] (some [0, 1, 7, 8, 9])) (.seq (.cond (.tmp 9) .skip (.exit 0)) (.seq (.block 1 (.seq (.region [.mk none (some 10) (.mv (.tmp 8)), .mk none (some 5) (.mv (.tmp 10))] (some [0, 1, 5, 7, 8])) (.seq (.region [.mk none (some 11) (.mv (.tmp 1)), .mk none (some 12) (.mv (.tmp 0)), .mk none (some 13) (.mv (.tmp 5)), .mk none (some 14) (.idxA 5 (.tmp 12) (.tmp 13)), .mk none (some 15) (.load (some 5) (.tmp 14)), .mk none (some 16) (.callv (.tmp 11) [.tmp 15])] (some [0, 1, 5, 7, 8, 16])) (.cond (.tmp 16) (.seq (.region [.mk none (some 17) (.mv (.tmp 5)), .mk none (some 4) (.mv (.tmp 17))] (some [4])) .ret) .skip)))) (.region [.mk none (some 18) (.bin .add (.tmp 8) (.const (.int .i64 1))), .mk none (some 8) (.mv (.tmp 18))] (some [0, 1, 7, 8])))))))) (.seq (.region [.mk none (some 4) (.mv (.const (.int .i64 (-1))))] (some [4])) .ret)))
theorem ok_z94 : compC Tryz.prog an_z94 (Tryz.f220.body.getD .skip) = some ac_z94 := by kernel_rfl
theorem dst_z94 : ac_z94.dstOK Tryz.f220.ntmps (fun i => decide (i < Tryz.f220.ntmps)) = true := by kernel_rfl


end Go.Proofs.YtbpgebfejebmlaaGreatDoor
