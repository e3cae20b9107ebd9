/- Texts of the prover's, joined: R3 F1 F2 F3 F0 F4 F5 G1 G2 G3 G4 G5 F6 F7 JA J2. -/
import Derived.Test.YtjgpdjakehoofaaGreatDoorVS4
import Derived.Lib.Bytealg
import Derived.WalkKit
import Derived.Lib.Walk
import Derived.BigCall
import Derived.BigGuard
import Derived.Deep.Draws
import Derived.Deep.LoopGhost
import Derived.Lib.ConvBytes
import Derived.Laws.BytesString
import Derived.Lib.DecodeN
import Derived.Lib.IndexLaws

namespace Go.Proofs.YtjgpdjakehoofaaGreatDoor
open Go Go.RowKit Go.ChangeShapes Go.WideShapes Go.ChangeAt Go.WideMaps Go.WideElems
set_option linter.unusedSimpArgs false
set_option linter.unusedVariables false
set_option maxRecDepth 100000

theorem rows_of {α : Type} {f : α → List PD} {s : List Sh} (h : ∀ {r}, HasShs s r → ∃ a, r = f a) : ∀ {els : List (List PD)}, (∀ r ∈ els, HasShs s r) → ∃ l : List α, els = rows f l
 | [], _ => ⟨[], rfl⟩
 | r :: els, hr => by
   obtain ⟨l, rfl⟩ := rows_of h (fun r hr' => hr r (List.mem_cons_of_mem _ hr'))
   obtain ⟨a, rfl⟩ := h (hr r List.mem_cons_self)
   exact ⟨a :: l, rfl⟩

theorem int_row {r : List PD} (h : HasShs [.int .i64] r) : ∃ n, r = cInt n := by
 cases h with
 | cons _ d _ _ a1 h0 => cases h0; cases a1; exact ⟨_, rfl⟩

theorem str_row {r : List PD} (h : HasShs [.str] r) : ∃ n, r = cStr n := by
 cases h with
 | cons _ d _ _ a1 h0 => cases h0; cases a1; exact ⟨_, rfl⟩

abbrev pairShs : List Sh := [.str, .str]

theorem pair_row {r : List PD} (h : HasShs pairShs r) : ∃ a, r = APair.pd a := by
 cases h with
 | cons _ d1 _ _ a1 h1 =>
 cases h1 with
 | cons _ d2 _ _ a2 h2 =>
 cases h2
 cases a1 with
 | str x1 _ =>
 cases a2 with
 | str x2 _ =>
 exact ⟨⟨x1, x2⟩, rfl⟩

abbrev needShs : List Sh := [.int .i64, .str, .slice [.str]]

theorem need_row {r : List PD} (h : HasShs needShs r) : ∃ a, r = ANeed.pd a := by
 cases h with
 | cons _ d1 _ _ a1 h1 =>
 cases h1 with
 | cons _ d2 _ _ a2 h2 =>
 cases h2 with
 | cons _ d3 _ _ a3 h3 =>
 cases h3
 cases a1 with
 | int _ x1 _ =>
 cases a2 with
 | str x2 _ =>
 cases a3 with
 | slice _ els3 _ k3 =>
 obtain ⟨x3, rfl⟩ := rows_of str_row k3
 exact ⟨⟨x1, x2, x3⟩, rfl⟩

abbrev parentShs : List Sh := [.str, .str, .str, .int .i64]

theorem parent_row {r : List PD} (h : HasShs parentShs r) : ∃ a, r = AParent.pd a := by
 cases h with
 | cons _ d1 _ _ a1 h1 =>
 cases h1 with
 | cons _ d2 _ _ a2 h2 =>
 cases h2 with
 | cons _ d3 _ _ a3 h3 =>
 cases h3 with
 | cons _ d4 _ _ a4 h4 =>
 cases h4
 cases a1 with
 | str x1 _ =>
 cases a2 with
 | str x2 _ =>
 cases a3 with
 | str x3 _ =>
 cases a4 with
 | int _ x4 _ =>
 exact ⟨⟨x1, x2, x3, x4⟩, rfl⟩

abbrev backendShs : List Sh := [.int .i64, .str, .str, .int .i64, .int .i64]

theorem backend_row {r : List PD} (h : HasShs backendShs r) : ∃ a, r = ABackend.pd a := by
 cases h with
 | cons _ d1 _ _ a1 h1 =>
 cases h1 with
 | cons _ d2 _ _ a2 h2 =>
 cases h2 with
 | cons _ d3 _ _ a3 h3 =>
 cases h3 with
 | cons _ d4 _ _ a4 h4 =>
 cases h4 with
 | cons _ d5 _ _ a5 h5 =>
 cases h5
 cases a1 with
 | int _ x1 _ =>
 cases a2 with
 | str x2 _ =>
 cases a3 with
 | str x3 _ =>
 cases a4 with
 | int _ x4 _ =>
 cases a5 with
 | int _ x5 _ =>
 exact ⟨⟨⟨x1, x2, x3⟩, x4, x5⟩, rfl⟩

abbrev filterShs : List Sh := [.int .i64, .str, .str, .str, .int .i64, .str, .bool, .int .i64]

theorem filter_row {r : List PD} (h : HasShs filterShs r) : ∃ a, r = AFilter.pd a := by
 cases h with
 | cons _ d1 _ _ a1 h1 =>
 cases h1 with
 | cons _ d2 _ _ a2 h2 =>
 cases h2 with
 | cons _ d3 _ _ a3 h3 =>
 cases h3 with
 | cons _ d4 _ _ a4 h4 =>
 cases h4 with
 | cons _ d5 _ _ a5 h5 =>
 cases h5 with
 | cons _ d6 _ _ a6 h6 =>
 cases h6 with
 | cons _ d7 _ _ a7 h7 =>
 cases h7 with
 | cons _ d8 _ _ a8 h8 =>
 cases h8
 cases a1 with
 | int _ x1 _ =>
 cases a2 with
 | str x2 _ =>
 cases a3 with
 | str x3 _ =>
 cases a4 with
 | str x4 _ =>
 cases a5 with
 | int _ x5 _ =>
 cases a6 with
 | str x6 _ =>
 cases a7 with
 | bool x7 =>
 cases a8 with
 | int _ x8 _ =>
 exact ⟨⟨x1, x2, x3, x4, x5, x6, x7, x8⟩, rfl⟩

abbrev sideShs : List Sh := [.int .i64, .str, .str]

theorem side_row {r : List PD} (h : HasShs sideShs r) : ∃ a, r = ASide.pd a := by
 cases h with
 | cons _ d1 _ _ a1 h1 =>
 cases h1 with
 | cons _ d2 _ _ a2 h2 =>
 cases h2 with
 | cons _ d3 _ _ a3 h3 =>
 cases h3
 cases a1 with
 | int _ x1 _ =>
 cases a2 with
 | str x2 _ =>
 cases a3 with
 | str x3 _ =>
 exact ⟨⟨x1, x2, x3⟩, rfl⟩

abbrev matchShs : List Sh := [.int .i64, .str, .str, .slice pairShs, .slice pairShs]

theorem match_row {r : List PD} (h : HasShs matchShs r) : ∃ a, r = AMatch.pd a := by
 cases h with
 | cons _ d1 _ _ a1 h1 =>
 cases h1 with
 | cons _ d2 _ _ a2 h2 =>
 cases h2 with
 | cons _ d3 _ _ a3 h3 =>
 cases h3 with
 | cons _ d4 _ _ a4 h4 =>
 cases h4 with
 | cons _ d5 _ _ a5 h5 =>
 cases h5
 cases a1 with
 | int _ x1 _ =>
 cases a2 with
 | str x2 _ =>
 cases a3 with
 | str x3 _ =>
 cases a4 with
 | slice _ els4 _ k4 =>
 obtain ⟨x4, rfl⟩ := rows_of pair_row k4
 cases a5 with
 | slice _ els5 _ k5 =>
 obtain ⟨x5, rfl⟩ := rows_of pair_row k5
 exact ⟨⟨x1, x2, x3, x4, x5⟩, rfl⟩

abbrev listenerShs : List Sh := [.str, .int .i64, .bool, .str, .int .i64, .str, .str, .int .i64, .slice needShs]

theorem listener_row {r : List PD} (h : HasShs listenerShs r) : ∃ a, r = AListener.pd a := by
 cases h with
 | cons _ d1 _ _ a1 h1 =>
 cases h1 with
 | cons _ d2 _ _ a2 h2 =>
 cases h2 with
 | cons _ d3 _ _ a3 h3 =>
 cases h3 with
 | cons _ d4 _ _ a4 h4 =>
 cases h4 with
 | cons _ d5 _ _ a5 h5 =>
 cases h5 with
 | cons _ d6 _ _ a6 h6 =>
 cases h6 with
 | cons _ d7 _ _ a7 h7 =>
 cases h7 with
 | cons _ d8 _ _ a8 h8 =>
 cases h8 with
 | cons _ d9 _ _ a9 h9 =>
 cases h9
 cases a1 with
 | str x1 _ =>
 cases a2 with
 | int _ x2 _ =>
 cases a3 with
 | bool x3 =>
 cases a4 with
 | str x4 _ =>
 cases a5 with
 | int _ x5 _ =>
 cases a6 with
 | str x6 _ =>
 cases a7 with
 | str x7 _ =>
 cases a8 with
 | int _ x8 _ =>
 cases a9 with
 | slice _ els9 _ k9 =>
 obtain ⟨x9, rfl⟩ := rows_of need_row k9
 exact ⟨⟨x1, x2, x3, x4, ⟨x5, x6, x7⟩, x8, x9⟩, rfl⟩

abbrev ruleShs : List Sh := [.slice matchShs, .slice filterShs, .slice backendShs]

theorem rule_row {r : List PD} (h : HasShs ruleShs r) : ∃ a, r = ARule.pd a := by
 cases h with
 | cons _ d1 _ _ a1 h1 =>
 cases h1 with
 | cons _ d2 _ _ a2 h2 =>
 cases h2 with
 | cons _ d3 _ _ a3 h3 =>
 cases h3
 cases a1 with
 | slice _ els1 _ k1 =>
 obtain ⟨x1, rfl⟩ := rows_of match_row k1
 cases a2 with
 | slice _ els2 _ k2 =>
 obtain ⟨x2, rfl⟩ := rows_of filter_row k2
 cases a3 with
 | slice _ els3 _ k3 =>
 obtain ⟨x3, rfl⟩ := rows_of backend_row k3
 exact ⟨⟨x1, x2, x3⟩, rfl⟩

abbrev objShs : List Sh := [.int .i64, .str, .str, .bool, .slice pairShs, .slice [.int .i64], .str, .slice listenerShs, .slice parentShs, .slice [.str], .slice ruleShs, .slice sideShs, .slice sideShs]

theorem obj_row {r : List PD} (h : HasShs objShs r) : ∃ a, r = AObj.pd a := by
 cases h with
 | cons _ d1 _ _ a1 h1 =>
 cases h1 with
 | cons _ d2 _ _ a2 h2 =>
 cases h2 with
 | cons _ d3 _ _ a3 h3 =>
 cases h3 with
 | cons _ d4 _ _ a4 h4 =>
 cases h4 with
 | cons _ d5 _ _ a5 h5 =>
 cases h5 with
 | cons _ d6 _ _ a6 h6 =>
 cases h6 with
 | cons _ d7 _ _ a7 h7 =>
 cases h7 with
 | cons _ d8 _ _ a8 h8 =>
 cases h8 with
 | cons _ d9 _ _ a9 h9 =>
 cases h9 with
 | cons _ d10 _ _ a10 h10 =>
 cases h10 with
 | cons _ d11 _ _ a11 h11 =>
 cases h11 with
 | cons _ d12 _ _ a12 h12 =>
 cases h12 with
 | cons _ d13 _ _ a13 h13 =>
 cases h13
 cases a1 with
 | int _ x1 _ =>
 cases a2 with
 | str x2 _ =>
 cases a3 with
 | str x3 _ =>
 cases a4 with
 | bool x4 =>
 cases a5 with
 | slice _ els5 _ k5 =>
 obtain ⟨x5, rfl⟩ := rows_of pair_row k5
 cases a6 with
 | slice _ els6 _ k6 =>
 obtain ⟨x6, rfl⟩ := rows_of int_row k6
 cases a7 with
 | str x7 _ =>
 cases a8 with
 | slice _ els8 _ k8 =>
 obtain ⟨x8, rfl⟩ := rows_of listener_row k8
 cases a9 with
 | slice _ els9 _ k9 =>
 obtain ⟨x9, rfl⟩ := rows_of parent_row k9
 cases a10 with
 | slice _ els10 _ k10 =>
 obtain ⟨x10, rfl⟩ := rows_of str_row k10
 cases a11 with
 | slice _ els11 _ k11 =>
 obtain ⟨x11, rfl⟩ := rows_of rule_row k11
 cases a12 with
 | slice _ els12 _ k12 =>
 obtain ⟨x12, rfl⟩ := rows_of side_row k12
 cases a13 with
 | slice _ els13 _ k13 =>
 obtain ⟨x13, rfl⟩ := rows_of side_row k13
 exact ⟨⟨⟨x1, x2, x3⟩, x4, x5, x6, x7, x8, x9, x10, x11, x12, x13⟩, rfl⟩

section
variable {H : Type} {enc : TypeId × Value → H} {P : Program} {W : World} {base : Nat} {spare : Nat → Bool} {held : Bool}

theorem arg_struct {t : TypeId} {fs : Array Field} {v : Value} {d : DataW H} {ps : List MemPlace} {n : Nat} {s : List Sh} (hu : P.underlying t = some (.struct fs)) (hv : Value.okWide P W .any base t v) (h : DataW.Trod enc P W 0 spare held t v d ps)
 (hs : shp P n t = some s) : ∃ ds, Rep (gh0 (allFz W)) W (.agg (ds.map D.pd)) v ∧ HasShs s ds := by
 obtain ⟨cs, rfl, hsz⟩ := okWide_struct hu hv
 obtain ⟨fuel, hf⟩ := h
 obtain ⟨ds, h1, h2⟩ := read (Fz := allFz W) allFz_cell n n (Nat.le_refl _) t _ fuel _ _ hs hf
 have hl : cs.toList.length = P.cellsOf t := by simpa using hsz
 refine ⟨ds, ?_, h2⟩
 simp only [Rep]
 exact ⟨cs.toList, by simp, Reps.of_pd (g := gh0 (allFz W)) h1⟩

end

end Go.Proofs.YtjgpdjakehoofaaGreatDoor



namespace Go.Proofs.YtjgpdjakehoofaaGreatDoor
open Go Go.RowKit
set_option linter.unusedSimpArgs false
set_option linter.unusedVariables false
set_option maxRecDepth 100000

abbrev i32 (n : Int) : D := .pd (.raw (.int .i32 n))
abbrev u8 (n : Int) : D := .pd (.raw (.int .u8 n))

def octet (c : Int) : Bool := (decide (97 ≤ c) && decide (c ≤ 122)) || (decide (48 ≤ c) && decide (c ≤ 57)) || decide (c = 45)

theorem dns_octet (c : Int) : Pure Tryz.prog 150 [i32 c] (fun d => d = bln (octet c)) := by
 refine pure_of_run follows an_zsl5t Tryz.func150 rfl ok_zsl5t.1 ok_zsl5t.2 (by simp [Tryz.ntmps150]) ?_
 rw [run_start]
 simp only [ac_zsl5t, go_sem, simprocAttr]
 repeat' (first | refine GifP.mk (fun _ => ?_) (fun _ => ?_) | refine Gif.mk (fun _ => ?_) (fun _ => ?_))
 all_goals
  simp only [retK, resD, retL, oneD, simprocAttr, Tryz.results150]
  exact ⟨_, rfl, rfl, congrArg bln (by first | rfl | (rw [Bool.eq_iff_iff]; simp only [octet]; (first | (simp; done) | (simp; omega) | (simp [*]; done) | (simp [*]; omega))) | (simp_all [octet]; done) | (exfalso; omega))⟩

theorem dns_Label_1 (c : Int) : Pure Tryz.prog 149 [i32 c] (fun d => d = bln (!octet c)) := by
 refine pure_of_run follows an_zmcx0 Tryz.func149 rfl ok_zmcx0.1 ok_zmcx0.2 (by simp [Tryz.ntmps149]) ?_
 rw [run_start]
 simp only [ac_zmcx0, go_sem, simprocAttr]
 refine (dns_octet _).callW (enters_of Tryz.func150 rfl rfl) _ rfl rfl ?_
 rintro d rfl
 simp only [go_sem, simprocAttr]
 simp only [retK, resD, retL, oneD, simprocAttr, Tryz.results149]
 exact ⟨_, rfl, rfl, rfl⟩

def runeIdx (p : Int → Bool) (s : ByteArray) : Nat → Nat → Int
 | 0, _ => -1
 | f + 1, pos => if pos < s.size then (if p (Utf8.decode s pos).1 then (pos : Int) else runeIdx p s f (pos + (Utf8.decode s pos).2)) else -1

theorem width_pos (s : ByteArray) (pos : Nat) : 1 ≤ (Utf8.decode s pos).2 := by
 unfold Utf8.decode
 dsimp only
 repeat' split
 all_goals simp

theorem runeIdx_end {p : Int → Bool} {s : ByteArray} {f pos : Nat} (h : ¬ pos < s.size) : runeIdx p s f pos = -1 := by cases f <;> simp [runeIdx, h]

theorem strings_indexFunc (p : Int → Bool) (f : FuncId) (he : Enters Tryz.prog f) (hp : ∀ c, Pure Tryz.prog f [i32 c] (fun d => d = bln (p c))) (s : ByteArray) :
 Pure Tryz.prog 201 [str s, .fn f [], bln true] (fun d => d = int (runeIdx p s s.size 0)) := by
 refine pure_of_run follows an_zkca0 Tryz.func201 rfl ok_zkca0.1 ok_zkca0.2 (by simp [Tryz.ntmps201]) ?_
 rw [run_start]
 simp only [ac_zkca0, go_sem, simprocAttr]
 refine loopS (fun k st => ∃ pos : Nat, s.size ≤ pos + k ∧ runeIdx p s k pos = runeIdx p s s.size 0 ∧
  st = ⟨[(1, .fn f []), (2, bln true), (10, .ptr 10 0)], [], [(10, .sit s pos)], .no⟩) s.size _ (Weak.refl _ _) ⟨0, by omega, rfl, rfl⟩ ?_
 rintro k st ⟨pos, hk, hr, rfl⟩
 by_cases hlt : pos < s.size
 ·obtain ⟨k, rfl⟩ : ∃ m, k = m + 1 := ⟨k - 1, by omega⟩
  have hw := width_pos s pos
  simp only [go_sem, simprocAttr, hlt]
  refine (hp _).callW he _ rfl rfl ?_
  rintro d rfl
  simp only [runeIdx, hlt, if_true] at hr
  simp only [go_sem, simprocAttr]
  refine ⟨fun h => ?_, fun h => ?_⟩
  ·simp only [retK, resD, retL, oneD, simprocAttr, Tryz.results201]
   simp at h
   simp only [h, if_true] at hr
   exact ⟨_, rfl, rfl, congrArg int hr⟩
  ·simp at h
   simp only [h, Bool.false_eq_true, if_false] at hr
   refine ⟨k, _, ?_, ?_, pos + (Utf8.decode s pos).2, ?_, hr, rfl⟩
   ·omega
   ·exact lessA
   ·omega
 ·simp only [go_sem, simprocAttr, hlt]
  simp only [retK, resD, retL, oneD, simprocAttr, Tryz.results201]
  rw [runeIdx_end hlt] at hr
  exact ⟨_, rfl, rfl, congrArg int hr⟩

theorem strings_IndexFunc (p : Int → Bool) (f : FuncId) (he : Enters Tryz.prog f) (hp : ∀ c, Pure Tryz.prog f [i32 c] (fun d => d = bln (p c))) (s : ByteArray) :
 Pure Tryz.prog 151 [str s, .fn f []] (fun d => d = int (runeIdx p s s.size 0)) := by
 refine pure_of_run follows an_zgrrf Tryz.func151 rfl ok_zgrrf.1 ok_zgrrf.2 (by simp [Tryz.ntmps151]) ?_
 rw [run_start]
 simp only [ac_zgrrf, go_sem, simprocAttr]
 refine (strings_indexFunc p f he hp s).callW (enters_of Tryz.func201 rfl rfl) _ rfl rfl ?_
 rintro d rfl
 simp only [go_sem, simprocAttr]
 simp only [retK, resD, retL, oneD, simprocAttr, Tryz.results151]
 exact ⟨_, rfl, rfl, rfl⟩

def label (s : ByteArray) : Bool :=
 !decide (s = ⟨#[]⟩) && decide (s.size ≤ 20) && decide (runeIdx (fun c => !octet c) s s.size 0 < 0) && (match s[0]? with | some b => !decide (b.toNat = 45) | none => false) && (match s[s.size - 1]? with | some b => !decide (b.toNat = 45) | none => false)

theorem at_byte {s : ByteArray} {i : Nat} (h : i < s.size) : ∃ b, s[i]? = some b := ⟨s[i], by simp [h]⟩

theorem size_pos {s : ByteArray} (h : s ≠ ⟨#[]⟩) : 0 < s.size := by
 rcases Nat.eq_zero_or_pos s.size with h0 | h0
 ·exact absurd (by cases s with | mk a => simp only [ByteArray.size] at h0; rw [Array.eq_empty_of_size_eq_zero h0]) h
 ·exact h0

theorem dns_Label (s : ByteArray) : Pure Tryz.prog 94 [str s] (fun d => d = bln (label s)) := by
 refine pure_of_run follows an_zovze Tryz.func94 rfl ok_zovze.1 ok_zovze.2 (by simp [Tryz.ntmps94]) ?_
 rw [run_start]
 simp only [ac_zovze, go_sem, simprocAttr]
 refine GifP.mk (fun h1 => ?_) (fun h1 => ?_)
 ·simp only [retK, resD, retL, oneD, simprocAttr, Tryz.results94]
  exact ⟨_, rfl, rfl, congrArg bln (by simp [label, h1])⟩
 have hpos := size_pos h1
 refine GifP.mk (fun h2 => ?_) (fun h2 => ?_)
 rotate_left
 ·simp only [retK, resD, retL, oneD, simprocAttr, Tryz.results94]
  exact ⟨_, rfl, rfl, congrArg bln (by simp [label]; omega)⟩
 refine (strings_IndexFunc _ _ (enters_of Tryz.func149 rfl rfl) dns_Label_1 s).callW (enters_of Tryz.func151 rfl rfl) _ rfl rfl ?_
 rintro d rfl
 obtain ⟨b0, hb0⟩ : ∃ b, s[0]? = some b := at_byte hpos
 obtain ⟨b1, hb1⟩ : ∃ b, s[s.size - 1]? = some b := at_byte (by omega)
 have hw : IntKind.i64.wrap ((s.size : Int) - 1) = ((s.size - 1 : Nat) : Int) := by rw [IntWalk.i64_in _ (by omega)]; omega
 simp only [go_sem, simprocAttr, hb0, hb1, hw]
 have h20 : s.size ≤ 20 := by omega
 repeat' (first | refine GifP.mk (fun _ => ?_) (fun _ => ?_) | refine Gif.mk (fun _ => ?_) (fun _ => ?_))
 all_goals
  simp only [retK, resD, retL, oneD, simprocAttr, Tryz.results94]
  exact ⟨_, rfl, rfl, congrArg bln (by first | rfl | (rw [Bool.eq_iff_iff]; simp only [label, hb0, hb1, h1, h20]; (first | (simp; done) | (simp; omega) | (simp [*]; done) | (simp [*]; omega))) | (simp_all [label, hb0, hb1, h1, h20]; done) | (exfalso; omega))⟩


theorem pure_of_calls {P : Program} {f : FuncId} {args : List D} {vs : List Value} {v : Value} {d : D} (ha : ∀ g w us, Reps g w args us → us = vs) (hd : d.closed = true) (hv : ∀ g w, Rep g w d v)
 (h : ∀ w, Calls P f vs.toArray w fun e w' => e = .returned v ∧ w' = w) : Pure P f args (fun x => x = d) := by
 intro Fz w us hlt hr
 obtain rfl := ha _ _ _ hr
 refine (h w).mono ?_
 rintro e w' ⟨rfl, rfl⟩
 exact ⟨v, d, Fz, rfl, rfl, hd, Below.refl _ _, Ex.refl _ _, hlt, fun _ _ h _ => h, hv _ _⟩

set_option maxHeartbeats 1000000 in
set_option maxRecDepth 100000 in
theorem run_stringslite_IndexByte (s : ByteArray) (c : Int) (w : World) :
 Calls Tryz.prog 273 #[.string s, .int .u8 c] w fun e w' => e = .returned (.int .i64 (Lib.indexByte s.data.toList c.toNat.toUInt8)) ∧ w' = w := by
 go_enter Tryz.func273, Tryz.ntmps273
 go_wp2
 rw [run_callFunc_extern Tryz.func286 (by kernel_rfl) (by kernel_rfl) (by kernel_rfl) (e := Extern.BytealgIndexByte.indexByte) (by kernel_rfl), Lib.run_indexByteString]
 simp only [Result.andThen]
 rw [Oper.upon_value]
 go_wp2
 go_ret
 exact ⟨rfl, rfl⟩

theorem rep_raw_inv {g : Gh} {w : World} {v u : Value} (h : Rep g w (.pd (.raw v)) u) : u = v := by
 simp only [Rep] at h
 cases h; rfl

theorem reps_two {g : Gh} {w : World} {a b : Value} {us : List Value} (h : Reps g w [.pd (.raw a), .pd (.raw b)] us) : us = [a, b] := by
 simp only [Reps] at h
 obtain ⟨x, r, rfl, hx, y, r', rfl, hy, rfl⟩ := h
 rw [rep_raw_inv hx, rep_raw_inv hy]

theorem stringslite_IndexByte (s : ByteArray) (c : Int) : Pure Tryz.prog 273 [str s, u8 c] (fun d => d = int (Lib.indexByte s.data.toList c.toNat.toUInt8)) :=
 pure_of_calls (vs := [.string s, .int .u8 c]) (v := .int .i64 (Lib.indexByte s.data.toList c.toNat.toUInt8)) (fun _ _ _ h => reps_two h) rfl (fun _ _ => by simp only [Rep]; exact .raw _ rfl) (run_stringslite_IndexByte s c)

theorem strings_IndexByte (s : ByteArray) (c : Int) : Pure Tryz.prog 256 [str s, u8 c] (fun d => d = int (Lib.indexByte s.data.toList c.toNat.toUInt8)) := by
 refine pure_of_run follows an_zixxy Tryz.func256 rfl ok_zixxy.1 ok_zixxy.2 (by simp [Tryz.ntmps256]) ?_
 rw [run_start]
 simp only [ac_zixxy, go_sem, simprocAttr]
 refine (stringslite_IndexByte s c).callW (enters_of Tryz.func273 rfl rfl) _ rfl rfl ?_
 rintro d rfl
 simp only [go_sem, simprocAttr]
 simp only [retK, resD, retL, oneD, simprocAttr, Tryz.results256]
 exact ⟨_, rfl, rfl, rfl⟩

theorem stringslite_Index (s : ByteArray) (c : UInt8) : Pure Tryz.prog 268 [str s, str ⟨#[c]⟩] (fun d => d = int (Lib.indexByte s.data.toList c)) := by
 refine pure_of_run follows an_zn6ys Tryz.func268 rfl ok_zn6ys.1 ok_zn6ys.2 (by simp [Tryz.ntmps268]) ?_
 rw [run_start]
 have h1 : (ByteArray.mk #[c]).size = 1 := rfl
 have h2 : (ByteArray.mk #[c])[0]? = some c := rfl
 have h3 : ((1 : Nat) : Int) = 1 := rfl
 have h4 : ((1 : Int) = 0) = False := by simp
 simp only [ac_zn6ys, go_sem, simprocAttr, h1, h2, h3, h4]
 refine GifP.mk (fun he => ?_) (fun he => ?_)
 ·simp only [retK, resD, retL, oneD, simprocAttr, Tryz.results268]
  exact ⟨_, rfl, rfl, congrArg int (by rw [← he]; simp [Lib.indexByte])⟩
 refine (stringslite_IndexByte s c.toNat).callW (enters_of Tryz.func273 rfl rfl) _ rfl rfl ?_
 rintro d rfl
 simp only [go_sem, simprocAttr]
 simp only [retK, resD, retL, oneD, simprocAttr, Tryz.results268]
 exact ⟨_, rfl, rfl, congrArg int (by simp)⟩

theorem strings_Index (s : ByteArray) (c : UInt8) : Pure Tryz.prog 243 [str s, str ⟨#[c]⟩] (fun d => d = int (Lib.indexByte s.data.toList c)) := by
 refine pure_of_run follows an_z89f Tryz.func243 rfl ok_z89f.1 ok_z89f.2 (by simp [Tryz.ntmps243]) ?_
 rw [run_start]
 simp only [ac_z89f, go_sem, simprocAttr]
 refine (stringslite_Index s c).callW (enters_of Tryz.func268 rfl rfl) _ rfl rfl ?_
 rintro d rfl
 simp only [go_sem, simprocAttr]
 simp only [retK, resD, retL, oneD, simprocAttr, Tryz.results243]
 exact ⟨_, rfl, rfl, rfl⟩

def splitB (c : UInt8) : Nat → ByteArray → List ByteArray
 | 0, s => [s]
 | f + 1, s => if Lib.indexByte s.data.toList c < 0 then [s] else s.extract 0 (Lib.indexByte s.data.toList c).toNat :: splitB c f (s.extract ((Lib.indexByte s.data.toList c).toNat + 1) s.size)

theorem indexByte_lt : ∀ (l : List UInt8) (c : UInt8), Lib.indexByte l c < 0 ∨ Lib.indexByte l c < l.length
 | [], c => by simp [Lib.indexByte]
 | b :: l, c => by
   have := indexByte_lt l c
   simp only [Lib.indexByte, List.length_cons]
   split
   ·right; omega
   ·split
    ·left; decide
    ·right; rename_i h1 h2; have := Lib.indexByte_ge l c; simp at h2; omega

theorem size_list (s : ByteArray) : s.data.toList.length = s.size := rfl

theorem drop_cons_at {α : Type} {l r : List α} {i : Nat} {x : α} (h : l.drop i = x :: r) : l[i]? = some x ∧ l.drop (i + 1) = r := by
 constructor
 ·have := congrArg (fun m => m[0]?) h
  simpa using this
 ·have := congrArg (fun m => m.drop 1) h
  simpa [List.drop_drop] using this

theorem splitB_end {c : UInt8} {k : Nat} {r : ByteArray} (h : Lib.indexByte r.data.toList c < 0) : splitB c k r = [r] := by
 cases k <;> simp [splitB, h]

set_option maxRecDepth 100000 in
theorem splitSeq_1 (c : UInt8) (s : ByteArray) (hs : s.size ≤ 1000000) : IterB Tryz.prog 241 [(500001, 0), (500002, 0), (500003, 0)] [(500001, [str ⟨#[c]⟩]), (500002, [str s]), (500003, [int 0])] ((splitB c s.size s).map Value.string) := by
 refine iter_of_run follows an_zjcnn Tryz.func241 rfl ok_zjcnn.1 ok_zjcnn.2 (by simp [Tryz.ntmps241]) rfl ?_
 intro l
 rw [run_start]
 have h1 : (ByteArray.mk #[c]).size = 1 := rfl
 have h3 : ((1 : Nat) : Int) = 1 := rfl
 have h4 : ((1 : Int) = 0) = False := by simp
 obtain ⟨X, hX⟩ : ∃ X, X = ((splitB c s.size s).map Value.string).map ([·]) := ⟨_, rfl⟩
 rw [← hX]
 simp only [ac_zjcnn, go_sem, simprocAttr, h1, h3, h4]
 refine loopS (fun k st => ∃ (i : Nat) (r : ByteArray), r.size ≤ k ∧ r.size ≤ 1000000 ∧ X.drop i = ((splitB c k r).map Value.string).map ([·]) ∧
  st = ⟨[(0, yieldD l), (1, .ptr 500001 0), (2, .ptr 500002 0), (3, .ptr 500003 0)], [(500001, [str ⟨#[c]⟩]), (500002, [str r]), (500003, [int 0])], [], .it l X i false⟩) s.size _ ?_ ⟨0, s, Nat.le_refl _, hs, hX, rfl⟩ ?_
 ·exact lessA
 rintro k st ⟨i, r, hk, hrs, hdr, rfl⟩
 obtain ⟨j, hj⟩ : ∃ j, Lib.indexByte r.data.toList c = j := ⟨_, rfl⟩
 simp only [go_sem, simprocAttr]
 refine (strings_Index r c).callW (enters_of Tryz.func243 rfl rfl) _ rfl rfl ?_
 rintro d rfl
 rw [hj]
 by_cases hj0 : j < 0
 ·rw [splitB_end (by omega)] at hdr
  obtain ⟨e1, e2⟩ := drop_cons_at hdr
  have e3 : X.length ≤ i + 1 := by simpa using List.drop_eq_nil_iff.1 e2
  have e4 : i < X.length := (List.getElem?_eq_some_iff.1 e1).1
  simp only [go_sem, simprocAttr, hj0, e1]
  exact ⟨⟨[], _, _, rfl, rfl, fun _ => by omega⟩, ⟨[], _, _, rfl, rfl, fun h => by cases h⟩⟩
 ·obtain ⟨m, rfl⟩ : ∃ m : Nat, j = m := ⟨j.toNat, by omega⟩
  have hm : m < r.size := by
   have := indexByte_lt r.data.toList c
   rw [hj, size_list] at this
   omega
  obtain ⟨k, rfl⟩ : ∃ n, k = n + 1 := ⟨k - 1, by omega⟩
  have hsp : splitB c (k + 1) r = r.extract 0 m :: splitB c k (r.extract (m + 1) r.size) := by
   rw [splitB, hj, if_neg hj0, Int.toNat_natCast]
  rw [hsp] at hdr
  obtain ⟨e1, e2⟩ := drop_cons_at hdr
  have w1 : IntKind.i64.wrap ((m : Int) + 0) = (m : Int) := by rw [IntWalk.i64_in _ (by omega)]; omega
  have w2 : IntKind.i64.wrap ((m : Int) + 1) = ((m + 1 : Nat) : Int) := by rw [IntWalk.i64_in _ (by omega)]; omega
  have c1 : (m ≤ r.size) = True := by simp; omega
  have c2 : (m + 1 ≤ r.size) = True := by simp; omega
  have hsz : (r.extract (m + 1) r.size).size = r.size - (m + 1) := by simp [ByteArray.size_extract]
  simp only [go_sem, simprocAttr, hj0, w1, w2, h1, h3, c1, c2, e1]
  refine ⟨⟨k, _, ?_, ?_, i + 1, r.extract (m + 1) r.size, ?_, ?_, e2, rfl⟩, ⟨[], _, _, rfl, rfl, fun h => by cases h⟩⟩
  ·omega
  ·exact lessA
  ·omega
  ·omega

theorem strings_splitSeq (s sep : ByteArray) : Full Tryz.prog 200 [str s, str sep, int 0] [] true (fun d bs => d = .fn 241 [(4, 0), (3, 0), (5, 0)] ∧ bs = [(4, [str sep]), (3, [str s]), (5, [int 0])]) := by
 refine full_of_run follows an_z70r5 Tryz.func200 rfl ok_z70r5.1 ok_z70r5.2 (by simp [Tryz.ntmps200]) (by simp [Tryz.ntmps200]) (.inl rfl) ?_
 rw [run_start]
 simp only [ac_z70r5, go_sem, simprocAttr]
 simp only [retK, fullK, resD, retL, oneD, simprocAttr, Tryz.results200]
 exact ⟨_, _, rfl, by simp [lessL, lk], rfl, rfl⟩

theorem strings_SplitSeq (s sep : ByteArray) : Full Tryz.prog 148 [str s, str sep] [] true (fun d bs => d = .fn 241 [(200001, 0), (200002, 0), (200003, 0)] ∧ bs = [(200001, [str sep]), (200002, [str s]), (200003, [int 0])]) := by
 refine full_of_run follows an_zln7r Tryz.func148 rfl ok_zln7r.1 ok_zln7r.2 (by simp [Tryz.ntmps148]) (by simp [Tryz.ntmps148]) (.inl rfl) ?_
 rw [run_start]
 simp only [ac_zln7r, go_sem, simprocAttr]
 refine (strings_splitSeq s sep).callW (enters_of Tryz.func200 rfl rfl) _ false [] [] [(4, 200001), (3, 200002), (5, 200003)] [] rfl rfl rfl ?_
 rintro d bs ⟨rfl, rfl⟩
 simp only [go_sem, simprocAttr]
 simp only [retK, fullK, resD, retL, oneD, simprocAttr, Tryz.results148]
 exact ⟨_, _, rfl, by simp [lessL, lk], rfl, rfl⟩

def dname (s : ByteArray) : Bool := decide (s.size ≤ 60) && (splitB 46 s.size s).all label

set_option maxRecDepth 100000 in
theorem dns_Name (s : ByteArray) : Pure Tryz.prog 93 [str s] (fun d => d = bln (dname s)) := by
 refine pure_of_run follows an_zmldt Tryz.func93 rfl ok_zmldt.1 ok_zmldt.2 (by simp [Tryz.ntmps93]) ?_
 rw [run_start]
 simp only [ac_zmldt, go_sem, simprocAttr]
 refine GifP.mk (fun h => ?_) (fun h => ?_)
 ·simp only [retK, iterK, resD, resA, AOp.ex, St.ev, retL, oneD, simprocAttr, ret_zmldt]
  exact ⟨_, rfl, rfl, congrArg bln (by simp only [dname]; simp; omega)⟩
 have h60 : s.size ≤ 60 := by omega
 refine (strings_SplitSeq s ⟨#[46]⟩).callW (enters_of Tryz.func148 rfl rfl) _ false [] [] [(200001, 200011), (200002, 200012), (200003, 200013)] [] rfl rfl rfl ?_
 rintro d bs ⟨rfl, rfl⟩
 simp only [go_sem, simprocAttr]
 refine rangeS ((splitB 46 s.size s).map Value.string) (fun i bs => (∀ j x, j < i → (splitB 46 s.size s)[j]? = some x → label x = true) ∧ bs = [(2, [bln false])]) rfl rfl rfl
  ((splitSeq_1 46 s (by omega)).iterW (enters_of Tryz.func241 rfl rfl) false [(200011, 500001), (200012, 500002), (200013, 500003)] rfl rfl rfl) ⟨fun _ _ h => absurd h (Nat.not_lt_zero _), rfl⟩ ?_ ?_
 ·rintro i v bs hv ⟨hpre, rfl⟩
  rw [List.getElem?_map] at hv
  obtain ⟨x, hx, rfl⟩ := Option.map_eq_some_iff.1 hv
  simp only [go_sem, simprocAttr]
  refine (dns_Label x).callW (enters_of Tryz.func94 rfl rfl) _ rfl rfl ?_
  rintro d rfl
  simp only [go_sem, simprocAttr]
  refine Gif.mk (fun hl => ?_) (fun hl => ?_)
  ·refine fun j y hj hy => ?_
   rcases Nat.lt_or_ge j i with h' | h'
   ·exact hpre j y h' hy
   ·obtain rfl : j = i := by omega
    rw [hx] at hy; cases hy; exact hl
  ·simp only [retK, iterK, resD, resA, AOp.ex, St.ev, retL, oneD, simprocAttr, ret_zmldt]
   refine ⟨_, rfl, rfl, congrArg bln ?_⟩
   have : (splitB 46 s.size s).all label = false := List.all_eq_false.2 ⟨x, List.mem_of_getElem? hx, by simp [hl]⟩
   simp [dname, this]
 ·rintro bs ⟨hall, rfl⟩
  simp only [go_sem, simprocAttr]
  simp only [retK, iterK, resD, resA, AOp.ex, St.ev, retL, oneD, simprocAttr, ret_zmldt]
  refine ⟨_, rfl, rfl, congrArg bln ?_⟩
  have : (splitB 46 s.size s).all label = true := List.all_eq_true.2 fun x hx => by
   obtain ⟨j, hj⟩ := List.getElem?_of_mem hx
   exact hall j x (by have := (List.getElem?_eq_some_iff.1 hj).1; simpa using this) hj
  simp [dname, this, h60]


def hasPrefix (s p : ByteArray) : Bool := decide (p.size ≤ s.size) && decide (s.extract 0 p.size = p)
def hasSuffix (s p : ByteArray) : Bool := decide (p.size ≤ s.size) && decide (s.extract (s.size - p.size) s.size = p)

theorem stringslite_HasPrefix (s p : ByteArray) : Pure Tryz.prog 254 [str s, str p] (fun d => d = bln (hasPrefix s p)) := by
 refine pure_of_run follows an_zntfc Tryz.func254 rfl ok_zntfc.1 ok_zntfc.2 (by simp [Tryz.ntmps254]) ?_
 rw [run_start]
 by_cases h : p.size ≤ s.size
 ·have h1 : ((p.size : Int) ≤ (s.size : Int)) = True := by simp; omega
  have h2 : (p.size ≤ s.size) = True := by simp [h]
  simp only [ac_zntfc, go_sem, simprocAttr, h1, h2]
  simp only [retK, resD, retL, oneD, simprocAttr, Tryz.results254]
  exact ⟨_, rfl, rfl, congrArg bln (by simp [hasPrefix, h])⟩
 ·have h1 : ((p.size : Int) ≤ (s.size : Int)) = False := by simp; omega
  simp only [ac_zntfc, go_sem, simprocAttr, h1]
  simp only [retK, resD, retL, oneD, simprocAttr, Tryz.results254]
  exact ⟨_, rfl, rfl, congrArg bln (by simp [hasPrefix, h])⟩

theorem stringslite_HasSuffix (s p : ByteArray) (hs : s.size ≤ 1000000) : Pure Tryz.prog 290 [str s, str p] (fun d => d = bln (hasSuffix s p)) := by
 refine pure_of_run follows an_z30tk Tryz.func290 rfl ok_z30tk.1 ok_z30tk.2 (by simp [Tryz.ntmps290]) ?_
 rw [run_start]
 by_cases h : p.size ≤ s.size
 ·have h1 : ((p.size : Int) ≤ (s.size : Int)) = True := by simp; omega
  have h2 : (s.size - p.size ≤ s.size) = True := by simp
  have h3 : IntKind.i64.wrap ((s.size : Int) - (p.size : Int)) = ((s.size - p.size : Nat) : Int) := by rw [IntWalk.i64_in _ (by omega)]; omega
  simp only [ac_z30tk, go_sem, simprocAttr, h1, h2, h3]
  simp only [retK, resD, retL, oneD, simprocAttr, Tryz.results290]
  exact ⟨_, rfl, rfl, congrArg bln (by simp [hasSuffix, h])⟩
 ·have h1 : ((p.size : Int) ≤ (s.size : Int)) = False := by simp; omega
  simp only [ac_z30tk, go_sem, simprocAttr, h1]
  simp only [retK, resD, retL, oneD, simprocAttr, Tryz.results290]
  exact ⟨_, rfl, rfl, congrArg bln (by simp [hasSuffix, h])⟩

theorem strings_HasPrefix (s p : ByteArray) : Pure Tryz.prog 281 [str s, str p] (fun d => d = bln (hasPrefix s p)) := by
 refine pure_of_run follows an_zc2tl Tryz.func281 rfl ok_zc2tl.1 ok_zc2tl.2 (by simp [Tryz.ntmps281]) ?_
 rw [run_start]
 simp only [ac_zc2tl, go_sem, simprocAttr]
 (repeat' (first | (refine GifP.mk (fun _ => ?_) (fun _ => ?_)) | (refine Gif.mk (fun _ => ?_) (fun _ => ?_)) | (refine (stringslite_HasPrefix _ _).callW (enters_of Tryz.func254 rfl rfl) _ rfl rfl ?_; rintro _ rfl; try simp only [go_sem, simprocAttr]))) <;> (simp only [retK, resD, retL, oneD, simprocAttr, Tryz.results281]; exact ⟨_, rfl, rfl, congrArg bln (by first | rfl | (rw [Bool.eq_iff_iff]; simp only [hasPrefix]; (first | (simp; done) | (simp; omega) | (simp [*]; done) | (simp [*]; omega))) | (simp_all [hasPrefix]; done) | (exfalso; omega))⟩)

theorem strings_HasSuffix (s p : ByteArray) (hs : s.size ≤ 1000000) : Pure Tryz.prog 282 [str s, str p] (fun d => d = bln (hasSuffix s p)) := by
 refine pure_of_run follows an_zq3h5 Tryz.func282 rfl ok_zq3h5.1 ok_zq3h5.2 (by simp [Tryz.ntmps282]) ?_
 rw [run_start]
 simp only [ac_zq3h5, go_sem, simprocAttr]
 (repeat' (first | (refine GifP.mk (fun _ => ?_) (fun _ => ?_)) | (refine Gif.mk (fun _ => ?_) (fun _ => ?_)) | (refine (stringslite_HasSuffix _ _ hs).callW (enters_of Tryz.func290 rfl rfl) _ rfl rfl ?_; rintro _ rfl; try simp only [go_sem, simprocAttr]))) <;> (simp only [retK, resD, retL, oneD, simprocAttr, Tryz.results282]; exact ⟨_, rfl, rfl, congrArg bln (by first | rfl | (rw [Bool.eq_iff_iff]; simp only [hasSuffix]; (first | (simp; done) | (simp; omega) | (simp [*]; done) | (simp [*]; omega))) | (simp_all [hasSuffix]; done) | (exfalso; omega))⟩)

def cutPrefix (s p : ByteArray) : ByteArray := if hasPrefix s p then s.extract p.size s.size else s

theorem stringslite_CutPrefix (s p : ByteArray) : Pure Tryz.prog 220 [str s, str p] (fun d => d = .tup [str (cutPrefix s p), bln (hasPrefix s p)]) := by
 refine pure_of_run follows an_zd73u Tryz.func220 rfl ok_zd73u.1 ok_zd73u.2 (by simp [Tryz.ntmps220]) ?_
 rw [run_start]
 simp only [ac_zd73u, go_sem, simprocAttr]
 refine (stringslite_HasPrefix s p).callW (enters_of Tryz.func254 rfl rfl) _ rfl rfl ?_
 rintro d rfl
 simp only [go_sem, simprocAttr]
 refine Gif.mk (fun h => ?_) (fun h => ?_)
 ·have h1 : p.size ≤ s.size := by simp only [hasPrefix, Bool.and_eq_true, decide_eq_true_eq] at h; exact h.1
  have h2 : (p.size ≤ s.size) = True := by simp [h1]
  simp only [go_sem, simprocAttr, h2]
  simp only [retK, resD, retL, oneD, simprocAttr, Tryz.results220]
  exact ⟨_, rfl, rfl, by simp [cutPrefix, h, D.pub, D.pubs]⟩
 ·simp only [retK, resD, retL, oneD, simprocAttr, Tryz.results220]
  exact ⟨_, rfl, rfl, by simp [cutPrefix, h, D.pub, D.pubs]⟩

theorem strings_CutPrefix (s p : ByteArray) : Pure Tryz.prog 188 [str s, str p] (fun d => d = .tup [str (cutPrefix s p), bln (hasPrefix s p)]) := by
 refine pure_of_run follows an_zgqff Tryz.func188 rfl ok_zgqff.1 ok_zgqff.2 (by simp [Tryz.ntmps188]) ?_
 rw [run_start]
 simp only [ac_zgqff, go_sem, simprocAttr]
 refine (stringslite_CutPrefix s p).callW (enters_of Tryz.func220 rfl rfl) _ rfl rfl ?_
 rintro d rfl
 simp only [go_sem, simprocAttr]
 simp only [retK, resD, retL, oneD, simprocAttr, Tryz.results188]
 exact ⟨_, rfl, rfl, rfl⟩

def hostMay (p : ByteArray) : Bool := decide (p = ⟨#[]⟩) || (decide (p.size ≤ 60) && dname (cutPrefix p ⟨#[42, 46]⟩) && (hasPrefix p ⟨#[42, 46]⟩ || decide (cutPrefix p ⟨#[42, 46]⟩ = p)))

set_option maxRecDepth 100000 in
theorem host_May (p : ByteArray) : Pure Tryz.prog 139 [str p] (fun d => d = bln (hostMay p)) := by
 refine pure_of_run follows an_z2osy Tryz.func139 rfl ok_z2osy.1 ok_z2osy.2 (by simp [Tryz.ntmps139]) ?_
 rw [run_start]
 simp only [ac_z2osy, go_sem, simprocAttr]
 (repeat' (first | (refine GifP.mk (fun _ => ?_) (fun _ => ?_)) | (refine Gif.mk (fun _ => ?_) (fun _ => ?_)) | ((first | refine (strings_CutPrefix _ _).callW (enters_of Tryz.func188 rfl rfl) _ rfl rfl ?_ | refine (dns_Name _).callW (enters_of Tryz.func93 rfl rfl) _ rfl rfl ?_); rintro _ rfl; try simp only [go_sem, simprocAttr]))) <;> (simp only [retK, resD, retL, oneD, simprocAttr, Tryz.results139]; exact ⟨_, rfl, rfl, congrArg bln (by first | rfl | (rw [Bool.eq_iff_iff]; simp only [hostMay]; (first | (simp; done) | (simp; omega) | (simp [*]; done) | (simp [*]; omega))) | (simp_all [hostMay]; done) | (exfalso; omega))⟩)

def labValue (s : ByteArray) : Bool := decide (s = ⟨#[]⟩) || label s

theorem label_value (s : ByteArray) : Pure Tryz.prog 174 [str s] (fun d => d = bln (labValue s)) := by
 refine pure_of_run follows an_ziqey Tryz.func174 rfl ok_ziqey.1 ok_ziqey.2 (by simp [Tryz.ntmps174]) ?_
 rw [run_start]
 simp only [ac_ziqey, go_sem, simprocAttr]
 (repeat' (first | (refine GifP.mk (fun _ => ?_) (fun _ => ?_)) | (refine Gif.mk (fun _ => ?_) (fun _ => ?_)) | (refine (dns_Label _).callW (enters_of Tryz.func94 rfl rfl) _ rfl rfl ?_; rintro _ rfl; try simp only [go_sem, simprocAttr]))) <;> (simp only [retK, resD, retL, oneD, simprocAttr, Tryz.results174]; exact ⟨_, rfl, rfl, congrArg bln (by first | rfl | (rw [Bool.eq_iff_iff]; simp only [labValue]; (first | (simp; done) | (simp; omega) | (simp [*]; done) | (simp [*]; omega))) | (simp_all [labValue]; done) | (exfalso; omega))⟩)

theorem bytes_get (s : ByteArray) (i : Nat) : s[i]? = s.data.toList[i]? := by
 by_cases h : i < s.size
 ·rw [getElem?_pos s i h, getElem?_pos s.data.toList i (by rw [size_list]; exact h)]; rfl
 ·rw [getElem?_neg s i h, getElem?_neg s.data.toList i (by rw [size_list]; exact h)]

theorem byte_at {s : ByteArray} {i : Nat} (h : i < s.size) : ∃ b, s[i]? = some b ∧ s.data.toList.drop i = b :: s.data.toList.drop (i + 1) := by
 obtain ⟨b, hb⟩ := at_byte h
 exact ⟨b, hb, drop_at (by rw [← bytes_get]; exact hb)⟩

theorem byte_end {s : ByteArray} {i : Nat} (h : ¬ i < s.size) : s.data.toList.drop i = [] := List.drop_eq_nil_of_le (by rw [size_list]; omega)

theorem i64_succ {i : Nat} (h : i < 1000000000) : IntKind.i64.wrap ((i : Int) + 1) = ((i + 1 : Nat) : Int) := by rw [IntWalk.i64_in _ (by omega)]; omega

def runeAll (p : Int → Bool) (s : ByteArray) : Nat → Nat → Bool
 | 0, _ => true
 | f + 1, pos => if pos < s.size then p (Utf8.decode s pos).1 && runeAll p s f (pos + (Utf8.decode s pos).2) else true

theorem runeAll_end {p : Int → Bool} {s : ByteArray} {f pos : Nat} (h : ¬ pos < s.size) : runeAll p s f pos = true := by cases f <;> simp [runeAll, h]

def pathRune (c : Int) : Bool := decide (33 ≤ c) && decide (c ≤ 126) && !decide (c = 63) && !decide (c = 35)

def pathIs (s : ByteArray) : Bool := runeAll pathRune s s.size 0 && hasPrefix s ⟨#[47]⟩ && decide (s.size ≤ 60)

set_option maxRecDepth 100000 in
theorem path_Is (s : ByteArray) : Pure Tryz.prog 258 [str s] (fun d => d = bln (pathIs s)) := by
 refine pure_of_run follows an_z6j2 Tryz.func258 rfl ok_z6j2.1 ok_z6j2.2 (by simp [Tryz.ntmps258]) ?_
 rw [run_start]
 simp only [ac_z6j2, go_sem, simprocAttr]
 refine loopS (fun k st => ∃ pos : Nat, s.size ≤ pos + k ∧ runeAll pathRune s k pos = runeAll pathRune s s.size 0 ∧
  st = ⟨[(0, str s), (6, .ptr 6 0)], [], [(6, .sit s pos)], .no⟩) s.size _ (Weak.refl _ _) ⟨0, by omega, rfl, rfl⟩ ?_
 rintro k st ⟨pos, hk, hr, rfl⟩
 by_cases hlt : pos < s.size
 ·obtain ⟨k, rfl⟩ : ∃ m, k = m + 1 := ⟨k - 1, by omega⟩
  have hw := width_pos s pos
  simp only [runeAll, hlt, if_true] at hr
  simp only [go_sem, simprocAttr, hlt]
  obtain ⟨c, hc⟩ : ∃ c : Int, ((Utf8.decode s pos).1 : Int) = c := ⟨_, rfl⟩
  rw [hc] at hr ⊢
  have bad : ∀ (h : pathRune c = false), pathIs s = false := fun h => by
   rw [h] at hr
   simp only [Bool.false_and] at hr
   simp [pathIs, ← hr]
  repeat' (first | refine GifP.mk (fun _ => ?_) (fun _ => ?_) | refine Gif.mk (fun _ => ?_) (fun _ => ?_))
  iterate 4
   ·simp only [retK, iterK, resD, retL, oneD, simprocAttr, Tryz.results258]
    exact ⟨_, rfl, rfl, congrArg bln (bad (by simp [pathRune]; omega)).symm⟩
  ·have hg : pathRune c = true := by simp [pathRune]; omega
   rw [hg, Bool.true_and] at hr
   refine ⟨k, _, ?_, ?_, pos + (Utf8.decode s pos).2, ?_, hr, rfl⟩
   ·omega
   ·exact lessA
   ·omega
 ·simp only [go_sem, simprocAttr, hlt]
  rw [runeAll_end hlt] at hr
  have hr' := hr.symm
  clear hr
  refine (strings_HasPrefix s _).callW (enters_of Tryz.func281 rfl rfl) _ rfl rfl ?_
  rintro d rfl
  simp only [go_sem, simprocAttr]
  repeat' (first | refine GifP.mk (fun _ => ?_) (fun _ => ?_) | refine Gif.mk (fun _ => ?_) (fun _ => ?_))
  all_goals
   simp only [retK, iterK, resD, retL, oneD, simprocAttr, Tryz.results258]
   exact ⟨_, rfl, rfl, congrArg bln (by first | rfl | (rw [Bool.eq_iff_iff]; simp only [pathIs, hr']; (first | (simp; done) | (simp; omega) | (simp [*]; done) | (simp [*]; omega))) | (simp_all [pathIs, hr']; done) | (exfalso; omega))⟩


def low (c : Int) : Int := IntKind.u8.wrap (BitVec.ofInt IntKind.u8.bits c ||| BitVec.ofInt IntKind.u8.bits 32).toNat

def foldO (c : Int) : Int := if 65 ≤ c ∧ c ≤ 90 then low c else c

structure FoldW (w : World) (s : ByteArray) (i : Nat) (wr : World) : Prop where
 below : Below w.heap.size w wr
 row : ∃ cs z, wr.heap[w.heap.size]? = some (.cells cs 5 z) ∧ s.size ≤ cs.size ∧ cs.size ≤ z.1 ∧ ∀ (j : Nat) b, s[j]? = some b → cs[j]? = some (.int .u8 (if j < i then foldO b.toNat else b.toNat))

theorem FoldW.next {w : World} {s : ByteArray} {i : Nat} {b : UInt8} (hb : s[i]? = some b) {cs : Array Value} {z : Nat × Nat} (h2 : s.size ≤ cs.size) (h3 : cs.size ≤ z.1)
 (h4 : ∀ (j : Nat) b, s[j]? = some b → cs[j]? = some (.int .u8 (if j < i then foldO b.toNat else b.toNat))) (cs' : Array Value) (W : World) (q1 : W.heap[w.heap.size]? = some (.cells cs' 5 z)) (q2 : cs'.size = cs.size) (q3 : Below w.heap.size w W)
 (q4 : ∀ j, j ≠ i → cs'[j]? = cs[j]?) (q5 : cs'[i]? = some (.int .u8 (foldO b.toNat))) : FoldW w s (i + 1) W :=
 ⟨q3, cs', z, q1, by omega, by omega, fun j b' hj => by
  by_cases e : j = i
  ·subst e
   rw [hb] at hj; cases hj
   rw [if_pos (by omega)]; exact q5
  ·rw [q4 j e, h4 j b' hj]
   by_cases e2 : j < i
   ·rw [if_pos e2, if_pos (by omega)]
   ·rw [if_neg e2, if_neg (by omega)]⟩

def fold (s : ByteArray) : ByteArray := octStr (s.data.toList.map fun b => foldO b.toNat)

set_option maxHeartbeats 1000000 in
theorem run_Fold (s : ByteArray) (hs : s.size ≤ 1000000) (w : World) :
 Calls Tryz.prog 263 #[.string s] w fun e w' => e = .returned (.string (fold s)) ∧ Below w.heap.size w w' := by
 have hconv := fun w' => Lib.run_convert_string_bytes (P := Tryz.prog) w' 9 185 5 s Tryz.underlying9 Tryz.underlying185 Tryz.underlying5
 go_enter Tryz.func263, Tryz.ntmps263
 go_wp2
 go_loopg [10] s.size (fun k c wr => ∃ i : Nat, k = s.size - i ∧ i ≤ s.size ∧ c = .int .i64 i ∧ FoldW w s i wr)
 case atStart =>
  have hcs : s.size ≤ (Lib.bytesCells w 5 s).size := by simp [Lib.bytesCells]
  refine ⟨0, rfl, Nat.zero_le _, rfl, ?_, _, _, Lib.bytesWorld_at_new w _ s, hcs, Nat.le_refl _, fun j b hb => ?_⟩
  ·exact ⟨rfl, rfl, rfl, by rw [Lib.bytesWorld_size]; omega, fun k hk => Lib.bytesWorld_at_old w _ s k hk⟩
  ·rw [if_neg (Nat.not_lt_zero j)]
   have hj : j < s.size := (List.getElem?_eq_some_iff.1 ((bytes_get s j).symm.trans hb)).1
   have hb' : s.data[j]? = some b := by rw [← Array.getElem?_toList, ← bytes_get]; exact hb
   simp only [Lib.bytesCells]
   rw [Array.getElem?_append_left (by simpa using hj), Array.getElem?_map, hb']
   rfl
 case round =>
  obtain ⟨i, hk, hi, rfl, hf⟩ := hrel
  obtain ⟨hbel, cs, z, h1, h2, h3, h4⟩ := hf
  by_cases hlt : i < s.size
  ·obtain ⟨b, hb⟩ := at_byte hlt
   have hcs := h4 i b hb
   rw [if_neg (Nat.lt_irrefl i)] at hcs
   have hcell : wr.cell? ⟨w.heap.size, i, none⟩ = some (.int .u8 b.toNat) := by simp [World.cell?, h1, hcs]
   have hfz : wr.frozen? ⟨w.heap.size, i, none⟩ = false := by
    simp [World.frozen?, h1]; omega
   have hlt' : (i : Int) < (s.size : Int) := by omega
   go_wp2
   ·have hset : (wr.setCell ⟨w.heap.size, i, none⟩ (.int .u8 (bits .or .u8 (b.toNat : Int) 32))).heap[w.heap.size]? = some (.cells (cs.setIfInBounds i (.int .u8 (bits .or .u8 (b.toNat : Int) 32))) 5 z) := by
     simp only [World.setCell, Array.getElem?_modify, if_true, h1, Option.map_some]
     rfl
    go_roundg (s.size - (i + 1))
    case measure => omega
    case rel =>
     refine ⟨i + 1, rfl, by omega, by simp, FoldW.next hb h2 h3 h4 _ _ hset (by simp) (hbel.setCell (Nat.le_refl _) _) (fun j hj => by simp [Array.getElem?_setIfInBounds, Ne.symm hj]) ?_⟩
     have hic : i < cs.size := by omega
     rw [Array.getElem?_setIfInBounds, if_pos rfl, if_pos hic]
     rw [foldO, if_pos (by omega)]
     rfl
   ·go_roundg (s.size - (i + 1))
    case measure => omega
    case rel => exact ⟨i + 1, rfl, by omega, by simp, FoldW.next hb h2 h3 h4 _ _ h1 rfl hbel (fun _ _ => rfl) (by rw [hcs, foldO, if_neg (by omega)])⟩
   ·go_roundg (s.size - (i + 1))
    case measure => omega
    case rel => exact ⟨i + 1, rfl, by omega, by simp, FoldW.next hb h2 h3 h4 _ _ h1 rfl hbel (fun _ _ => rfl) (by rw [hcs, foldO, if_neg (by omega)])⟩
  ·have hi2 : i = s.size := by omega
   subst hi2
   have hload := run_loadCells_list (P := Tryz.prog) (w := wr) (⟨w.heap.size, 0, none⟩ : Addr) ((s.data.toList.map fun b => foldO b.toNat).map (Value.int .u8)) (fun j v hj => by
    rw [List.getElem?_map, List.getElem?_map] at hj
    cases hb : s.data.toList[j]? with
    | none => rw [hb] at hj; cases hj
    | some b =>
      rw [hb] at hj
      cases hj
      have hjs : j < s.size := (List.getElem?_eq_some_iff.1 hb).1
      have := h4 j b (by rw [bytes_get]; exact hb)
      rw [if_pos hjs] at this
      rw [add_off, Nat.zero_add]
      simp [World.cell?, h1, this])
   have hlen : ((s.data.toList.map fun b => foldO b.toNat).map (Value.int .u8)).length = s.size := by simp [size_list]
   rw [hlen] at hload
   have hback := run_bytesToString wr ⟨w.heap.size, 0, none⟩ s.size (grownCap w s.size 0 5) _ hload
   have hconv2 := (run_convert_bytes_string (P := Tryz.prog) wr 185 9 5 (some ⟨w.heap.size, 0, none⟩) s.size (grownCap w s.size 0 5) Tryz.underlying185 Tryz.underlying5 Tryz.underlying9).trans hback
   have hlt' : ¬ (s.size : Int) < (s.size : Int) := by omega
   go_wp2
   go_ret
   exact ⟨rfl, hbel⟩

theorem dns_Fold (s : ByteArray) (hs : s.size ≤ 1000000) : Pure Tryz.prog 263 [str s] (fun d => d = str (fold s)) := by
 intro Fz w us hlt hr
 simp only [Reps] at hr
 obtain ⟨x, r, rfl, hx, rfl⟩ := hr
 obtain rfl := rep_raw_inv hx
 refine (run_Fold s hs w).mono ?_
 rintro e w' ⟨rfl, hb⟩
 exact ⟨_, _, Fz, rfl, rfl, rfl, hb, fun b o hf => ⟨hf, hb.cell (hlt b o hf)⟩, fun b o hf => Nat.lt_of_lt_of_le (hlt b o hf) hb.size, fun _ _ h _ => h, by simp only [Rep]; exact .raw _ rfl⟩


theorem pathIs_size {s : ByteArray} (h : pathIs s = true) : s.size ≤ 1000000 := by
 simp only [pathIs, Bool.and_eq_true, decide_eq_true_eq] at h
 omega

def pathAbove (s : ByteArray) : Bool := pathIs s && (decide (s = ⟨#[47]⟩) || !hasSuffix s ⟨#[47]⟩)

theorem path_above (s : ByteArray) : Pure Tryz.prog 259 [str s] (fun d => d = bln (pathAbove s)) := by
 refine pure_of_run follows an_zgeto Tryz.func259 rfl ok_zgeto.1 ok_zgeto.2 (by simp [Tryz.ntmps259]) ?_
 rw [run_start]
 simp only [ac_zgeto, go_sem, simprocAttr]
 (repeat' (first | (refine GifP.mk (fun _ => ?_) (fun _ => ?_)) | (refine Gif.mk (fun _ => ?_) (fun _ => ?_)) | ((first | refine (path_Is _).callW (enters_of Tryz.func258 rfl rfl) _ rfl rfl ?_ | refine (strings_HasSuffix _ _ (pathIs_size (by assumption))).callW (enters_of Tryz.func282 rfl rfl) _ rfl rfl ?_); rintro _ rfl; try simp only [go_sem, simprocAttr]))) <;> (simp only [retK, resD, retL, oneD, simprocAttr, Tryz.results259]; exact ⟨_, rfl, rfl, congrArg bln (by first | rfl | (rw [Bool.eq_iff_iff]; simp only [pathAbove]; (first | (simp; done) | (simp; omega) | (simp [*]; done) | (simp [*]; omega))) | (simp_all [pathAbove]; done) | (exfalso; omega))⟩)

def pathMay (k : Int) (v : ByteArray) : Bool := (decide (k = 1) && pathIs v) || (decide (k = 2) && pathAbove v)

theorem path_May (k : Int) (v : ByteArray) : Pure Tryz.prog 227 [.agg [int k, str v]] (fun d => d = bln (pathMay k v)) := by
 refine pure_of_run follows an_z2uwa Tryz.func227 rfl ok_z2uwa.1 ok_z2uwa.2 (by simp [Tryz.ntmps227]) ?_
 rw [run_start]
 simp only [ac_z2uwa, go_sem, simprocAttr]
 (repeat' (first | (refine GifP.mk (fun _ => ?_) (fun _ => ?_)) | (refine Gif.mk (fun _ => ?_) (fun _ => ?_)) | ((first | refine (path_Is _).callW (enters_of Tryz.func258 rfl rfl) _ rfl rfl ?_ | refine (path_above _).callW (enters_of Tryz.func259 rfl rfl) _ rfl rfl ?_); rintro _ rfl; try simp only [go_sem, simprocAttr]))) <;> (simp only [retK, resD, retL, oneD, simprocAttr, Tryz.results227]; exact ⟨_, rfl, rfl, congrArg bln (by first | rfl | (rw [Bool.eq_iff_iff]; simp only [pathMay]; (first | (simp; done) | (simp; omega) | (simp [*]; done) | (simp [*]; omega))) | (simp_all [pathMay]; done) | (exfalso; omega))⟩)

def methodRune (c : Int) : Bool := decide (65 ≤ c) && decide (c ≤ 90)

theorem rule_Method_1 (c : Int) : Pure Tryz.prog 260 [i32 c] (fun d => d = bln (!methodRune c)) := by
 refine pure_of_run follows an_zluy0 Tryz.func260 rfl ok_zluy0.1 ok_zluy0.2 (by simp [Tryz.ntmps260]) ?_
 rw [run_start]
 simp only [ac_zluy0, go_sem, simprocAttr]
 (repeat' (first | (refine GifP.mk (fun _ => ?_) (fun _ => ?_)) | (refine Gif.mk (fun _ => ?_) (fun _ => ?_)))) <;> (simp only [retK, resD, retL, oneD, simprocAttr, Tryz.results260]; exact ⟨_, rfl, rfl, congrArg bln (by first | rfl | (rw [Bool.eq_iff_iff]; simp only [methodRune]; (first | (simp; done) | (simp; omega) | (simp [*]; done) | (simp [*]; omega))) | (simp_all [methodRune]; done) | (exfalso; omega))⟩)

def method (s : ByteArray) : Bool := !decide (s = ⟨#[]⟩) && decide (s.size ≤ 10) && decide (runeIdx (fun c => !methodRune c) s s.size 0 < 0)

theorem rule_Method (s : ByteArray) : Pure Tryz.prog 228 [str s] (fun d => d = bln (method s)) := by
 refine pure_of_run follows an_zjt8m Tryz.func228 rfl ok_zjt8m.1 ok_zjt8m.2 (by simp [Tryz.ntmps228]) ?_
 rw [run_start]
 simp only [ac_zjt8m, go_sem, simprocAttr]
 (repeat' (first | (refine GifP.mk (fun _ => ?_) (fun _ => ?_)) | (refine Gif.mk (fun _ => ?_) (fun _ => ?_)) | (refine (strings_IndexFunc _ _ (enters_of Tryz.func260 rfl rfl) rule_Method_1 _).callW (enters_of Tryz.func151 rfl rfl) _ rfl rfl ?_; rintro _ rfl; try simp only [go_sem, simprocAttr]))) <;> (simp only [retK, resD, retL, oneD, simprocAttr, Tryz.results228]; exact ⟨_, rfl, rfl, congrArg bln (by first | rfl | (rw [Bool.eq_iff_iff]; simp only [method]; (first | (simp; done) | (simp; omega) | (simp [*]; done) | (simp [*]; omega))) | (simp_all [method]; done) | (exfalso; omega))⟩)

def pairMay (p : APair) : Bool := !decide (p.name = ⟨#[]⟩) && decide (p.name.size ≤ 40) && decide (p.val.size ≤ 40)

def queryMay (l : List APair) : Bool := l.all pairMay && decide (l.length ≤ 20)

set_option maxRecDepth 100000 in
theorem query_May (l : List APair) (hl : l.length ≤ 1000000) : Pure Tryz.prog 232 [.pd (.slice (rows APair.pd l))] (fun d => d = bln (queryMay l)) := by
 refine pure_of_run follows an_zr0tf Tryz.func232 rfl ok_zr0tf.1 ok_zr0tf.2 (by simp [Tryz.ntmps232]) ?_
 rw [run_start]
 simp only [ac_zr0tf, go_sem, simprocAttr]
 refine loopS (fun k st => ∃ i : Nat, k = l.length - i ∧ i ≤ l.length ∧ (l.drop i).all pairMay = l.all pairMay ∧
  st = ⟨[(0, .pd (.slice (rows APair.pd l))), (5, .pd (.slice (rows APair.pd l))), (6, int l.length), (7, int i)], [], [], .no⟩) l.length _ (Weak.refl _ _) ⟨0, rfl, Nat.zero_le _, rfl, rfl⟩ ?_
 rintro k st ⟨i, rfl, hi, hr, rfl⟩
 by_cases hlt : i < l.length
 ·obtain ⟨x, hx⟩ := at_lt hlt
  have hlt' : ((i : Int) < (l.length : Int)) = True := by simp; omega
  rw [drop_at hx, List.all_cons] at hr
  have bad : pairMay x = false → queryMay l = false := fun h => by
   rw [h, Bool.false_and] at hr
   simp [queryMay, ← hr]
  simp only [go_sem, simprocAttr, hlt', rows_get hx, i64_succ (show i < 1000000000 by omega)]
  repeat' (first | refine GifP.mk (fun _ => ?_) (fun _ => ?_) | refine Gif.mk (fun _ => ?_) (fun _ => ?_))
  iterate 3
   ·simp only [retK, iterK, resD, retL, oneD, simprocAttr, Tryz.results232]
    exact ⟨_, rfl, rfl, congrArg bln (bad (by simp [pairMay, *]; try omega)).symm⟩
  ·have hg : pairMay x = true := by simp [pairMay, *]; omega
   rw [hg, Bool.true_and] at hr
   refine ⟨l.length - (i + 1), _, ?_, ?_, i + 1, rfl, ?_, hr, rfl⟩
   ·omega
   ·exact lessA
   ·omega
 ·have hlt' : ((i : Int) < (l.length : Int)) = False := by simp; omega
  rw [List.drop_eq_nil_of_le (by omega)] at hr
  have hr' := hr.symm
  rw [List.all_nil] at hr'
  simp only [go_sem, simprocAttr, hlt']
  repeat' (first | refine GifP.mk (fun _ => ?_) (fun _ => ?_) | refine Gif.mk (fun _ => ?_) (fun _ => ?_))
  all_goals
   simp only [retK, iterK, resD, retL, oneD, simprocAttr, Tryz.results232]
   exact ⟨_, rfl, rfl, congrArg bln (by first | rfl | (rw [Bool.eq_iff_iff]; simp only [queryMay, hr']; (first | (simp; done) | (simp; omega) | (simp [*]; done) | (simp [*]; omega))) | (simp_all [queryMay, hr']; done) | (exfalso; omega))⟩

def marks : ByteArray := ⟨#[33, 35, 36, 37, 38, 39, 42, 43, 45, 46, 94, 95, 96, 124, 126]⟩

def tokenOct (b : UInt8) : Bool := (decide (97 ≤ low b.toNat) && decide (low b.toNat ≤ 122)) || (decide (48 ≤ b.toNat) && decide (b.toNat ≤ 57)) || decide (0 ≤ Lib.indexByte marks.data.toList b)

def token (s : ByteArray) : Bool := s.data.toList.all tokenOct && !decide (s = ⟨#[]⟩) && decide (s.size ≤ 40)

theorem toNat_u8 (b : UInt8) : ((b.toNat : Int)).toNat.toUInt8 = b := by simp

theorem pairs_Token (s : ByteArray) (hs : s.size ≤ 1000000) : Pure Tryz.prog 225 [str s] (fun d => d = bln (token s)) := by
 refine pure_of_run follows an_zwtth Tryz.func225 rfl ok_zwtth.1 ok_zwtth.2 (by simp [Tryz.ntmps225]) ?_
 rw [run_start]
 simp only [ac_zwtth, go_sem, simprocAttr]
 refine loopS (fun k st => ∃ i : Nat, k = s.size - i ∧ i ≤ s.size ∧ (s.data.toList.drop i).all tokenOct = s.data.toList.all tokenOct ∧
  st = ⟨[(0, str s), (6, int s.size), (7, int i)], [], [], .no⟩) s.size _ (Weak.refl _ _) ⟨0, rfl, Nat.zero_le _, rfl, rfl⟩ ?_
 rintro k st ⟨i, rfl, hi, hr, rfl⟩
 by_cases hlt : i < s.size
 ·obtain ⟨b, hb, hd⟩ := byte_at hlt
  have hlt' : ((i : Int) < (s.size : Int)) = True := by simp; omega
  rw [hd, List.all_cons] at hr
  have bad : tokenOct b = false → token s = false := fun h => by
   rw [h, Bool.false_and] at hr
   simp only [token, ← hr, Bool.false_and]
  have hlow : IntKind.u8.wrap (BitVec.ofInt IntKind.u8.bits (b.toNat : Int) ||| BitVec.ofInt IntKind.u8.bits 32).toNat = low b.toNat := rfl
  have hw := i64_succ (show i < 1000000000 by omega)
  simp only [go_sem, simprocAttr, hlt', hb, hw, ↓hlow]
  have good : tokenOct b = true → ∀ st, Weak Tryz.prog st ⟨[(0, str s), (6, int s.size), (7, int (i + 1 : Nat))], [], [], .no⟩ → Round Tryz.prog (fun k st => ∃ i : Nat, k = s.size - i ∧ i ≤ s.size ∧ (s.data.toList.drop i).all tokenOct = s.data.toList.all tokenOct ∧
   st = ⟨[(0, str s), (6, int s.size), (7, int i)], [], [], .no⟩) (s.size - i) st := fun h st hw => by
   rw [h, Bool.true_and] at hr
   exact ⟨s.size - (i + 1), _, by omega, hw, i + 1, rfl, by omega, hr, rfl⟩
  repeat' (first | refine GifP.mk (fun _ => ?_) (fun _ => ?_) | refine Gif.mk (fun _ => ?_) (fun _ => ?_) | (refine (strings_IndexByte _ _).callW (enters_of Tryz.func256 rfl rfl) _ rfl rfl ?_; rintro _ rfl; rw [toNat_u8]; simp only [go_sem, simprocAttr, hw]))
  all_goals first
   | (refine good (by simp [tokenOct, marks, *]; try omega) _ ?_; exact lessA)
   | (simp only [retK, resD, retL, oneD, simprocAttr, Tryz.results225]
      exact ⟨_, rfl, rfl, congrArg bln (bad (by simp [tokenOct, marks, *]; try omega)).symm⟩)
 ·have hlt' : ((i : Int) < (s.size : Int)) = False := by simp; omega
  rw [byte_end hlt] at hr
  have hr' := hr.symm
  rw [List.all_nil] at hr'
  simp only [go_sem, simprocAttr, hlt']
  repeat' (first | refine GifP.mk (fun _ => ?_) (fun _ => ?_) | refine Gif.mk (fun _ => ?_) (fun _ => ?_))
  all_goals
   simp only [retK, resD, retL, oneD, simprocAttr, Tryz.results225]
   exact ⟨_, rfl, rfl, congrArg bln (by first | rfl | (rw [Bool.eq_iff_iff]; simp only [token, hr']; (first | (simp; done) | (simp; omega) | (simp [*]; done) | (simp [*]; omega))) | (simp_all [token, hr']; done) | (exfalso; omega))⟩

def trimL (c : Int) : Nat → ByteArray → ByteArray
 | 0, s => s
 | f + 1, s => match s[0]? with
   | some b => if (b.toNat : Int) = c then trimL c f (s.extract 1 s.size) else s
   | none => s

def trimR (c : Int) : Nat → ByteArray → ByteArray
 | 0, s => s
 | f + 1, s => match s[s.size - 1]? with
   | some b => if (b.toNat : Int) = c then trimR c f (s.extract 0 (s.size - 1)) else s
   | none => s

theorem byte_none {s : ByteArray} {i : Nat} (h : ¬ i < s.size) : s[i]? = none := by rw [bytes_get]; exact List.getElem?_eq_none (by rw [size_list]; omega)

theorem strings_trimLeftByte (s : ByteArray) (c : Int) : Pure Tryz.prog 274 [str s, u8 c] (fun d => d = str (trimL c s.size s)) := by
 refine pure_of_run follows an_zu0fc Tryz.func274 rfl ok_zu0fc.1 ok_zu0fc.2 (by simp [Tryz.ntmps274]) ?_
 rw [run_start]
 simp only [ac_zu0fc, go_sem, simprocAttr]
 refine loopS (fun k st => ∃ r : ByteArray, r.size ≤ k ∧ trimL c k r = trimL c s.size s ∧
  st = ⟨[(0, str r), (1, u8 c)], [], [], .no⟩) s.size _ (Weak.refl _ _) ⟨s, Nat.le_refl _, rfl, rfl⟩ ?_
 rintro k st ⟨r, hk, hr, rfl⟩
 by_cases hlt : 0 < r.size
 ·obtain ⟨b, hb⟩ := at_byte hlt
  obtain ⟨k, rfl⟩ : ∃ m, k = m + 1 := ⟨k - 1, by omega⟩
  have h1 : ((0 : Int) < (r.size : Int)) = True := eq_true (by omega)
  have h2 : (1 ≤ r.size) = True := by simp; omega
  have h3 : (r.extract 1 r.size).size = r.size - 1 := by simp [ByteArray.size_extract]
  simp only [trimL, hb] at hr
  simp only [go_sem, simprocAttr, h1, hb, h2]
  refine GifP.mk (fun h => ?_) (fun h => ?_)
  ·rw [if_pos h] at hr
   refine ⟨k, _, ?_, ?_, r.extract 1 r.size, ?_, hr, rfl⟩
   ·omega
   ·exact lessA
   ·omega
  ·rw [if_neg h] at hr
   simp only [retK, resD, retL, oneD, simprocAttr, Tryz.results274]
   exact ⟨_, rfl, rfl, congrArg (fun x => str x) hr⟩
 ·have h1 : ((0 : Int) < (r.size : Int)) = False := eq_false (by omega)
  have hn : trimL c k r = r := by
   cases k with
   | zero => rfl
   | succ k => simp only [trimL, byte_none hlt]
  rw [hn] at hr
  simp only [go_sem, simprocAttr, h1]
  simp only [retK, resD, retL, oneD, simprocAttr, Tryz.results274]
  exact ⟨_, rfl, rfl, congrArg (fun x => str x) hr⟩

theorem strings_trimRightByte (s : ByteArray) (c : Int) (hs : s.size ≤ 1000000) : Pure Tryz.prog 275 [str s, u8 c] (fun d => d = str (trimR c s.size s)) := by
 refine pure_of_run follows an_zdteh Tryz.func275 rfl ok_zdteh.1 ok_zdteh.2 (by simp [Tryz.ntmps275]) ?_
 rw [run_start]
 simp only [ac_zdteh, go_sem, simprocAttr]
 refine loopS (fun k st => ∃ r : ByteArray, r.size ≤ k ∧ r.size ≤ 1000000 ∧ trimR c k r = trimR c s.size s ∧
  st = ⟨[(0, str r), (1, u8 c)], [], [], .no⟩) s.size _ (Weak.refl _ _) ⟨s, Nat.le_refl _, hs, rfl, rfl⟩ ?_
 rintro k st ⟨r, hk, hrs, hr, rfl⟩
 by_cases hlt : 0 < r.size
 ·obtain ⟨b, hb⟩ := at_byte (show r.size - 1 < r.size by omega)
  obtain ⟨k, rfl⟩ : ∃ m, k = m + 1 := ⟨k - 1, by omega⟩
  have h1 : ((0 : Int) < (r.size : Int)) = True := eq_true (by omega)
  have h2 : (r.size - 1 ≤ r.size) = True := by simp
  have h3 : (r.extract 0 (r.size - 1)).size = r.size - 1 := by simp [ByteArray.size_extract]
  have hw : IntKind.i64.wrap ((r.size : Int) - 1) = ((r.size - 1 : Nat) : Int) := by rw [IntWalk.i64_in _ (by omega)]; omega
  simp only [trimR, hb] at hr
  simp only [go_sem, simprocAttr, h1, hw, hb, h2]
  refine GifP.mk (fun h => ?_) (fun h => ?_)
  ·rw [if_pos h] at hr
   refine ⟨k, _, ?_, ?_, r.extract 0 (r.size - 1), ?_, ?_, hr, rfl⟩
   ·omega
   ·exact lessA
   ·omega
   ·omega
  ·rw [if_neg h] at hr
   simp only [retK, resD, retL, oneD, simprocAttr, Tryz.results275]
   exact ⟨_, rfl, rfl, congrArg (fun x => str x) hr⟩
 ·have h1 : ((0 : Int) < (r.size : Int)) = False := eq_false (by omega)
  have hn : trimR c k r = r := by
   cases k with
   | zero => rfl
   | succ k => simp only [trimR, byte_none (show ¬ r.size - 1 < r.size by omega)]
  rw [hn] at hr
  simp only [go_sem, simprocAttr, h1]
  simp only [retK, resD, retL, oneD, simprocAttr, Tryz.results275]
  exact ⟨_, rfl, rfl, congrArg (fun x => str x) hr⟩

def trim (s : ByteArray) : ByteArray := trimL 32 (trimR 32 s.size s).size (trimR 32 s.size s)

theorem strings_Trim (s : ByteArray) (hs : s.size ≤ 1000000) : Pure Tryz.prog 257 [str s, str ⟨#[32]⟩] (fun d => d = str (trim s)) := by
 refine pure_of_run follows an_zmas7 Tryz.func257 rfl ok_zmas7.1 ok_zmas7.2 (by simp [Tryz.ntmps257]) ?_
 rw [run_start]
 have h1 : (ByteArray.mk #[32]).size = 1 := rfl
 have h2 : (ByteArray.mk #[32])[0]? = some 32 := rfl
 have h3 : ((1 : Nat) : Int) = 1 := rfl
 have h4 : (ByteArray.mk #[32] = ByteArray.mk #[]) = False := by simp
 have h5 : ((UInt8.toNat 32 : Nat) : Int) = 32 := rfl
 simp only [ac_zmas7, go_sem, simprocAttr, go_sem, h1, h2, h3, h4, h5]
 refine GifP.mk (fun he => ?_) (fun he => ?_)
 ·simp only [retK, resD, retL, oneD, simprocAttr, Tryz.results257]
  refine ⟨_, rfl, rfl, congrArg (fun x => str x) ?_⟩
  subst he; rfl
 ·refine (strings_trimRightByte s 32 hs).callX (enters_of Tryz.func275 rfl rfl) _ rfl rfl ?_
  rintro d rfl
  simp only [go_sem, simprocAttr, go_sem, h1, h2, h5]
  refine (strings_trimLeftByte _ 32).callX (enters_of Tryz.func274 rfl rfl) _ rfl rfl ?_
  rintro d rfl
  simp only [go_sem, simprocAttr, go_sem]
  simp only [retK, resD, retL, oneD, simprocAttr, Tryz.results257]
  exact ⟨_, rfl, rfl, rfl⟩


abbrev idr (bs : List (Nat × List D)) : List (Nat × Nat) := bs.map fun p => (p.1, p.1)
def capD (caps : List (Nat × Nat)) : List D := caps.map fun c => .ptr c.1 c.2

def dnd : List Nat → Bool
 | [] => true
 | a :: l => !l.contains a && dnd l

structure Cl (bs : List (Nat × List D)) (caps : List (Nat × Nat)) : Prop where
 ok : renOK (idr bs) = true
 see : seeBs (idr bs) bs (idr bs) = bs
 cap : D.sees (idr bs) (capD caps) = capD caps
 capf : seeCaps (idr bs) caps = some caps
 nd : dnd (bs.map (·.1)) = true

theorem Cl.of {bs : List (Nat × List D)} {caps : List (Nat × Nat)} (h1 : renOK (idr bs) = true) (h2 : seeBs (idr bs) bs (idr bs) = bs) (h3 : D.sees (idr bs) (capD caps) = capD caps) (h4 : seeCaps (idr bs) caps = some caps) (h5 : dnd (bs.map (·.1)) = true) : Cl bs caps := ⟨h1, h2, h3, h4, h5⟩

theorem Cl.args {bs : List (Nat × List D)} {caps : List (Nat × Nat)} (h : Cl bs caps) {d : D} (hd : D.see (idr bs) d = d) : D.sees (idr bs) (d :: capD caps) = d :: capD caps := by
 rw [D.sees, hd, h.cap]

theorem Cl.two {bs : List (Nat × List D)} {caps : List (Nat × Nat)} (h : Cl bs caps) {x : PD} {g : FuncId} : D.sees (idr bs) [.pd x, .fn g caps] = [.pd x, .fn g caps] := by
 simp only [D.sees, D.see, h.capf]

theorem lessL_of {α : Type} : ∀ {r l : List (Nat × α)}, (∀ p ∈ r, lk l p.1 = some p.2) → lessL r l
 | [], _, _ => trivial
 | _ :: _, _, h => ⟨h _ (List.mem_cons_self ..), lessL_of fun p hp => h p (List.mem_cons_of_mem _ hp)⟩

theorem lk_mem_nd {α : Type} : ∀ {l : List (Nat × α)}, dnd (l.map (·.1)) = true → ∀ p ∈ l, lk l p.1 = some p.2
 | [], _, _, h => by cases h
 | (m, d) :: l, hn, p, h => by
   simp only [List.map_cons, dnd, Bool.and_eq_true, Bool.not_eq_true'] at hn
   rcases List.mem_cons.1 h with rfl | h
   ·simp [lk]
   ·have hne : p.1 ≠ m := fun e => by
     have : (l.map (·.1)).contains m = true := by rw [List.contains_iff_mem]; exact List.mem_map.2 ⟨p, h, e⟩
     rw [hn.1] at this; cases this
    simp only [lk, if_neg hne]
    exact lk_mem_nd hn.2 p h

theorem lessL_refl {α : Type} {l : List (Nat × α)} (h : dnd (l.map (·.1)) = true) : lessL l l := lessL_of (lk_mem_nd h)

theorem Mem.toNfn {P : Program} {w0 : World} {Fz0 : Nat → Nat → Prop} {S : Nat → Prop} {N : Nat} {bs : List (Nat × List D)} {ms : List (Nat × MO)} {g : Gh} {w : World} (m : Mem (.fn P w0 Fz0 S N) bs ms g w) (N' : Nat) : Mem (.fn P w0 Fz0 S N') bs ms g w where
 os := m.os
 tape := m.tape
 output := m.output
 hsz := m.hsz
 old := m.old
 keep := m.keep
 newfz := m.newfz
 fzlt := m.fzlt
 bxs := m.bxs
 mps := m.mps
 bxok := m.bxok
 bxinj := m.bxinj
 tks := m.tks
 tkinj := m.tkinj
 bxtk := m.bxtk
 dfs := m.dfs
 dnd := m.dnd
 bxdf := m.bxdf
 bxdm := m.bxdm

theorem PureB.pure {P : Program} {f : FuncId} {args : List D} {R : D → Prop} (h : PureB P f args [] R) : Pure P f args R := by
 intro Fz w vs hlt hr
 exact h (gh0 Fz) w vs rfl rfl (fun N => (init_SR (P := P) (N := args.length) (Nat.le_refl _) hlt hr).mem.toNfn N) hr

theorem Pure.pureB {P : Program} {f : FuncId} {args : List D} {R : D → Prop} (h : Pure P f args R) (hc : D.closeds args = true) : PureB P f args [] R := by
 intro g0 w vs _ _ hm hr
 exact h g0.Fz w vs (hm 0).fzlt (Reps.close (g := g0) (g' := gh0 g0.Fz) (Ex.refl _ _) hc hr)

def lidx {α : Type} (p : α → Bool) : List α → Nat → Int
 | [], _ => -1
 | x :: l, i => if p x = true then (i : Int) else lidx p l (i + 1)

theorem lidx_any' {α : Type} (p : α → Bool) : ∀ (l : List α) (i : Nat), decide (0 ≤ lidx p l i) = l.any p
 | [], _ => by simp [lidx]
 | x :: l, i => by
   rw [lidx, List.any_cons]
   by_cases h : p x = true
   ·rw [if_pos h, h]; simp
   ·rw [if_neg h, lidx_any' p l (i + 1)]; simp at h; simp [h]

theorem lidx_any {α : Type} (p : α → Bool) (l : List α) : decide (0 ≤ lidx p l 0) = l.any p := lidx_any' p l 0

def every {α : Type} (p : α → Bool) (l : List α) (n : Int) : Bool := decide ((l.length : Int) ≤ n) && l.all p

def twiceFrom {α : Type} (q : α → α → Bool) (l : List α) : Nat → Nat → Bool
 | 0, _ => false
 | k + 1, i => (match l[i]? with
   | some x => (l.take i).any fun y => q x y
   | none => false) || twiceFrom q l k (i + 1)

def twice {α : Type} (q : α → α → Bool) (l : List α) : Bool := twiceFrom q l l.length 0

abbrev ASide.d (s : ASide) : D := .agg [int s.kind, str s.space, str s.name]
abbrev APair.d (p : APair) : D := .agg [str p.name, str p.val]
abbrev ANeed.d (n : ANeed) : D := .agg [int n.kind, str n.name, .pd (.slice (strs n.vals))]
abbrev AListener.d (l : AListener) : D := .agg [str l.name, int l.port, bln l.tls, str l.host, int l.cert.kind, str l.cert.space, str l.cert.name, int l.from_, .pd (.slice (rows ANeed.pd l.needs))]
abbrev AParent.d (p : AParent) : D := .agg [str p.space, str p.name, str p.section_, int p.port]
abbrev AMatch.d (m : AMatch) : D := .agg [int m.pkind, str m.pval, str m.method, .pd (.slice (rows APair.pd m.head)), .pd (.slice (rows APair.pd m.query))]
abbrev AFilter.d (f : AFilter) : D := .agg [int f.kind, str f.name, str f.val, str f.host, int f.port, str f.path, bln f.whole, int f.code]
abbrev ARule.d (r : ARule) : D := .agg [.pd (.slice (rows AMatch.pd r.matches_)), .pd (.slice (rows AFilter.pd r.filters)), .pd (.slice (rows ABackend.pd r.backends))]

abbrev ASide.ds (s : ASide) : List D := [int s.kind, str s.space, str s.name]
abbrev AListener.ds (l : AListener) : List D := [str l.name, int l.port, bln l.tls, str l.host, int l.cert.kind, str l.cert.space, str l.cert.name, int l.from_, .pd (.slice (rows ANeed.pd l.needs))]
abbrev AParent.ds (p : AParent) : List D := [str p.space, str p.name, str p.section_, int p.port]
def eqf {α : Type} (q : α → α → Bool) : List α → List α → Bool
 | [], [] => true
 | x :: l, y :: m => q x y && eqf q l m
 | _, _ => false

theorem eqf_len {α : Type} (q : α → α → Bool) : ∀ {l m : List α}, l.length ≠ m.length → eqf q l m = false
 | [], [], h => absurd rfl h
 | [], _ :: _, _ => rfl
 | _ :: _, [], _ => rfl
 | x :: l, y :: m, h => by
   rw [eqf, eqf_len q (by simpa using h), Bool.and_false]

theorem eq_int (x y : Int) : decide (x = y) = decide (x = y) := rfl
theorem eq_string (x y : ByteArray) : decide (x = y) = decide (x = y) := rfl
theorem eq_Pair (x y : APair) : (decide (x.name = y.name) && decide (x.val = y.val)) = decide (x = y) := by
 cases x; cases y; rw [Bool.eq_iff_iff]; simp
theorem eq_Side (x y : ASide) : (decide (x.kind = y.kind) && (decide (x.space = y.space) && decide (x.name = y.name))) = decide (x = y) := by
 cases x; cases y; rw [Bool.eq_iff_iff]; simp
theorem eq_Parent (x y : AParent) : (decide (x.space = y.space) && (decide (x.name = y.name) && (decide (x.section_ = y.section_) && decide (x.port = y.port)))) = decide (x = y) := by
 cases x; cases y; rw [Bool.eq_iff_iff]; simp
theorem eq_Ref (x y : ARef) : (decide (x.kind = y.kind) && (decide (x.space = y.space) && decide (x.name = y.name))) = decide (x = y) := by
 cases x; cases y; rw [Bool.eq_iff_iff]; simp
theorem eq_Backend (x y : ABackend) : (decide (x.ref.kind = y.ref.kind) && (decide (x.ref.space = y.ref.space) && (decide (x.ref.name = y.ref.name) && (decide (x.port = y.port) && decide (x.weight = y.weight))))) = decide (x = y) := by
 obtain ⟨⟨a, b, c⟩, d, e⟩ := x; obtain ⟨⟨a', b', c'⟩, d', e'⟩ := y; rw [Bool.eq_iff_iff]; simp [and_assoc]
theorem eq_Filter (x y : AFilter) : (decide (x.kind = y.kind) && (decide (x.name = y.name) && (decide (x.val = y.val) && (decide (x.host = y.host) && (decide (x.port = y.port) && (decide (x.path = y.path) && (x.whole == y.whole && decide (x.code = y.code)))))))) = decide (x = y) := by
 cases x; cases y; rw [Bool.eq_iff_iff]; simp


theorem IndexFunc_Side (p : ASide → Bool) (g : FuncId) (he : Enters Tryz.prog g) (caps : List (Nat × Nat)) (bs : List (Nat × List D)) (hc : Cl bs caps) (l : List ASide) (hl : l.length ≤ 1000000)
 (hp : ∀ x ∈ l, PureB Tryz.prog g (ASide.d x :: capD caps) bs (fun d => d = bln (p x))) :
 PureB Tryz.prog 240 [.pd (.slice (rows ASide.pd l)), .fn g caps] bs (fun d => d = int (lidx p l 0)) := by
 refine pureB_of_run follows an_zhz8f Tryz.func240 rfl ok_zhz8f.1 ok_zhz8f.2 (by simp [Tryz.ntmps240]) ?_
 rw [run_start]
 simp only [ac_zhz8f, go_sem, simprocAttr]
 refine loopS (fun k st => ∃ i : Nat, k = l.length - i ∧ i ≤ l.length ∧ lidx p (l.drop i) i = lidx p l 0 ∧
  st = ⟨[(0, .pd (.slice (rows ASide.pd l))), (1, .fn g caps), (7, int l.length), (8, int i)], bs, [], .no⟩) l.length _ (Weak.refl _ _) ⟨0, rfl, Nat.zero_le _, rfl, rfl⟩ ?_
 rintro k st ⟨i, rfl, hi, hr, rfl⟩
 by_cases hlt : i < l.length
 ·obtain ⟨x, hx⟩ := at_lt hlt
  have hlt' : ((i : Int) < (l.length : Int)) = True := eq_true (by omega)
  have hw := i64_succ (show i < 1000000000 by omega)
  rw [drop_at hx, lidx] at hr
  simp only [go_sem, simprocAttr, hlt', rows_get hx]
  refine (hp x (List.mem_of_getElem? hx)).callW he _ (idr bs) hc.ok (hc.args (by rfl)) hc.see ?_
  rintro d rfl
  simp only [go_sem, simprocAttr]
  refine Gif.mk (fun h => ?_) (fun h => ?_)
  ·rw [if_pos h] at hr
   simp only [retK, resD, retL, oneD, simprocAttr, Tryz.results240]
   exact ⟨_, rfl, rfl, congrArg int hr⟩
  ·rw [if_neg (by simp [h])] at hr
   simp only [go_sem, simprocAttr, hw]
   refine ⟨l.length - (i + 1), _, ?_, ?_, i + 1, rfl, ?_, hr, rfl⟩
   ·omega
   ·exact Weak.less (by simp [lessL, lk]) (lessL_refl hc.nd) (by simp [lessL, lk]) rfl
   ·omega
 ·have hlt' : ((i : Int) < (l.length : Int)) = False := eq_false (by omega)
  rw [List.drop_eq_nil_of_le (by omega), lidx] at hr
  simp only [go_sem, simprocAttr, hlt']
  simp only [retK, resD, retL, oneD, simprocAttr, Tryz.results240]
  exact ⟨_, rfl, rfl, congrArg int hr⟩

theorem IndexFunc_int (p : Int → Bool) (g : FuncId) (he : Enters Tryz.prog g) (caps : List (Nat × Nat)) (bs : List (Nat × List D)) (hc : Cl bs caps) (l : List Int) (hl : l.length ≤ 1000000)
 (hp : ∀ x ∈ l, PureB Tryz.prog g (int x :: capD caps) bs (fun d => d = bln (p x))) :
 PureB Tryz.prog 213 [.pd (.slice (rows cInt l)), .fn g caps] bs (fun d => d = int (lidx p l 0)) := by
 refine pureB_of_run follows an_zrckh Tryz.func213 rfl ok_zrckh.1 ok_zrckh.2 (by simp [Tryz.ntmps213]) ?_
 rw [run_start]
 simp only [ac_zrckh, go_sem, simprocAttr]
 refine loopS (fun k st => ∃ i : Nat, k = l.length - i ∧ i ≤ l.length ∧ lidx p (l.drop i) i = lidx p l 0 ∧
  st = ⟨[(0, .pd (.slice (rows cInt l))), (1, .fn g caps), (7, int l.length), (8, int i)], bs, [], .no⟩) l.length _ (Weak.refl _ _) ⟨0, rfl, Nat.zero_le _, rfl, rfl⟩ ?_
 rintro k st ⟨i, rfl, hi, hr, rfl⟩
 by_cases hlt : i < l.length
 ·obtain ⟨x, hx⟩ := at_lt hlt
  have hlt' : ((i : Int) < (l.length : Int)) = True := eq_true (by omega)
  have hw := i64_succ (show i < 1000000000 by omega)
  rw [drop_at hx, lidx] at hr
  simp only [go_sem, simprocAttr, hlt', rows_get hx]
  refine (hp x (List.mem_of_getElem? hx)).callW he _ (idr bs) hc.ok (hc.args (by rfl)) hc.see ?_
  rintro d rfl
  simp only [go_sem, simprocAttr]
  refine Gif.mk (fun h => ?_) (fun h => ?_)
  ·rw [if_pos h] at hr
   simp only [retK, resD, retL, oneD, simprocAttr, Tryz.results213]
   exact ⟨_, rfl, rfl, congrArg int hr⟩
  ·rw [if_neg (by simp [h])] at hr
   simp only [go_sem, simprocAttr, hw]
   refine ⟨l.length - (i + 1), _, ?_, ?_, i + 1, rfl, ?_, hr, rfl⟩
   ·omega
   ·exact Weak.less (by simp [lessL, lk]) (lessL_refl hc.nd) (by simp [lessL, lk]) rfl
   ·omega
 ·have hlt' : ((i : Int) < (l.length : Int)) = False := eq_false (by omega)
  rw [List.drop_eq_nil_of_le (by omega), lidx] at hr
  simp only [go_sem, simprocAttr, hlt']
  simp only [retK, resD, retL, oneD, simprocAttr, Tryz.results213]
  exact ⟨_, rfl, rfl, congrArg int hr⟩

theorem IndexFunc_Listener (p : AListener → Bool) (g : FuncId) (he : Enters Tryz.prog g) (caps : List (Nat × Nat)) (bs : List (Nat × List D)) (hc : Cl bs caps) (l : List AListener) (hl : l.length ≤ 1000000)
 (hp : ∀ x ∈ l, PureB Tryz.prog g (AListener.d x :: capD caps) bs (fun d => d = bln (p x))) :
 PureB Tryz.prog 214 [.pd (.slice (rows AListener.pd l)), .fn g caps] bs (fun d => d = int (lidx p l 0)) := by
 refine pureB_of_run follows an_z3tfr Tryz.func214 rfl ok_z3tfr.1 ok_z3tfr.2 (by simp [Tryz.ntmps214]) ?_
 rw [run_start]
 simp only [ac_z3tfr, go_sem, simprocAttr]
 refine loopS (fun k st => ∃ i : Nat, k = l.length - i ∧ i ≤ l.length ∧ lidx p (l.drop i) i = lidx p l 0 ∧
  st = ⟨[(0, .pd (.slice (rows AListener.pd l))), (1, .fn g caps), (7, int l.length), (8, int i)], bs, [], .no⟩) l.length _ (Weak.refl _ _) ⟨0, rfl, Nat.zero_le _, rfl, rfl⟩ ?_
 rintro k st ⟨i, rfl, hi, hr, rfl⟩
 by_cases hlt : i < l.length
 ·obtain ⟨x, hx⟩ := at_lt hlt
  have hlt' : ((i : Int) < (l.length : Int)) = True := eq_true (by omega)
  have hw := i64_succ (show i < 1000000000 by omega)
  rw [drop_at hx, lidx] at hr
  simp only [go_sem, simprocAttr, hlt', rows_get hx]
  refine (hp x (List.mem_of_getElem? hx)).callW he _ (idr bs) hc.ok (hc.args (by rfl)) hc.see ?_
  rintro d rfl
  simp only [go_sem, simprocAttr]
  refine Gif.mk (fun h => ?_) (fun h => ?_)
  ·rw [if_pos h] at hr
   simp only [retK, resD, retL, oneD, simprocAttr, Tryz.results214]
   exact ⟨_, rfl, rfl, congrArg int hr⟩
  ·rw [if_neg (by simp [h])] at hr
   simp only [go_sem, simprocAttr, hw]
   refine ⟨l.length - (i + 1), _, ?_, ?_, i + 1, rfl, ?_, hr, rfl⟩
   ·omega
   ·exact Weak.less (by simp [lessL, lk]) (lessL_refl hc.nd) (by simp [lessL, lk]) rfl
   ·omega
 ·have hlt' : ((i : Int) < (l.length : Int)) = False := eq_false (by omega)
  rw [List.drop_eq_nil_of_le (by omega), lidx] at hr
  simp only [go_sem, simprocAttr, hlt']
  simp only [retK, resD, retL, oneD, simprocAttr, Tryz.results214]
  exact ⟨_, rfl, rfl, congrArg int hr⟩

theorem IndexFunc_Need (p : ANeed → Bool) (g : FuncId) (he : Enters Tryz.prog g) (caps : List (Nat × Nat)) (bs : List (Nat × List D)) (hc : Cl bs caps) (l : List ANeed) (hl : l.length ≤ 1000000)
 (hp : ∀ x ∈ l, PureB Tryz.prog g (ANeed.d x :: capD caps) bs (fun d => d = bln (p x))) :
 PureB Tryz.prog 252 [.pd (.slice (rows ANeed.pd l)), .fn g caps] bs (fun d => d = int (lidx p l 0)) := by
 refine pureB_of_run follows an_zijlh Tryz.func252 rfl ok_zijlh.1 ok_zijlh.2 (by simp [Tryz.ntmps252]) ?_
 rw [run_start]
 simp only [ac_zijlh, go_sem, simprocAttr]
 refine loopS (fun k st => ∃ i : Nat, k = l.length - i ∧ i ≤ l.length ∧ lidx p (l.drop i) i = lidx p l 0 ∧
  st = ⟨[(0, .pd (.slice (rows ANeed.pd l))), (1, .fn g caps), (7, int l.length), (8, int i)], bs, [], .no⟩) l.length _ (Weak.refl _ _) ⟨0, rfl, Nat.zero_le _, rfl, rfl⟩ ?_
 rintro k st ⟨i, rfl, hi, hr, rfl⟩
 by_cases hlt : i < l.length
 ·obtain ⟨x, hx⟩ := at_lt hlt
  have hlt' : ((i : Int) < (l.length : Int)) = True := eq_true (by omega)
  have hw := i64_succ (show i < 1000000000 by omega)
  rw [drop_at hx, lidx] at hr
  simp only [go_sem, simprocAttr, hlt', rows_get hx]
  refine (hp x (List.mem_of_getElem? hx)).callW he _ (idr bs) hc.ok (hc.args (by rfl)) hc.see ?_
  rintro d rfl
  simp only [go_sem, simprocAttr]
  refine Gif.mk (fun h => ?_) (fun h => ?_)
  ·rw [if_pos h] at hr
   simp only [retK, resD, retL, oneD, simprocAttr, Tryz.results252]
   exact ⟨_, rfl, rfl, congrArg int hr⟩
  ·rw [if_neg (by simp [h])] at hr
   simp only [go_sem, simprocAttr, hw]
   refine ⟨l.length - (i + 1), _, ?_, ?_, i + 1, rfl, ?_, hr, rfl⟩
   ·omega
   ·exact Weak.less (by simp [lessL, lk]) (lessL_refl hc.nd) (by simp [lessL, lk]) rfl
   ·omega
 ·have hlt' : ((i : Int) < (l.length : Int)) = False := eq_false (by omega)
  rw [List.drop_eq_nil_of_le (by omega), lidx] at hr
  simp only [go_sem, simprocAttr, hlt']
  simp only [retK, resD, retL, oneD, simprocAttr, Tryz.results252]
  exact ⟨_, rfl, rfl, congrArg int hr⟩

theorem IndexFunc_Parent (p : AParent → Bool) (g : FuncId) (he : Enters Tryz.prog g) (caps : List (Nat × Nat)) (bs : List (Nat × List D)) (hc : Cl bs caps) (l : List AParent) (hl : l.length ≤ 1000000)
 (hp : ∀ x ∈ l, PureB Tryz.prog g (AParent.d x :: capD caps) bs (fun d => d = bln (p x))) :
 PureB Tryz.prog 218 [.pd (.slice (rows AParent.pd l)), .fn g caps] bs (fun d => d = int (lidx p l 0)) := by
 refine pureB_of_run follows an_zwjxg Tryz.func218 rfl ok_zwjxg.1 ok_zwjxg.2 (by simp [Tryz.ntmps218]) ?_
 rw [run_start]
 simp only [ac_zwjxg, go_sem, simprocAttr]
 refine loopS (fun k st => ∃ i : Nat, k = l.length - i ∧ i ≤ l.length ∧ lidx p (l.drop i) i = lidx p l 0 ∧
  st = ⟨[(0, .pd (.slice (rows AParent.pd l))), (1, .fn g caps), (7, int l.length), (8, int i)], bs, [], .no⟩) l.length _ (Weak.refl _ _) ⟨0, rfl, Nat.zero_le _, rfl, rfl⟩ ?_
 rintro k st ⟨i, rfl, hi, hr, rfl⟩
 by_cases hlt : i < l.length
 ·obtain ⟨x, hx⟩ := at_lt hlt
  have hlt' : ((i : Int) < (l.length : Int)) = True := eq_true (by omega)
  have hw := i64_succ (show i < 1000000000 by omega)
  rw [drop_at hx, lidx] at hr
  simp only [go_sem, simprocAttr, hlt', rows_get hx]
  refine (hp x (List.mem_of_getElem? hx)).callW he _ (idr bs) hc.ok (hc.args (by rfl)) hc.see ?_
  rintro d rfl
  simp only [go_sem, simprocAttr]
  refine Gif.mk (fun h => ?_) (fun h => ?_)
  ·rw [if_pos h] at hr
   simp only [retK, resD, retL, oneD, simprocAttr, Tryz.results218]
   exact ⟨_, rfl, rfl, congrArg int hr⟩
  ·rw [if_neg (by simp [h])] at hr
   simp only [go_sem, simprocAttr, hw]
   refine ⟨l.length - (i + 1), _, ?_, ?_, i + 1, rfl, ?_, hr, rfl⟩
   ·omega
   ·exact Weak.less (by simp [lessL, lk]) (lessL_refl hc.nd) (by simp [lessL, lk]) rfl
   ·omega
 ·have hlt' : ((i : Int) < (l.length : Int)) = False := eq_false (by omega)
  rw [List.drop_eq_nil_of_le (by omega), lidx] at hr
  simp only [go_sem, simprocAttr, hlt']
  simp only [retK, resD, retL, oneD, simprocAttr, Tryz.results218]
  exact ⟨_, rfl, rfl, congrArg int hr⟩

theorem IndexFunc_string (p : ByteArray → Bool) (g : FuncId) (he : Enters Tryz.prog g) (caps : List (Nat × Nat)) (bs : List (Nat × List D)) (hc : Cl bs caps) (l : List ByteArray) (hl : l.length ≤ 1000000)
 (hp : ∀ x ∈ l, PureB Tryz.prog g (str x :: capD caps) bs (fun d => d = bln (p x))) :
 PureB Tryz.prog 219 [.pd (.slice (rows cStr l)), .fn g caps] bs (fun d => d = int (lidx p l 0)) := by
 refine pureB_of_run follows an_zski5 Tryz.func219 rfl ok_zski5.1 ok_zski5.2 (by simp [Tryz.ntmps219]) ?_
 rw [run_start]
 simp only [ac_zski5, go_sem, simprocAttr]
 refine loopS (fun k st => ∃ i : Nat, k = l.length - i ∧ i ≤ l.length ∧ lidx p (l.drop i) i = lidx p l 0 ∧
  st = ⟨[(0, .pd (.slice (rows cStr l))), (1, .fn g caps), (7, int l.length), (8, int i)], bs, [], .no⟩) l.length _ (Weak.refl _ _) ⟨0, rfl, Nat.zero_le _, rfl, rfl⟩ ?_
 rintro k st ⟨i, rfl, hi, hr, rfl⟩
 by_cases hlt : i < l.length
 ·obtain ⟨x, hx⟩ := at_lt hlt
  have hlt' : ((i : Int) < (l.length : Int)) = True := eq_true (by omega)
  have hw := i64_succ (show i < 1000000000 by omega)
  rw [drop_at hx, lidx] at hr
  simp only [go_sem, simprocAttr, hlt', rows_get hx]
  refine (hp x (List.mem_of_getElem? hx)).callW he _ (idr bs) hc.ok (hc.args (by rfl)) hc.see ?_
  rintro d rfl
  simp only [go_sem, simprocAttr]
  refine Gif.mk (fun h => ?_) (fun h => ?_)
  ·rw [if_pos h] at hr
   simp only [retK, resD, retL, oneD, simprocAttr, Tryz.results219]
   exact ⟨_, rfl, rfl, congrArg int hr⟩
  ·rw [if_neg (by simp [h])] at hr
   simp only [go_sem, simprocAttr, hw]
   refine ⟨l.length - (i + 1), _, ?_, ?_, i + 1, rfl, ?_, hr, rfl⟩
   ·omega
   ·exact Weak.less (by simp [lessL, lk]) (lessL_refl hc.nd) (by simp [lessL, lk]) rfl
   ·omega
 ·have hlt' : ((i : Int) < (l.length : Int)) = False := eq_false (by omega)
  rw [List.drop_eq_nil_of_le (by omega), lidx] at hr
  simp only [go_sem, simprocAttr, hlt']
  simp only [retK, resD, retL, oneD, simprocAttr, Tryz.results219]
  exact ⟨_, rfl, rfl, congrArg int hr⟩


theorem IndexFunc_Rule (p : ARule → Bool) (g : FuncId) (he : Enters Tryz.prog g) (caps : List (Nat × Nat)) (bs : List (Nat × List D)) (hc : Cl bs caps) (l : List ARule) (hl : l.length ≤ 1000000)
 (hp : ∀ x ∈ l, PureB Tryz.prog g (ARule.d x :: capD caps) bs (fun d => d = bln (p x))) :
 PureB Tryz.prog 221 [.pd (.slice (rows ARule.pd l)), .fn g caps] bs (fun d => d = int (lidx p l 0)) := by
 refine pureB_of_run follows an_zwh23 Tryz.func221 rfl ok_zwh23.1 ok_zwh23.2 (by simp [Tryz.ntmps221]) ?_
 rw [run_start]
 simp only [ac_zwh23, go_sem, simprocAttr]
 refine loopS (fun k st => ∃ i : Nat, k = l.length - i ∧ i ≤ l.length ∧ lidx p (l.drop i) i = lidx p l 0 ∧
  st = ⟨[(0, .pd (.slice (rows ARule.pd l))), (1, .fn g caps), (7, int l.length), (8, int i)], bs, [], .no⟩) l.length _ (Weak.refl _ _) ⟨0, rfl, Nat.zero_le _, rfl, rfl⟩ ?_
 rintro k st ⟨i, rfl, hi, hr, rfl⟩
 by_cases hlt : i < l.length
 ·obtain ⟨x, hx⟩ := at_lt hlt
  have hlt' : ((i : Int) < (l.length : Int)) = True := eq_true (by omega)
  have hw := i64_succ (show i < 1000000000 by omega)
  rw [drop_at hx, lidx] at hr
  simp only [go_sem, simprocAttr, hlt', rows_get hx]
  refine (hp x (List.mem_of_getElem? hx)).callW he _ (idr bs) hc.ok (hc.args (by rfl)) hc.see ?_
  rintro d rfl
  simp only [go_sem, simprocAttr]
  refine Gif.mk (fun h => ?_) (fun h => ?_)
  ·rw [if_pos h] at hr
   simp only [retK, resD, retL, oneD, simprocAttr, Tryz.results221]
   exact ⟨_, rfl, rfl, congrArg int hr⟩
  ·rw [if_neg (by simp [h])] at hr
   simp only [go_sem, simprocAttr, hw]
   refine ⟨l.length - (i + 1), _, ?_, ?_, i + 1, rfl, ?_, hr, rfl⟩
   ·omega
   ·exact Weak.less (by simp [lessL, lk]) (lessL_refl hc.nd) (by simp [lessL, lk]) rfl
   ·omega
 ·have hlt' : ((i : Int) < (l.length : Int)) = False := eq_false (by omega)
  rw [List.drop_eq_nil_of_le (by omega), lidx] at hr
  simp only [go_sem, simprocAttr, hlt']
  simp only [retK, resD, retL, oneD, simprocAttr, Tryz.results221]
  exact ⟨_, rfl, rfl, congrArg int hr⟩

theorem IndexFunc_Match (p : AMatch → Bool) (g : FuncId) (he : Enters Tryz.prog g) (caps : List (Nat × Nat)) (bs : List (Nat × List D)) (hc : Cl bs caps) (l : List AMatch) (hl : l.length ≤ 1000000)
 (hp : ∀ x ∈ l, PureB Tryz.prog g (AMatch.d x :: capD caps) bs (fun d => d = bln (p x))) :
 PureB Tryz.prog 255 [.pd (.slice (rows AMatch.pd l)), .fn g caps] bs (fun d => d = int (lidx p l 0)) := by
 refine pureB_of_run follows an_zsjmp Tryz.func255 rfl ok_zsjmp.1 ok_zsjmp.2 (by simp [Tryz.ntmps255]) ?_
 rw [run_start]
 simp only [ac_zsjmp, go_sem, simprocAttr]
 refine loopS (fun k st => ∃ i : Nat, k = l.length - i ∧ i ≤ l.length ∧ lidx p (l.drop i) i = lidx p l 0 ∧
  st = ⟨[(0, .pd (.slice (rows AMatch.pd l))), (1, .fn g caps), (7, int l.length), (8, int i)], bs, [], .no⟩) l.length _ (Weak.refl _ _) ⟨0, rfl, Nat.zero_le _, rfl, rfl⟩ ?_
 rintro k st ⟨i, rfl, hi, hr, rfl⟩
 by_cases hlt : i < l.length
 ·obtain ⟨x, hx⟩ := at_lt hlt
  have hlt' : ((i : Int) < (l.length : Int)) = True := eq_true (by omega)
  have hw := i64_succ (show i < 1000000000 by omega)
  rw [drop_at hx, lidx] at hr
  simp only [go_sem, simprocAttr, hlt', rows_get hx]
  refine (hp x (List.mem_of_getElem? hx)).callW he _ (idr bs) hc.ok (hc.args (by rfl)) hc.see ?_
  rintro d rfl
  simp only [go_sem, simprocAttr]
  refine Gif.mk (fun h => ?_) (fun h => ?_)
  ·rw [if_pos h] at hr
   simp only [retK, resD, retL, oneD, simprocAttr, Tryz.results255]
   exact ⟨_, rfl, rfl, congrArg int hr⟩
  ·rw [if_neg (by simp [h])] at hr
   simp only [go_sem, simprocAttr, hw]
   refine ⟨l.length - (i + 1), _, ?_, ?_, i + 1, rfl, ?_, hr, rfl⟩
   ·omega
   ·exact Weak.less (by simp [lessL, lk]) (lessL_refl hc.nd) (by simp [lessL, lk]) rfl
   ·omega
 ·have hlt' : ((i : Int) < (l.length : Int)) = False := eq_false (by omega)
  rw [List.drop_eq_nil_of_le (by omega), lidx] at hr
  simp only [go_sem, simprocAttr, hlt']
  simp only [retK, resD, retL, oneD, simprocAttr, Tryz.results255]
  exact ⟨_, rfl, rfl, congrArg int hr⟩

theorem IndexFunc_Pair (p : APair → Bool) (g : FuncId) (he : Enters Tryz.prog g) (caps : List (Nat × Nat)) (bs : List (Nat × List D)) (hc : Cl bs caps) (l : List APair) (hl : l.length ≤ 1000000)
 (hp : ∀ x ∈ l, PureB Tryz.prog g (APair.d x :: capD caps) bs (fun d => d = bln (p x))) :
 PureB Tryz.prog 261 [.pd (.slice (rows APair.pd l)), .fn g caps] bs (fun d => d = int (lidx p l 0)) := by
 refine pureB_of_run follows an_zdecl Tryz.func261 rfl ok_zdecl.1 ok_zdecl.2 (by simp [Tryz.ntmps261]) ?_
 rw [run_start]
 simp only [ac_zdecl, go_sem, simprocAttr]
 refine loopS (fun k st => ∃ i : Nat, k = l.length - i ∧ i ≤ l.length ∧ lidx p (l.drop i) i = lidx p l 0 ∧
  st = ⟨[(0, .pd (.slice (rows APair.pd l))), (1, .fn g caps), (7, int l.length), (8, int i)], bs, [], .no⟩) l.length _ (Weak.refl _ _) ⟨0, rfl, Nat.zero_le _, rfl, rfl⟩ ?_
 rintro k st ⟨i, rfl, hi, hr, rfl⟩
 by_cases hlt : i < l.length
 ·obtain ⟨x, hx⟩ := at_lt hlt
  have hlt' : ((i : Int) < (l.length : Int)) = True := eq_true (by omega)
  have hw := i64_succ (show i < 1000000000 by omega)
  rw [drop_at hx, lidx] at hr
  simp only [go_sem, simprocAttr, hlt', rows_get hx]
  refine (hp x (List.mem_of_getElem? hx)).callW he _ (idr bs) hc.ok (hc.args (by rfl)) hc.see ?_
  rintro d rfl
  simp only [go_sem, simprocAttr]
  refine Gif.mk (fun h => ?_) (fun h => ?_)
  ·rw [if_pos h] at hr
   simp only [retK, resD, retL, oneD, simprocAttr, Tryz.results261]
   exact ⟨_, rfl, rfl, congrArg int hr⟩
  ·rw [if_neg (by simp [h])] at hr
   simp only [go_sem, simprocAttr, hw]
   refine ⟨l.length - (i + 1), _, ?_, ?_, i + 1, rfl, ?_, hr, rfl⟩
   ·omega
   ·exact Weak.less (by simp [lessL, lk]) (lessL_refl hc.nd) (by simp [lessL, lk]) rfl
   ·omega
 ·have hlt' : ((i : Int) < (l.length : Int)) = False := eq_false (by omega)
  rw [List.drop_eq_nil_of_le (by omega), lidx] at hr
  simp only [go_sem, simprocAttr, hlt']
  simp only [retK, resD, retL, oneD, simprocAttr, Tryz.results261]
  exact ⟨_, rfl, rfl, congrArg int hr⟩

theorem IndexFunc_Filter (p : AFilter → Bool) (g : FuncId) (he : Enters Tryz.prog g) (caps : List (Nat × Nat)) (bs : List (Nat × List D)) (hc : Cl bs caps) (l : List AFilter) (hl : l.length ≤ 1000000)
 (hp : ∀ x ∈ l, PureB Tryz.prog g (AFilter.d x :: capD caps) bs (fun d => d = bln (p x))) :
 PureB Tryz.prog 265 [.pd (.slice (rows AFilter.pd l)), .fn g caps] bs (fun d => d = int (lidx p l 0)) := by
 refine pureB_of_run follows an_zwgkv Tryz.func265 rfl ok_zwgkv.1 ok_zwgkv.2 (by simp [Tryz.ntmps265]) ?_
 rw [run_start]
 simp only [ac_zwgkv, go_sem, simprocAttr]
 refine loopS (fun k st => ∃ i : Nat, k = l.length - i ∧ i ≤ l.length ∧ lidx p (l.drop i) i = lidx p l 0 ∧
  st = ⟨[(0, .pd (.slice (rows AFilter.pd l))), (1, .fn g caps), (7, int l.length), (8, int i)], bs, [], .no⟩) l.length _ (Weak.refl _ _) ⟨0, rfl, Nat.zero_le _, rfl, rfl⟩ ?_
 rintro k st ⟨i, rfl, hi, hr, rfl⟩
 by_cases hlt : i < l.length
 ·obtain ⟨x, hx⟩ := at_lt hlt
  have hlt' : ((i : Int) < (l.length : Int)) = True := eq_true (by omega)
  have hw := i64_succ (show i < 1000000000 by omega)
  rw [drop_at hx, lidx] at hr
  simp only [go_sem, simprocAttr, hlt', rows_get hx]
  refine (hp x (List.mem_of_getElem? hx)).callW he _ (idr bs) hc.ok (hc.args (by rfl)) hc.see ?_
  rintro d rfl
  simp only [go_sem, simprocAttr]
  refine Gif.mk (fun h => ?_) (fun h => ?_)
  ·rw [if_pos h] at hr
   simp only [retK, resD, retL, oneD, simprocAttr, Tryz.results265]
   exact ⟨_, rfl, rfl, congrArg int hr⟩
  ·rw [if_neg (by simp [h])] at hr
   simp only [go_sem, simprocAttr, hw]
   refine ⟨l.length - (i + 1), _, ?_, ?_, i + 1, rfl, ?_, hr, rfl⟩
   ·omega
   ·exact Weak.less (by simp [lessL, lk]) (lessL_refl hc.nd) (by simp [lessL, lk]) rfl
   ·omega
 ·have hlt' : ((i : Int) < (l.length : Int)) = False := eq_false (by omega)
  rw [List.drop_eq_nil_of_le (by omega), lidx] at hr
  simp only [go_sem, simprocAttr, hlt']
  simp only [retK, resD, retL, oneD, simprocAttr, Tryz.results265]
  exact ⟨_, rfl, rfl, congrArg int hr⟩

theorem IndexFunc_Backend (p : ABackend → Bool) (g : FuncId) (he : Enters Tryz.prog g) (caps : List (Nat × Nat)) (bs : List (Nat × List D)) (hc : Cl bs caps) (l : List ABackend) (hl : l.length ≤ 1000000)
 (hp : ∀ x ∈ l, PureB Tryz.prog g (ABackend.d x :: capD caps) bs (fun d => d = bln (p x))) :
 PureB Tryz.prog 266 [.pd (.slice (rows ABackend.pd l)), .fn g caps] bs (fun d => d = int (lidx p l 0)) := by
 refine pureB_of_run follows an_zbcsd Tryz.func266 rfl ok_zbcsd.1 ok_zbcsd.2 (by simp [Tryz.ntmps266]) ?_
 rw [run_start]
 simp only [ac_zbcsd, go_sem, simprocAttr]
 refine loopS (fun k st => ∃ i : Nat, k = l.length - i ∧ i ≤ l.length ∧ lidx p (l.drop i) i = lidx p l 0 ∧
  st = ⟨[(0, .pd (.slice (rows ABackend.pd l))), (1, .fn g caps), (7, int l.length), (8, int i)], bs, [], .no⟩) l.length _ (Weak.refl _ _) ⟨0, rfl, Nat.zero_le _, rfl, rfl⟩ ?_
 rintro k st ⟨i, rfl, hi, hr, rfl⟩
 by_cases hlt : i < l.length
 ·obtain ⟨x, hx⟩ := at_lt hlt
  have hlt' : ((i : Int) < (l.length : Int)) = True := eq_true (by omega)
  have hw := i64_succ (show i < 1000000000 by omega)
  rw [drop_at hx, lidx] at hr
  simp only [go_sem, simprocAttr, hlt', rows_get hx]
  refine (hp x (List.mem_of_getElem? hx)).callW he _ (idr bs) hc.ok (hc.args (by rfl)) hc.see ?_
  rintro d rfl
  simp only [go_sem, simprocAttr]
  refine Gif.mk (fun h => ?_) (fun h => ?_)
  ·rw [if_pos h] at hr
   simp only [retK, resD, retL, oneD, simprocAttr, Tryz.results266]
   exact ⟨_, rfl, rfl, congrArg int hr⟩
  ·rw [if_neg (by simp [h])] at hr
   simp only [go_sem, simprocAttr, hw]
   refine ⟨l.length - (i + 1), _, ?_, ?_, i + 1, rfl, ?_, hr, rfl⟩
   ·omega
   ·exact Weak.less (by simp [lessL, lk]) (lessL_refl hc.nd) (by simp [lessL, lk]) rfl
   ·omega
 ·have hlt' : ((i : Int) < (l.length : Int)) = False := eq_false (by omega)
  rw [List.drop_eq_nil_of_le (by omega), lidx] at hr
  simp only [go_sem, simprocAttr, hlt']
  simp only [retK, resD, retL, oneD, simprocAttr, Tryz.results266]
  exact ⟨_, rfl, rfl, congrArg int hr⟩


theorem ContainsFunc_Side (p : ASide → Bool) (g : FuncId) (he : Enters Tryz.prog g) (caps : List (Nat × Nat)) (bs : List (Nat × List D)) (hc : Cl bs caps) (l : List ASide) (hl : l.length ≤ 1000000)
 (hp : ∀ x ∈ l, PureB Tryz.prog g (ASide.d x :: capD caps) bs (fun d => d = bln (p x))) :
 PureB Tryz.prog 198 [.pd (.slice (rows ASide.pd l)), .fn g caps] bs (fun d => d = bln (l.any p)) := by
 refine pureB_of_run follows an_zkgk0 Tryz.func198 rfl ok_zkgk0.1 ok_zkgk0.2 (by simp [Tryz.ntmps198]) ?_
 rw [run_start]
 simp only [ac_zkgk0, go_sem, simprocAttr]
 refine (IndexFunc_Side p g he caps bs hc l hl hp).callW (enters_of Tryz.func240 rfl rfl) _ (idr bs) hc.ok hc.two hc.see ?_
 rintro d rfl
 simp only [go_sem, simprocAttr]
 simp only [retK, resD, retL, oneD, simprocAttr, Tryz.results198]
 exact ⟨_, rfl, rfl, congrArg bln (lidx_any p l)⟩

theorem ContainsFunc_int (p : Int → Bool) (g : FuncId) (he : Enters Tryz.prog g) (caps : List (Nat × Nat)) (bs : List (Nat × List D)) (hc : Cl bs caps) (l : List Int) (hl : l.length ≤ 1000000)
 (hp : ∀ x ∈ l, PureB Tryz.prog g (int x :: capD caps) bs (fun d => d = bln (p x))) :
 PureB Tryz.prog 175 [.pd (.slice (rows cInt l)), .fn g caps] bs (fun d => d = bln (l.any p)) := by
 refine pureB_of_run follows an_z2spj Tryz.func175 rfl ok_z2spj.1 ok_z2spj.2 (by simp [Tryz.ntmps175]) ?_
 rw [run_start]
 simp only [ac_z2spj, go_sem, simprocAttr]
 refine (IndexFunc_int p g he caps bs hc l hl hp).callW (enters_of Tryz.func213 rfl rfl) _ (idr bs) hc.ok hc.two hc.see ?_
 rintro d rfl
 simp only [go_sem, simprocAttr]
 simp only [retK, resD, retL, oneD, simprocAttr, Tryz.results175]
 exact ⟨_, rfl, rfl, congrArg bln (lidx_any p l)⟩

theorem ContainsFunc_Listener (p : AListener → Bool) (g : FuncId) (he : Enters Tryz.prog g) (caps : List (Nat × Nat)) (bs : List (Nat × List D)) (hc : Cl bs caps) (l : List AListener) (hl : l.length ≤ 1000000)
 (hp : ∀ x ∈ l, PureB Tryz.prog g (AListener.d x :: capD caps) bs (fun d => d = bln (p x))) :
 PureB Tryz.prog 179 [.pd (.slice (rows AListener.pd l)), .fn g caps] bs (fun d => d = bln (l.any p)) := by
 refine pureB_of_run follows an_zosgm Tryz.func179 rfl ok_zosgm.1 ok_zosgm.2 (by simp [Tryz.ntmps179]) ?_
 rw [run_start]
 simp only [ac_zosgm, go_sem, simprocAttr]
 refine (IndexFunc_Listener p g he caps bs hc l hl hp).callW (enters_of Tryz.func214 rfl rfl) _ (idr bs) hc.ok hc.two hc.see ?_
 rintro d rfl
 simp only [go_sem, simprocAttr]
 simp only [retK, resD, retL, oneD, simprocAttr, Tryz.results179]
 exact ⟨_, rfl, rfl, congrArg bln (lidx_any p l)⟩

theorem ContainsFunc_Need (p : ANeed → Bool) (g : FuncId) (he : Enters Tryz.prog g) (caps : List (Nat × Nat)) (bs : List (Nat × List D)) (hc : Cl bs caps) (l : List ANeed) (hl : l.length ≤ 1000000)
 (hp : ∀ x ∈ l, PureB Tryz.prog g (ANeed.d x :: capD caps) bs (fun d => d = bln (p x))) :
 PureB Tryz.prog 215 [.pd (.slice (rows ANeed.pd l)), .fn g caps] bs (fun d => d = bln (l.any p)) := by
 refine pureB_of_run follows an_zy4fu Tryz.func215 rfl ok_zy4fu.1 ok_zy4fu.2 (by simp [Tryz.ntmps215]) ?_
 rw [run_start]
 simp only [ac_zy4fu, go_sem, simprocAttr]
 refine (IndexFunc_Need p g he caps bs hc l hl hp).callW (enters_of Tryz.func252 rfl rfl) _ (idr bs) hc.ok hc.two hc.see ?_
 rintro d rfl
 simp only [go_sem, simprocAttr]
 simp only [retK, resD, retL, oneD, simprocAttr, Tryz.results215]
 exact ⟨_, rfl, rfl, congrArg bln (lidx_any p l)⟩

theorem ContainsFunc_Parent (p : AParent → Bool) (g : FuncId) (he : Enters Tryz.prog g) (caps : List (Nat × Nat)) (bs : List (Nat × List D)) (hc : Cl bs caps) (l : List AParent) (hl : l.length ≤ 1000000)
 (hp : ∀ x ∈ l, PureB Tryz.prog g (AParent.d x :: capD caps) bs (fun d => d = bln (p x))) :
 PureB Tryz.prog 184 [.pd (.slice (rows AParent.pd l)), .fn g caps] bs (fun d => d = bln (l.any p)) := by
 refine pureB_of_run follows an_zic3s Tryz.func184 rfl ok_zic3s.1 ok_zic3s.2 (by simp [Tryz.ntmps184]) ?_
 rw [run_start]
 simp only [ac_zic3s, go_sem, simprocAttr]
 refine (IndexFunc_Parent p g he caps bs hc l hl hp).callW (enters_of Tryz.func218 rfl rfl) _ (idr bs) hc.ok hc.two hc.see ?_
 rintro d rfl
 simp only [go_sem, simprocAttr]
 simp only [retK, resD, retL, oneD, simprocAttr, Tryz.results184]
 exact ⟨_, rfl, rfl, congrArg bln (lidx_any p l)⟩

theorem ContainsFunc_string (p : ByteArray → Bool) (g : FuncId) (he : Enters Tryz.prog g) (caps : List (Nat × Nat)) (bs : List (Nat × List D)) (hc : Cl bs caps) (l : List ByteArray) (hl : l.length ≤ 1000000)
 (hp : ∀ x ∈ l, PureB Tryz.prog g (str x :: capD caps) bs (fun d => d = bln (p x))) :
 PureB Tryz.prog 186 [.pd (.slice (rows cStr l)), .fn g caps] bs (fun d => d = bln (l.any p)) := by
 refine pureB_of_run follows an_zyx5 Tryz.func186 rfl ok_zyx5.1 ok_zyx5.2 (by simp [Tryz.ntmps186]) ?_
 rw [run_start]
 simp only [ac_zyx5, go_sem, simprocAttr]
 refine (IndexFunc_string p g he caps bs hc l hl hp).callW (enters_of Tryz.func219 rfl rfl) _ (idr bs) hc.ok hc.two hc.see ?_
 rintro d rfl
 simp only [go_sem, simprocAttr]
 simp only [retK, resD, retL, oneD, simprocAttr, Tryz.results186]
 exact ⟨_, rfl, rfl, congrArg bln (lidx_any p l)⟩

theorem ContainsFunc_Rule (p : ARule → Bool) (g : FuncId) (he : Enters Tryz.prog g) (caps : List (Nat × Nat)) (bs : List (Nat × List D)) (hc : Cl bs caps) (l : List ARule) (hl : l.length ≤ 1000000)
 (hp : ∀ x ∈ l, PureB Tryz.prog g (ARule.d x :: capD caps) bs (fun d => d = bln (p x))) :
 PureB Tryz.prog 191 [.pd (.slice (rows ARule.pd l)), .fn g caps] bs (fun d => d = bln (l.any p)) := by
 refine pureB_of_run follows an_zwd90 Tryz.func191 rfl ok_zwd90.1 ok_zwd90.2 (by simp [Tryz.ntmps191]) ?_
 rw [run_start]
 simp only [ac_zwd90, go_sem, simprocAttr]
 refine (IndexFunc_Rule p g he caps bs hc l hl hp).callW (enters_of Tryz.func221 rfl rfl) _ (idr bs) hc.ok hc.two hc.see ?_
 rintro d rfl
 simp only [go_sem, simprocAttr]
 simp only [retK, resD, retL, oneD, simprocAttr, Tryz.results191]
 exact ⟨_, rfl, rfl, congrArg bln (lidx_any p l)⟩

theorem ContainsFunc_Match (p : AMatch → Bool) (g : FuncId) (he : Enters Tryz.prog g) (caps : List (Nat × Nat)) (bs : List (Nat × List D)) (hc : Cl bs caps) (l : List AMatch) (hl : l.length ≤ 1000000)
 (hp : ∀ x ∈ l, PureB Tryz.prog g (AMatch.d x :: capD caps) bs (fun d => d = bln (p x))) :
 PureB Tryz.prog 222 [.pd (.slice (rows AMatch.pd l)), .fn g caps] bs (fun d => d = bln (l.any p)) := by
 refine pureB_of_run follows an_zmyh8 Tryz.func222 rfl ok_zmyh8.1 ok_zmyh8.2 (by simp [Tryz.ntmps222]) ?_
 rw [run_start]
 simp only [ac_zmyh8, go_sem, simprocAttr]
 refine (IndexFunc_Match p g he caps bs hc l hl hp).callW (enters_of Tryz.func255 rfl rfl) _ (idr bs) hc.ok hc.two hc.see ?_
 rintro d rfl
 simp only [go_sem, simprocAttr]
 simp only [retK, resD, retL, oneD, simprocAttr, Tryz.results222]
 exact ⟨_, rfl, rfl, congrArg bln (lidx_any p l)⟩

theorem ContainsFunc_Pair (p : APair → Bool) (g : FuncId) (he : Enters Tryz.prog g) (caps : List (Nat × Nat)) (bs : List (Nat × List D)) (hc : Cl bs caps) (l : List APair) (hl : l.length ≤ 1000000)
 (hp : ∀ x ∈ l, PureB Tryz.prog g (APair.d x :: capD caps) bs (fun d => d = bln (p x))) :
 PureB Tryz.prog 229 [.pd (.slice (rows APair.pd l)), .fn g caps] bs (fun d => d = bln (l.any p)) := by
 refine pureB_of_run follows an_zr7hm Tryz.func229 rfl ok_zr7hm.1 ok_zr7hm.2 (by simp [Tryz.ntmps229]) ?_
 rw [run_start]
 simp only [ac_zr7hm, go_sem, simprocAttr]
 refine (IndexFunc_Pair p g he caps bs hc l hl hp).callW (enters_of Tryz.func261 rfl rfl) _ (idr bs) hc.ok hc.two hc.see ?_
 rintro d rfl
 simp only [go_sem, simprocAttr]
 simp only [retK, resD, retL, oneD, simprocAttr, Tryz.results229]
 exact ⟨_, rfl, rfl, congrArg bln (lidx_any p l)⟩

theorem ContainsFunc_Filter (p : AFilter → Bool) (g : FuncId) (he : Enters Tryz.prog g) (caps : List (Nat × Nat)) (bs : List (Nat × List D)) (hc : Cl bs caps) (l : List AFilter) (hl : l.length ≤ 1000000)
 (hp : ∀ x ∈ l, PureB Tryz.prog g (AFilter.d x :: capD caps) bs (fun d => d = bln (p x))) :
 PureB Tryz.prog 237 [.pd (.slice (rows AFilter.pd l)), .fn g caps] bs (fun d => d = bln (l.any p)) := by
 refine pureB_of_run follows an_zi3lv Tryz.func237 rfl ok_zi3lv.1 ok_zi3lv.2 (by simp [Tryz.ntmps237]) ?_
 rw [run_start]
 simp only [ac_zi3lv, go_sem, simprocAttr]
 refine (IndexFunc_Filter p g he caps bs hc l hl hp).callW (enters_of Tryz.func265 rfl rfl) _ (idr bs) hc.ok hc.two hc.see ?_
 rintro d rfl
 simp only [go_sem, simprocAttr]
 simp only [retK, resD, retL, oneD, simprocAttr, Tryz.results237]
 exact ⟨_, rfl, rfl, congrArg bln (lidx_any p l)⟩

theorem ContainsFunc_Backend (p : ABackend → Bool) (g : FuncId) (he : Enters Tryz.prog g) (caps : List (Nat × Nat)) (bs : List (Nat × List D)) (hc : Cl bs caps) (l : List ABackend) (hl : l.length ≤ 1000000)
 (hp : ∀ x ∈ l, PureB Tryz.prog g (ABackend.d x :: capD caps) bs (fun d => d = bln (p x))) :
 PureB Tryz.prog 238 [.pd (.slice (rows ABackend.pd l)), .fn g caps] bs (fun d => d = bln (l.any p)) := by
 refine pureB_of_run follows an_z7rwg Tryz.func238 rfl ok_z7rwg.1 ok_z7rwg.2 (by simp [Tryz.ntmps238]) ?_
 rw [run_start]
 simp only [ac_z7rwg, go_sem, simprocAttr]
 refine (IndexFunc_Backend p g he caps bs hc l hl hp).callW (enters_of Tryz.func266 rfl rfl) _ (idr bs) hc.ok hc.two hc.see ?_
 rintro d rfl
 simp only [go_sem, simprocAttr]
 simp only [retK, resD, retL, oneD, simprocAttr, Tryz.results238]
 exact ⟨_, rfl, rfl, congrArg bln (lidx_any p l)⟩

theorem ContainsP_Need (p : ANeed → Bool) (f : FuncId) (he : Enters Tryz.prog f) (l : List ANeed) (hl : l.length ≤ 1000000) (hp : ∀ x ∈ l, Pure Tryz.prog f [ANeed.d x] (fun d => d = bln (p x))) :
 Pure Tryz.prog 215 [.pd (.slice (rows ANeed.pd l)), .fn f []] (fun d => d = bln (l.any p)) :=
 (ContainsFunc_Need p f he [] [] (Cl.of rfl rfl rfl rfl rfl) l hl (fun x hx => (hp x hx).pureB rfl)).pure

theorem ContainsP_string (p : ByteArray → Bool) (f : FuncId) (he : Enters Tryz.prog f) (l : List ByteArray) (hl : l.length ≤ 1000000) (hp : ∀ x ∈ l, Pure Tryz.prog f [str x] (fun d => d = bln (p x))) :
 Pure Tryz.prog 186 [.pd (.slice (rows cStr l)), .fn f []] (fun d => d = bln (l.any p)) :=
 (ContainsFunc_string p f he [] [] (Cl.of rfl rfl rfl rfl rfl) l hl (fun x hx => (hp x hx).pureB rfl)).pure

theorem ContainsP_Pair (p : APair → Bool) (f : FuncId) (he : Enters Tryz.prog f) (l : List APair) (hl : l.length ≤ 1000000) (hp : ∀ x ∈ l, Pure Tryz.prog f [APair.d x] (fun d => d = bln (p x))) :
 Pure Tryz.prog 229 [.pd (.slice (rows APair.pd l)), .fn f []] (fun d => d = bln (l.any p)) :=
 (ContainsFunc_Pair p f he [] [] (Cl.of rfl rfl rfl rfl rfl) l hl (fun x hx => (hp x hx).pureB rfl)).pure


theorem every_int_1 (p : Int → Bool) (f : FuncId) (he : Enters Tryz.prog f) (x : Int) (hp : Pure Tryz.prog f [int x] (fun d => d = bln (p x))) :
 PureB Tryz.prog 176 [int x, .ptr 1000001 0] [(1000001, [.fn f []])] (fun d => d = bln (!p x)) := by
 refine pureB_of_run follows an_zkvy2 Tryz.func176 rfl ok_zkvy2.1 ok_zkvy2.2 (by simp [Tryz.ntmps176]) ?_
 rw [run_start]
 simp only [ac_zkvy2, go_sem, simprocAttr]
 refine hp.callW he _ rfl rfl ?_
 rintro d rfl
 simp only [go_sem, simprocAttr]
 simp only [retK, resD, retL, oneD, simprocAttr, Tryz.results176]
 exact ⟨_, rfl, rfl, rfl⟩

theorem every_int (p : Int → Bool) (f : FuncId) (he : Enters Tryz.prog f) (l : List Int) (hl : l.length ≤ 1000000) (n : Int) (hp : ∀ x ∈ l, Pure Tryz.prog f [int x] (fun d => d = bln (p x))) :
 Pure Tryz.prog 125 [.pd (.slice (rows cInt l)), int n, .fn f []] (fun d => d = bln (every p l n)) := by
 refine pure_of_run follows an_z5yno Tryz.func125 rfl ok_z5yno.1 ok_z5yno.2 (by simp [Tryz.ntmps125]) ?_
 rw [run_start]
 simp only [ac_z5yno, go_sem, simprocAttr]
 refine GifP.mk (fun h => ?_) (fun h => ?_)
 ·refine (ContainsFunc_int (fun x => !p x) 176 (enters_of Tryz.func176 rfl rfl) [(1000001, 0)] [(1000001, [.fn f []])] (Cl.of rfl rfl rfl rfl rfl) l hl (fun x hx => every_int_1 p f he x (hp x hx))).callW (enters_of Tryz.func175 rfl rfl) _ [(5, 1000001)] rfl rfl rfl ?_
  rintro d rfl
  simp only [go_sem, simprocAttr]
  simp only [retK, resD, retL, oneD, simprocAttr, Tryz.results125]
  exact ⟨_, rfl, rfl, congrArg bln (by simp [every, h, List.all_eq_not_any_not])⟩
 ·simp only [retK, resD, retL, oneD, simprocAttr, Tryz.results125]
  exact ⟨_, rfl, rfl, congrArg bln (by simp [every, h])⟩

theorem every_Listener_1 (p : AListener → Bool) (f : FuncId) (he : Enters Tryz.prog f) (x : AListener) (hp : Pure Tryz.prog f [AListener.d x] (fun d => d = bln (p x))) :
 PureB Tryz.prog 180 [AListener.d x, .ptr 1000001 0] [(1000001, [.fn f []])] (fun d => d = bln (!p x)) := by
 refine pureB_of_run follows an_zir97 Tryz.func180 rfl ok_zir97.1 ok_zir97.2 (by simp [Tryz.ntmps180]) ?_
 rw [run_start]
 simp only [ac_zir97, go_sem, simprocAttr]
 refine hp.callW he _ rfl rfl ?_
 rintro d rfl
 simp only [go_sem, simprocAttr]
 simp only [retK, resD, retL, oneD, simprocAttr, Tryz.results180]
 exact ⟨_, rfl, rfl, rfl⟩

theorem every_Listener (p : AListener → Bool) (f : FuncId) (he : Enters Tryz.prog f) (l : List AListener) (hl : l.length ≤ 1000000) (n : Int) (hp : ∀ x ∈ l, Pure Tryz.prog f [AListener.d x] (fun d => d = bln (p x))) :
 Pure Tryz.prog 131 [.pd (.slice (rows AListener.pd l)), int n, .fn f []] (fun d => d = bln (every p l n)) := by
 refine pure_of_run follows an_zpo9w Tryz.func131 rfl ok_zpo9w.1 ok_zpo9w.2 (by simp [Tryz.ntmps131]) ?_
 rw [run_start]
 simp only [ac_zpo9w, go_sem, simprocAttr]
 refine GifP.mk (fun h => ?_) (fun h => ?_)
 ·refine (ContainsFunc_Listener (fun x => !p x) 180 (enters_of Tryz.func180 rfl rfl) [(1000001, 0)] [(1000001, [.fn f []])] (Cl.of rfl rfl rfl rfl rfl) l hl (fun x hx => every_Listener_1 p f he x (hp x hx))).callW (enters_of Tryz.func179 rfl rfl) _ [(5, 1000001)] rfl rfl rfl ?_
  rintro d rfl
  simp only [go_sem, simprocAttr]
  simp only [retK, resD, retL, oneD, simprocAttr, Tryz.results131]
  exact ⟨_, rfl, rfl, congrArg bln (by simp [every, h, List.all_eq_not_any_not])⟩
 ·simp only [retK, resD, retL, oneD, simprocAttr, Tryz.results131]
  exact ⟨_, rfl, rfl, congrArg bln (by simp [every, h])⟩

theorem every_Parent_1 (p : AParent → Bool) (f : FuncId) (he : Enters Tryz.prog f) (x : AParent) (hp : Pure Tryz.prog f [AParent.d x] (fun d => d = bln (p x))) :
 PureB Tryz.prog 189 [AParent.d x, .ptr 1000001 0] [(1000001, [.fn f []])] (fun d => d = bln (!p x)) := by
 refine pureB_of_run follows an_z31hg Tryz.func189 rfl ok_z31hg.1 ok_z31hg.2 (by simp [Tryz.ntmps189]) ?_
 rw [run_start]
 simp only [ac_z31hg, go_sem, simprocAttr]
 refine hp.callW he _ rfl rfl ?_
 rintro d rfl
 simp only [go_sem, simprocAttr]
 simp only [retK, resD, retL, oneD, simprocAttr, Tryz.results189]
 exact ⟨_, rfl, rfl, rfl⟩

theorem every_Parent (p : AParent → Bool) (f : FuncId) (he : Enters Tryz.prog f) (l : List AParent) (hl : l.length ≤ 1000000) (n : Int) (hp : ∀ x ∈ l, Pure Tryz.prog f [AParent.d x] (fun d => d = bln (p x))) :
 Pure Tryz.prog 140 [.pd (.slice (rows AParent.pd l)), int n, .fn f []] (fun d => d = bln (every p l n)) := by
 refine pure_of_run follows an_zblzf Tryz.func140 rfl ok_zblzf.1 ok_zblzf.2 (by simp [Tryz.ntmps140]) ?_
 rw [run_start]
 simp only [ac_zblzf, go_sem, simprocAttr]
 refine GifP.mk (fun h => ?_) (fun h => ?_)
 ·refine (ContainsFunc_Parent (fun x => !p x) 189 (enters_of Tryz.func189 rfl rfl) [(1000001, 0)] [(1000001, [.fn f []])] (Cl.of rfl rfl rfl rfl rfl) l hl (fun x hx => every_Parent_1 p f he x (hp x hx))).callW (enters_of Tryz.func184 rfl rfl) _ [(5, 1000001)] rfl rfl rfl ?_
  rintro d rfl
  simp only [go_sem, simprocAttr]
  simp only [retK, resD, retL, oneD, simprocAttr, Tryz.results140]
  exact ⟨_, rfl, rfl, congrArg bln (by simp [every, h, List.all_eq_not_any_not])⟩
 ·simp only [retK, resD, retL, oneD, simprocAttr, Tryz.results140]
  exact ⟨_, rfl, rfl, congrArg bln (by simp [every, h])⟩

theorem every_string_1 (p : ByteArray → Bool) (f : FuncId) (he : Enters Tryz.prog f) (x : ByteArray) (hp : Pure Tryz.prog f [str x] (fun d => d = bln (p x))) :
 PureB Tryz.prog 190 [str x, .ptr 1000001 0] [(1000001, [.fn f []])] (fun d => d = bln (!p x)) := by
 refine pureB_of_run follows an_z1wya Tryz.func190 rfl ok_z1wya.1 ok_z1wya.2 (by simp [Tryz.ntmps190]) ?_
 rw [run_start]
 simp only [ac_z1wya, go_sem, simprocAttr]
 refine hp.callW he _ rfl rfl ?_
 rintro d rfl
 simp only [go_sem, simprocAttr]
 simp only [retK, resD, retL, oneD, simprocAttr, Tryz.results190]
 exact ⟨_, rfl, rfl, rfl⟩

theorem every_string (p : ByteArray → Bool) (f : FuncId) (he : Enters Tryz.prog f) (l : List ByteArray) (hl : l.length ≤ 1000000) (n : Int) (hp : ∀ x ∈ l, Pure Tryz.prog f [str x] (fun d => d = bln (p x))) :
 Pure Tryz.prog 142 [.pd (.slice (rows cStr l)), int n, .fn f []] (fun d => d = bln (every p l n)) := by
 refine pure_of_run follows an_zch4 Tryz.func142 rfl ok_zch4.1 ok_zch4.2 (by simp [Tryz.ntmps142]) ?_
 rw [run_start]
 simp only [ac_zch4, go_sem, simprocAttr]
 refine GifP.mk (fun h => ?_) (fun h => ?_)
 ·refine (ContainsFunc_string (fun x => !p x) 190 (enters_of Tryz.func190 rfl rfl) [(1000001, 0)] [(1000001, [.fn f []])] (Cl.of rfl rfl rfl rfl rfl) l hl (fun x hx => every_string_1 p f he x (hp x hx))).callW (enters_of Tryz.func186 rfl rfl) _ [(5, 1000001)] rfl rfl rfl ?_
  rintro d rfl
  simp only [go_sem, simprocAttr]
  simp only [retK, resD, retL, oneD, simprocAttr, Tryz.results142]
  exact ⟨_, rfl, rfl, congrArg bln (by simp [every, h, List.all_eq_not_any_not])⟩
 ·simp only [retK, resD, retL, oneD, simprocAttr, Tryz.results142]
  exact ⟨_, rfl, rfl, congrArg bln (by simp [every, h])⟩

theorem every_Rule_1 (p : ARule → Bool) (f : FuncId) (he : Enters Tryz.prog f) (x : ARule) (hp : Pure Tryz.prog f [ARule.d x] (fun d => d = bln (p x))) :
 PureB Tryz.prog 192 [ARule.d x, .ptr 1000001 0] [(1000001, [.fn f []])] (fun d => d = bln (!p x)) := by
 refine pureB_of_run follows an_z8keb Tryz.func192 rfl ok_z8keb.1 ok_z8keb.2 (by simp [Tryz.ntmps192]) ?_
 rw [run_start]
 simp only [ac_z8keb, go_sem, simprocAttr]
 refine hp.callW he _ rfl rfl ?_
 rintro d rfl
 simp only [go_sem, simprocAttr]
 simp only [retK, resD, retL, oneD, simprocAttr, Tryz.results192]
 exact ⟨_, rfl, rfl, rfl⟩

theorem every_Rule (p : ARule → Bool) (f : FuncId) (he : Enters Tryz.prog f) (l : List ARule) (hl : l.length ≤ 1000000) (n : Int) (hp : ∀ x ∈ l, Pure Tryz.prog f [ARule.d x] (fun d => d = bln (p x))) :
 Pure Tryz.prog 143 [.pd (.slice (rows ARule.pd l)), int n, .fn f []] (fun d => d = bln (every p l n)) := by
 refine pure_of_run follows an_z2qr7 Tryz.func143 rfl ok_z2qr7.1 ok_z2qr7.2 (by simp [Tryz.ntmps143]) ?_
 rw [run_start]
 simp only [ac_z2qr7, go_sem, simprocAttr]
 refine GifP.mk (fun h => ?_) (fun h => ?_)
 ·refine (ContainsFunc_Rule (fun x => !p x) 192 (enters_of Tryz.func192 rfl rfl) [(1000001, 0)] [(1000001, [.fn f []])] (Cl.of rfl rfl rfl rfl rfl) l hl (fun x hx => every_Rule_1 p f he x (hp x hx))).callW (enters_of Tryz.func191 rfl rfl) _ [(5, 1000001)] rfl rfl rfl ?_
  rintro d rfl
  simp only [go_sem, simprocAttr]
  simp only [retK, resD, retL, oneD, simprocAttr, Tryz.results143]
  exact ⟨_, rfl, rfl, congrArg bln (by simp [every, h, List.all_eq_not_any_not])⟩
 ·simp only [retK, resD, retL, oneD, simprocAttr, Tryz.results143]
  exact ⟨_, rfl, rfl, congrArg bln (by simp [every, h])⟩

theorem every_Side_1 (p : ASide → Bool) (f : FuncId) (he : Enters Tryz.prog f) (x : ASide) (hp : Pure Tryz.prog f [ASide.d x] (fun d => d = bln (p x))) :
 PureB Tryz.prog 199 [ASide.d x, .ptr 1000001 0] [(1000001, [.fn f []])] (fun d => d = bln (!p x)) := by
 refine pureB_of_run follows an_z7q8a Tryz.func199 rfl ok_z7q8a.1 ok_z7q8a.2 (by simp [Tryz.ntmps199]) ?_
 rw [run_start]
 simp only [ac_z7q8a, go_sem, simprocAttr]
 refine hp.callW he _ rfl rfl ?_
 rintro d rfl
 simp only [go_sem, simprocAttr]
 simp only [retK, resD, retL, oneD, simprocAttr, Tryz.results199]
 exact ⟨_, rfl, rfl, rfl⟩

theorem every_Side (p : ASide → Bool) (f : FuncId) (he : Enters Tryz.prog f) (l : List ASide) (hl : l.length ≤ 1000000) (n : Int) (hp : ∀ x ∈ l, Pure Tryz.prog f [ASide.d x] (fun d => d = bln (p x))) :
 Pure Tryz.prog 147 [.pd (.slice (rows ASide.pd l)), int n, .fn f []] (fun d => d = bln (every p l n)) := by
 refine pure_of_run follows an_zqdfu Tryz.func147 rfl ok_zqdfu.1 ok_zqdfu.2 (by simp [Tryz.ntmps147]) ?_
 rw [run_start]
 simp only [ac_zqdfu, go_sem, simprocAttr]
 refine GifP.mk (fun h => ?_) (fun h => ?_)
 ·refine (ContainsFunc_Side (fun x => !p x) 199 (enters_of Tryz.func199 rfl rfl) [(1000001, 0)] [(1000001, [.fn f []])] (Cl.of rfl rfl rfl rfl rfl) l hl (fun x hx => every_Side_1 p f he x (hp x hx))).callW (enters_of Tryz.func198 rfl rfl) _ [(5, 1000001)] rfl rfl rfl ?_
  rintro d rfl
  simp only [go_sem, simprocAttr]
  simp only [retK, resD, retL, oneD, simprocAttr, Tryz.results147]
  exact ⟨_, rfl, rfl, congrArg bln (by simp [every, h, List.all_eq_not_any_not])⟩
 ·simp only [retK, resD, retL, oneD, simprocAttr, Tryz.results147]
  exact ⟨_, rfl, rfl, congrArg bln (by simp [every, h])⟩

theorem every_Match_1 (p : AMatch → Bool) (f : FuncId) (he : Enters Tryz.prog f) (x : AMatch) (hp : Pure Tryz.prog f [AMatch.d x] (fun d => d = bln (p x))) :
 PureB Tryz.prog 223 [AMatch.d x, .ptr 1000001 0] [(1000001, [.fn f []])] (fun d => d = bln (!p x)) := by
 refine pureB_of_run follows an_z7wca Tryz.func223 rfl ok_z7wca.1 ok_z7wca.2 (by simp [Tryz.ntmps223]) ?_
 rw [run_start]
 simp only [ac_z7wca, go_sem, simprocAttr]
 refine hp.callW he _ rfl rfl ?_
 rintro d rfl
 simp only [go_sem, simprocAttr]
 simp only [retK, resD, retL, oneD, simprocAttr, Tryz.results223]
 exact ⟨_, rfl, rfl, rfl⟩

theorem every_Match (p : AMatch → Bool) (f : FuncId) (he : Enters Tryz.prog f) (l : List AMatch) (hl : l.length ≤ 1000000) (n : Int) (hp : ∀ x ∈ l, Pure Tryz.prog f [AMatch.d x] (fun d => d = bln (p x))) :
 Pure Tryz.prog 193 [.pd (.slice (rows AMatch.pd l)), int n, .fn f []] (fun d => d = bln (every p l n)) := by
 refine pure_of_run follows an_ziqd0 Tryz.func193 rfl ok_ziqd0.1 ok_ziqd0.2 (by simp [Tryz.ntmps193]) ?_
 rw [run_start]
 simp only [ac_ziqd0, go_sem, simprocAttr]
 refine GifP.mk (fun h => ?_) (fun h => ?_)
 ·refine (ContainsFunc_Match (fun x => !p x) 223 (enters_of Tryz.func223 rfl rfl) [(1000001, 0)] [(1000001, [.fn f []])] (Cl.of rfl rfl rfl rfl rfl) l hl (fun x hx => every_Match_1 p f he x (hp x hx))).callW (enters_of Tryz.func222 rfl rfl) _ [(5, 1000001)] rfl rfl rfl ?_
  rintro d rfl
  simp only [go_sem, simprocAttr]
  simp only [retK, resD, retL, oneD, simprocAttr, Tryz.results193]
  exact ⟨_, rfl, rfl, congrArg bln (by simp [every, h, List.all_eq_not_any_not])⟩
 ·simp only [retK, resD, retL, oneD, simprocAttr, Tryz.results193]
  exact ⟨_, rfl, rfl, congrArg bln (by simp [every, h])⟩

theorem every_Backend_1 (p : ABackend → Bool) (f : FuncId) (he : Enters Tryz.prog f) (x : ABackend) (hp : Pure Tryz.prog f [ABackend.d x] (fun d => d = bln (p x))) :
 PureB Tryz.prog 239 [ABackend.d x, .ptr 1000001 0] [(1000001, [.fn f []])] (fun d => d = bln (!p x)) := by
 refine pureB_of_run follows an_zi55u Tryz.func239 rfl ok_zi55u.1 ok_zi55u.2 (by simp [Tryz.ntmps239]) ?_
 rw [run_start]
 simp only [ac_zi55u, go_sem, simprocAttr]
 refine hp.callW he _ rfl rfl ?_
 rintro d rfl
 simp only [go_sem, simprocAttr]
 simp only [retK, resD, retL, oneD, simprocAttr, Tryz.results239]
 exact ⟨_, rfl, rfl, rfl⟩

theorem every_Backend (p : ABackend → Bool) (f : FuncId) (he : Enters Tryz.prog f) (l : List ABackend) (hl : l.length ≤ 1000000) (n : Int) (hp : ∀ x ∈ l, Pure Tryz.prog f [ABackend.d x] (fun d => d = bln (p x))) :
 Pure Tryz.prog 196 [.pd (.slice (rows ABackend.pd l)), int n, .fn f []] (fun d => d = bln (every p l n)) := by
 refine pure_of_run follows an_zb5o4 Tryz.func196 rfl ok_zb5o4.1 ok_zb5o4.2 (by simp [Tryz.ntmps196]) ?_
 rw [run_start]
 simp only [ac_zb5o4, go_sem, simprocAttr]
 refine GifP.mk (fun h => ?_) (fun h => ?_)
 ·refine (ContainsFunc_Backend (fun x => !p x) 239 (enters_of Tryz.func239 rfl rfl) [(1000001, 0)] [(1000001, [.fn f []])] (Cl.of rfl rfl rfl rfl rfl) l hl (fun x hx => every_Backend_1 p f he x (hp x hx))).callW (enters_of Tryz.func238 rfl rfl) _ [(5, 1000001)] rfl rfl rfl ?_
  rintro d rfl
  simp only [go_sem, simprocAttr]
  simp only [retK, resD, retL, oneD, simprocAttr, Tryz.results196]
  exact ⟨_, rfl, rfl, congrArg bln (by simp [every, h, List.all_eq_not_any_not])⟩
 ·simp only [retK, resD, retL, oneD, simprocAttr, Tryz.results196]
  exact ⟨_, rfl, rfl, congrArg bln (by simp [every, h])⟩

theorem twice_int_1 (q : Int → Int → Bool) (f : FuncId) (he : Enters Tryz.prog f) (x y : Int) (hp : Pure Tryz.prog f [int x, int y] (fun d => d = bln (q x y))) :
 PureB Tryz.prog 178 [int y, .ptr 1000001 0, .ptr 1000002 0] [(1000001, [.fn f []]), (1000002, [int x])] (fun d => d = bln (q x y)) := by
 refine pureB_of_run follows an_zovpw Tryz.func178 rfl ok_zovpw.1 ok_zovpw.2 (by simp [Tryz.ntmps178]) ?_
 rw [run_start]
 simp only [ac_zovpw, go_sem, simprocAttr]
 refine hp.callW he _ rfl rfl ?_
 rintro d rfl
 simp only [go_sem, simprocAttr]
 simp only [retK, resD, retL, oneD, simprocAttr, Tryz.results178]
 exact ⟨_, rfl, rfl, rfl⟩

theorem twice_int (q : Int → Int → Bool) (f : FuncId) (he : Enters Tryz.prog f) (l : List Int) (hl : l.length ≤ 1000000) (hp : ∀ x ∈ l, ∀ y ∈ l, Pure Tryz.prog f [int x, int y] (fun d => d = bln (q x y))) :
 Pure Tryz.prog 128 [.pd (.slice (rows cInt l)), .fn f []] (fun d => d = bln (twice q l)) := by
 refine pure_of_run follows an_zb3kh Tryz.func128 rfl ok_zb3kh.1 ok_zb3kh.2 (by simp [Tryz.ntmps128]) ?_
 rw [run_start]
 simp only [ac_zb3kh, go_sem, simprocAttr]
 refine loopS (fun k st => ∃ i : Nat, k = l.length - i ∧ i ≤ l.length ∧ twiceFrom q l k i = twice q l ∧
  st = ⟨[(0, .pd (.slice (rows cInt l))), (3, .ptr 3 0), (7, .pd (.slice (rows cInt l))), (8, int l.length), (9, int i)], [(3, [.fn f []])], [], .no⟩) l.length _ (Weak.refl _ _) ⟨0, rfl, Nat.zero_le _, rfl, rfl⟩ ?_
 rintro k st ⟨i, rfl, hi, hr, rfl⟩
 by_cases hlt : i < l.length
 ·obtain ⟨x, hx⟩ := at_lt hlt
  have hlt' : ((i : Int) < (l.length : Int)) = True := eq_true (by omega)
  have hle : (i ≤ l.length) = True := eq_true (by omega)
  have hw := i64_succ (show i < 1000000000 by omega)
  have hmx := List.mem_of_getElem? hx
  obtain ⟨m, hm⟩ : ∃ m, l.length - i = m + 1 := ⟨l.length - i - 1, by omega⟩
  rw [hm, twiceFrom, hx] at hr
  have hrows : rowsOK 1 (rows cInt l) = True := rowsOK_rows (f := cInt) (n := 1) (fun _ => rfl) l
  have htk : (rows cInt l).take i = rows cInt (l.take i) := by simp [rows, List.map_take]
  simp only [go_sem, simprocAttr, hlt', rows_get hx, rows_len, hrows, hle, htk]
  refine (ContainsFunc_int (fun y => q x y) 178 (enters_of Tryz.func178 rfl rfl) [(1000001, 0), (1000002, 0)] [(1000001, [.fn f []]), (1000002, [int x])] (Cl.of rfl rfl rfl rfl rfl) (l.take i) (by simp; omega)
   (fun y hy => twice_int_1 q f he x y (hp x hmx y (List.mem_of_mem_take hy)))).callW (enters_of Tryz.func175 rfl rfl) _ [(3, 1000001), (6, 1000002)] rfl rfl rfl ?_
  rintro d rfl
  simp only [go_sem, simprocAttr, hw]
  refine Gif.mk (fun h => ?_) (fun h => ?_)
  ·simp only [h, Bool.true_or] at hr
   simp only [retK, resD, retL, oneD, simprocAttr, Tryz.results128]
   exact ⟨_, rfl, rfl, congrArg bln hr⟩
  ·simp only [h, Bool.false_or] at hr
   refine ⟨m, _, ?_, ?_, i + 1, ?_, ?_, hr, rfl⟩
   ·omega
   ·exact lessA
   ·omega
   ·omega
 ·have hlt' : ((i : Int) < (l.length : Int)) = False := eq_false (by omega)
  rw [show l.length - i = 0 by omega, twiceFrom] at hr
  simp only [go_sem, simprocAttr, hlt']
  simp only [retK, resD, retL, oneD, simprocAttr, Tryz.results128]
  exact ⟨_, rfl, rfl, congrArg bln hr⟩

theorem twice_Listener_1 (q : AListener → AListener → Bool) (f : FuncId) (he : Enters Tryz.prog f) (x y : AListener) (hp : Pure Tryz.prog f [AListener.d x, AListener.d y] (fun d => d = bln (q x y))) :
 PureB Tryz.prog 183 [AListener.d y, .ptr 1000001 0, .ptr 1000002 0] [(1000001, [.fn f []]), (1000002, AListener.ds x)] (fun d => d = bln (q x y)) := by
 refine pureB_of_run follows an_ztyjm Tryz.func183 rfl ok_ztyjm.1 ok_ztyjm.2 (by simp [Tryz.ntmps183]) ?_
 rw [run_start]
 simp only [ac_ztyjm, go_sem, simprocAttr]
 refine hp.callW he _ rfl rfl ?_
 rintro d rfl
 simp only [go_sem, simprocAttr]
 simp only [retK, resD, retL, oneD, simprocAttr, Tryz.results183]
 exact ⟨_, rfl, rfl, rfl⟩

theorem twice_Listener (q : AListener → AListener → Bool) (f : FuncId) (he : Enters Tryz.prog f) (l : List AListener) (hl : l.length ≤ 1000000) (hp : ∀ x ∈ l, ∀ y ∈ l, Pure Tryz.prog f [AListener.d x, AListener.d y] (fun d => d = bln (q x y))) :
 Pure Tryz.prog 133 [.pd (.slice (rows AListener.pd l)), .fn f []] (fun d => d = bln (twice q l)) := by
 refine pure_of_run follows an_zp700 Tryz.func133 rfl ok_zp700.1 ok_zp700.2 (by simp [Tryz.ntmps133]) ?_
 rw [run_start]
 simp only [ac_zp700, go_sem, simprocAttr]
 refine loopS (fun k st => ∃ i : Nat, k = l.length - i ∧ i ≤ l.length ∧ twiceFrom q l k i = twice q l ∧
  st = ⟨[(0, .pd (.slice (rows AListener.pd l))), (3, .ptr 3 0), (7, .pd (.slice (rows AListener.pd l))), (8, int l.length), (9, int i)], [(3, [.fn f []])], [], .no⟩) l.length _ (Weak.refl _ _) ⟨0, rfl, Nat.zero_le _, rfl, rfl⟩ ?_
 rintro k st ⟨i, rfl, hi, hr, rfl⟩
 by_cases hlt : i < l.length
 ·obtain ⟨x, hx⟩ := at_lt hlt
  have hlt' : ((i : Int) < (l.length : Int)) = True := eq_true (by omega)
  have hle : (i ≤ l.length) = True := eq_true (by omega)
  have hw := i64_succ (show i < 1000000000 by omega)
  have hmx := List.mem_of_getElem? hx
  obtain ⟨m, hm⟩ : ∃ m, l.length - i = m + 1 := ⟨l.length - i - 1, by omega⟩
  rw [hm, twiceFrom, hx] at hr
  have hrows : rowsOK 9 (rows AListener.pd l) = True := rowsOK_rows (f := AListener.pd) (n := 9) (fun _ => rfl) l
  have htk : (rows AListener.pd l).take i = rows AListener.pd (l.take i) := by simp [rows, List.map_take]
  simp only [go_sem, simprocAttr, hlt', rows_get hx, rows_len, hrows, hle, htk]
  refine (ContainsFunc_Listener (fun y => q x y) 183 (enters_of Tryz.func183 rfl rfl) [(1000001, 0), (1000002, 0)] [(1000001, [.fn f []]), (1000002, AListener.ds x)] (Cl.of rfl rfl rfl rfl rfl) (l.take i) (by simp; omega)
   (fun y hy => twice_Listener_1 q f he x y (hp x hmx y (List.mem_of_mem_take hy)))).callW (enters_of Tryz.func179 rfl rfl) _ [(3, 1000001), (6, 1000002)] rfl rfl rfl ?_
  rintro d rfl
  simp only [go_sem, simprocAttr, hw]
  refine Gif.mk (fun h => ?_) (fun h => ?_)
  ·simp only [h, Bool.true_or] at hr
   simp only [retK, resD, retL, oneD, simprocAttr, Tryz.results133]
   exact ⟨_, rfl, rfl, congrArg bln hr⟩
  ·simp only [h, Bool.false_or] at hr
   refine ⟨m, _, ?_, ?_, i + 1, ?_, ?_, hr, rfl⟩
   ·omega
   ·exact lessA
   ·omega
   ·omega
 ·have hlt' : ((i : Int) < (l.length : Int)) = False := eq_false (by omega)
  rw [show l.length - i = 0 by omega, twiceFrom] at hr
  simp only [go_sem, simprocAttr, hlt']
  simp only [retK, resD, retL, oneD, simprocAttr, Tryz.results133]
  exact ⟨_, rfl, rfl, congrArg bln hr⟩

theorem twice_Parent_1 (q : AParent → AParent → Bool) (f : FuncId) (he : Enters Tryz.prog f) (x y : AParent) (hp : Pure Tryz.prog f [AParent.d x, AParent.d y] (fun d => d = bln (q x y))) :
 PureB Tryz.prog 185 [AParent.d y, .ptr 1000001 0, .ptr 1000002 0] [(1000001, [.fn f []]), (1000002, AParent.ds x)] (fun d => d = bln (q x y)) := by
 refine pureB_of_run follows an_z6aq8 Tryz.func185 rfl ok_z6aq8.1 ok_z6aq8.2 (by simp [Tryz.ntmps185]) ?_
 rw [run_start]
 simp only [ac_z6aq8, go_sem, simprocAttr]
 refine hp.callW he _ rfl rfl ?_
 rintro d rfl
 simp only [go_sem, simprocAttr]
 simp only [retK, resD, retL, oneD, simprocAttr, Tryz.results185]
 exact ⟨_, rfl, rfl, rfl⟩

theorem twice_Parent (q : AParent → AParent → Bool) (f : FuncId) (he : Enters Tryz.prog f) (l : List AParent) (hl : l.length ≤ 1000000) (hp : ∀ x ∈ l, ∀ y ∈ l, Pure Tryz.prog f [AParent.d x, AParent.d y] (fun d => d = bln (q x y))) :
 Pure Tryz.prog 134 [.pd (.slice (rows AParent.pd l)), .fn f []] (fun d => d = bln (twice q l)) := by
 refine pure_of_run follows an_zo7vn Tryz.func134 rfl ok_zo7vn.1 ok_zo7vn.2 (by simp [Tryz.ntmps134]) ?_
 rw [run_start]
 simp only [ac_zo7vn, go_sem, simprocAttr]
 refine loopS (fun k st => ∃ i : Nat, k = l.length - i ∧ i ≤ l.length ∧ twiceFrom q l k i = twice q l ∧
  st = ⟨[(0, .pd (.slice (rows AParent.pd l))), (3, .ptr 3 0), (7, .pd (.slice (rows AParent.pd l))), (8, int l.length), (9, int i)], [(3, [.fn f []])], [], .no⟩) l.length _ (Weak.refl _ _) ⟨0, rfl, Nat.zero_le _, rfl, rfl⟩ ?_
 rintro k st ⟨i, rfl, hi, hr, rfl⟩
 by_cases hlt : i < l.length
 ·obtain ⟨x, hx⟩ := at_lt hlt
  have hlt' : ((i : Int) < (l.length : Int)) = True := eq_true (by omega)
  have hle : (i ≤ l.length) = True := eq_true (by omega)
  have hw := i64_succ (show i < 1000000000 by omega)
  have hmx := List.mem_of_getElem? hx
  obtain ⟨m, hm⟩ : ∃ m, l.length - i = m + 1 := ⟨l.length - i - 1, by omega⟩
  rw [hm, twiceFrom, hx] at hr
  have hrows : rowsOK 4 (rows AParent.pd l) = True := rowsOK_rows (f := AParent.pd) (n := 4) (fun _ => rfl) l
  have htk : (rows AParent.pd l).take i = rows AParent.pd (l.take i) := by simp [rows, List.map_take]
  simp only [go_sem, simprocAttr, hlt', rows_get hx, rows_len, hrows, hle, htk]
  refine (ContainsFunc_Parent (fun y => q x y) 185 (enters_of Tryz.func185 rfl rfl) [(1000001, 0), (1000002, 0)] [(1000001, [.fn f []]), (1000002, AParent.ds x)] (Cl.of rfl rfl rfl rfl rfl) (l.take i) (by simp; omega)
   (fun y hy => twice_Parent_1 q f he x y (hp x hmx y (List.mem_of_mem_take hy)))).callW (enters_of Tryz.func184 rfl rfl) _ [(3, 1000001), (6, 1000002)] rfl rfl rfl ?_
  rintro d rfl
  simp only [go_sem, simprocAttr, hw]
  refine Gif.mk (fun h => ?_) (fun h => ?_)
  ·simp only [h, Bool.true_or] at hr
   simp only [retK, resD, retL, oneD, simprocAttr, Tryz.results134]
   exact ⟨_, rfl, rfl, congrArg bln hr⟩
  ·simp only [h, Bool.false_or] at hr
   refine ⟨m, _, ?_, ?_, i + 1, ?_, ?_, hr, rfl⟩
   ·omega
   ·exact lessA
   ·omega
   ·omega
 ·have hlt' : ((i : Int) < (l.length : Int)) = False := eq_false (by omega)
  rw [show l.length - i = 0 by omega, twiceFrom] at hr
  simp only [go_sem, simprocAttr, hlt']
  simp only [retK, resD, retL, oneD, simprocAttr, Tryz.results134]
  exact ⟨_, rfl, rfl, congrArg bln hr⟩

theorem twice_string_1 (q : ByteArray → ByteArray → Bool) (f : FuncId) (he : Enters Tryz.prog f) (x y : ByteArray) (hp : Pure Tryz.prog f [str x, str y] (fun d => d = bln (q x y))) :
 PureB Tryz.prog 187 [str y, .ptr 1000001 0, .ptr 1000002 0] [(1000001, [.fn f []]), (1000002, [str x])] (fun d => d = bln (q x y)) := by
 refine pureB_of_run follows an_zwcip Tryz.func187 rfl ok_zwcip.1 ok_zwcip.2 (by simp [Tryz.ntmps187]) ?_
 rw [run_start]
 simp only [ac_zwcip, go_sem, simprocAttr]
 refine hp.callW he _ rfl rfl ?_
 rintro d rfl
 simp only [go_sem, simprocAttr]
 simp only [retK, resD, retL, oneD, simprocAttr, Tryz.results187]
 exact ⟨_, rfl, rfl, rfl⟩

theorem twice_string (q : ByteArray → ByteArray → Bool) (f : FuncId) (he : Enters Tryz.prog f) (l : List ByteArray) (hl : l.length ≤ 1000000) (hp : ∀ x ∈ l, ∀ y ∈ l, Pure Tryz.prog f [str x, str y] (fun d => d = bln (q x y))) :
 Pure Tryz.prog 136 [.pd (.slice (rows cStr l)), .fn f []] (fun d => d = bln (twice q l)) := by
 refine pure_of_run follows an_zogir Tryz.func136 rfl ok_zogir.1 ok_zogir.2 (by simp [Tryz.ntmps136]) ?_
 rw [run_start]
 simp only [ac_zogir, go_sem, simprocAttr]
 refine loopS (fun k st => ∃ i : Nat, k = l.length - i ∧ i ≤ l.length ∧ twiceFrom q l k i = twice q l ∧
  st = ⟨[(0, .pd (.slice (rows cStr l))), (3, .ptr 3 0), (7, .pd (.slice (rows cStr l))), (8, int l.length), (9, int i)], [(3, [.fn f []])], [], .no⟩) l.length _ (Weak.refl _ _) ⟨0, rfl, Nat.zero_le _, rfl, rfl⟩ ?_
 rintro k st ⟨i, rfl, hi, hr, rfl⟩
 by_cases hlt : i < l.length
 ·obtain ⟨x, hx⟩ := at_lt hlt
  have hlt' : ((i : Int) < (l.length : Int)) = True := eq_true (by omega)
  have hle : (i ≤ l.length) = True := eq_true (by omega)
  have hw := i64_succ (show i < 1000000000 by omega)
  have hmx := List.mem_of_getElem? hx
  obtain ⟨m, hm⟩ : ∃ m, l.length - i = m + 1 := ⟨l.length - i - 1, by omega⟩
  rw [hm, twiceFrom, hx] at hr
  have hrows : rowsOK 1 (rows cStr l) = True := rowsOK_rows (f := cStr) (n := 1) (fun _ => rfl) l
  have htk : (rows cStr l).take i = rows cStr (l.take i) := by simp [rows, List.map_take]
  simp only [go_sem, simprocAttr, hlt', rows_get hx, rows_len, hrows, hle, htk]
  refine (ContainsFunc_string (fun y => q x y) 187 (enters_of Tryz.func187 rfl rfl) [(1000001, 0), (1000002, 0)] [(1000001, [.fn f []]), (1000002, [str x])] (Cl.of rfl rfl rfl rfl rfl) (l.take i) (by simp; omega)
   (fun y hy => twice_string_1 q f he x y (hp x hmx y (List.mem_of_mem_take hy)))).callW (enters_of Tryz.func186 rfl rfl) _ [(3, 1000001), (6, 1000002)] rfl rfl rfl ?_
  rintro d rfl
  simp only [go_sem, simprocAttr, hw]
  refine Gif.mk (fun h => ?_) (fun h => ?_)
  ·simp only [h, Bool.true_or] at hr
   simp only [retK, resD, retL, oneD, simprocAttr, Tryz.results136]
   exact ⟨_, rfl, rfl, congrArg bln hr⟩
  ·simp only [h, Bool.false_or] at hr
   refine ⟨m, _, ?_, ?_, i + 1, ?_, ?_, hr, rfl⟩
   ·omega
   ·exact lessA
   ·omega
   ·omega
 ·have hlt' : ((i : Int) < (l.length : Int)) = False := eq_false (by omega)
  rw [show l.length - i = 0 by omega, twiceFrom] at hr
  simp only [go_sem, simprocAttr, hlt']
  simp only [retK, resD, retL, oneD, simprocAttr, Tryz.results136]
  exact ⟨_, rfl, rfl, congrArg bln hr⟩


theorem Equal_Pair (l m : List APair) (hl : l.length ≤ 1000000) (hm : m.length ≤ 1000000) :
 Pure Tryz.prog 99 [.pd (.slice (rows APair.pd l)), .pd (.slice (rows APair.pd m))] (fun d => d = bln (decide (l = m))) := by
 refine pure_of_run follows an_zfsc3 Tryz.func99 rfl ok_zfsc3.1 ok_zfsc3.2 (by simp [Tryz.ntmps99]) ?_
 rw [run_start]
 simp only [ac_zfsc3, go_sem, simprocAttr, go_sem, rows_len]
 refine GifP.mk (fun hn => ?_) (fun hn => ?_)
 rotate_left
 ·simp only [retK, resD, retL, oneD, simprocAttr, Tryz.results99]
  exact ⟨_, rfl, rfl, congrArg bln (decide_eq_false (fun h => hn (by rw [h]))).symm⟩
 have hlm : l.length = m.length := by omega
 refine loopS (fun k st => ∃ i : Nat, k = l.length - i ∧ i ≤ l.length ∧ decide (l.drop i = m.drop i) = decide (l = m) ∧
  st = ⟨[(0, .pd (.slice (rows APair.pd l))), (1, .pd (.slice (rows APair.pd m))), (12, int l.length), (13, int i)], [], [], .no⟩) l.length _ (Weak.refl _ _) ⟨0, rfl, Nat.zero_le _, rfl, rfl⟩ ?_
 rintro k st ⟨i, rfl, hi, hr, rfl⟩
 by_cases hlt : i < l.length
 ·obtain ⟨x, hx⟩ := at_lt hlt
  obtain ⟨y, hy⟩ := at_lt (show i < m.length by omega)
  have hlt' : ((i : Int) < (l.length : Int)) = True := eq_true (by omega)
  have hw := i64_succ (show i < 1000000000 by omega)
  rw [drop_at hx, drop_at hy] at hr
  simp only [go_sem, simprocAttr, go_sem, hlt', rows_get hx, rows_get hy, eqVs, eqV, eq_Pair, hw]
  refine GifP.mk (fun h => ?_) (fun h => ?_)
  ·subst h
   simp only [List.cons.injEq, true_and] at hr
   refine ⟨l.length - (i + 1), _, ?_, ?_, i + 1, rfl, ?_, hr, rfl⟩
   ·omega
   ·exact lessA
   ·omega
  ·simp only [retK, resD, retL, oneD, simprocAttr, Tryz.results99]
   rw [decide_eq_false (fun e => h (List.cons.inj e).1)] at hr
   exact ⟨_, rfl, rfl, congrArg bln hr⟩
 ·have hlt' : ((i : Int) < (l.length : Int)) = False := eq_false (by omega)
  rw [List.drop_eq_nil_of_le (by omega), List.drop_eq_nil_of_le (by omega)] at hr
  simp only [go_sem, simprocAttr, go_sem, rows_len, hlt']
  simp only [retK, resD, retL, oneD, simprocAttr, Tryz.results99]
  exact ⟨_, rfl, rfl, congrArg bln (by simpa using hr)⟩

theorem Equal_int (l m : List Int) (hl : l.length ≤ 1000000) (hm : m.length ≤ 1000000) :
 Pure Tryz.prog 100 [.pd (.slice (rows cInt l)), .pd (.slice (rows cInt m))] (fun d => d = bln (decide (l = m))) := by
 refine pure_of_run follows an_zu266 Tryz.func100 rfl ok_zu266.1 ok_zu266.2 (by simp [Tryz.ntmps100]) ?_
 rw [run_start]
 simp only [ac_zu266, go_sem, simprocAttr, go_sem, rows_len]
 refine GifP.mk (fun hn => ?_) (fun hn => ?_)
 rotate_left
 ·simp only [retK, resD, retL, oneD, simprocAttr, Tryz.results100]
  exact ⟨_, rfl, rfl, congrArg bln (decide_eq_false (fun h => hn (by rw [h]))).symm⟩
 have hlm : l.length = m.length := by omega
 refine loopS (fun k st => ∃ i : Nat, k = l.length - i ∧ i ≤ l.length ∧ decide (l.drop i = m.drop i) = decide (l = m) ∧
  st = ⟨[(0, .pd (.slice (rows cInt l))), (1, .pd (.slice (rows cInt m))), (12, int l.length), (13, int i)], [], [], .no⟩) l.length _ (Weak.refl _ _) ⟨0, rfl, Nat.zero_le _, rfl, rfl⟩ ?_
 rintro k st ⟨i, rfl, hi, hr, rfl⟩
 by_cases hlt : i < l.length
 ·obtain ⟨x, hx⟩ := at_lt hlt
  obtain ⟨y, hy⟩ := at_lt (show i < m.length by omega)
  have hlt' : ((i : Int) < (l.length : Int)) = True := eq_true (by omega)
  have hw := i64_succ (show i < 1000000000 by omega)
  rw [drop_at hx, drop_at hy] at hr
  simp only [go_sem, simprocAttr, go_sem, hlt', rows_get hx, rows_get hy, eqVs, eqV, eq_int, hw]
  refine GifP.mk (fun h => ?_) (fun h => ?_)
  ·subst h
   simp only [List.cons.injEq, true_and] at hr
   refine ⟨l.length - (i + 1), _, ?_, ?_, i + 1, rfl, ?_, hr, rfl⟩
   ·omega
   ·exact lessA
   ·omega
  ·simp only [retK, resD, retL, oneD, simprocAttr, Tryz.results100]
   rw [decide_eq_false (fun e => h (List.cons.inj e).1)] at hr
   exact ⟨_, rfl, rfl, congrArg bln hr⟩
 ·have hlt' : ((i : Int) < (l.length : Int)) = False := eq_false (by omega)
  rw [List.drop_eq_nil_of_le (by omega), List.drop_eq_nil_of_le (by omega)] at hr
  simp only [go_sem, simprocAttr, go_sem, rows_len, hlt']
  simp only [retK, resD, retL, oneD, simprocAttr, Tryz.results100]
  exact ⟨_, rfl, rfl, congrArg bln (by simpa using hr)⟩

theorem Equal_string (l m : List ByteArray) (hl : l.length ≤ 1000000) (hm : m.length ≤ 1000000) :
 Pure Tryz.prog 101 [.pd (.slice (rows cStr l)), .pd (.slice (rows cStr m))] (fun d => d = bln (decide (l = m))) := by
 refine pure_of_run follows an_zdvt9 Tryz.func101 rfl ok_zdvt9.1 ok_zdvt9.2 (by simp [Tryz.ntmps101]) ?_
 rw [run_start]
 simp only [ac_zdvt9, go_sem, simprocAttr, go_sem, rows_len]
 refine GifP.mk (fun hn => ?_) (fun hn => ?_)
 rotate_left
 ·simp only [retK, resD, retL, oneD, simprocAttr, Tryz.results101]
  exact ⟨_, rfl, rfl, congrArg bln (decide_eq_false (fun h => hn (by rw [h]))).symm⟩
 have hlm : l.length = m.length := by omega
 refine loopS (fun k st => ∃ i : Nat, k = l.length - i ∧ i ≤ l.length ∧ decide (l.drop i = m.drop i) = decide (l = m) ∧
  st = ⟨[(0, .pd (.slice (rows cStr l))), (1, .pd (.slice (rows cStr m))), (12, int l.length), (13, int i)], [], [], .no⟩) l.length _ (Weak.refl _ _) ⟨0, rfl, Nat.zero_le _, rfl, rfl⟩ ?_
 rintro k st ⟨i, rfl, hi, hr, rfl⟩
 by_cases hlt : i < l.length
 ·obtain ⟨x, hx⟩ := at_lt hlt
  obtain ⟨y, hy⟩ := at_lt (show i < m.length by omega)
  have hlt' : ((i : Int) < (l.length : Int)) = True := eq_true (by omega)
  have hw := i64_succ (show i < 1000000000 by omega)
  rw [drop_at hx, drop_at hy] at hr
  simp only [go_sem, simprocAttr, go_sem, hlt', rows_get hx, rows_get hy, eqVs, eqV, eq_string, hw]
  refine GifP.mk (fun h => ?_) (fun h => ?_)
  ·subst h
   simp only [List.cons.injEq, true_and] at hr
   refine ⟨l.length - (i + 1), _, ?_, ?_, i + 1, rfl, ?_, hr, rfl⟩
   ·omega
   ·exact lessA
   ·omega
  ·simp only [retK, resD, retL, oneD, simprocAttr, Tryz.results101]
   rw [decide_eq_false (fun e => h (List.cons.inj e).1)] at hr
   exact ⟨_, rfl, rfl, congrArg bln hr⟩
 ·have hlt' : ((i : Int) < (l.length : Int)) = False := eq_false (by omega)
  rw [List.drop_eq_nil_of_le (by omega), List.drop_eq_nil_of_le (by omega)] at hr
  simp only [go_sem, simprocAttr, go_sem, rows_len, hlt']
  simp only [retK, resD, retL, oneD, simprocAttr, Tryz.results101]
  exact ⟨_, rfl, rfl, congrArg bln (by simpa using hr)⟩

theorem Equal_Parent (l m : List AParent) (hl : l.length ≤ 1000000) (hm : m.length ≤ 1000000) :
 Pure Tryz.prog 102 [.pd (.slice (rows AParent.pd l)), .pd (.slice (rows AParent.pd m))] (fun d => d = bln (decide (l = m))) := by
 refine pure_of_run follows an_zj0mp Tryz.func102 rfl ok_zj0mp.1 ok_zj0mp.2 (by simp [Tryz.ntmps102]) ?_
 rw [run_start]
 simp only [ac_zj0mp, go_sem, simprocAttr, go_sem, rows_len]
 refine GifP.mk (fun hn => ?_) (fun hn => ?_)
 rotate_left
 ·simp only [retK, resD, retL, oneD, simprocAttr, Tryz.results102]
  exact ⟨_, rfl, rfl, congrArg bln (decide_eq_false (fun h => hn (by rw [h]))).symm⟩
 have hlm : l.length = m.length := by omega
 refine loopS (fun k st => ∃ i : Nat, k = l.length - i ∧ i ≤ l.length ∧ decide (l.drop i = m.drop i) = decide (l = m) ∧
  st = ⟨[(0, .pd (.slice (rows AParent.pd l))), (1, .pd (.slice (rows AParent.pd m))), (12, int l.length), (13, int i)], [], [], .no⟩) l.length _ (Weak.refl _ _) ⟨0, rfl, Nat.zero_le _, rfl, rfl⟩ ?_
 rintro k st ⟨i, rfl, hi, hr, rfl⟩
 by_cases hlt : i < l.length
 ·obtain ⟨x, hx⟩ := at_lt hlt
  obtain ⟨y, hy⟩ := at_lt (show i < m.length by omega)
  have hlt' : ((i : Int) < (l.length : Int)) = True := eq_true (by omega)
  have hw := i64_succ (show i < 1000000000 by omega)
  rw [drop_at hx, drop_at hy] at hr
  simp only [go_sem, simprocAttr, go_sem, hlt', rows_get hx, rows_get hy, eqVs, eqV, eq_Parent, hw]
  refine GifP.mk (fun h => ?_) (fun h => ?_)
  ·subst h
   simp only [List.cons.injEq, true_and] at hr
   refine ⟨l.length - (i + 1), _, ?_, ?_, i + 1, rfl, ?_, hr, rfl⟩
   ·omega
   ·exact lessA
   ·omega
  ·simp only [retK, resD, retL, oneD, simprocAttr, Tryz.results102]
   rw [decide_eq_false (fun e => h (List.cons.inj e).1)] at hr
   exact ⟨_, rfl, rfl, congrArg bln hr⟩
 ·have hlt' : ((i : Int) < (l.length : Int)) = False := eq_false (by omega)
  rw [List.drop_eq_nil_of_le (by omega), List.drop_eq_nil_of_le (by omega)] at hr
  simp only [go_sem, simprocAttr, go_sem, rows_len, hlt']
  simp only [retK, resD, retL, oneD, simprocAttr, Tryz.results102]
  exact ⟨_, rfl, rfl, congrArg bln (by simpa using hr)⟩

theorem Equal_Side (l m : List ASide) (hl : l.length ≤ 1000000) (hm : m.length ≤ 1000000) :
 Pure Tryz.prog 103 [.pd (.slice (rows ASide.pd l)), .pd (.slice (rows ASide.pd m))] (fun d => d = bln (decide (l = m))) := by
 refine pure_of_run follows an_zlr2h Tryz.func103 rfl ok_zlr2h.1 ok_zlr2h.2 (by simp [Tryz.ntmps103]) ?_
 rw [run_start]
 simp only [ac_zlr2h, go_sem, simprocAttr, go_sem, rows_len]
 refine GifP.mk (fun hn => ?_) (fun hn => ?_)
 rotate_left
 ·simp only [retK, resD, retL, oneD, simprocAttr, Tryz.results103]
  exact ⟨_, rfl, rfl, congrArg bln (decide_eq_false (fun h => hn (by rw [h]))).symm⟩
 have hlm : l.length = m.length := by omega
 refine loopS (fun k st => ∃ i : Nat, k = l.length - i ∧ i ≤ l.length ∧ decide (l.drop i = m.drop i) = decide (l = m) ∧
  st = ⟨[(0, .pd (.slice (rows ASide.pd l))), (1, .pd (.slice (rows ASide.pd m))), (12, int l.length), (13, int i)], [], [], .no⟩) l.length _ (Weak.refl _ _) ⟨0, rfl, Nat.zero_le _, rfl, rfl⟩ ?_
 rintro k st ⟨i, rfl, hi, hr, rfl⟩
 by_cases hlt : i < l.length
 ·obtain ⟨x, hx⟩ := at_lt hlt
  obtain ⟨y, hy⟩ := at_lt (show i < m.length by omega)
  have hlt' : ((i : Int) < (l.length : Int)) = True := eq_true (by omega)
  have hw := i64_succ (show i < 1000000000 by omega)
  rw [drop_at hx, drop_at hy] at hr
  simp only [go_sem, simprocAttr, go_sem, hlt', rows_get hx, rows_get hy, eqVs, eqV, eq_Side, hw]
  refine GifP.mk (fun h => ?_) (fun h => ?_)
  ·subst h
   simp only [List.cons.injEq, true_and] at hr
   refine ⟨l.length - (i + 1), _, ?_, ?_, i + 1, rfl, ?_, hr, rfl⟩
   ·omega
   ·exact lessA
   ·omega
  ·simp only [retK, resD, retL, oneD, simprocAttr, Tryz.results103]
   rw [decide_eq_false (fun e => h (List.cons.inj e).1)] at hr
   exact ⟨_, rfl, rfl, congrArg bln hr⟩
 ·have hlt' : ((i : Int) < (l.length : Int)) = False := eq_false (by omega)
  rw [List.drop_eq_nil_of_le (by omega), List.drop_eq_nil_of_le (by omega)] at hr
  simp only [go_sem, simprocAttr, go_sem, rows_len, hlt']
  simp only [retK, resD, retL, oneD, simprocAttr, Tryz.results103]
  exact ⟨_, rfl, rfl, congrArg bln (by simpa using hr)⟩

theorem Equal_Filter (l m : List AFilter) (hl : l.length ≤ 1000000) (hm : m.length ≤ 1000000) :
 Pure Tryz.prog 155 [.pd (.slice (rows AFilter.pd l)), .pd (.slice (rows AFilter.pd m))] (fun d => d = bln (decide (l = m))) := by
 refine pure_of_run follows an_z7uuy Tryz.func155 rfl ok_z7uuy.1 ok_z7uuy.2 (by simp [Tryz.ntmps155]) ?_
 rw [run_start]
 simp only [ac_z7uuy, go_sem, simprocAttr, go_sem, rows_len]
 refine GifP.mk (fun hn => ?_) (fun hn => ?_)
 rotate_left
 ·simp only [retK, resD, retL, oneD, simprocAttr, Tryz.results155]
  exact ⟨_, rfl, rfl, congrArg bln (decide_eq_false (fun h => hn (by rw [h]))).symm⟩
 have hlm : l.length = m.length := by omega
 refine loopS (fun k st => ∃ i : Nat, k = l.length - i ∧ i ≤ l.length ∧ decide (l.drop i = m.drop i) = decide (l = m) ∧
  st = ⟨[(0, .pd (.slice (rows AFilter.pd l))), (1, .pd (.slice (rows AFilter.pd m))), (12, int l.length), (13, int i)], [], [], .no⟩) l.length _ (Weak.refl _ _) ⟨0, rfl, Nat.zero_le _, rfl, rfl⟩ ?_
 rintro k st ⟨i, rfl, hi, hr, rfl⟩
 by_cases hlt : i < l.length
 ·obtain ⟨x, hx⟩ := at_lt hlt
  obtain ⟨y, hy⟩ := at_lt (show i < m.length by omega)
  have hlt' : ((i : Int) < (l.length : Int)) = True := eq_true (by omega)
  have hw := i64_succ (show i < 1000000000 by omega)
  rw [drop_at hx, drop_at hy] at hr
  simp only [go_sem, simprocAttr, go_sem, hlt', rows_get hx, rows_get hy, eqVs, eqV, eq_Filter, hw]
  refine GifP.mk (fun h => ?_) (fun h => ?_)
  ·subst h
   simp only [List.cons.injEq, true_and] at hr
   refine ⟨l.length - (i + 1), _, ?_, ?_, i + 1, rfl, ?_, hr, rfl⟩
   ·omega
   ·exact lessA
   ·omega
  ·simp only [retK, resD, retL, oneD, simprocAttr, Tryz.results155]
   rw [decide_eq_false (fun e => h (List.cons.inj e).1)] at hr
   exact ⟨_, rfl, rfl, congrArg bln hr⟩
 ·have hlt' : ((i : Int) < (l.length : Int)) = False := eq_false (by omega)
  rw [List.drop_eq_nil_of_le (by omega), List.drop_eq_nil_of_le (by omega)] at hr
  simp only [go_sem, simprocAttr, go_sem, rows_len, hlt']
  simp only [retK, resD, retL, oneD, simprocAttr, Tryz.results155]
  exact ⟨_, rfl, rfl, congrArg bln (by simpa using hr)⟩

theorem Equal_Backend (l m : List ABackend) (hl : l.length ≤ 1000000) (hm : m.length ≤ 1000000) :
 Pure Tryz.prog 156 [.pd (.slice (rows ABackend.pd l)), .pd (.slice (rows ABackend.pd m))] (fun d => d = bln (decide (l = m))) := by
 refine pure_of_run follows an_ztr0f Tryz.func156 rfl ok_ztr0f.1 ok_ztr0f.2 (by simp [Tryz.ntmps156]) ?_
 rw [run_start]
 simp only [ac_ztr0f, go_sem, simprocAttr, go_sem, rows_len]
 refine GifP.mk (fun hn => ?_) (fun hn => ?_)
 rotate_left
 ·simp only [retK, resD, retL, oneD, simprocAttr, Tryz.results156]
  exact ⟨_, rfl, rfl, congrArg bln (decide_eq_false (fun h => hn (by rw [h]))).symm⟩
 have hlm : l.length = m.length := by omega
 refine loopS (fun k st => ∃ i : Nat, k = l.length - i ∧ i ≤ l.length ∧ decide (l.drop i = m.drop i) = decide (l = m) ∧
  st = ⟨[(0, .pd (.slice (rows ABackend.pd l))), (1, .pd (.slice (rows ABackend.pd m))), (12, int l.length), (13, int i)], [], [], .no⟩) l.length _ (Weak.refl _ _) ⟨0, rfl, Nat.zero_le _, rfl, rfl⟩ ?_
 rintro k st ⟨i, rfl, hi, hr, rfl⟩
 by_cases hlt : i < l.length
 ·obtain ⟨x, hx⟩ := at_lt hlt
  obtain ⟨y, hy⟩ := at_lt (show i < m.length by omega)
  have hlt' : ((i : Int) < (l.length : Int)) = True := eq_true (by omega)
  have hw := i64_succ (show i < 1000000000 by omega)
  rw [drop_at hx, drop_at hy] at hr
  simp only [go_sem, simprocAttr, go_sem, hlt', rows_get hx, rows_get hy, eqVs, eqV, eq_Backend, hw]
  refine GifP.mk (fun h => ?_) (fun h => ?_)
  ·subst h
   simp only [List.cons.injEq, true_and] at hr
   refine ⟨l.length - (i + 1), _, ?_, ?_, i + 1, rfl, ?_, hr, rfl⟩
   ·omega
   ·exact lessA
   ·omega
  ·simp only [retK, resD, retL, oneD, simprocAttr, Tryz.results156]
   rw [decide_eq_false (fun e => h (List.cons.inj e).1)] at hr
   exact ⟨_, rfl, rfl, congrArg bln hr⟩
 ·have hlt' : ((i : Int) < (l.length : Int)) = False := eq_false (by omega)
  rw [List.drop_eq_nil_of_le (by omega), List.drop_eq_nil_of_le (by omega)] at hr
  simp only [go_sem, simprocAttr, go_sem, rows_len, hlt']
  simp only [retK, resD, retL, oneD, simprocAttr, Tryz.results156]
  exact ⟨_, rfl, rfl, congrArg bln (by simpa using hr)⟩

theorem EqualFunc_Listener (q : AListener → AListener → Bool) (f : FuncId) (he : Enters Tryz.prog f) (l m : List AListener) (hl : l.length ≤ 1000000) (hm : m.length ≤ 1000000) (hp : ∀ x ∈ l, ∀ y ∈ m, Pure Tryz.prog f [AListener.d x, AListener.d y] (fun d => d = bln (q x y))) :
 Pure Tryz.prog 104 [.pd (.slice (rows AListener.pd l)), .pd (.slice (rows AListener.pd m)), .fn f []] (fun d => d = bln (eqf q l m)) := by
 refine pure_of_run follows an_zuyoe Tryz.func104 rfl ok_zuyoe.1 ok_zuyoe.2 (by simp [Tryz.ntmps104]) ?_
 rw [run_start]
 simp only [ac_zuyoe, go_sem, simprocAttr]
 refine GifP.mk (fun hn => ?_) (fun hn => ?_)
 rotate_left
 ·simp only [retK, resD, retL, oneD, simprocAttr, Tryz.results104]
  exact ⟨_, rfl, rfl, congrArg bln (eqf_len q (by omega)).symm⟩
 have hlm : l.length = m.length := by omega
 refine loopS (fun k st => ∃ i : Nat, k = l.length - i ∧ i ≤ l.length ∧ eqf q (l.drop i) (m.drop i) = eqf q l m ∧
  st = ⟨[(1, .pd (.slice (rows AListener.pd m))), (2, .fn f []), (15, .pd (.slice (rows AListener.pd l))), (16, int l.length), (17, int i)], [], [], .no⟩) l.length _ (Weak.refl _ _) ⟨0, rfl, Nat.zero_le _, rfl, rfl⟩ ?_
 rintro k st ⟨i, rfl, hi, hr, rfl⟩
 by_cases hlt : i < l.length
 ·obtain ⟨x, hx⟩ := at_lt hlt
  obtain ⟨y, hy⟩ := at_lt (show i < m.length by omega)
  have hlt' : ((i : Int) < (l.length : Int)) = True := eq_true (by omega)
  have hw := i64_succ (show i < 1000000000 by omega)
  rw [drop_at hx, drop_at hy, eqf] at hr
  simp only [go_sem, simprocAttr, hlt', rows_get hx, rows_get hy, hw]
  refine (hp x (List.mem_of_getElem? hx) y (List.mem_of_getElem? hy)).callW he _ rfl rfl ?_
  rintro d rfl
  simp only [go_sem, simprocAttr, hw]
  refine Gif.mk (fun h => ?_) (fun h => ?_)
  ·rw [h, Bool.true_and] at hr
   refine ⟨l.length - (i + 1), _, ?_, ?_, i + 1, rfl, ?_, hr, rfl⟩
   ·omega
   ·exact lessA
   ·omega
  ·rw [h, Bool.false_and] at hr
   simp only [retK, resD, retL, oneD, simprocAttr, Tryz.results104]
   exact ⟨_, rfl, rfl, congrArg bln hr⟩
 ·have hlt' : ((i : Int) < (l.length : Int)) = False := eq_false (by omega)
  rw [List.drop_eq_nil_of_le (by omega), List.drop_eq_nil_of_le (by omega), eqf] at hr
  simp only [go_sem, simprocAttr, hlt']
  simp only [retK, resD, retL, oneD, simprocAttr, Tryz.results104]
  exact ⟨_, rfl, rfl, congrArg bln hr⟩

theorem EqualFunc_Rule (q : ARule → ARule → Bool) (f : FuncId) (he : Enters Tryz.prog f) (l m : List ARule) (hl : l.length ≤ 1000000) (hm : m.length ≤ 1000000) (hp : ∀ x ∈ l, ∀ y ∈ m, Pure Tryz.prog f [ARule.d x, ARule.d y] (fun d => d = bln (q x y))) :
 Pure Tryz.prog 106 [.pd (.slice (rows ARule.pd l)), .pd (.slice (rows ARule.pd m)), .fn f []] (fun d => d = bln (eqf q l m)) := by
 refine pure_of_run follows an_zi41r Tryz.func106 rfl ok_zi41r.1 ok_zi41r.2 (by simp [Tryz.ntmps106]) ?_
 rw [run_start]
 simp only [ac_zi41r, go_sem, simprocAttr]
 refine GifP.mk (fun hn => ?_) (fun hn => ?_)
 rotate_left
 ·simp only [retK, resD, retL, oneD, simprocAttr, Tryz.results106]
  exact ⟨_, rfl, rfl, congrArg bln (eqf_len q (by omega)).symm⟩
 have hlm : l.length = m.length := by omega
 refine loopS (fun k st => ∃ i : Nat, k = l.length - i ∧ i ≤ l.length ∧ eqf q (l.drop i) (m.drop i) = eqf q l m ∧
  st = ⟨[(1, .pd (.slice (rows ARule.pd m))), (2, .fn f []), (15, .pd (.slice (rows ARule.pd l))), (16, int l.length), (17, int i)], [], [], .no⟩) l.length _ (Weak.refl _ _) ⟨0, rfl, Nat.zero_le _, rfl, rfl⟩ ?_
 rintro k st ⟨i, rfl, hi, hr, rfl⟩
 by_cases hlt : i < l.length
 ·obtain ⟨x, hx⟩ := at_lt hlt
  obtain ⟨y, hy⟩ := at_lt (show i < m.length by omega)
  have hlt' : ((i : Int) < (l.length : Int)) = True := eq_true (by omega)
  have hw := i64_succ (show i < 1000000000 by omega)
  rw [drop_at hx, drop_at hy, eqf] at hr
  simp only [go_sem, simprocAttr, hlt', rows_get hx, rows_get hy, hw]
  refine (hp x (List.mem_of_getElem? hx) y (List.mem_of_getElem? hy)).callW he _ rfl rfl ?_
  rintro d rfl
  simp only [go_sem, simprocAttr, hw]
  refine Gif.mk (fun h => ?_) (fun h => ?_)
  ·rw [h, Bool.true_and] at hr
   refine ⟨l.length - (i + 1), _, ?_, ?_, i + 1, rfl, ?_, hr, rfl⟩
   ·omega
   ·exact lessA
   ·omega
  ·rw [h, Bool.false_and] at hr
   simp only [retK, resD, retL, oneD, simprocAttr, Tryz.results106]
   exact ⟨_, rfl, rfl, congrArg bln hr⟩
 ·have hlt' : ((i : Int) < (l.length : Int)) = False := eq_false (by omega)
  rw [List.drop_eq_nil_of_le (by omega), List.drop_eq_nil_of_le (by omega), eqf] at hr
  simp only [go_sem, simprocAttr, hlt']
  simp only [retK, resD, retL, oneD, simprocAttr, Tryz.results106]
  exact ⟨_, rfl, rfl, congrArg bln hr⟩

theorem EqualFunc_Match (q : AMatch → AMatch → Bool) (f : FuncId) (he : Enters Tryz.prog f) (l m : List AMatch) (hl : l.length ≤ 1000000) (hm : m.length ≤ 1000000) (hp : ∀ x ∈ l, ∀ y ∈ m, Pure Tryz.prog f [AMatch.d x, AMatch.d y] (fun d => d = bln (q x y))) :
 Pure Tryz.prog 153 [.pd (.slice (rows AMatch.pd l)), .pd (.slice (rows AMatch.pd m)), .fn f []] (fun d => d = bln (eqf q l m)) := by
 refine pure_of_run follows an_zjaw1 Tryz.func153 rfl ok_zjaw1.1 ok_zjaw1.2 (by simp [Tryz.ntmps153]) ?_
 rw [run_start]
 simp only [ac_zjaw1, go_sem, simprocAttr]
 refine GifP.mk (fun hn => ?_) (fun hn => ?_)
 rotate_left
 ·simp only [retK, resD, retL, oneD, simprocAttr, Tryz.results153]
  exact ⟨_, rfl, rfl, congrArg bln (eqf_len q (by omega)).symm⟩
 have hlm : l.length = m.length := by omega
 refine loopS (fun k st => ∃ i : Nat, k = l.length - i ∧ i ≤ l.length ∧ eqf q (l.drop i) (m.drop i) = eqf q l m ∧
  st = ⟨[(1, .pd (.slice (rows AMatch.pd m))), (2, .fn f []), (15, .pd (.slice (rows AMatch.pd l))), (16, int l.length), (17, int i)], [], [], .no⟩) l.length _ (Weak.refl _ _) ⟨0, rfl, Nat.zero_le _, rfl, rfl⟩ ?_
 rintro k st ⟨i, rfl, hi, hr, rfl⟩
 by_cases hlt : i < l.length
 ·obtain ⟨x, hx⟩ := at_lt hlt
  obtain ⟨y, hy⟩ := at_lt (show i < m.length by omega)
  have hlt' : ((i : Int) < (l.length : Int)) = True := eq_true (by omega)
  have hw := i64_succ (show i < 1000000000 by omega)
  rw [drop_at hx, drop_at hy, eqf] at hr
  simp only [go_sem, simprocAttr, hlt', rows_get hx, rows_get hy, hw]
  refine (hp x (List.mem_of_getElem? hx) y (List.mem_of_getElem? hy)).callW he _ rfl rfl ?_
  rintro d rfl
  simp only [go_sem, simprocAttr, hw]
  refine Gif.mk (fun h => ?_) (fun h => ?_)
  ·rw [h, Bool.true_and] at hr
   refine ⟨l.length - (i + 1), _, ?_, ?_, i + 1, rfl, ?_, hr, rfl⟩
   ·omega
   ·exact lessA
   ·omega
  ·rw [h, Bool.false_and] at hr
   simp only [retK, resD, retL, oneD, simprocAttr, Tryz.results153]
   exact ⟨_, rfl, rfl, congrArg bln hr⟩
 ·have hlt' : ((i : Int) < (l.length : Int)) = False := eq_false (by omega)
  rw [List.drop_eq_nil_of_le (by omega), List.drop_eq_nil_of_le (by omega), eqf] at hr
  simp only [go_sem, simprocAttr, hlt']
  simp only [retK, resD, retL, oneD, simprocAttr, Tryz.results153]
  exact ⟨_, rfl, rfl, congrArg bln hr⟩

theorem EqualFunc_Need (q : ANeed → ANeed → Bool) (f : FuncId) (he : Enters Tryz.prog f) (l m : List ANeed) (hl : l.length ≤ 1000000) (hm : m.length ≤ 1000000) (hp : ∀ x ∈ l, ∀ y ∈ m, Pure Tryz.prog f [ANeed.d x, ANeed.d y] (fun d => d = bln (q x y))) :
 Pure Tryz.prog 202 [.pd (.slice (rows ANeed.pd l)), .pd (.slice (rows ANeed.pd m)), .fn f []] (fun d => d = bln (eqf q l m)) := by
 refine pure_of_run follows an_zdsnp Tryz.func202 rfl ok_zdsnp.1 ok_zdsnp.2 (by simp [Tryz.ntmps202]) ?_
 rw [run_start]
 simp only [ac_zdsnp, go_sem, simprocAttr]
 refine GifP.mk (fun hn => ?_) (fun hn => ?_)
 rotate_left
 ·simp only [retK, resD, retL, oneD, simprocAttr, Tryz.results202]
  exact ⟨_, rfl, rfl, congrArg bln (eqf_len q (by omega)).symm⟩
 have hlm : l.length = m.length := by omega
 refine loopS (fun k st => ∃ i : Nat, k = l.length - i ∧ i ≤ l.length ∧ eqf q (l.drop i) (m.drop i) = eqf q l m ∧
  st = ⟨[(1, .pd (.slice (rows ANeed.pd m))), (2, .fn f []), (15, .pd (.slice (rows ANeed.pd l))), (16, int l.length), (17, int i)], [], [], .no⟩) l.length _ (Weak.refl _ _) ⟨0, rfl, Nat.zero_le _, rfl, rfl⟩ ?_
 rintro k st ⟨i, rfl, hi, hr, rfl⟩
 by_cases hlt : i < l.length
 ·obtain ⟨x, hx⟩ := at_lt hlt
  obtain ⟨y, hy⟩ := at_lt (show i < m.length by omega)
  have hlt' : ((i : Int) < (l.length : Int)) = True := eq_true (by omega)
  have hw := i64_succ (show i < 1000000000 by omega)
  rw [drop_at hx, drop_at hy, eqf] at hr
  simp only [go_sem, simprocAttr, hlt', rows_get hx, rows_get hy, hw]
  refine (hp x (List.mem_of_getElem? hx) y (List.mem_of_getElem? hy)).callW he _ rfl rfl ?_
  rintro d rfl
  simp only [go_sem, simprocAttr, hw]
  refine Gif.mk (fun h => ?_) (fun h => ?_)
  ·rw [h, Bool.true_and] at hr
   refine ⟨l.length - (i + 1), _, ?_, ?_, i + 1, rfl, ?_, hr, rfl⟩
   ·omega
   ·exact lessA
   ·omega
  ·rw [h, Bool.false_and] at hr
   simp only [retK, resD, retL, oneD, simprocAttr, Tryz.results202]
   exact ⟨_, rfl, rfl, congrArg bln hr⟩
 ·have hlt' : ((i : Int) < (l.length : Int)) = False := eq_false (by omega)
  rw [List.drop_eq_nil_of_le (by omega), List.drop_eq_nil_of_le (by omega), eqf] at hr
  simp only [go_sem, simprocAttr, hlt']
  simp only [retK, resD, retL, oneD, simprocAttr, Tryz.results202]
  exact ⟨_, rfl, rfl, congrArg bln hr⟩


def okind (n : Int) : Bool := decide (1 ≤ n) && decide (n ≤ 7)
def oport (n : Int) : Bool := decide (1 ≤ n) && decide (n ≤ 65535)

theorem object_kind (n : Int) : Pure Tryz.prog 95 [int n] (fun d => d = bln (okind n)) := by
 refine pure_of_run follows an_zavnu Tryz.func95 rfl ok_zavnu.1 ok_zavnu.2 (by simp [Tryz.ntmps95]) ?_
 rw [run_start]
 simp only [ac_zavnu, go_sem, simprocAttr]
 (repeat' (first | (refine GifP.mk (fun _ => ?_) (fun _ => ?_)) | (refine Gif.mk (fun _ => ?_) (fun _ => ?_)))) <;> (simp only [retK, resD, retL, oneD, simprocAttr, Tryz.results95]; exact ⟨_, rfl, rfl, congrArg bln (by first | rfl | (rw [Bool.eq_iff_iff]; simp only [okind]; (first | (simp; done) | (simp; omega) | (simp [*]; done) | (simp [*]; omega))) | (simp_all [okind]; done) | (exfalso; omega))⟩)

theorem object_port (n : Int) : Pure Tryz.prog 126 [int n] (fun d => d = bln (oport n)) := by
 refine pure_of_run follows an_znt9b Tryz.func126 rfl ok_znt9b.1 ok_znt9b.2 (by simp [Tryz.ntmps126]) ?_
 rw [run_start]
 simp only [ac_znt9b, go_sem, simprocAttr]
 (repeat' (first | (refine GifP.mk (fun _ => ?_) (fun _ => ?_)) | (refine Gif.mk (fun _ => ?_) (fun _ => ?_)))) <;> (simp only [retK, resD, retL, oneD, simprocAttr, Tryz.results126]; exact ⟨_, rfl, rfl, congrArg bln (by first | rfl | (rw [Bool.eq_iff_iff]; simp only [oport]; (first | (simp; done) | (simp; omega) | (simp [*]; done) | (simp [*]; omega))) | (simp_all [oport]; done) | (exfalso; omega))⟩)

theorem object_near (s : ByteArray) : Pure Tryz.prog 181 [str s] (fun d => d = bln (labValue s)) := by
 refine pure_of_run follows an_ztrsy Tryz.func181 rfl ok_ztrsy.1 ok_ztrsy.2 (by simp [Tryz.ntmps181]) ?_
 rw [run_start]
 simp only [ac_ztrsy, go_sem, simprocAttr]
 (repeat' (first | (refine GifP.mk (fun _ => ?_) (fun _ => ?_)) | (refine Gif.mk (fun _ => ?_) (fun _ => ?_)) | (refine (dns_Label _).callW (enters_of Tryz.func94 rfl rfl) _ rfl rfl ?_; rintro _ rfl; try simp only [go_sem, simprocAttr]))) <;> (simp only [retK, resD, retL, oneD, simprocAttr, Tryz.results181]; exact ⟨_, rfl, rfl, congrArg bln (by first | rfl | (rw [Bool.eq_iff_iff]; simp only [labValue]; (first | (simp; done) | (simp; omega) | (simp [*]; done) | (simp [*]; omega))) | (simp_all [labValue]; done) | (exfalso; omega))⟩)

def parentMay (p : AParent) : Bool := labValue p.space && dname p.name && labValue p.section_ && (decide (p.port = 0) || oport p.port)

theorem object_parent (p : AParent) : Pure Tryz.prog 141 [p.d] (fun d => d = bln (parentMay p)) := by
 refine pure_of_run follows an_za0y7 Tryz.func141 rfl ok_za0y7.1 ok_za0y7.2 (by simp [Tryz.ntmps141]) ?_
 rw [run_start]
 simp only [ac_za0y7, go_sem, simprocAttr]
 (repeat' (first | (refine GifP.mk (fun _ => ?_) (fun _ => ?_)) | (refine Gif.mk (fun _ => ?_) (fun _ => ?_)) | ((first | refine (object_near _).callW (enters_of Tryz.func181 rfl rfl) _ rfl rfl ?_ | refine (dns_Name _).callW (enters_of Tryz.func93 rfl rfl) _ rfl rfl ?_ | refine (object_port _).callW (enters_of Tryz.func126 rfl rfl) _ rfl rfl ?_); rintro _ rfl; try simp only [go_sem, simprocAttr]))) <;> (simp only [retK, resD, retL, oneD, simprocAttr, Tryz.results141]; exact ⟨_, rfl, rfl, congrArg bln (by first | rfl | (rw [Bool.eq_iff_iff]; simp only [parentMay]; (first | (simp; done) | (simp; omega) | (simp [*]; done) | (simp [*]; omega))) | (simp_all [parentMay]; done) | (exfalso; omega))⟩)

def backendMay (b : ABackend) : Bool := okind b.ref.kind && labValue b.ref.space && dname b.ref.name && (decide (b.port = 0) || oport b.port) && decide (0 ≤ b.weight) && decide (b.weight ≤ 1000)

theorem object_backend (b : ABackend) : Pure Tryz.prog 197 [b.d] (fun d => d = bln (backendMay b)) := by
 refine pure_of_run follows an_z2jf5 Tryz.func197 rfl ok_z2jf5.1 ok_z2jf5.2 (by simp [Tryz.ntmps197]) ?_
 rw [run_start]
 simp only [ac_z2jf5, go_sem, simprocAttr]
 (repeat' (first | (refine GifP.mk (fun _ => ?_) (fun _ => ?_)) | (refine Gif.mk (fun _ => ?_) (fun _ => ?_)) | ((first | refine (object_kind _).callW (enters_of Tryz.func95 rfl rfl) _ rfl rfl ?_ | refine (object_near _).callW (enters_of Tryz.func181 rfl rfl) _ rfl rfl ?_ | refine (dns_Name _).callW (enters_of Tryz.func93 rfl rfl) _ rfl rfl ?_ | refine (object_port _).callW (enters_of Tryz.func126 rfl rfl) _ rfl rfl ?_); rintro _ rfl; try simp only [go_sem, simprocAttr]))) <;> (simp only [retK, resD, retL, oneD, simprocAttr, Tryz.results197]; exact ⟨_, rfl, rfl, congrArg bln (by first | rfl | (rw [Bool.eq_iff_iff]; simp only [backendMay]; (first | (simp; done) | (simp; omega) | (simp [*]; done) | (simp [*]; omega))) | (simp_all [backendMay]; done) | (exfalso; omega))⟩)

def sideFrom (s : ASide) : Bool := okind s.kind && label s.space && decide (s.name = ⟨#[]⟩)
def sideTo (s : ASide) : Bool := okind s.kind && decide (s.space = ⟨#[]⟩) && (decide (s.name = ⟨#[]⟩) || dname s.name)

theorem thing_grant_1 (s : ASide) : Pure Tryz.prog 145 [s.d] (fun d => d = bln (sideFrom s)) := by
 refine pure_of_run follows an_z9wz0 Tryz.func145 rfl ok_z9wz0.1 ok_z9wz0.2 (by simp [Tryz.ntmps145]) ?_
 rw [run_start]
 simp only [ac_z9wz0, go_sem, simprocAttr]
 (repeat' (first | (refine GifP.mk (fun _ => ?_) (fun _ => ?_)) | (refine Gif.mk (fun _ => ?_) (fun _ => ?_)) | ((first | refine (object_kind _).callW (enters_of Tryz.func95 rfl rfl) _ rfl rfl ?_ | refine (dns_Label _).callW (enters_of Tryz.func94 rfl rfl) _ rfl rfl ?_); rintro _ rfl; try simp only [go_sem, simprocAttr]))) <;> (simp only [retK, resD, retL, oneD, simprocAttr, Tryz.results145]; exact ⟨_, rfl, rfl, congrArg bln (by first | rfl | (rw [Bool.eq_iff_iff]; simp only [sideFrom]; (first | (simp; done) | (simp; omega) | (simp [*]; done) | (simp [*]; omega))) | (simp_all [sideFrom]; done) | (exfalso; omega))⟩)

theorem thing_grant_2 (s : ASide) : Pure Tryz.prog 146 [s.d] (fun d => d = bln (sideTo s)) := by
 refine pure_of_run follows an_z4xw6 Tryz.func146 rfl ok_z4xw6.1 ok_z4xw6.2 (by simp [Tryz.ntmps146]) ?_
 rw [run_start]
 simp only [ac_z4xw6, go_sem, simprocAttr]
 (repeat' (first | (refine GifP.mk (fun _ => ?_) (fun _ => ?_)) | (refine Gif.mk (fun _ => ?_) (fun _ => ?_)) | ((first | refine (object_kind _).callW (enters_of Tryz.func95 rfl rfl) _ rfl rfl ?_ | refine (dns_Name _).callW (enters_of Tryz.func93 rfl rfl) _ rfl rfl ?_); rintro _ rfl; try simp only [go_sem, simprocAttr]))) <;> (simp only [retK, resD, retL, oneD, simprocAttr, Tryz.results146]; exact ⟨_, rfl, rfl, congrArg bln (by first | rfl | (rw [Bool.eq_iff_iff]; simp only [sideTo]; (first | (simp; done) | (simp; omega) | (simp [*]; done) | (simp [*]; omega))) | (simp_all [sideTo]; done) | (exfalso; omega))⟩)

def intSame (a b : Int) : Bool := decide (a = b)
def strSame (a b : ByteArray) : Bool := decide (a = b)
def lisName (a b : AListener) : Bool := decide (a.name = b.name)
def parSame (a b : AParent) : Bool := decide (a = b)
def patMay (s : ByteArray) : Bool := !decide (s = ⟨#[]⟩) && hostMay s

theorem thing_service_1 (a b : Int) : Pure Tryz.prog 129 [int a, int b] (fun d => d = bln (intSame a b)) := by
 refine pure_of_run follows an_zwdgh Tryz.func129 rfl ok_zwdgh.1 ok_zwdgh.2 (by simp [Tryz.ntmps129]) ?_
 rw [run_start]
 simp only [ac_zwdgh, go_sem, simprocAttr]
 (repeat' (first | (refine GifP.mk (fun _ => ?_) (fun _ => ?_)) | (refine Gif.mk (fun _ => ?_) (fun _ => ?_)))) <;> (simp only [retK, resD, retL, oneD, simprocAttr, Tryz.results129]; exact ⟨_, rfl, rfl, congrArg bln (by first | rfl | (rw [Bool.eq_iff_iff]; simp only [intSame]; (first | (simp; done) | (simp; omega) | (simp [*]; done) | (simp [*]; omega))) | (simp_all [intSame]; done) | (exfalso; omega))⟩)

theorem thing_gateway_1 (a b : AListener) : Pure Tryz.prog 130 [a.d, b.d] (fun d => d = bln (lisName a b)) := by
 refine pure_of_run follows an_zpej9 Tryz.func130 rfl ok_zpej9.1 ok_zpej9.2 (by simp [Tryz.ntmps130]) ?_
 rw [run_start]
 simp only [ac_zpej9, go_sem, simprocAttr]
 (repeat' (first | (refine GifP.mk (fun _ => ?_) (fun _ => ?_)) | (refine Gif.mk (fun _ => ?_) (fun _ => ?_)))) <;> (simp only [retK, resD, retL, oneD, simprocAttr, Tryz.results130]; exact ⟨_, rfl, rfl, congrArg bln (by first | rfl | (rw [Bool.eq_iff_iff]; simp only [lisName]; (first | (simp; done) | (simp; omega) | (simp [*]; done) | (simp [*]; omega))) | (simp_all [lisName]; done) | (exfalso; omega))⟩)

theorem thing_route_1 (a b : AParent) : Pure Tryz.prog 135 [a.d, b.d] (fun d => d = bln (parSame a b)) := by
 refine pure_of_run follows an_zh5vi Tryz.func135 rfl ok_zh5vi.1 ok_zh5vi.2 (by simp [Tryz.ntmps135]) ?_
 rw [run_start]
 simp only [ac_zh5vi, go_sem, simprocAttr, eqVs, eqV, eq_Parent]
 simp only [retK, resD, retL, oneD, simprocAttr, Tryz.results135]
 exact ⟨_, rfl, rfl, rfl⟩

theorem thing_route_2 (a b : ByteArray) : Pure Tryz.prog 137 [str a, str b] (fun d => d = bln (strSame a b)) := by
 refine pure_of_run follows an_zkpqc Tryz.func137 rfl ok_zkpqc.1 ok_zkpqc.2 (by simp [Tryz.ntmps137]) ?_
 rw [run_start]
 simp only [ac_zkpqc, go_sem, simprocAttr]
 (repeat' (first | (refine GifP.mk (fun _ => ?_) (fun _ => ?_)) | (refine Gif.mk (fun _ => ?_) (fun _ => ?_)))) <;> (simp only [retK, resD, retL, oneD, simprocAttr, Tryz.results137]; exact ⟨_, rfl, rfl, congrArg bln (by first | rfl | (rw [Bool.eq_iff_iff]; simp only [strSame]; (first | (simp; done) | (simp; omega) | (simp [*]; done) | (simp [*]; omega))) | (simp_all [strSame]; done) | (exfalso; omega))⟩)

theorem thing_route_3 (s : ByteArray) : Pure Tryz.prog 138 [str s] (fun d => d = bln (patMay s)) := by
 refine pure_of_run follows an_z4pg2 Tryz.func138 rfl ok_z4pg2.1 ok_z4pg2.2 (by simp [Tryz.ntmps138]) ?_
 rw [run_start]
 simp only [ac_z4pg2, go_sem, simprocAttr]
 (repeat' (first | (refine GifP.mk (fun _ => ?_) (fun _ => ?_)) | (refine Gif.mk (fun _ => ?_) (fun _ => ?_)) | (refine (host_May _).callW (enters_of Tryz.func139 rfl rfl) _ rfl rfl ?_; rintro _ rfl; try simp only [go_sem, simprocAttr]))) <;> (simp only [retK, resD, retL, oneD, simprocAttr, Tryz.results138]; exact ⟨_, rfl, rfl, congrArg bln (by first | rfl | (rw [Bool.eq_iff_iff]; simp only [patMay]; (first | (simp; done) | (simp; omega) | (simp [*]; done) | (simp [*]; omega))) | (simp_all [patMay]; done) | (exfalso; omega))⟩)

def notNaN (_ : Int) : Bool := false
def intLess (a b : Int) : Bool := decide (a < b)

theorem cmp_isNaN (a : Int) : Pure Tryz.prog 119 [int a] (fun d => d = bln (notNaN a)) := by
 refine pure_of_run follows an_zkuzu Tryz.func119 rfl ok_zkuzu.1 ok_zkuzu.2 (by simp [Tryz.ntmps119]) ?_
 rw [run_start]
 simp only [ac_zkuzu, go_sem, simprocAttr]
 (repeat' (first | (refine GifP.mk (fun _ => ?_) (fun _ => ?_)) | (refine Gif.mk (fun _ => ?_) (fun _ => ?_)))) <;> (simp only [retK, resD, retL, oneD, simprocAttr, Tryz.results119]; exact ⟨_, rfl, rfl, congrArg bln (by first | rfl | (rw [Bool.eq_iff_iff]; simp only [notNaN]; (first | (simp; done) | (simp; omega) | (simp [*]; done) | (simp [*]; omega))) | (simp_all [notNaN]; done) | (exfalso; omega))⟩)

theorem cmp_Less (a b : Int) : Pure Tryz.prog 177 [int a, int b] (fun d => d = bln (intLess a b)) := by
 refine pure_of_run follows an_zte1c Tryz.func177 rfl ok_zte1c.1 ok_zte1c.2 (by simp [Tryz.ntmps177]) ?_
 rw [run_start]
 simp only [ac_zte1c, go_sem, simprocAttr]
 refine (cmp_isNaN a).callW (enters_of Tryz.func119 rfl rfl) _ rfl rfl ?_
 rintro d rfl
 simp only [go_sem, simprocAttr, notNaN]
 simp only [retK, resD, retL, oneD, simprocAttr, Tryz.results177]
 exact ⟨_, rfl, rfl, rfl⟩

def mayRef (r : ARef) : Bool := if r.kind = 1 then decide (r.space = ⟨#[]⟩) && dname r.name else if r.kind = 2 then decide (r.space = ⟨#[]⟩) && label r.name else okind r.kind && label r.space && dname r.name

theorem object_MayRef (r : ARef) : Pure Tryz.prog 44 [r.d] (fun d => d = bln (mayRef r)) := by
 refine pure_of_run follows an_zkdrf Tryz.func44 rfl ok_zkdrf.1 ok_zkdrf.2 (by simp [Tryz.ntmps44]) ?_
 rw [run_start]
 simp only [ac_zkdrf, go_sem, simprocAttr]
 (repeat' (first | (refine GifP.mk (fun _ => ?_) (fun _ => ?_)) | (refine Gif.mk (fun _ => ?_) (fun _ => ?_)) | ((first | refine (object_kind _).callW (enters_of Tryz.func95 rfl rfl) _ rfl rfl ?_ | refine (dns_Label _).callW (enters_of Tryz.func94 rfl rfl) _ rfl rfl ?_ | refine (dns_Name _).callW (enters_of Tryz.func93 rfl rfl) _ rfl rfl ?_); rintro _ rfl; try simp only [go_sem, simprocAttr]))) <;> (simp only [retK, resD, retL, oneD, simprocAttr, Tryz.results44]; exact ⟨_, rfl, rfl, congrArg bln (by first | rfl | (rw [Bool.eq_iff_iff]; simp only [mayRef]; (first | (simp; done) | (simp; omega) | (simp [*]; done) | (simp [*]; omega))) | (simp_all [mayRef]; done) | (exfalso; omega))⟩)

def fewVals (n : ANeed) : Bool := decide (1 ≤ n.vals.length) && decide (n.vals.length ≤ 8) && !n.vals.any (fun s => !labValue s)

theorem label_asks_1 (s : ByteArray) : Pure Tryz.prog 253 [str s] (fun d => d = bln (!labValue s)) := by
 refine pure_of_run follows an_zuzx4 Tryz.func253 rfl ok_zuzx4.1 ok_zuzx4.2 (by simp [Tryz.ntmps253]) ?_
 rw [run_start]
 simp only [ac_zuzx4, go_sem, simprocAttr]
 (repeat' (first | (refine GifP.mk (fun _ => ?_) (fun _ => ?_)) | (refine Gif.mk (fun _ => ?_) (fun _ => ?_)) | (refine (label_value _).callW (enters_of Tryz.func174 rfl rfl) _ rfl rfl ?_; rintro _ rfl; try simp only [go_sem, simprocAttr]))) <;> (simp only [retK, resD, retL, oneD, simprocAttr, Tryz.results253]; exact ⟨_, rfl, rfl, congrArg bln (by first | rfl | (rw [Bool.eq_iff_iff]; simp only [labValue]; (first | (simp; done) | (simp; omega) | (simp [*]; done) | (simp [*]; omega))) | (simp_all [labValue]; done) | (exfalso; omega))⟩)

def asksD (n : ANeed) : D :=
 if dname n.name = false then .pd (.raw .nilIface)
 else if n.kind = 1 ∧ fewVals n = true then .pd (.iface 275 true [pStr n.name, .slice (strs n.vals)])
 else if n.kind = 2 ∧ fewVals n = true then .pd (.iface 277 true [pStr n.name, .slice (strs n.vals)])
 else if n.kind = 3 ∧ n.vals.length = 0 then .pd (.iface 278 false [pStr n.name])
 else if n.kind = 4 ∧ n.vals.length = 0 then .pd (.iface 280 true [pStr n.name])
 else .pd (.raw .nilIface)

def askMay (n : ANeed) : Bool := dname n.name && ((decide (n.kind = 1) && fewVals n) || (decide (n.kind = 2) && fewVals n) || (decide (n.kind = 3) && decide (n.vals.length = 0)) || (decide (n.kind = 4) && decide (n.vals.length = 0)))

set_option maxHeartbeats 2000000 in
theorem label_asks (n : ANeed) (hv : n.vals.length ≤ 1000000) : Pure Tryz.prog 217 [n.d] (fun d => d = asksD n) := by
 refine pure_of_run follows an_zyjit Tryz.func217 rfl ok_zyjit.1 ok_zyjit.2 (by simp [Tryz.ntmps217]) ?_
 rw [run_start]
 simp only [ac_zyjit, go_sem, simprocAttr]
 have key : ∀ b : Bool, fewVals n = b → ∀ d : D, (d = if dname n.name = false then .pd (.raw .nilIface)
  else if n.kind = 1 ∧ b = true then .pd (.iface 275 true [pStr n.name, .slice (strs n.vals)])
  else if n.kind = 2 ∧ b = true then .pd (.iface 277 true [pStr n.name, .slice (strs n.vals)])
  else if n.kind = 3 ∧ n.vals.length = 0 then .pd (.iface 278 false [pStr n.name])
  else if n.kind = 4 ∧ n.vals.length = 0 then .pd (.iface 280 true [pStr n.name])
  else .pd (.raw .nilIface)) → d = asksD n := fun b h d hd => by
  rw [hd]; unfold asksD; rw [h]
 refine GifP.mk (fun h1 => ?_) (fun h1 => ?_)
 ·refine GifP.mk (fun h2 => ?_) (fun h2 => ?_)
  ·refine (ContainsP_string (fun s => !labValue s) _ (enters_of Tryz.func253 rfl rfl) n.vals hv (fun s _ => label_asks_1 s)).callW (enters_of Tryz.func186 rfl rfl) _ rfl rfl ?_
   rintro d rfl
   have hf : fewVals n = !n.vals.any (fun s => !labValue s) := by
    have h3 : 1 ≤ n.vals.length := by omega
    have h4 : n.vals.length ≤ 8 := by omega
    simp [fewVals, h3, h4]
   obtain ⟨q, hq⟩ : ∃ q, n.vals.any (fun s => !labValue s) = q := ⟨_, rfl⟩
   rw [hq] at hf ⊢
   cases q
   all_goals
    have key' := key _ hf
    simp only [go_sem, simprocAttr]
    (repeat' (first | (refine GifP.mk (fun _ => ?_) (fun _ => ?_)) | (refine Gif.mk (fun _ => ?_) (fun _ => ?_)) | (refine (dns_Name _).callW (enters_of Tryz.func93 rfl rfl) _ rfl rfl ?_; rintro _ rfl; try simp only [go_sem, simprocAttr]))) <;> (simp only [retK, resD, retL, oneD, simprocAttr, Tryz.results217]; refine ⟨_, rfl, rfl, ?_⟩; refine key' _ ?_; clear key key'; dsimp only [D.pub]; (repeat' split) <;> first | rfl | (exfalso; omega) | (exfalso; simp_all; done) | (exfalso; simp_all; omega))
  ·have hf : fewVals n = false := by
    have h4 : ¬ n.vals.length ≤ 8 := by omega
    simp [fewVals, h4]
   have key' := key _ hf
   (repeat' (first | (refine GifP.mk (fun _ => ?_) (fun _ => ?_)) | (refine Gif.mk (fun _ => ?_) (fun _ => ?_)) | (refine (dns_Name _).callW (enters_of Tryz.func93 rfl rfl) _ rfl rfl ?_; rintro _ rfl; try simp only [go_sem, simprocAttr]))) <;> (simp only [retK, resD, retL, oneD, simprocAttr, Tryz.results217]; refine ⟨_, rfl, rfl, ?_⟩; refine key' _ ?_; clear key key'; dsimp only [D.pub]; (repeat' split) <;> first | rfl | (exfalso; omega) | (exfalso; simp_all; done) | (exfalso; simp_all; omega))
 ·have hf : fewVals n = false := by
   have h4 : ¬ 1 ≤ n.vals.length := by omega
   simp [fewVals, h4]
  have key' := key _ hf
  (repeat' (first | (refine GifP.mk (fun _ => ?_) (fun _ => ?_)) | (refine Gif.mk (fun _ => ?_) (fun _ => ?_)) | (refine (dns_Name _).callW (enters_of Tryz.func93 rfl rfl) _ rfl rfl ?_; rintro _ rfl; try simp only [go_sem, simprocAttr]))) <;> (simp only [retK, resD, retL, oneD, simprocAttr, Tryz.results217]; refine ⟨_, rfl, rfl, ?_⟩; refine key' _ ?_; clear key key'; dsimp only [D.pub]; (repeat' split) <;> first | rfl | (exfalso; omega) | (exfalso; simp_all; done) | (exfalso; simp_all; omega))

theorem askMay_isnil (n : ANeed) : (∃ t a cs, asksD n = .pd (.iface t a cs) ∧ askMay n = true) ∨ (asksD n = .pd (.raw .nilIface) ∧ askMay n = false) := by
 unfold asksD askMay
 repeat' split
 all_goals first
  | exact .inl ⟨_, _, _, rfl, by simp_all⟩
  | exact .inr ⟨rfl, by simp_all⟩

theorem label_Needs_1 (n : ANeed) (hv : n.vals.length ≤ 1000000) : Pure Tryz.prog 216 [n.d] (fun d => d = bln (!askMay n)) := by
 refine pure_of_run follows an_zdaaj Tryz.func216 rfl ok_zdaaj.1 ok_zdaaj.2 (by simp [Tryz.ntmps216]) ?_
 rw [run_start]
 simp only [ac_zdaaj, go_sem, simprocAttr]
 refine (label_asks n hv).callW (enters_of Tryz.func217 rfl rfl) _ rfl rfl ?_
 rintro d rfl
 rcases askMay_isnil n with ⟨t, a, cs, h1, h2⟩ | ⟨h1, h2⟩
 all_goals
  rw [h1]
  simp only [go_sem, simprocAttr]
  simp only [retK, resD, retL, oneD, simprocAttr, Tryz.results216]
  exact ⟨_, rfl, rfl, congrArg bln (by rw [h2]; rfl)⟩

def ANeed.ok (n : ANeed) : Prop := n.vals.length ≤ 1000000

def needsMay (l : List ANeed) : Bool := decide (l.length ≤ 8) && !l.any (fun n => !askMay n)

theorem label_Needs (l : List ANeed) (hl : l.length ≤ 1000000) (hv : ∀ n ∈ l, n.ok) : Pure Tryz.prog 182 [.pd (.slice (rows ANeed.pd l))] (fun d => d = bln (needsMay l)) := by
 refine pure_of_run follows an_zlask Tryz.func182 rfl ok_zlask.1 ok_zlask.2 (by simp [Tryz.ntmps182]) ?_
 rw [run_start]
 simp only [ac_zlask, go_sem, simprocAttr]
 (repeat' (first | (refine GifP.mk (fun _ => ?_) (fun _ => ?_)) | (refine Gif.mk (fun _ => ?_) (fun _ => ?_)) | (refine (ContainsP_Need (fun n => !askMay n) _ (enters_of Tryz.func216 rfl rfl) l hl (fun n hn => label_Needs_1 n (hv n hn))).callW (enters_of Tryz.func215 rfl rfl) _ rfl rfl ?_; rintro _ rfl; try simp only [go_sem, simprocAttr]))) <;> (simp only [retK, resD, retL, oneD, simprocAttr, Tryz.results182]; exact ⟨_, rfl, rfl, congrArg bln (by first | rfl | (rw [Bool.eq_iff_iff]; simp only [needsMay]; (first | (simp; done) | (simp; omega) | (simp [*]; done) | (simp [*]; omega))) | (simp_all [needsMay]; done) | (exfalso; omega))⟩)

def needSame (a b : ANeed) : Bool := decide (a.kind = b.kind) && decide (a.name = b.name) && decide (a.vals = b.vals)

theorem label_Same_1 (a b : ANeed) (ha : a.ok) (hb : b.ok) : Pure Tryz.prog 203 [a.d, b.d] (fun d => d = bln (needSame a b)) := by
 refine pure_of_run follows an_zvpxe Tryz.func203 rfl ok_zvpxe.1 ok_zvpxe.2 (by simp [Tryz.ntmps203]) ?_
 rw [run_start]
 simp only [ac_zvpxe, go_sem, simprocAttr]
 (repeat' (first | (refine GifP.mk (fun _ => ?_) (fun _ => ?_)) | (refine Gif.mk (fun _ => ?_) (fun _ => ?_)) | (refine (Equal_string a.vals b.vals ha hb).callW (enters_of Tryz.func101 rfl rfl) _ rfl rfl ?_; rintro _ rfl; try simp only [go_sem, simprocAttr]))) <;> (simp only [retK, resD, retL, oneD, simprocAttr, Tryz.results203]; exact ⟨_, rfl, rfl, congrArg bln (by first | rfl | (rw [Bool.eq_iff_iff]; simp only [needSame]; (first | (simp; done) | (simp; omega) | (simp [*]; done) | (simp [*]; omega))) | (simp_all [needSame]; done) | (exfalso; omega))⟩)

theorem label_Same (l m : List ANeed) (hl : l.length ≤ 1000000) (hm : m.length ≤ 1000000) (h1 : ∀ n ∈ l, n.ok) (h2 : ∀ n ∈ m, n.ok) : Pure Tryz.prog 152 [.pd (.slice (rows ANeed.pd l)), .pd (.slice (rows ANeed.pd m))] (fun d => d = bln (eqf needSame l m)) := by
 refine pure_of_run follows an_zx2gm Tryz.func152 rfl ok_zx2gm.1 ok_zx2gm.2 (by simp [Tryz.ntmps152]) ?_
 rw [run_start]
 simp only [ac_zx2gm, go_sem, simprocAttr]
 (repeat' (first | (refine GifP.mk (fun _ => ?_) (fun _ => ?_)) | (refine Gif.mk (fun _ => ?_) (fun _ => ?_)) | (refine (EqualFunc_Need needSame _ (enters_of Tryz.func203 rfl rfl) l m hl hm (fun x hx y hy => label_Same_1 x y (h1 x hx) (h2 y hy))).callW (enters_of Tryz.func202 rfl rfl) _ rfl rfl ?_; rintro _ rfl; try simp only [go_sem, simprocAttr]))) <;> (simp only [retK, resD, retL, oneD, simprocAttr, Tryz.results152]; exact ⟨_, rfl, rfl, congrArg bln (by first | rfl | (rw [Bool.eq_iff_iff]; simp only [id]; (first | (simp; done) | (simp; omega) | (simp [*]; done) | (simp [*]; omega))) | (simp_all [id]; done) | (exfalso; omega))⟩)


def valOct (b : UInt8) : Bool := decide (32 ≤ b.toNat) && decide (b.toNat ≤ 126)

def fvalue (s : ByteArray) : Bool := s.data.toList.all valOct && decide (s.size ≤ 40) && decide (trim s = s)

theorem pairs_Value (s : ByteArray) (hs : s.size ≤ 1000000) : Pure Tryz.prog 226 [str s] (fun d => d = bln (fvalue s)) := by
 refine pure_of_run follows an_z4wze Tryz.func226 rfl ok_z4wze.1 ok_z4wze.2 (by simp [Tryz.ntmps226]) ?_
 rw [run_start]
 simp only [ac_z4wze, go_sem, simprocAttr]
 refine loopS (fun k st => ∃ i : Nat, k = s.size - i ∧ i ≤ s.size ∧ (s.data.toList.drop i).all valOct = s.data.toList.all valOct ∧
  st = ⟨[(0, str s), (5, int s.size), (6, int i)], [], [], .no⟩) s.size _ (Weak.refl _ _) ⟨0, rfl, Nat.zero_le _, rfl, rfl⟩ ?_
 rintro k st ⟨i, rfl, hi, hr, rfl⟩
 by_cases hlt : i < s.size
 ·obtain ⟨b, hb, hd⟩ := byte_at hlt
  have hlt' : ((i : Int) < (s.size : Int)) = True := eq_true (by omega)
  rw [hd, List.all_cons] at hr
  have bad : valOct b = false → fvalue s = false := fun h => by
   rw [h, Bool.false_and] at hr
   simp only [fvalue, ← hr, Bool.false_and]
  have hw := i64_succ (show i < 1000000000 by omega)
  simp only [go_sem, simprocAttr, hlt', hb, hw]
  repeat' (first | refine GifP.mk (fun _ => ?_) (fun _ => ?_) | refine Gif.mk (fun _ => ?_) (fun _ => ?_))
  iterate 2
   ·simp only [retK, iterK, resD, retL, oneD, simprocAttr, Tryz.results226]
    exact ⟨_, rfl, rfl, congrArg bln (bad (by simp [valOct]; omega)).symm⟩
  ·have hg : valOct b = true := by simp [valOct]; omega
   rw [hg, Bool.true_and] at hr
   refine ⟨s.size - (i + 1), _, ?_, ?_, i + 1, rfl, ?_, hr, rfl⟩
   ·omega
   ·exact lessA
   ·omega
 ·have hlt' : ((i : Int) < (s.size : Int)) = False := eq_false (by omega)
  rw [byte_end hlt] at hr
  have hr' := hr.symm
  rw [List.all_nil] at hr'
  simp only [go_sem, simprocAttr, hlt']
  (repeat' (first | (refine GifP.mk (fun _ => ?_) (fun _ => ?_)) | (refine Gif.mk (fun _ => ?_) (fun _ => ?_)) | (refine (strings_Trim s hs).callW (enters_of Tryz.func257 rfl rfl) _ rfl rfl ?_; rintro _ rfl; try simp only [go_sem, simprocAttr]))) <;> (simp only [retK, iterK, resD, retL, oneD, simprocAttr, Tryz.results226]; exact ⟨_, rfl, rfl, congrArg bln (by first | rfl | (rw [Bool.eq_iff_iff]; simp only [fvalue, hr']; (first | (simp; done) | (simp; omega) | (simp [*]; done) | (simp [*]; omega))) | (simp_all [fvalue, hr']; done) | (exfalso; omega))⟩)

def foldSame (a b : ByteArray) : Bool := decide (fold a = fold b)

theorem pairs_Same (a b : ByteArray) (ha : a.size ≤ 1000000) (hb : b.size ≤ 1000000) : Pure Tryz.prog 231 [str a, str b] (fun d => d = bln (foldSame a b)) := by
 refine pure_of_run follows an_zrrew Tryz.func231 rfl ok_zrrew.1 ok_zrrew.2 (by simp [Tryz.ntmps231]) ?_
 rw [run_start]
 simp only [ac_zrrew, go_sem, simprocAttr]
 (repeat' (first | (refine GifP.mk (fun _ => ?_) (fun _ => ?_)) | (refine Gif.mk (fun _ => ?_) (fun _ => ?_)) | ((first | refine (dns_Fold a ha).callW (enters_of Tryz.func263 rfl rfl) _ rfl rfl ?_ | refine (dns_Fold b hb).callW (enters_of Tryz.func263 rfl rfl) _ rfl rfl ?_); rintro _ rfl; try simp only [go_sem, simprocAttr]))) <;> (simp only [retK, resD, retL, oneD, simprocAttr, Tryz.results231]; exact ⟨_, rfl, rfl, congrArg bln (by first | rfl | (rw [Bool.eq_iff_iff]; simp only [foldSame]; (first | (simp; done) | (simp; omega) | (simp [*]; done) | (simp [*]; omega))) | (simp_all [foldSame]; done) | (exfalso; omega))⟩)

def APair.ok (p : APair) : Prop := p.name.size ≤ 1000000 ∧ p.val.size ≤ 1000000
def AFilter.ok (f : AFilter) : Prop := f.name.size ≤ 1000000 ∧ f.val.size ≤ 1000000
structure AMatch.ok (m : AMatch) : Prop where
 hl : m.head.length ≤ 1000000
 ql : m.query.length ≤ 1000000
 h : ∀ p ∈ m.head, p.ok
 q : ∀ p ∈ m.query, p.ok

def pairOdd (p : APair) : Bool := !token p.name || !fvalue p.val

theorem rule_May_1 (p : APair) (h : p.ok) : Pure Tryz.prog 224 [p.d] (fun d => d = bln (pairOdd p)) := by
 refine pure_of_run follows an_zqrzx Tryz.func224 rfl ok_zqrzx.1 ok_zqrzx.2 (by simp [Tryz.ntmps224]) ?_
 rw [run_start]
 simp only [ac_zqrzx, go_sem, simprocAttr]
 (repeat' (first | (refine GifP.mk (fun _ => ?_) (fun _ => ?_)) | (refine Gif.mk (fun _ => ?_) (fun _ => ?_)) | ((first | refine (pairs_Token p.name h.1).callW (enters_of Tryz.func225 rfl rfl) _ rfl rfl ?_ | refine (pairs_Value p.val h.2).callW (enters_of Tryz.func226 rfl rfl) _ rfl rfl ?_); rintro _ rfl; try simp only [go_sem, simprocAttr]))) <;> (simp only [retK, resD, retL, oneD, simprocAttr, Tryz.results224]; exact ⟨_, rfl, rfl, congrArg bln (by first | rfl | (rw [Bool.eq_iff_iff]; simp only [pairOdd]; (first | (simp; done) | (simp; omega) | (simp [*]; done) | (simp [*]; omega))) | (simp_all [pairOdd]; done) | (exfalso; omega))⟩)

theorem rule_May_2 (a b : ByteArray) : Pure Tryz.prog 233 [str a, str b] (fun d => d = bln (strSame a b)) := by
 refine pure_of_run follows an_zwio7 Tryz.func233 rfl ok_zwio7.1 ok_zwio7.2 (by simp [Tryz.ntmps233]) ?_
 rw [run_start]
 simp only [ac_zwio7, go_sem, simprocAttr]
 (repeat' (first | (refine GifP.mk (fun _ => ?_) (fun _ => ?_)) | (refine Gif.mk (fun _ => ?_) (fun _ => ?_)))) <;> (simp only [retK, resD, retL, oneD, simprocAttr, Tryz.results233]; exact ⟨_, rfl, rfl, congrArg bln (by first | rfl | (rw [Bool.eq_iff_iff]; simp only [strSame]; (first | (simp; done) | (simp; omega) | (simp [*]; done) | (simp [*]; omega))) | (simp_all [strSame]; done) | (exfalso; omega))⟩)

theorem rule_twice_1 (q : ByteArray → ByteArray → Bool) (f : FuncId) (he : Enters Tryz.prog f) (x y : APair) (hp : Pure Tryz.prog f [str y.name, str x.name] (fun d => d = bln (q y.name x.name))) :
 PureB Tryz.prog 262 [y.d, .ptr 1000001 0, .ptr 1000002 0] [(1000001, [.fn f []]), (1000002, [str x.name, str x.val])] (fun d => d = bln (q y.name x.name)) := by
 refine pureB_of_run follows an_zpw6o Tryz.func262 rfl ok_zpw6o.1 ok_zpw6o.2 (by simp [Tryz.ntmps262]) ?_
 rw [run_start]
 simp only [ac_zpw6o, go_sem, simprocAttr]
 refine hp.callW he _ rfl rfl ?_
 rintro d rfl
 simp only [go_sem, simprocAttr]
 simp only [retK, resD, retL, oneD, simprocAttr, Tryz.results262]
 exact ⟨_, rfl, rfl, rfl⟩

def pairTwice (q : ByteArray → ByteArray → Bool) (l : List APair) : Bool := twice (fun x y => q y.name x.name) l

theorem rule_twice (q : ByteArray → ByteArray → Bool) (f : FuncId) (he : Enters Tryz.prog f) (l : List APair) (hl : l.length ≤ 1000000) (hp : ∀ x ∈ l, ∀ y ∈ l, Pure Tryz.prog f [str y.name, str x.name] (fun d => d = bln (q y.name x.name))) :
 Pure Tryz.prog 230 [.pd (.slice (rows APair.pd l)), .fn f []] (fun d => d = bln (pairTwice q l)) := by
 refine pure_of_run follows an_z6for Tryz.func230 rfl ok_z6for.1 ok_z6for.2 (by simp [Tryz.ntmps230]) ?_
 rw [run_start]
 simp only [ac_z6for, go_sem, simprocAttr]
 refine loopS (fun k st => ∃ i : Nat, k = l.length - i ∧ i ≤ l.length ∧ twiceFrom (fun x y : APair => q y.name x.name) l k i = pairTwice q l ∧
  st = ⟨[(0, .pd (.slice (rows APair.pd l))), (3, .ptr 3 0), (7, .pd (.slice (rows APair.pd l))), (8, int l.length), (9, int i)], [(3, [.fn f []])], [], .no⟩) l.length _ (Weak.refl _ _) ⟨0, rfl, Nat.zero_le _, rfl, rfl⟩ ?_
 rintro k st ⟨i, rfl, hi, hr, rfl⟩
 by_cases hlt : i < l.length
 ·obtain ⟨x, hx⟩ := at_lt hlt
  have hlt' : ((i : Int) < (l.length : Int)) = True := eq_true (by omega)
  have hle : (i ≤ l.length) = True := eq_true (by omega)
  have hw := i64_succ (show i < 1000000000 by omega)
  have hmx := List.mem_of_getElem? hx
  obtain ⟨m, hm⟩ : ∃ m, l.length - i = m + 1 := ⟨l.length - i - 1, by omega⟩
  rw [hm, twiceFrom, hx] at hr
  have hrows : rowsOK 2 (rows APair.pd l) = True := rowsOK_rows (f := APair.pd) (n := 2) (fun _ => rfl) l
  have htk : (rows APair.pd l).take i = rows APair.pd (l.take i) := by simp [rows, List.map_take]
  simp only [go_sem, simprocAttr, hlt', rows_get hx, rows_len, hrows, hle, htk]
  refine (ContainsFunc_Pair (fun y => q y.name x.name) 262 (enters_of Tryz.func262 rfl rfl) [(1000001, 0), (1000002, 0)] [(1000001, [.fn f []]), (1000002, [str x.name, str x.val])] (Cl.of rfl rfl rfl rfl rfl) (l.take i) (by simp; omega)
   (fun y hy => rule_twice_1 q f he x y (hp x hmx y (List.mem_of_mem_take hy)))).callW (enters_of Tryz.func229 rfl rfl) _ [(3, 1000001), (6, 1000002)] rfl rfl rfl ?_
  rintro d rfl
  simp only [go_sem, simprocAttr, hw]
  refine Gif.mk (fun h => ?_) (fun h => ?_)
  ·simp only [h, Bool.true_or] at hr
   simp only [retK, resD, retL, oneD, simprocAttr, Tryz.results230]
   exact ⟨_, rfl, rfl, congrArg bln hr⟩
  ·simp only [h, Bool.false_or] at hr
   refine ⟨m, _, ?_, ?_, i + 1, ?_, ?_, hr, rfl⟩
   ·omega
   ·exact lessA
   ·omega
   ·omega
 ·have hlt' : ((i : Int) < (l.length : Int)) = False := eq_false (by omega)
  rw [show l.length - i = 0 by omega, twiceFrom] at hr
  simp only [go_sem, simprocAttr, hlt']
  simp only [retK, resD, retL, oneD, simprocAttr, Tryz.results230]
  exact ⟨_, rfl, rfl, congrArg bln hr⟩

def matchMay (m : AMatch) : Bool :=
 pathMay m.pkind m.pval && (decide (m.method = ⟨#[]⟩) || method m.method) && decide (m.head.length ≤ 8) && !m.head.any pairOdd && !pairTwice foldSame m.head && decide (m.query.length ≤ 8) && queryMay m.query && !pairTwice strSame m.query

set_option maxHeartbeats 1000000 in
theorem rule_May (m : AMatch) (h : m.ok) : Pure Tryz.prog 194 [m.d] (fun d => d = bln (matchMay m)) := by
 refine pure_of_run follows an_zi87h Tryz.func194 rfl ok_zi87h.1 ok_zi87h.2 (by simp [Tryz.ntmps194]) ?_
 rw [run_start]
 simp only [ac_zi87h, go_sem, simprocAttr]
 (repeat' (first | (refine GifP.mk (fun _ => ?_) (fun _ => ?_)) | (refine Gif.mk (fun _ => ?_) (fun _ => ?_)) | ((first | refine (path_May _ _).callW (enters_of Tryz.func227 rfl rfl) _ rfl rfl ?_ | refine (rule_Method _).callW (enters_of Tryz.func228 rfl rfl) _ rfl rfl ?_ | refine (ContainsP_Pair pairOdd _ (enters_of Tryz.func224 rfl rfl) m.head h.hl (fun p hp => rule_May_1 p (h.h p hp))).callW (enters_of Tryz.func229 rfl rfl) _ rfl rfl ?_ | refine (rule_twice foldSame _ (enters_of Tryz.func231 rfl rfl) m.head h.hl (fun x hx y hy => pairs_Same _ _ (h.h y hy).1 (h.h x hx).1)).callW (enters_of Tryz.func230 rfl rfl) _ rfl rfl ?_ | refine (rule_twice strSame _ (enters_of Tryz.func233 rfl rfl) m.query h.ql (fun x hx y hy => rule_May_2 _ _)).callW (enters_of Tryz.func230 rfl rfl) _ rfl rfl ?_ | refine (query_May m.query h.ql).callW (enters_of Tryz.func232 rfl rfl) _ rfl rfl ?_); rintro _ rfl; try simp only [go_sem, simprocAttr]))) <;> (simp only [retK, resD, retL, oneD, simprocAttr, Tryz.results194]; exact ⟨_, rfl, rfl, congrArg bln (by first | rfl | (rw [Bool.eq_iff_iff]; simp only [matchMay]; (first | (simp; done) | (simp; omega) | (simp [*]; done) | (simp [*]; omega))) | (simp_all [matchMay]; done) | (exfalso; omega))⟩)

def matchSame (a b : AMatch) : Bool := decide (a.pkind = b.pkind) && decide (a.pval = b.pval) && decide (a.method = b.method) && decide (a.head = b.head) && decide (a.query = b.query)

theorem rule_Same (a b : AMatch) (ha : a.ok) (hb : b.ok) : Pure Tryz.prog 154 [a.d, b.d] (fun d => d = bln (matchSame a b)) := by
 refine pure_of_run follows an_zb37x Tryz.func154 rfl ok_zb37x.1 ok_zb37x.2 (by simp [Tryz.ntmps154]) ?_
 rw [run_start]
 simp only [ac_zb37x, go_sem, simprocAttr, eqVs, eqV]
 (repeat' (first | (refine GifP.mk (fun _ => ?_) (fun _ => ?_)) | (refine Gif.mk (fun _ => ?_) (fun _ => ?_)) | ((first | refine (Equal_Pair a.head b.head ha.hl hb.hl).callW (enters_of Tryz.func99 rfl rfl) _ rfl rfl ?_ | refine (Equal_Pair a.query b.query ha.ql hb.ql).callW (enters_of Tryz.func99 rfl rfl) _ rfl rfl ?_); rintro _ rfl; try simp only [go_sem, simprocAttr, eqVs, eqV]))) <;> (simp only [retK, resD, retL, oneD, simprocAttr, Tryz.results154]; exact ⟨_, rfl, rfl, congrArg bln (by first | rfl | (rw [Bool.eq_iff_iff]; simp only [matchSame]; (first | (simp; done) | (simp; omega) | (simp [*]; done) | (simp [*]; omega))) | (simp_all [matchSame]; done) | (exfalso; omega))⟩)


theorem get_byte {s : ByteArray} {i : Nat} {b : UInt8} (h : s[i]? = some b) : s.get! i = b := by
 rw [bytes_get] at h
 have h1 : s.data[i]? = some b := by rw [← Array.getElem?_toList]; exact h
 simp only [ByteArray.get!]
 rw [getElem!_def, h1]

theorem decode_low {s : ByteArray} {i : Nat} {b : UInt8} (h : s[i]? = some b) (hb : b.toNat < 128) : Utf8.decode s i = (b.toNat, 1) := by
 rw [Lib.decode_at, get_byte h, Lib.decodeN, if_pos hb]

theorem decode_high {s : ByteArray} {i : Nat} {b : UInt8} (h : s[i]? = some b) (hb : ¬ b.toNat < 128) : 128 ≤ (Utf8.decode s i).1 := by
 rw [Lib.decode_at, get_byte h, Lib.decodeN, if_neg hb]
 repeat' split
 all_goals first | omega | (simp only []; omega)

theorem runeAll_bytes {p : Int → Bool} (hp : ∀ c, 128 ≤ c → p c = false) (s : ByteArray) : ∀ (k pos : Nat), s.size ≤ pos + k → runeAll p s k pos = (s.data.toList.drop pos).all fun b => p b.toNat
 | 0, pos, h => by
   rw [byte_end (by omega)]
   rfl
 | k + 1, pos, h => by
   by_cases hlt : pos < s.size
   ·obtain ⟨b, hb, hd⟩ := byte_at hlt
    rw [hd, List.all_cons]
    simp only [runeAll, hlt, if_true]
    by_cases h1 : b.toNat < 128
    ·rw [decode_low hb h1, runeAll_bytes hp s k (pos + 1) (by omega)]
    ·have h2 := decode_high hb h1
     rw [hp _ (by omega), hp (b.toNat : Int) (by omega)]
     simp
   ·rw [runeAll_end hlt, byte_end hlt]
    rfl

theorem runeIdx_all (p : Int → Bool) (s : ByteArray) : ∀ (k pos : Nat), (runeIdx (fun c => !p c) s k pos < 0) = (runeAll p s k pos = true)
 | 0, pos => by simp [runeIdx, runeAll]
 | k + 1, pos => by
   simp only [runeIdx, runeAll]
   split
   ·obtain ⟨q, hq⟩ : ∃ q, p (Utf8.decode s pos).1 = q := ⟨_, rfl⟩
    cases q with
    | false => simp only [hq, Bool.not_false, if_true, Bool.false_and, Bool.false_eq_true, eq_iff_iff, iff_false]; omega
    | true =>
      simp only [hq, Bool.not_true, Bool.false_eq_true, if_false, Bool.true_and]
      exact runeIdx_all p s k _
   ·simp

theorem idx_none {p : Int → Bool} (hp : ∀ c, 128 ≤ c → p c = false) (s : ByteArray) : decide (runeIdx (fun c => !p c) s s.size 0 < 0) = s.data.toList.all fun b => p b.toNat := by
 rw [Bool.eq_iff_iff, decide_eq_true_eq, runeIdx_all, runeAll_bytes hp s s.size 0 (by omega)]
 rfl

theorem all_bytes {s : ByteArray} {p : UInt8 → Bool} : s.data.toList.all p = true ↔ ∀ (j : Nat) (b : UInt8), s[j]? = some b → p b = true := by
 rw [List.all_eq_true]
 constructor
 ·intro h j b hb
  rw [bytes_get] at hb
  exact h b (List.mem_of_getElem? hb)
 ·intro h b hb
  obtain ⟨j, hj⟩ := List.getElem?_of_mem hb
  exact h j b (by rw [bytes_get]; exact hj)

def labAt (n j : Nat) (b : UInt8) : Bool := ((decide (97 ≤ b.toNat) && decide (b.toNat ≤ 122)) || (decide (48 ≤ b.toNat) && decide (b.toNat ≤ 57))) || (decide (b.toNat = 45) && !(decide (j = 0) || decide (j + 1 = n)))

theorem size0 {s : ByteArray} : s = ⟨#[]⟩ ↔ s.size = 0 := by
 constructor
 ·intro h; rw [h]; rfl
 ·intro h
  have : s.data = #[] := Array.eq_empty_of_size_eq_zero h
  cases s; simp_all

theorem label_iff (s : ByteArray) : label s = true ↔ 1 ≤ s.size ∧ s.size ≤ 20 ∧ ∀ (j : Nat) (b : UInt8), s[j]? = some b → labAt s.size j b = true := by
 have ho : ∀ c : Int, 128 ≤ c → octet c = false := fun c h => by simp [octet]; omega
 simp only [label, idx_none ho, Bool.and_eq_true, Bool.not_eq_true', decide_eq_true_eq, decide_eq_false_iff_not, size0, all_bytes]
 constructor
 ·rintro ⟨⟨⟨⟨h1, h2⟩, h3⟩, h4⟩, h5⟩
  refine ⟨by omega, h2, fun j b hb => ?_⟩
  have h6 := h3 j b hb
  simp only [octet, Bool.or_eq_true, Bool.and_eq_true, decide_eq_true_eq] at h6
  simp only [labAt, Bool.or_eq_true, Bool.and_eq_true, decide_eq_true_eq, Bool.not_eq_true', Bool.or_eq_false_iff, decide_eq_false_iff_not]
  by_cases e : b.toNat = 45
  ·right
   refine ⟨e, fun e0 => ?_, fun e1 => ?_⟩
   ·subst e0
    rw [hb] at h4
    simp [e] at h4
   ·have : j = s.size - 1 := by omega
    rw [← this, hb] at h5
    simp [e] at h5
  ·left
   omega
 ·rintro ⟨h1, h2, h3⟩
  refine ⟨⟨⟨⟨by omega, h2⟩, fun j b hb => ?_⟩, ?_⟩, ?_⟩
  ·have h6 := h3 j b hb
   simp only [labAt, Bool.or_eq_true, Bool.and_eq_true, decide_eq_true_eq] at h6
   simp only [octet, Bool.or_eq_true, Bool.and_eq_true, decide_eq_true_eq]
   omega
  ·obtain ⟨b, hb⟩ := at_byte (show 0 < s.size by omega)
   have h6 := h3 0 b hb
   rw [hb]
   simp [labAt] at h6 ⊢
   omega
  ·obtain ⟨b, hb⟩ := at_byte (show s.size - 1 < s.size by omega)
   have h6 := h3 _ b hb
   rw [hb]
   have : s.size - 1 + 1 = s.size := by omega
   simp [labAt, this] at h6 ⊢
   omega


end Go.Proofs.YtjgpdjakehoofaaGreatDoor


