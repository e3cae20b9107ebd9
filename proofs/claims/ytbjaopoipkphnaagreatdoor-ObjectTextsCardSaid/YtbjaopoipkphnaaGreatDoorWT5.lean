/- Texts of the prover's, joined: F3 F0 F4 F5 G1 G2 G3 G4 G5 F6 F7 JA F8 F9 FC. -/
import Derived.Test.YtbjaopoipkphnaaGreatDoorWT4
import Derived.Deep.LoopGhost
import Derived.Lib.ConvBytes
import Derived.Laws.BytesString
import Derived.Lib.DecodeN
import Derived.Lib.IndexLaws

namespace Go.Proofs.YtbjaopoipkphnaaGreatDoor
open Go Go.RowKit
set_option linter.unusedSimpArgs false
set_option linter.unusedVariables false
set_option maxRecDepth 100000

def hasPrefix (s p : ByteArray) : Bool := decide (p.size ≤ s.size) && decide (s.extract 0 p.size = p)
def hasSuffix (s p : ByteArray) : Bool := decide (p.size ≤ s.size) && decide (s.extract (s.size - p.size) s.size = p)

theorem stringslite_HasPrefix (s p : ByteArray) : Pure Tryz.prog 213 [str s, str p] (fun d => d = bln (hasPrefix s p)) := by
 refine pure_of_run follows an_zntfc Tryz.func213 rfl ok_zntfc.1 ok_zntfc.2 (by simp [Tryz.ntmps213]) ?_
 rw [run_start]
 by_cases h : p.size ≤ s.size
 ·have h1 : ((p.size : Int) ≤ (s.size : Int)) = True := by simp; omega
  have h2 : (p.size ≤ s.size) = True := by simp [h]
  simp only [ac_zntfc, go_sem, simprocAttr, h1, h2]
  simp only [retK, resD, retL, oneD, simprocAttr, Tryz.results213]
  exact ⟨_, rfl, rfl, congrArg bln (by simp [hasPrefix, h])⟩
 ·have h1 : ((p.size : Int) ≤ (s.size : Int)) = False := by simp; omega
  simp only [ac_zntfc, go_sem, simprocAttr, h1]
  simp only [retK, resD, retL, oneD, simprocAttr, Tryz.results213]
  exact ⟨_, rfl, rfl, congrArg bln (by simp [hasPrefix, h])⟩

theorem stringslite_HasSuffix (s p : ByteArray) (hs : s.size ≤ 1000000) : Pure Tryz.prog 250 [str s, str p] (fun d => d = bln (hasSuffix s p)) := by
 refine pure_of_run follows an_z30tk Tryz.func250 rfl ok_z30tk.1 ok_z30tk.2 (by simp [Tryz.ntmps250]) ?_
 rw [run_start]
 by_cases h : p.size ≤ s.size
 ·have h1 : ((p.size : Int) ≤ (s.size : Int)) = True := by simp; omega
  have h2 : (s.size - p.size ≤ s.size) = True := by simp
  have h3 : IntKind.i64.wrap ((s.size : Int) - (p.size : Int)) = ((s.size - p.size : Nat) : Int) := by rw [IntWalk.i64_in _ (by omega)]; omega
  simp only [ac_z30tk, go_sem, simprocAttr, h1, h2, h3]
  simp only [retK, resD, retL, oneD, simprocAttr, Tryz.results250]
  exact ⟨_, rfl, rfl, congrArg bln (by simp [hasSuffix, h])⟩
 ·have h1 : ((p.size : Int) ≤ (s.size : Int)) = False := by simp; omega
  simp only [ac_z30tk, go_sem, simprocAttr, h1]
  simp only [retK, resD, retL, oneD, simprocAttr, Tryz.results250]
  exact ⟨_, rfl, rfl, congrArg bln (by simp [hasSuffix, h])⟩

theorem strings_HasPrefix (s p : ByteArray) : Pure Tryz.prog 243 [str s, str p] (fun d => d = bln (hasPrefix s p)) := by
 refine pure_of_run follows an_zc2tl Tryz.func243 rfl ok_zc2tl.1 ok_zc2tl.2 (by simp [Tryz.ntmps243]) ?_
 rw [run_start]
 simp only [ac_zc2tl, go_sem, simprocAttr]
 (repeat' (first | (refine GifP.mk (fun _ => ?_) (fun _ => ?_)) | (refine Gif.mk (fun _ => ?_) (fun _ => ?_)) | (refine (stringslite_HasPrefix _ _).callW (enters_of Tryz.func213 rfl rfl) _ rfl rfl ?_; rintro _ rfl; try simp only [go_sem, simprocAttr]))) <;> (simp only [retK, resD, retL, oneD, simprocAttr, Tryz.results243]; exact ⟨_, rfl, rfl, congrArg bln (by first | rfl | (rw [Bool.eq_iff_iff]; simp only [hasPrefix]; (first | (simp; done) | (simp; omega) | (simp [*]; done) | (simp [*]; omega))) | (simp_all [hasPrefix]; done) | (exfalso; omega))⟩)

theorem strings_HasSuffix (s p : ByteArray) (hs : s.size ≤ 1000000) : Pure Tryz.prog 244 [str s, str p] (fun d => d = bln (hasSuffix s p)) := by
 refine pure_of_run follows an_zq3h5 Tryz.func244 rfl ok_zq3h5.1 ok_zq3h5.2 (by simp [Tryz.ntmps244]) ?_
 rw [run_start]
 simp only [ac_zq3h5, go_sem, simprocAttr]
 (repeat' (first | (refine GifP.mk (fun _ => ?_) (fun _ => ?_)) | (refine Gif.mk (fun _ => ?_) (fun _ => ?_)) | (refine (stringslite_HasSuffix _ _ hs).callW (enters_of Tryz.func250 rfl rfl) _ rfl rfl ?_; rintro _ rfl; try simp only [go_sem, simprocAttr]))) <;> (simp only [retK, resD, retL, oneD, simprocAttr, Tryz.results244]; exact ⟨_, rfl, rfl, congrArg bln (by first | rfl | (rw [Bool.eq_iff_iff]; simp only [hasSuffix]; (first | (simp; done) | (simp; omega) | (simp [*]; done) | (simp [*]; omega))) | (simp_all [hasSuffix]; done) | (exfalso; omega))⟩)

def cutPrefix (s p : ByteArray) : ByteArray := if hasPrefix s p then s.extract p.size s.size else s

theorem stringslite_CutPrefix (s p : ByteArray) : Pure Tryz.prog 174 [str s, str p] (fun d => d = .tup [str (cutPrefix s p), bln (hasPrefix s p)]) := by
 refine pure_of_run follows an_zd73u Tryz.func174 rfl ok_zd73u.1 ok_zd73u.2 (by simp [Tryz.ntmps174]) ?_
 rw [run_start]
 simp only [ac_zd73u, go_sem, simprocAttr]
 refine (stringslite_HasPrefix s p).callW (enters_of Tryz.func213 rfl rfl) _ rfl rfl ?_
 rintro d rfl
 simp only [go_sem, simprocAttr]
 refine Gif.mk (fun h => ?_) (fun h => ?_)
 ·have h1 : p.size ≤ s.size := by simp only [hasPrefix, Bool.and_eq_true, decide_eq_true_eq] at h; exact h.1
  have h2 : (p.size ≤ s.size) = True := by simp [h1]
  simp only [go_sem, simprocAttr, h2]
  simp only [retK, resD, retL, oneD, simprocAttr, Tryz.results174]
  exact ⟨_, rfl, rfl, by simp [cutPrefix, h, D.pub, D.pubs]⟩
 ·simp only [retK, resD, retL, oneD, simprocAttr, Tryz.results174]
  exact ⟨_, rfl, rfl, by simp [cutPrefix, h, D.pub, D.pubs]⟩

theorem strings_CutPrefix (s p : ByteArray) : Pure Tryz.prog 136 [str s, str p] (fun d => d = .tup [str (cutPrefix s p), bln (hasPrefix s p)]) := by
 refine pure_of_run follows an_zgqff Tryz.func136 rfl ok_zgqff.1 ok_zgqff.2 (by simp [Tryz.ntmps136]) ?_
 rw [run_start]
 simp only [ac_zgqff, go_sem, simprocAttr]
 refine (stringslite_CutPrefix s p).callW (enters_of Tryz.func174 rfl rfl) _ rfl rfl ?_
 rintro d rfl
 simp only [go_sem, simprocAttr]
 simp only [retK, resD, retL, oneD, simprocAttr, Tryz.results136]
 exact ⟨_, rfl, rfl, rfl⟩

def hostMay (p : ByteArray) : Bool := decide (p = ⟨#[]⟩) || (decide (p.size ≤ 60) && dname (cutPrefix p ⟨#[42, 46]⟩) && (hasPrefix p ⟨#[42, 46]⟩ || decide (cutPrefix p ⟨#[42, 46]⟩ = p)))

set_option maxRecDepth 100000 in
theorem host_May (p : ByteArray) : Pure Tryz.prog 91 [str p] (fun d => d = bln (hostMay p)) := by
 refine pure_of_run follows an_z2osy Tryz.func91 rfl ok_z2osy.1 ok_z2osy.2 (by simp [Tryz.ntmps91]) ?_
 rw [run_start]
 simp only [ac_z2osy, go_sem, simprocAttr]
 (repeat' (first | (refine GifP.mk (fun _ => ?_) (fun _ => ?_)) | (refine Gif.mk (fun _ => ?_) (fun _ => ?_)) | ((first | refine (strings_CutPrefix _ _).callW (enters_of Tryz.func136 rfl rfl) _ rfl rfl ?_ | refine (dns_Name _).callW (enters_of Tryz.func70 rfl rfl) _ rfl rfl ?_); rintro _ rfl; try simp only [go_sem, simprocAttr]))) <;> (simp only [retK, resD, retL, oneD, simprocAttr, Tryz.results91]; exact ⟨_, rfl, rfl, congrArg bln (by first | rfl | (rw [Bool.eq_iff_iff]; simp only [hostMay]; (first | (simp; done) | (simp; omega) | (simp [*]; done) | (simp [*]; omega))) | (simp_all [hostMay]; done) | (exfalso; omega))⟩)

def labValue (s : ByteArray) : Bool := decide (s = ⟨#[]⟩) || label s

theorem label_value (s : ByteArray) : Pure Tryz.prog 122 [str s] (fun d => d = bln (labValue s)) := by
 refine pure_of_run follows an_ziqey Tryz.func122 rfl ok_ziqey.1 ok_ziqey.2 (by simp [Tryz.ntmps122]) ?_
 rw [run_start]
 simp only [ac_ziqey, go_sem, simprocAttr]
 (repeat' (first | (refine GifP.mk (fun _ => ?_) (fun _ => ?_)) | (refine Gif.mk (fun _ => ?_) (fun _ => ?_)) | (refine (dns_Label _).callW (enters_of Tryz.func71 rfl rfl) _ rfl rfl ?_; rintro _ rfl; try simp only [go_sem, simprocAttr]))) <;> (simp only [retK, resD, retL, oneD, simprocAttr, Tryz.results122]; exact ⟨_, rfl, rfl, congrArg bln (by first | rfl | (rw [Bool.eq_iff_iff]; simp only [labValue]; (first | (simp; done) | (simp; omega) | (simp [*]; done) | (simp [*]; omega))) | (simp_all [labValue]; done) | (exfalso; omega))⟩)

theorem bytes_get (s : ByteArray) (i : Nat) : s[i]? = s.data.toList[i]? := by
 by_cases h : i < s.size
 ·rw [getElem?_pos s i h, getElem?_pos s.data.toList i (by rw [size_list]; exact h)]; rfl
 ·rw [getElem?_neg s i h, getElem?_neg s.data.toList i (by rw [size_list]; exact h)]

theorem byte_at {s : ByteArray} {i : Nat} (h : i < s.size) : ∃ b, s[i]? = some b ∧ s.data.toList.drop i = b :: s.data.toList.drop (i + 1) := by
 obtain ⟨b, hb⟩ := at_byte h
 exact ⟨b, hb, drop_at (by rw [← bytes_get]; exact hb)⟩

theorem byte_end {s : ByteArray} {i : Nat} (h : ¬ i < s.size) : s.data.toList.drop i = [] := List.drop_eq_nil_of_le (by rw [size_list]; omega)

theorem i64_succ {i : Nat} (h : i < 1000000000) : IntKind.i64.wrap ((i : Int) + 1) = ((i + 1 : Nat) : Int) := by rw [IntWalk.i64_in _ (by omega)]; omega

def runeAll (p : Int → Bool) (s : ByteArray) : Nat → Nat → Bool
 | 0, _ => true
 | f + 1, pos => if pos < s.size then p (Utf8.decode s pos).1 && runeAll p s f (pos + (Utf8.decode s pos).2) else true

theorem runeAll_end {p : Int → Bool} {s : ByteArray} {f pos : Nat} (h : ¬ pos < s.size) : runeAll p s f pos = true := by cases f <;> simp [runeAll, h]

def pathRune (c : Int) : Bool := decide (33 ≤ c) && decide (c ≤ 126) && !decide (c = 63) && !decide (c = 35)

def pathIs (s : ByteArray) : Bool := runeAll pathRune s s.size 0 && hasPrefix s ⟨#[47]⟩ && decide (s.size ≤ 60)

set_option maxRecDepth 100000 in
theorem path_Is (s : ByteArray) : Pure Tryz.prog 217 [str s] (fun d => d = bln (pathIs s)) := by
 refine pure_of_run follows an_z6j2 Tryz.func217 rfl ok_z6j2.1 ok_z6j2.2 (by simp [Tryz.ntmps217]) ?_
 rw [run_start]
 simp only [ac_z6j2, go_sem, simprocAttr]
 refine loopS (fun k st => ∃ pos : Nat, s.size ≤ pos + k ∧ runeAll pathRune s k pos = runeAll pathRune s s.size 0 ∧
  st = ⟨[(0, str s), (6, .ptr 6 0)], [], [(6, .sit s pos)], .no⟩) s.size _ (Weak.refl _ _) ⟨0, by omega, rfl, rfl⟩ ?_
 rintro k st ⟨pos, hk, hr, rfl⟩
 by_cases hlt : pos < s.size
 ·obtain ⟨k, rfl⟩ : ∃ m, k = m + 1 := ⟨k - 1, by omega⟩
  have hw := width_pos s pos
  simp only [runeAll, hlt, if_true] at hr
  simp only [go_sem, simprocAttr, hlt]
  obtain ⟨c, hc⟩ : ∃ c : Int, ((Utf8.decode s pos).1 : Int) = c := ⟨_, rfl⟩
  rw [hc] at hr ⊢
  have bad : ∀ (h : pathRune c = false), pathIs s = false := fun h => by
   rw [h] at hr
   simp only [Bool.false_and] at hr
   simp [pathIs, ← hr]
  repeat' (first | refine GifP.mk (fun _ => ?_) (fun _ => ?_) | refine Gif.mk (fun _ => ?_) (fun _ => ?_))
  iterate 4
   ·simp only [retK, iterK, resD, retL, oneD, simprocAttr, Tryz.results217]
    exact ⟨_, rfl, rfl, congrArg bln (bad (by simp [pathRune]; omega)).symm⟩
  ·have hg : pathRune c = true := by simp [pathRune]; omega
   rw [hg, Bool.true_and] at hr
   refine ⟨k, _, ?_, ?_, pos + (Utf8.decode s pos).2, ?_, hr, rfl⟩
   ·omega
   ·exact lessA
   ·omega
 ·simp only [go_sem, simprocAttr, hlt]
  rw [runeAll_end hlt] at hr
  have hr' := hr.symm
  clear hr
  refine (strings_HasPrefix s _).callW (enters_of Tryz.func243 rfl rfl) _ rfl rfl ?_
  rintro d rfl
  simp only [go_sem, simprocAttr]
  repeat' (first | refine GifP.mk (fun _ => ?_) (fun _ => ?_) | refine Gif.mk (fun _ => ?_) (fun _ => ?_))
  all_goals
   simp only [retK, iterK, resD, retL, oneD, simprocAttr, Tryz.results217]
   exact ⟨_, rfl, rfl, congrArg bln (by first | rfl | (rw [Bool.eq_iff_iff]; simp only [pathIs, hr']; (first | (simp; done) | (simp; omega) | (simp [*]; done) | (simp [*]; omega))) | (simp_all [pathIs, hr']; done) | (exfalso; omega))⟩


def low (c : Int) : Int := IntKind.u8.wrap (BitVec.ofInt IntKind.u8.bits c ||| BitVec.ofInt IntKind.u8.bits 32).toNat

def foldO (c : Int) : Int := if 65 ≤ c ∧ c ≤ 90 then low c else c

structure FoldW (w : World) (s : ByteArray) (i : Nat) (wr : World) : Prop where
 below : Below w.heap.size w wr
 row : ∃ cs z, wr.heap[w.heap.size]? = some (.cells cs 5 z) ∧ s.size ≤ cs.size ∧ cs.size ≤ z.1 ∧ ∀ (j : Nat) b, s[j]? = some b → cs[j]? = some (.int .u8 (if j < i then foldO b.toNat else b.toNat))

theorem FoldW.next {w : World} {s : ByteArray} {i : Nat} {b : UInt8} (hb : s[i]? = some b) {cs : Array Value} {z : Nat × Nat} (h2 : s.size ≤ cs.size) (h3 : cs.size ≤ z.1)
 (h4 : ∀ (j : Nat) b, s[j]? = some b → cs[j]? = some (.int .u8 (if j < i then foldO b.toNat else b.toNat))) (cs' : Array Value) (W : World) (q1 : W.heap[w.heap.size]? = some (.cells cs' 5 z)) (q2 : cs'.size = cs.size) (q3 : Below w.heap.size w W)
 (q4 : ∀ j, j ≠ i → cs'[j]? = cs[j]?) (q5 : cs'[i]? = some (.int .u8 (foldO b.toNat))) : FoldW w s (i + 1) W :=
 ⟨q3, cs', z, q1, by omega, by omega, fun j b' hj => by
  by_cases e : j = i
  ·subst e
   rw [hb] at hj; cases hj
   rw [if_pos (by omega)]; exact q5
  ·rw [q4 j e, h4 j b' hj]
   by_cases e2 : j < i
   ·rw [if_pos e2, if_pos (by omega)]
   ·rw [if_neg e2, if_neg (by omega)]⟩

def fold (s : ByteArray) : ByteArray := octStr (s.data.toList.map fun b => foldO b.toNat)

set_option maxHeartbeats 1000000 in
theorem run_Fold (s : ByteArray) (hs : s.size ≤ 1000000) (w : World) :
 Calls Tryz.prog 222 #[.string s] w fun e w' => e = .returned (.string (fold s)) ∧ Below w.heap.size w w' := by
 have hconv := fun w' => Lib.run_convert_string_bytes (P := Tryz.prog) w' 9 109 5 s Tryz.underlying9 Tryz.underlying109 Tryz.underlying5
 go_enter Tryz.func222, Tryz.ntmps222
 go_wp2
 go_loopg [10] s.size (fun k c wr => ∃ i : Nat, k = s.size - i ∧ i ≤ s.size ∧ c = .int .i64 i ∧ FoldW w s i wr)
 case atStart =>
  have hcs : s.size ≤ (Lib.bytesCells w 5 s).size := by simp [Lib.bytesCells]
  refine ⟨0, rfl, Nat.zero_le _, rfl, ?_, _, _, Lib.bytesWorld_at_new w _ s, hcs, Nat.le_refl _, fun j b hb => ?_⟩
  ·exact ⟨rfl, rfl, rfl, by rw [Lib.bytesWorld_size]; omega, fun k hk => Lib.bytesWorld_at_old w _ s k hk⟩
  ·rw [if_neg (Nat.not_lt_zero j)]
   have hj : j < s.size := (List.getElem?_eq_some_iff.1 ((bytes_get s j).symm.trans hb)).1
   have hb' : s.data[j]? = some b := by rw [← Array.getElem?_toList, ← bytes_get]; exact hb
   simp only [Lib.bytesCells]
   rw [Array.getElem?_append_left (by simpa using hj), Array.getElem?_map, hb']
   rfl
 case round =>
  obtain ⟨i, hk, hi, rfl, hf⟩ := hrel
  obtain ⟨hbel, cs, z, h1, h2, h3, h4⟩ := hf
  by_cases hlt : i < s.size
  ·obtain ⟨b, hb⟩ := at_byte hlt
   have hcs := h4 i b hb
   rw [if_neg (Nat.lt_irrefl i)] at hcs
   have hcell : wr.cell? ⟨w.heap.size, i, none⟩ = some (.int .u8 b.toNat) := by simp [World.cell?, h1, hcs]
   have hfz : wr.frozen? ⟨w.heap.size, i, none⟩ = false := by
    simp [World.frozen?, h1]; omega
   have hlt' : (i : Int) < (s.size : Int) := by omega
   go_wp2
   ·have hset : (wr.setCell ⟨w.heap.size, i, none⟩ (.int .u8 (bits .or .u8 (b.toNat : Int) 32))).heap[w.heap.size]? = some (.cells (cs.setIfInBounds i (.int .u8 (bits .or .u8 (b.toNat : Int) 32))) 5 z) := by
     simp only [World.setCell, Array.getElem?_modify, if_true, h1, Option.map_some]
     rfl
    go_roundg (s.size - (i + 1))
    case measure => omega
    case rel =>
     refine ⟨i + 1, rfl, by omega, by simp, FoldW.next hb h2 h3 h4 _ _ hset (by simp) (hbel.setCell (Nat.le_refl _) _) (fun j hj => by simp [Array.getElem?_setIfInBounds, Ne.symm hj]) ?_⟩
     have hic : i < cs.size := by omega
     rw [Array.getElem?_setIfInBounds, if_pos rfl, if_pos hic]
     rw [foldO, if_pos (by omega)]
     rfl
   ·go_roundg (s.size - (i + 1))
    case measure => omega
    case rel => exact ⟨i + 1, rfl, by omega, by simp, FoldW.next hb h2 h3 h4 _ _ h1 rfl hbel (fun _ _ => rfl) (by rw [hcs, foldO, if_neg (by omega)])⟩
   ·go_roundg (s.size - (i + 1))
    case measure => omega
    case rel => exact ⟨i + 1, rfl, by omega, by simp, FoldW.next hb h2 h3 h4 _ _ h1 rfl hbel (fun _ _ => rfl) (by rw [hcs, foldO, if_neg (by omega)])⟩
  ·have hi2 : i = s.size := by omega
   subst hi2
   have hload := run_loadCells_list (P := Tryz.prog) (w := wr) (⟨w.heap.size, 0, none⟩ : Addr) ((s.data.toList.map fun b => foldO b.toNat).map (Value.int .u8)) (fun j v hj => by
    rw [List.getElem?_map, List.getElem?_map] at hj
    cases hb : s.data.toList[j]? with
    | none => rw [hb] at hj; cases hj
    | some b =>
      rw [hb] at hj
      cases hj
      have hjs : j < s.size := (List.getElem?_eq_some_iff.1 hb).1
      have := h4 j b (by rw [bytes_get]; exact hb)
      rw [if_pos hjs] at this
      rw [add_off, Nat.zero_add]
      simp [World.cell?, h1, this])
   have hlen : ((s.data.toList.map fun b => foldO b.toNat).map (Value.int .u8)).length = s.size := by simp [size_list]
   rw [hlen] at hload
   have hback := run_bytesToString wr ⟨w.heap.size, 0, none⟩ s.size (grownCap w s.size 0 5) _ hload
   have hconv2 := (run_convert_bytes_string (P := Tryz.prog) wr 109 9 5 (some ⟨w.heap.size, 0, none⟩) s.size (grownCap w s.size 0 5) Tryz.underlying109 Tryz.underlying5 Tryz.underlying9).trans hback
   have hlt' : ¬ (s.size : Int) < (s.size : Int) := by omega
   go_wp2
   go_ret
   exact ⟨rfl, hbel⟩

theorem dns_Fold (s : ByteArray) (hs : s.size ≤ 1000000) : Pure Tryz.prog 222 [str s] (fun d => d = str (fold s)) := by
 intro Fz w us hlt hr
 simp only [Reps] at hr
 obtain ⟨x, r, rfl, hx, rfl⟩ := hr
 obtain rfl := rep_raw_inv hx
 refine (run_Fold s hs w).mono ?_
 rintro e w' ⟨rfl, hb⟩
 exact ⟨_, _, Fz, rfl, rfl, rfl, hb, fun b o hf => ⟨hf, hb.cell (hlt b o hf)⟩, fun b o hf => Nat.lt_of_lt_of_le (hlt b o hf) hb.size, fun _ _ h _ => h, by simp only [Rep]; exact .raw _ rfl⟩


theorem pathIs_size {s : ByteArray} (h : pathIs s = true) : s.size ≤ 1000000 := by
 simp only [pathIs, Bool.and_eq_true, decide_eq_true_eq] at h
 omega

def pathAbove (s : ByteArray) : Bool := pathIs s && (decide (s = ⟨#[47]⟩) || !hasSuffix s ⟨#[47]⟩)

theorem path_above (s : ByteArray) : Pure Tryz.prog 218 [str s] (fun d => d = bln (pathAbove s)) := by
 refine pure_of_run follows an_zgeto Tryz.func218 rfl ok_zgeto.1 ok_zgeto.2 (by simp [Tryz.ntmps218]) ?_
 rw [run_start]
 simp only [ac_zgeto, go_sem, simprocAttr]
 (repeat' (first | (refine GifP.mk (fun _ => ?_) (fun _ => ?_)) | (refine Gif.mk (fun _ => ?_) (fun _ => ?_)) | ((first | refine (path_Is _).callW (enters_of Tryz.func217 rfl rfl) _ rfl rfl ?_ | refine (strings_HasSuffix _ _ (pathIs_size (by assumption))).callW (enters_of Tryz.func244 rfl rfl) _ rfl rfl ?_); rintro _ rfl; try simp only [go_sem, simprocAttr]))) <;> (simp only [retK, resD, retL, oneD, simprocAttr, Tryz.results218]; exact ⟨_, rfl, rfl, congrArg bln (by first | rfl | (rw [Bool.eq_iff_iff]; simp only [pathAbove]; (first | (simp; done) | (simp; omega) | (simp [*]; done) | (simp [*]; omega))) | (simp_all [pathAbove]; done) | (exfalso; omega))⟩)

def pathMay (k : Int) (v : ByteArray) : Bool := (decide (k = 1) && pathIs v) || (decide (k = 2) && pathAbove v)

theorem path_May (k : Int) (v : ByteArray) : Pure Tryz.prog 181 [.agg [int k, str v]] (fun d => d = bln (pathMay k v)) := by
 refine pure_of_run follows an_z2uwa Tryz.func181 rfl ok_z2uwa.1 ok_z2uwa.2 (by simp [Tryz.ntmps181]) ?_
 rw [run_start]
 simp only [ac_z2uwa, go_sem, simprocAttr]
 (repeat' (first | (refine GifP.mk (fun _ => ?_) (fun _ => ?_)) | (refine Gif.mk (fun _ => ?_) (fun _ => ?_)) | ((first | refine (path_Is _).callW (enters_of Tryz.func217 rfl rfl) _ rfl rfl ?_ | refine (path_above _).callW (enters_of Tryz.func218 rfl rfl) _ rfl rfl ?_); rintro _ rfl; try simp only [go_sem, simprocAttr]))) <;> (simp only [retK, resD, retL, oneD, simprocAttr, Tryz.results181]; exact ⟨_, rfl, rfl, congrArg bln (by first | rfl | (rw [Bool.eq_iff_iff]; simp only [pathMay]; (first | (simp; done) | (simp; omega) | (simp [*]; done) | (simp [*]; omega))) | (simp_all [pathMay]; done) | (exfalso; omega))⟩)

def methodRune (c : Int) : Bool := decide (65 ≤ c) && decide (c ≤ 90)

theorem rule_Method_1 (c : Int) : Pure Tryz.prog 219 [i32 c] (fun d => d = bln (!methodRune c)) := by
 refine pure_of_run follows an_zluy0 Tryz.func219 rfl ok_zluy0.1 ok_zluy0.2 (by simp [Tryz.ntmps219]) ?_
 rw [run_start]
 simp only [ac_zluy0, go_sem, simprocAttr]
 (repeat' (first | (refine GifP.mk (fun _ => ?_) (fun _ => ?_)) | (refine Gif.mk (fun _ => ?_) (fun _ => ?_)))) <;> (simp only [retK, resD, retL, oneD, simprocAttr, Tryz.results219]; exact ⟨_, rfl, rfl, congrArg bln (by first | rfl | (rw [Bool.eq_iff_iff]; simp only [methodRune]; (first | (simp; done) | (simp; omega) | (simp [*]; done) | (simp [*]; omega))) | (simp_all [methodRune]; done) | (exfalso; omega))⟩)

def method (s : ByteArray) : Bool := !decide (s = ⟨#[]⟩) && decide (s.size ≤ 10) && decide (runeIdx (fun c => !methodRune c) s s.size 0 < 0)

theorem rule_Method (s : ByteArray) : Pure Tryz.prog 182 [str s] (fun d => d = bln (method s)) := by
 refine pure_of_run follows an_zjt8m Tryz.func182 rfl ok_zjt8m.1 ok_zjt8m.2 (by simp [Tryz.ntmps182]) ?_
 rw [run_start]
 simp only [ac_zjt8m, go_sem, simprocAttr]
 (repeat' (first | (refine GifP.mk (fun _ => ?_) (fun _ => ?_)) | (refine Gif.mk (fun _ => ?_) (fun _ => ?_)) | (refine (strings_IndexFunc _ _ (enters_of Tryz.func219 rfl rfl) rule_Method_1 _).callW (enters_of Tryz.func121 rfl rfl) _ rfl rfl ?_; rintro _ rfl; try simp only [go_sem, simprocAttr]))) <;> (simp only [retK, resD, retL, oneD, simprocAttr, Tryz.results182]; exact ⟨_, rfl, rfl, congrArg bln (by first | rfl | (rw [Bool.eq_iff_iff]; simp only [method]; (first | (simp; done) | (simp; omega) | (simp [*]; done) | (simp [*]; omega))) | (simp_all [method]; done) | (exfalso; omega))⟩)

def pairMay (p : APair) : Bool := !decide (p.name = ⟨#[]⟩) && decide (p.name.size ≤ 40) && decide (p.val.size ≤ 40)

def queryMay (l : List APair) : Bool := l.all pairMay && decide (l.length ≤ 20)

set_option maxRecDepth 100000 in
theorem query_May (l : List APair) (hl : l.length ≤ 1000000) : Pure Tryz.prog 186 [.pd (.slice (rows APair.pd l))] (fun d => d = bln (queryMay l)) := by
 refine pure_of_run follows an_zr0tf Tryz.func186 rfl ok_zr0tf.1 ok_zr0tf.2 (by simp [Tryz.ntmps186]) ?_
 rw [run_start]
 simp only [ac_zr0tf, go_sem, simprocAttr]
 refine loopS (fun k st => ∃ i : Nat, k = l.length - i ∧ i ≤ l.length ∧ (l.drop i).all pairMay = l.all pairMay ∧
  st = ⟨[(0, .pd (.slice (rows APair.pd l))), (5, .pd (.slice (rows APair.pd l))), (6, int l.length), (7, int i)], [], [], .no⟩) l.length _ (Weak.refl _ _) ⟨0, rfl, Nat.zero_le _, rfl, rfl⟩ ?_
 rintro k st ⟨i, rfl, hi, hr, rfl⟩
 by_cases hlt : i < l.length
 ·obtain ⟨x, hx⟩ := at_lt hlt
  have hlt' : ((i : Int) < (l.length : Int)) = True := by simp; omega
  rw [drop_at hx, List.all_cons] at hr
  have bad : pairMay x = false → queryMay l = false := fun h => by
   rw [h, Bool.false_and] at hr
   simp [queryMay, ← hr]
  simp only [go_sem, simprocAttr, hlt', rows_get hx, i64_succ (show i < 1000000000 by omega)]
  repeat' (first | refine GifP.mk (fun _ => ?_) (fun _ => ?_) | refine Gif.mk (fun _ => ?_) (fun _ => ?_))
  iterate 3
   ·simp only [retK, iterK, resD, retL, oneD, simprocAttr, Tryz.results186]
    exact ⟨_, rfl, rfl, congrArg bln (bad (by simp [pairMay, *]; try omega)).symm⟩
  ·have hg : pairMay x = true := by simp [pairMay, *]; omega
   rw [hg, Bool.true_and] at hr
   refine ⟨l.length - (i + 1), _, ?_, ?_, i + 1, rfl, ?_, hr, rfl⟩
   ·omega
   ·exact lessA
   ·omega
 ·have hlt' : ((i : Int) < (l.length : Int)) = False := by simp; omega
  rw [List.drop_eq_nil_of_le (by omega)] at hr
  have hr' := hr.symm
  rw [List.all_nil] at hr'
  simp only [go_sem, simprocAttr, hlt']
  repeat' (first | refine GifP.mk (fun _ => ?_) (fun _ => ?_) | refine Gif.mk (fun _ => ?_) (fun _ => ?_))
  all_goals
   simp only [retK, iterK, resD, retL, oneD, simprocAttr, Tryz.results186]
   exact ⟨_, rfl, rfl, congrArg bln (by first | rfl | (rw [Bool.eq_iff_iff]; simp only [queryMay, hr']; (first | (simp; done) | (simp; omega) | (simp [*]; done) | (simp [*]; omega))) | (simp_all [queryMay, hr']; done) | (exfalso; omega))⟩

def marks : ByteArray := ⟨#[33, 35, 36, 37, 38, 39, 42, 43, 45, 46, 94, 95, 96, 124, 126]⟩

def tokenOct (b : UInt8) : Bool := (decide (97 ≤ low b.toNat) && decide (low b.toNat ≤ 122)) || (decide (48 ≤ b.toNat) && decide (b.toNat ≤ 57)) || decide (0 ≤ Lib.indexByte marks.data.toList b)

def token (s : ByteArray) : Bool := s.data.toList.all tokenOct && !decide (s = ⟨#[]⟩) && decide (s.size ≤ 40)

theorem toNat_u8 (b : UInt8) : ((b.toNat : Int)).toNat.toUInt8 = b := by simp

theorem pairs_Token (s : ByteArray) (hs : s.size ≤ 1000000) : Pure Tryz.prog 179 [str s] (fun d => d = bln (token s)) := by
 refine pure_of_run follows an_zwtth Tryz.func179 rfl ok_zwtth.1 ok_zwtth.2 (by simp [Tryz.ntmps179]) ?_
 rw [run_start]
 simp only [ac_zwtth, go_sem, simprocAttr]
 refine loopS (fun k st => ∃ i : Nat, k = s.size - i ∧ i ≤ s.size ∧ (s.data.toList.drop i).all tokenOct = s.data.toList.all tokenOct ∧
  st = ⟨[(0, str s), (6, int s.size), (7, int i)], [], [], .no⟩) s.size _ (Weak.refl _ _) ⟨0, rfl, Nat.zero_le _, rfl, rfl⟩ ?_
 rintro k st ⟨i, rfl, hi, hr, rfl⟩
 by_cases hlt : i < s.size
 ·obtain ⟨b, hb, hd⟩ := byte_at hlt
  have hlt' : ((i : Int) < (s.size : Int)) = True := by simp; omega
  rw [hd, List.all_cons] at hr
  have bad : tokenOct b = false → token s = false := fun h => by
   rw [h, Bool.false_and] at hr
   simp only [token, ← hr, Bool.false_and]
  have hlow : IntKind.u8.wrap (BitVec.ofInt IntKind.u8.bits (b.toNat : Int) ||| BitVec.ofInt IntKind.u8.bits 32).toNat = low b.toNat := rfl
  have hw := i64_succ (show i < 1000000000 by omega)
  simp only [go_sem, simprocAttr, hlt', hb, hw, ↓hlow]
  have good : tokenOct b = true → ∀ st, Weak Tryz.prog st ⟨[(0, str s), (6, int s.size), (7, int (i + 1 : Nat))], [], [], .no⟩ → Round Tryz.prog (fun k st => ∃ i : Nat, k = s.size - i ∧ i ≤ s.size ∧ (s.data.toList.drop i).all tokenOct = s.data.toList.all tokenOct ∧
   st = ⟨[(0, str s), (6, int s.size), (7, int i)], [], [], .no⟩) (s.size - i) st := fun h st hw => by
   rw [h, Bool.true_and] at hr
   exact ⟨s.size - (i + 1), _, by omega, hw, i + 1, rfl, by omega, hr, rfl⟩
  repeat' (first | refine GifP.mk (fun _ => ?_) (fun _ => ?_) | refine Gif.mk (fun _ => ?_) (fun _ => ?_) | (refine (strings_IndexByte _ _).callW (enters_of Tryz.func215 rfl rfl) _ rfl rfl ?_; rintro _ rfl; rw [toNat_u8]; simp only [go_sem, simprocAttr, hw]))
  all_goals first
   | (refine good (by simp [tokenOct, marks, *]; try omega) _ ?_; exact lessA)
   | (simp only [retK, resD, retL, oneD, simprocAttr, Tryz.results179]
      exact ⟨_, rfl, rfl, congrArg bln (bad (by simp [tokenOct, marks, *]; try omega)).symm⟩)
 ·have hlt' : ((i : Int) < (s.size : Int)) = False := by simp; omega
  rw [byte_end hlt] at hr
  have hr' := hr.symm
  rw [List.all_nil] at hr'
  simp only [go_sem, simprocAttr, hlt']
  repeat' (first | refine GifP.mk (fun _ => ?_) (fun _ => ?_) | refine Gif.mk (fun _ => ?_) (fun _ => ?_))
  all_goals
   simp only [retK, resD, retL, oneD, simprocAttr, Tryz.results179]
   exact ⟨_, rfl, rfl, congrArg bln (by first | rfl | (rw [Bool.eq_iff_iff]; simp only [token, hr']; (first | (simp; done) | (simp; omega) | (simp [*]; done) | (simp [*]; omega))) | (simp_all [token, hr']; done) | (exfalso; omega))⟩

def trimL (c : Int) : Nat → ByteArray → ByteArray
 | 0, s => s
 | f + 1, s => match s[0]? with
   | some b => if (b.toNat : Int) = c then trimL c f (s.extract 1 s.size) else s
   | none => s

def trimR (c : Int) : Nat → ByteArray → ByteArray
 | 0, s => s
 | f + 1, s => match s[s.size - 1]? with
   | some b => if (b.toNat : Int) = c then trimR c f (s.extract 0 (s.size - 1)) else s
   | none => s

theorem byte_none {s : ByteArray} {i : Nat} (h : ¬ i < s.size) : s[i]? = none := by rw [bytes_get]; exact List.getElem?_eq_none (by rw [size_list]; omega)

theorem strings_trimLeftByte (s : ByteArray) (c : Int) : Pure Tryz.prog 236 [str s, u8 c] (fun d => d = str (trimL c s.size s)) := by
 refine pure_of_run follows an_zu0fc Tryz.func236 rfl ok_zu0fc.1 ok_zu0fc.2 (by simp [Tryz.ntmps236]) ?_
 rw [run_start]
 simp only [ac_zu0fc, go_sem, simprocAttr]
 refine loopS (fun k st => ∃ r : ByteArray, r.size ≤ k ∧ trimL c k r = trimL c s.size s ∧
  st = ⟨[(0, str r), (1, u8 c)], [], [], .no⟩) s.size _ (Weak.refl _ _) ⟨s, Nat.le_refl _, rfl, rfl⟩ ?_
 rintro k st ⟨r, hk, hr, rfl⟩
 by_cases hlt : 0 < r.size
 ·obtain ⟨b, hb⟩ := at_byte hlt
  obtain ⟨k, rfl⟩ : ∃ m, k = m + 1 := ⟨k - 1, by omega⟩
  have h1 : ((0 : Int) < (r.size : Int)) = True := eq_true (by omega)
  have h2 : (1 ≤ r.size) = True := by simp; omega
  have h3 : (r.extract 1 r.size).size = r.size - 1 := by simp [ByteArray.size_extract]
  simp only [trimL, hb] at hr
  simp only [go_sem, simprocAttr, h1, hb, h2]
  refine GifP.mk (fun h => ?_) (fun h => ?_)
  ·rw [if_pos h] at hr
   refine ⟨k, _, ?_, ?_, r.extract 1 r.size, ?_, hr, rfl⟩
   ·omega
   ·exact lessA
   ·omega
  ·rw [if_neg h] at hr
   simp only [retK, resD, retL, oneD, simprocAttr, Tryz.results236]
   exact ⟨_, rfl, rfl, congrArg (fun x => str x) hr⟩
 ·have h1 : ((0 : Int) < (r.size : Int)) = False := eq_false (by omega)
  have hn : trimL c k r = r := by
   cases k with
   | zero => rfl
   | succ k => simp only [trimL, byte_none hlt]
  rw [hn] at hr
  simp only [go_sem, simprocAttr, h1]
  simp only [retK, resD, retL, oneD, simprocAttr, Tryz.results236]
  exact ⟨_, rfl, rfl, congrArg (fun x => str x) hr⟩

theorem strings_trimRightByte (s : ByteArray) (c : Int) (hs : s.size ≤ 1000000) : Pure Tryz.prog 237 [str s, u8 c] (fun d => d = str (trimR c s.size s)) := by
 refine pure_of_run follows an_zdteh Tryz.func237 rfl ok_zdteh.1 ok_zdteh.2 (by simp [Tryz.ntmps237]) ?_
 rw [run_start]
 simp only [ac_zdteh, go_sem, simprocAttr]
 refine loopS (fun k st => ∃ r : ByteArray, r.size ≤ k ∧ r.size ≤ 1000000 ∧ trimR c k r = trimR c s.size s ∧
  st = ⟨[(0, str r), (1, u8 c)], [], [], .no⟩) s.size _ (Weak.refl _ _) ⟨s, Nat.le_refl _, hs, rfl, rfl⟩ ?_
 rintro k st ⟨r, hk, hrs, hr, rfl⟩
 by_cases hlt : 0 < r.size
 ·obtain ⟨b, hb⟩ := at_byte (show r.size - 1 < r.size by omega)
  obtain ⟨k, rfl⟩ : ∃ m, k = m + 1 := ⟨k - 1, by omega⟩
  have h1 : ((0 : Int) < (r.size : Int)) = True := eq_true (by omega)
  have h2 : (r.size - 1 ≤ r.size) = True := by simp
  have h3 : (r.extract 0 (r.size - 1)).size = r.size - 1 := by simp [ByteArray.size_extract]
  have hw : IntKind.i64.wrap ((r.size : Int) - 1) = ((r.size - 1 : Nat) : Int) := by rw [IntWalk.i64_in _ (by omega)]; omega
  simp only [trimR, hb] at hr
  simp only [go_sem, simprocAttr, h1, hw, hb, h2]
  refine GifP.mk (fun h => ?_) (fun h => ?_)
  ·rw [if_pos h] at hr
   refine ⟨k, _, ?_, ?_, r.extract 0 (r.size - 1), ?_, ?_, hr, rfl⟩
   ·omega
   ·exact lessA
   ·omega
   ·omega
  ·rw [if_neg h] at hr
   simp only [retK, resD, retL, oneD, simprocAttr, Tryz.results237]
   exact ⟨_, rfl, rfl, congrArg (fun x => str x) hr⟩
 ·have h1 : ((0 : Int) < (r.size : Int)) = False := eq_false (by omega)
  have hn : trimR c k r = r := by
   cases k with
   | zero => rfl
   | succ k => simp only [trimR, byte_none (show ¬ r.size - 1 < r.size by omega)]
  rw [hn] at hr
  simp only [go_sem, simprocAttr, h1]
  simp only [retK, resD, retL, oneD, simprocAttr, Tryz.results237]
  exact ⟨_, rfl, rfl, congrArg (fun x => str x) hr⟩

def trim (s : ByteArray) : ByteArray := trimL 32 (trimR 32 s.size s).size (trimR 32 s.size s)

theorem strings_Trim (s : ByteArray) (hs : s.size ≤ 1000000) : Pure Tryz.prog 216 [str s, str ⟨#[32]⟩] (fun d => d = str (trim s)) := by
 refine pure_of_run follows an_zmas7 Tryz.func216 rfl ok_zmas7.1 ok_zmas7.2 (by simp [Tryz.ntmps216]) ?_
 rw [run_start]
 have h1 : (ByteArray.mk #[32]).size = 1 := rfl
 have h2 : (ByteArray.mk #[32])[0]? = some 32 := rfl
 have h3 : ((1 : Nat) : Int) = 1 := rfl
 have h4 : (ByteArray.mk #[32] = ByteArray.mk #[]) = False := by simp
 have h5 : ((UInt8.toNat 32 : Nat) : Int) = 32 := rfl
 simp only [ac_zmas7, go_sem, simprocAttr, go_sem, h1, h2, h3, h4, h5]
 refine GifP.mk (fun he => ?_) (fun he => ?_)
 ·simp only [retK, resD, retL, oneD, simprocAttr, Tryz.results216]
  refine ⟨_, rfl, rfl, congrArg (fun x => str x) ?_⟩
  subst he; rfl
 ·refine (strings_trimRightByte s 32 hs).callX (enters_of Tryz.func237 rfl rfl) _ rfl rfl ?_
  rintro d rfl
  simp only [go_sem, simprocAttr, go_sem, h1, h2, h5]
  refine (strings_trimLeftByte _ 32).callX (enters_of Tryz.func236 rfl rfl) _ rfl rfl ?_
  rintro d rfl
  simp only [go_sem, simprocAttr, go_sem]
  simp only [retK, resD, retL, oneD, simprocAttr, Tryz.results216]
  exact ⟨_, rfl, rfl, rfl⟩


abbrev idr (bs : List (Nat × List D)) : List (Nat × Nat) := bs.map fun p => (p.1, p.1)
def capD (caps : List (Nat × Nat)) : List D := caps.map fun c => .ptr c.1 c.2

def dnd : List Nat → Bool
 | [] => true
 | a :: l => !l.contains a && dnd l

structure Cl (bs : List (Nat × List D)) (caps : List (Nat × Nat)) : Prop where
 ok : renOK (idr bs) = true
 see : seeBs (idr bs) bs (idr bs) = bs
 cap : D.sees (idr bs) (capD caps) = capD caps
 capf : seeCaps (idr bs) caps = some caps
 nd : dnd (bs.map (·.1)) = true

theorem Cl.of {bs : List (Nat × List D)} {caps : List (Nat × Nat)} (h1 : renOK (idr bs) = true) (h2 : seeBs (idr bs) bs (idr bs) = bs) (h3 : D.sees (idr bs) (capD caps) = capD caps) (h4 : seeCaps (idr bs) caps = some caps) (h5 : dnd (bs.map (·.1)) = true) : Cl bs caps := ⟨h1, h2, h3, h4, h5⟩

theorem Cl.args {bs : List (Nat × List D)} {caps : List (Nat × Nat)} (h : Cl bs caps) {d : D} (hd : D.see (idr bs) d = d) : D.sees (idr bs) (d :: capD caps) = d :: capD caps := by
 rw [D.sees, hd, h.cap]

theorem Cl.two {bs : List (Nat × List D)} {caps : List (Nat × Nat)} (h : Cl bs caps) {x : PD} {g : FuncId} : D.sees (idr bs) [.pd x, .fn g caps] = [.pd x, .fn g caps] := by
 simp only [D.sees, D.see, h.capf]

theorem lessL_of {α : Type} : ∀ {r l : List (Nat × α)}, (∀ p ∈ r, lk l p.1 = some p.2) → lessL r l
 | [], _, _ => trivial
 | _ :: _, _, h => ⟨h _ (List.mem_cons_self ..), lessL_of fun p hp => h p (List.mem_cons_of_mem _ hp)⟩

theorem lk_mem_nd {α : Type} : ∀ {l : List (Nat × α)}, dnd (l.map (·.1)) = true → ∀ p ∈ l, lk l p.1 = some p.2
 | [], _, _, h => by cases h
 | (m, d) :: l, hn, p, h => by
   simp only [List.map_cons, dnd, Bool.and_eq_true, Bool.not_eq_true'] at hn
   rcases List.mem_cons.1 h with rfl | h
   ·simp [lk]
   ·have hne : p.1 ≠ m := fun e => by
     have : (l.map (·.1)).contains m = true := by rw [List.contains_iff_mem]; exact List.mem_map.2 ⟨p, h, e⟩
     rw [hn.1] at this; cases this
    simp only [lk, if_neg hne]
    exact lk_mem_nd hn.2 p h

theorem lessL_refl {α : Type} {l : List (Nat × α)} (h : dnd (l.map (·.1)) = true) : lessL l l := lessL_of (lk_mem_nd h)

theorem Mem.toNfn {P : Program} {w0 : World} {Fz0 : Nat → Nat → Prop} {S : Nat → Prop} {N : Nat} {bs : List (Nat × List D)} {ms : List (Nat × MO)} {g : Gh} {w : World} (m : Mem (.fn P w0 Fz0 S N) bs ms g w) (N' : Nat) : Mem (.fn P w0 Fz0 S N') bs ms g w where
 os := m.os
 tape := m.tape
 output := m.output
 hsz := m.hsz
 old := m.old
 keep := m.keep
 newfz := m.newfz
 fzlt := m.fzlt
 bxs := m.bxs
 mps := m.mps
 bxok := m.bxok
 bxinj := m.bxinj
 tks := m.tks
 tkinj := m.tkinj
 bxtk := m.bxtk
 dfs := m.dfs
 dnd := m.dnd
 bxdf := m.bxdf
 bxdm := m.bxdm

theorem PureB.pure {P : Program} {f : FuncId} {args : List D} {R : D → Prop} (h : PureB P f args [] R) : Pure P f args R := by
 intro Fz w vs hlt hr
 exact h (gh0 Fz) w vs rfl rfl (fun N => (init_SR (P := P) (N := args.length) (Nat.le_refl _) hlt hr).mem.toNfn N) hr

theorem Pure.pureB {P : Program} {f : FuncId} {args : List D} {R : D → Prop} (h : Pure P f args R) (hc : D.closeds args = true) : PureB P f args [] R := by
 intro g0 w vs _ _ hm hr
 exact h g0.Fz w vs (hm 0).fzlt (Reps.close (g := g0) (g' := gh0 g0.Fz) (Ex.refl _ _) hc hr)

def lidx {α : Type} (p : α → Bool) : List α → Nat → Int
 | [], _ => -1
 | x :: l, i => if p x = true then (i : Int) else lidx p l (i + 1)

theorem lidx_any' {α : Type} (p : α → Bool) : ∀ (l : List α) (i : Nat), decide (0 ≤ lidx p l i) = l.any p
 | [], _ => by simp [lidx]
 | x :: l, i => by
   rw [lidx, List.any_cons]
   by_cases h : p x = true
   ·rw [if_pos h, h]; simp
   ·rw [if_neg h, lidx_any' p l (i + 1)]; simp at h; simp [h]

theorem lidx_any {α : Type} (p : α → Bool) (l : List α) : decide (0 ≤ lidx p l 0) = l.any p := lidx_any' p l 0

def every {α : Type} (p : α → Bool) (l : List α) (n : Int) : Bool := decide ((l.length : Int) ≤ n) && l.all p

def twiceFrom {α : Type} (q : α → α → Bool) (l : List α) : Nat → Nat → Bool
 | 0, _ => false
 | k + 1, i => (match l[i]? with
   | some x => (l.take i).any fun y => q x y
   | none => false) || twiceFrom q l k (i + 1)

def twice {α : Type} (q : α → α → Bool) (l : List α) : Bool := twiceFrom q l l.length 0

abbrev ASide.d (s : ASide) : D := .agg [int s.kind, str s.space, str s.name]
abbrev APair.d (p : APair) : D := .agg [str p.name, str p.val]
abbrev ANeed.d (n : ANeed) : D := .agg [int n.kind, str n.name, .pd (.slice (strs n.vals))]
abbrev AListener.d (l : AListener) : D := .agg [str l.name, int l.port, bln l.tls, str l.host, int l.cert.kind, str l.cert.space, str l.cert.name, int l.from_, .pd (.slice (rows ANeed.pd l.needs))]
abbrev AParent.d (p : AParent) : D := .agg [str p.space, str p.name, str p.section_, int p.port]
abbrev AMatch.d (m : AMatch) : D := .agg [int m.pkind, str m.pval, str m.method, .pd (.slice (rows APair.pd m.head)), .pd (.slice (rows APair.pd m.query))]
abbrev AFilter.d (f : AFilter) : D := .agg [int f.kind, str f.name, str f.val, str f.host, int f.port, str f.path, bln f.whole, int f.code]
abbrev ARule.d (r : ARule) : D := .agg [.pd (.slice (rows AMatch.pd r.matches_)), .pd (.slice (rows AFilter.pd r.filters)), .pd (.slice (rows ABackend.pd r.backends))]

abbrev ASide.ds (s : ASide) : List D := [int s.kind, str s.space, str s.name]
abbrev AListener.ds (l : AListener) : List D := [str l.name, int l.port, bln l.tls, str l.host, int l.cert.kind, str l.cert.space, str l.cert.name, int l.from_, .pd (.slice (rows ANeed.pd l.needs))]
abbrev AParent.ds (p : AParent) : List D := [str p.space, str p.name, str p.section_, int p.port]
def eqf {α : Type} (q : α → α → Bool) : List α → List α → Bool
 | [], [] => true
 | x :: l, y :: m => q x y && eqf q l m
 | _, _ => false

theorem eqf_len {α : Type} (q : α → α → Bool) : ∀ {l m : List α}, l.length ≠ m.length → eqf q l m = false
 | [], [], h => absurd rfl h
 | [], _ :: _, _ => rfl
 | _ :: _, [], _ => rfl
 | x :: l, y :: m, h => by
   rw [eqf, eqf_len q (by simpa using h), Bool.and_false]

theorem eq_int (x y : Int) : decide (x = y) = decide (x = y) := rfl
theorem eq_string (x y : ByteArray) : decide (x = y) = decide (x = y) := rfl
theorem eq_Pair (x y : APair) : (decide (x.name = y.name) && decide (x.val = y.val)) = decide (x = y) := by
 cases x; cases y; rw [Bool.eq_iff_iff]; simp
theorem eq_Side (x y : ASide) : (decide (x.kind = y.kind) && (decide (x.space = y.space) && decide (x.name = y.name))) = decide (x = y) := by
 cases x; cases y; rw [Bool.eq_iff_iff]; simp
theorem eq_Parent (x y : AParent) : (decide (x.space = y.space) && (decide (x.name = y.name) && (decide (x.section_ = y.section_) && decide (x.port = y.port)))) = decide (x = y) := by
 cases x; cases y; rw [Bool.eq_iff_iff]; simp
theorem eq_Ref (x y : ARef) : (decide (x.kind = y.kind) && (decide (x.space = y.space) && decide (x.name = y.name))) = decide (x = y) := by
 cases x; cases y; rw [Bool.eq_iff_iff]; simp
theorem eq_Backend (x y : ABackend) : (decide (x.ref.kind = y.ref.kind) && (decide (x.ref.space = y.ref.space) && (decide (x.ref.name = y.ref.name) && (decide (x.port = y.port) && decide (x.weight = y.weight))))) = decide (x = y) := by
 obtain ⟨⟨a, b, c⟩, d, e⟩ := x; obtain ⟨⟨a', b', c'⟩, d', e'⟩ := y; rw [Bool.eq_iff_iff]; simp [and_assoc]
theorem eq_Filter (x y : AFilter) : (decide (x.kind = y.kind) && (decide (x.name = y.name) && (decide (x.val = y.val) && (decide (x.host = y.host) && (decide (x.port = y.port) && (decide (x.path = y.path) && (x.whole == y.whole && decide (x.code = y.code)))))))) = decide (x = y) := by
 cases x; cases y; rw [Bool.eq_iff_iff]; simp


theorem IndexFunc_Side (p : ASide → Bool) (g : FuncId) (he : Enters Tryz.prog g) (caps : List (Nat × Nat)) (bs : List (Nat × List D)) (hc : Cl bs caps) (l : List ASide) (hl : l.length ≤ 1000000)
 (hp : ∀ x ∈ l, PureB Tryz.prog g (ASide.d x :: capD caps) bs (fun d => d = bln (p x))) :
 PureB Tryz.prog 194 [.pd (.slice (rows ASide.pd l)), .fn g caps] bs (fun d => d = int (lidx p l 0)) := by
 refine pureB_of_run follows an_zhz8f Tryz.func194 rfl ok_zhz8f.1 ok_zhz8f.2 (by simp [Tryz.ntmps194]) ?_
 rw [run_start]
 simp only [ac_zhz8f, go_sem, simprocAttr]
 refine loopS (fun k st => ∃ i : Nat, k = l.length - i ∧ i ≤ l.length ∧ lidx p (l.drop i) i = lidx p l 0 ∧
  st = ⟨[(0, .pd (.slice (rows ASide.pd l))), (1, .fn g caps), (7, int l.length), (8, int i)], bs, [], .no⟩) l.length _ (Weak.refl _ _) ⟨0, rfl, Nat.zero_le _, rfl, rfl⟩ ?_
 rintro k st ⟨i, rfl, hi, hr, rfl⟩
 by_cases hlt : i < l.length
 ·obtain ⟨x, hx⟩ := at_lt hlt
  have hlt' : ((i : Int) < (l.length : Int)) = True := eq_true (by omega)
  have hw := i64_succ (show i < 1000000000 by omega)
  rw [drop_at hx, lidx] at hr
  simp only [go_sem, simprocAttr, hlt', rows_get hx]
  refine (hp x (List.mem_of_getElem? hx)).callW he _ (idr bs) hc.ok (hc.args (by rfl)) hc.see ?_
  rintro d rfl
  simp only [go_sem, simprocAttr]
  refine Gif.mk (fun h => ?_) (fun h => ?_)
  ·rw [if_pos h] at hr
   simp only [retK, resD, retL, oneD, simprocAttr, Tryz.results194]
   exact ⟨_, rfl, rfl, congrArg int hr⟩
  ·rw [if_neg (by simp [h])] at hr
   simp only [go_sem, simprocAttr, hw]
   refine ⟨l.length - (i + 1), _, ?_, ?_, i + 1, rfl, ?_, hr, rfl⟩
   ·omega
   ·exact Weak.less (by simp [lessL, lk]) (lessL_refl hc.nd) (by simp [lessL, lk]) rfl
   ·omega
 ·have hlt' : ((i : Int) < (l.length : Int)) = False := eq_false (by omega)
  rw [List.drop_eq_nil_of_le (by omega), lidx] at hr
  simp only [go_sem, simprocAttr, hlt']
  simp only [retK, resD, retL, oneD, simprocAttr, Tryz.results194]
  exact ⟨_, rfl, rfl, congrArg int hr⟩

theorem IndexFunc_int (p : Int → Bool) (g : FuncId) (he : Enters Tryz.prog g) (caps : List (Nat × Nat)) (bs : List (Nat × List D)) (hc : Cl bs caps) (l : List Int) (hl : l.length ≤ 1000000)
 (hp : ∀ x ∈ l, PureB Tryz.prog g (int x :: capD caps) bs (fun d => d = bln (p x))) :
 PureB Tryz.prog 167 [.pd (.slice (rows cInt l)), .fn g caps] bs (fun d => d = int (lidx p l 0)) := by
 refine pureB_of_run follows an_zrckh Tryz.func167 rfl ok_zrckh.1 ok_zrckh.2 (by simp [Tryz.ntmps167]) ?_
 rw [run_start]
 simp only [ac_zrckh, go_sem, simprocAttr]
 refine loopS (fun k st => ∃ i : Nat, k = l.length - i ∧ i ≤ l.length ∧ lidx p (l.drop i) i = lidx p l 0 ∧
  st = ⟨[(0, .pd (.slice (rows cInt l))), (1, .fn g caps), (7, int l.length), (8, int i)], bs, [], .no⟩) l.length _ (Weak.refl _ _) ⟨0, rfl, Nat.zero_le _, rfl, rfl⟩ ?_
 rintro k st ⟨i, rfl, hi, hr, rfl⟩
 by_cases hlt : i < l.length
 ·obtain ⟨x, hx⟩ := at_lt hlt
  have hlt' : ((i : Int) < (l.length : Int)) = True := eq_true (by omega)
  have hw := i64_succ (show i < 1000000000 by omega)
  rw [drop_at hx, lidx] at hr
  simp only [go_sem, simprocAttr, hlt', rows_get hx]
  refine (hp x (List.mem_of_getElem? hx)).callW he _ (idr bs) hc.ok (hc.args (by rfl)) hc.see ?_
  rintro d rfl
  simp only [go_sem, simprocAttr]
  refine Gif.mk (fun h => ?_) (fun h => ?_)
  ·rw [if_pos h] at hr
   simp only [retK, resD, retL, oneD, simprocAttr, Tryz.results167]
   exact ⟨_, rfl, rfl, congrArg int hr⟩
  ·rw [if_neg (by simp [h])] at hr
   simp only [go_sem, simprocAttr, hw]
   refine ⟨l.length - (i + 1), _, ?_, ?_, i + 1, rfl, ?_, hr, rfl⟩
   ·omega
   ·exact Weak.less (by simp [lessL, lk]) (lessL_refl hc.nd) (by simp [lessL, lk]) rfl
   ·omega
 ·have hlt' : ((i : Int) < (l.length : Int)) = False := eq_false (by omega)
  rw [List.drop_eq_nil_of_le (by omega), lidx] at hr
  simp only [go_sem, simprocAttr, hlt']
  simp only [retK, resD, retL, oneD, simprocAttr, Tryz.results167]
  exact ⟨_, rfl, rfl, congrArg int hr⟩

theorem IndexFunc_Listener (p : AListener → Bool) (g : FuncId) (he : Enters Tryz.prog g) (caps : List (Nat × Nat)) (bs : List (Nat × List D)) (hc : Cl bs caps) (l : List AListener) (hl : l.length ≤ 1000000)
 (hp : ∀ x ∈ l, PureB Tryz.prog g (AListener.d x :: capD caps) bs (fun d => d = bln (p x))) :
 PureB Tryz.prog 168 [.pd (.slice (rows AListener.pd l)), .fn g caps] bs (fun d => d = int (lidx p l 0)) := by
 refine pureB_of_run follows an_z3tfr Tryz.func168 rfl ok_z3tfr.1 ok_z3tfr.2 (by simp [Tryz.ntmps168]) ?_
 rw [run_start]
 simp only [ac_z3tfr, go_sem, simprocAttr]
 refine loopS (fun k st => ∃ i : Nat, k = l.length - i ∧ i ≤ l.length ∧ lidx p (l.drop i) i = lidx p l 0 ∧
  st = ⟨[(0, .pd (.slice (rows AListener.pd l))), (1, .fn g caps), (7, int l.length), (8, int i)], bs, [], .no⟩) l.length _ (Weak.refl _ _) ⟨0, rfl, Nat.zero_le _, rfl, rfl⟩ ?_
 rintro k st ⟨i, rfl, hi, hr, rfl⟩
 by_cases hlt : i < l.length
 ·obtain ⟨x, hx⟩ := at_lt hlt
  have hlt' : ((i : Int) < (l.length : Int)) = True := eq_true (by omega)
  have hw := i64_succ (show i < 1000000000 by omega)
  rw [drop_at hx, lidx] at hr
  simp only [go_sem, simprocAttr, hlt', rows_get hx]
  refine (hp x (List.mem_of_getElem? hx)).callW he _ (idr bs) hc.ok (hc.args (by rfl)) hc.see ?_
  rintro d rfl
  simp only [go_sem, simprocAttr]
  refine Gif.mk (fun h => ?_) (fun h => ?_)
  ·rw [if_pos h] at hr
   simp only [retK, resD, retL, oneD, simprocAttr, Tryz.results168]
   exact ⟨_, rfl, rfl, congrArg int hr⟩
  ·rw [if_neg (by simp [h])] at hr
   simp only [go_sem, simprocAttr, hw]
   refine ⟨l.length - (i + 1), _, ?_, ?_, i + 1, rfl, ?_, hr, rfl⟩
   ·omega
   ·exact Weak.less (by simp [lessL, lk]) (lessL_refl hc.nd) (by simp [lessL, lk]) rfl
   ·omega
 ·have hlt' : ((i : Int) < (l.length : Int)) = False := eq_false (by omega)
  rw [List.drop_eq_nil_of_le (by omega), lidx] at hr
  simp only [go_sem, simprocAttr, hlt']
  simp only [retK, resD, retL, oneD, simprocAttr, Tryz.results168]
  exact ⟨_, rfl, rfl, congrArg int hr⟩

theorem IndexFunc_Need (p : ANeed → Bool) (g : FuncId) (he : Enters Tryz.prog g) (caps : List (Nat × Nat)) (bs : List (Nat × List D)) (hc : Cl bs caps) (l : List ANeed) (hl : l.length ≤ 1000000)
 (hp : ∀ x ∈ l, PureB Tryz.prog g (ANeed.d x :: capD caps) bs (fun d => d = bln (p x))) :
 PureB Tryz.prog 211 [.pd (.slice (rows ANeed.pd l)), .fn g caps] bs (fun d => d = int (lidx p l 0)) := by
 refine pureB_of_run follows an_zijlh Tryz.func211 rfl ok_zijlh.1 ok_zijlh.2 (by simp [Tryz.ntmps211]) ?_
 rw [run_start]
 simp only [ac_zijlh, go_sem, simprocAttr]
 refine loopS (fun k st => ∃ i : Nat, k = l.length - i ∧ i ≤ l.length ∧ lidx p (l.drop i) i = lidx p l 0 ∧
  st = ⟨[(0, .pd (.slice (rows ANeed.pd l))), (1, .fn g caps), (7, int l.length), (8, int i)], bs, [], .no⟩) l.length _ (Weak.refl _ _) ⟨0, rfl, Nat.zero_le _, rfl, rfl⟩ ?_
 rintro k st ⟨i, rfl, hi, hr, rfl⟩
 by_cases hlt : i < l.length
 ·obtain ⟨x, hx⟩ := at_lt hlt
  have hlt' : ((i : Int) < (l.length : Int)) = True := eq_true (by omega)
  have hw := i64_succ (show i < 1000000000 by omega)
  rw [drop_at hx, lidx] at hr
  simp only [go_sem, simprocAttr, hlt', rows_get hx]
  refine (hp x (List.mem_of_getElem? hx)).callW he _ (idr bs) hc.ok (hc.args (by rfl)) hc.see ?_
  rintro d rfl
  simp only [go_sem, simprocAttr]
  refine Gif.mk (fun h => ?_) (fun h => ?_)
  ·rw [if_pos h] at hr
   simp only [retK, resD, retL, oneD, simprocAttr, Tryz.results211]
   exact ⟨_, rfl, rfl, congrArg int hr⟩
  ·rw [if_neg (by simp [h])] at hr
   simp only [go_sem, simprocAttr, hw]
   refine ⟨l.length - (i + 1), _, ?_, ?_, i + 1, rfl, ?_, hr, rfl⟩
   ·omega
   ·exact Weak.less (by simp [lessL, lk]) (lessL_refl hc.nd) (by simp [lessL, lk]) rfl
   ·omega
 ·have hlt' : ((i : Int) < (l.length : Int)) = False := eq_false (by omega)
  rw [List.drop_eq_nil_of_le (by omega), lidx] at hr
  simp only [go_sem, simprocAttr, hlt']
  simp only [retK, resD, retL, oneD, simprocAttr, Tryz.results211]
  exact ⟨_, rfl, rfl, congrArg int hr⟩

theorem IndexFunc_Parent (p : AParent → Bool) (g : FuncId) (he : Enters Tryz.prog g) (caps : List (Nat × Nat)) (bs : List (Nat × List D)) (hc : Cl bs caps) (l : List AParent) (hl : l.length ≤ 1000000)
 (hp : ∀ x ∈ l, PureB Tryz.prog g (AParent.d x :: capD caps) bs (fun d => d = bln (p x))) :
 PureB Tryz.prog 172 [.pd (.slice (rows AParent.pd l)), .fn g caps] bs (fun d => d = int (lidx p l 0)) := by
 refine pureB_of_run follows an_zwjxg Tryz.func172 rfl ok_zwjxg.1 ok_zwjxg.2 (by simp [Tryz.ntmps172]) ?_
 rw [run_start]
 simp only [ac_zwjxg, go_sem, simprocAttr]
 refine loopS (fun k st => ∃ i : Nat, k = l.length - i ∧ i ≤ l.length ∧ lidx p (l.drop i) i = lidx p l 0 ∧
  st = ⟨[(0, .pd (.slice (rows AParent.pd l))), (1, .fn g caps), (7, int l.length), (8, int i)], bs, [], .no⟩) l.length _ (Weak.refl _ _) ⟨0, rfl, Nat.zero_le _, rfl, rfl⟩ ?_
 rintro k st ⟨i, rfl, hi, hr, rfl⟩
 by_cases hlt : i < l.length
 ·obtain ⟨x, hx⟩ := at_lt hlt
  have hlt' : ((i : Int) < (l.length : Int)) = True := eq_true (by omega)
  have hw := i64_succ (show i < 1000000000 by omega)
  rw [drop_at hx, lidx] at hr
  simp only [go_sem, simprocAttr, hlt', rows_get hx]
  refine (hp x (List.mem_of_getElem? hx)).callW he _ (idr bs) hc.ok (hc.args (by rfl)) hc.see ?_
  rintro d rfl
  simp only [go_sem, simprocAttr]
  refine Gif.mk (fun h => ?_) (fun h => ?_)
  ·rw [if_pos h] at hr
   simp only [retK, resD, retL, oneD, simprocAttr, Tryz.results172]
   exact ⟨_, rfl, rfl, congrArg int hr⟩
  ·rw [if_neg (by simp [h])] at hr
   simp only [go_sem, simprocAttr, hw]
   refine ⟨l.length - (i + 1), _, ?_, ?_, i + 1, rfl, ?_, hr, rfl⟩
   ·omega
   ·exact Weak.less (by simp [lessL, lk]) (lessL_refl hc.nd) (by simp [lessL, lk]) rfl
   ·omega
 ·have hlt' : ((i : Int) < (l.length : Int)) = False := eq_false (by omega)
  rw [List.drop_eq_nil_of_le (by omega), lidx] at hr
  simp only [go_sem, simprocAttr, hlt']
  simp only [retK, resD, retL, oneD, simprocAttr, Tryz.results172]
  exact ⟨_, rfl, rfl, congrArg int hr⟩

theorem IndexFunc_string (p : ByteArray → Bool) (g : FuncId) (he : Enters Tryz.prog g) (caps : List (Nat × Nat)) (bs : List (Nat × List D)) (hc : Cl bs caps) (l : List ByteArray) (hl : l.length ≤ 1000000)
 (hp : ∀ x ∈ l, PureB Tryz.prog g (str x :: capD caps) bs (fun d => d = bln (p x))) :
 PureB Tryz.prog 173 [.pd (.slice (rows cStr l)), .fn g caps] bs (fun d => d = int (lidx p l 0)) := by
 refine pureB_of_run follows an_zski5 Tryz.func173 rfl ok_zski5.1 ok_zski5.2 (by simp [Tryz.ntmps173]) ?_
 rw [run_start]
 simp only [ac_zski5, go_sem, simprocAttr]
 refine loopS (fun k st => ∃ i : Nat, k = l.length - i ∧ i ≤ l.length ∧ lidx p (l.drop i) i = lidx p l 0 ∧
  st = ⟨[(0, .pd (.slice (rows cStr l))), (1, .fn g caps), (7, int l.length), (8, int i)], bs, [], .no⟩) l.length _ (Weak.refl _ _) ⟨0, rfl, Nat.zero_le _, rfl, rfl⟩ ?_
 rintro k st ⟨i, rfl, hi, hr, rfl⟩
 by_cases hlt : i < l.length
 ·obtain ⟨x, hx⟩ := at_lt hlt
  have hlt' : ((i : Int) < (l.length : Int)) = True := eq_true (by omega)
  have hw := i64_succ (show i < 1000000000 by omega)
  rw [drop_at hx, lidx] at hr
  simp only [go_sem, simprocAttr, hlt', rows_get hx]
  refine (hp x (List.mem_of_getElem? hx)).callW he _ (idr bs) hc.ok (hc.args (by rfl)) hc.see ?_
  rintro d rfl
  simp only [go_sem, simprocAttr]
  refine Gif.mk (fun h => ?_) (fun h => ?_)
  ·rw [if_pos h] at hr
   simp only [retK, resD, retL, oneD, simprocAttr, Tryz.results173]
   exact ⟨_, rfl, rfl, congrArg int hr⟩
  ·rw [if_neg (by simp [h])] at hr
   simp only [go_sem, simprocAttr, hw]
   refine ⟨l.length - (i + 1), _, ?_, ?_, i + 1, rfl, ?_, hr, rfl⟩
   ·omega
   ·exact Weak.less (by simp [lessL, lk]) (lessL_refl hc.nd) (by simp [lessL, lk]) rfl
   ·omega
 ·have hlt' : ((i : Int) < (l.length : Int)) = False := eq_false (by omega)
  rw [List.drop_eq_nil_of_le (by omega), lidx] at hr
  simp only [go_sem, simprocAttr, hlt']
  simp only [retK, resD, retL, oneD, simprocAttr, Tryz.results173]
  exact ⟨_, rfl, rfl, congrArg int hr⟩


theorem IndexFunc_Rule (p : ARule → Bool) (g : FuncId) (he : Enters Tryz.prog g) (caps : List (Nat × Nat)) (bs : List (Nat × List D)) (hc : Cl bs caps) (l : List ARule) (hl : l.length ≤ 1000000)
 (hp : ∀ x ∈ l, PureB Tryz.prog g (ARule.d x :: capD caps) bs (fun d => d = bln (p x))) :
 PureB Tryz.prog 175 [.pd (.slice (rows ARule.pd l)), .fn g caps] bs (fun d => d = int (lidx p l 0)) := by
 refine pureB_of_run follows an_zwh23 Tryz.func175 rfl ok_zwh23.1 ok_zwh23.2 (by simp [Tryz.ntmps175]) ?_
 rw [run_start]
 simp only [ac_zwh23, go_sem, simprocAttr]
 refine loopS (fun k st => ∃ i : Nat, k = l.length - i ∧ i ≤ l.length ∧ lidx p (l.drop i) i = lidx p l 0 ∧
  st = ⟨[(0, .pd (.slice (rows ARule.pd l))), (1, .fn g caps), (7, int l.length), (8, int i)], bs, [], .no⟩) l.length _ (Weak.refl _ _) ⟨0, rfl, Nat.zero_le _, rfl, rfl⟩ ?_
 rintro k st ⟨i, rfl, hi, hr, rfl⟩
 by_cases hlt : i < l.length
 ·obtain ⟨x, hx⟩ := at_lt hlt
  have hlt' : ((i : Int) < (l.length : Int)) = True := eq_true (by omega)
  have hw := i64_succ (show i < 1000000000 by omega)
  rw [drop_at hx, lidx] at hr
  simp only [go_sem, simprocAttr, hlt', rows_get hx]
  refine (hp x (List.mem_of_getElem? hx)).callW he _ (idr bs) hc.ok (hc.args (by rfl)) hc.see ?_
  rintro d rfl
  simp only [go_sem, simprocAttr]
  refine Gif.mk (fun h => ?_) (fun h => ?_)
  ·rw [if_pos h] at hr
   simp only [retK, resD, retL, oneD, simprocAttr, Tryz.results175]
   exact ⟨_, rfl, rfl, congrArg int hr⟩
  ·rw [if_neg (by simp [h])] at hr
   simp only [go_sem, simprocAttr, hw]
   refine ⟨l.length - (i + 1), _, ?_, ?_, i + 1, rfl, ?_, hr, rfl⟩
   ·omega
   ·exact Weak.less (by simp [lessL, lk]) (lessL_refl hc.nd) (by simp [lessL, lk]) rfl
   ·omega
 ·have hlt' : ((i : Int) < (l.length : Int)) = False := eq_false (by omega)
  rw [List.drop_eq_nil_of_le (by omega), lidx] at hr
  simp only [go_sem, simprocAttr, hlt']
  simp only [retK, resD, retL, oneD, simprocAttr, Tryz.results175]
  exact ⟨_, rfl, rfl, congrArg int hr⟩

theorem IndexFunc_Match (p : AMatch → Bool) (g : FuncId) (he : Enters Tryz.prog g) (caps : List (Nat × Nat)) (bs : List (Nat × List D)) (hc : Cl bs caps) (l : List AMatch) (hl : l.length ≤ 1000000)
 (hp : ∀ x ∈ l, PureB Tryz.prog g (AMatch.d x :: capD caps) bs (fun d => d = bln (p x))) :
 PureB Tryz.prog 214 [.pd (.slice (rows AMatch.pd l)), .fn g caps] bs (fun d => d = int (lidx p l 0)) := by
 refine pureB_of_run follows an_zsjmp Tryz.func214 rfl ok_zsjmp.1 ok_zsjmp.2 (by simp [Tryz.ntmps214]) ?_
 rw [run_start]
 simp only [ac_zsjmp, go_sem, simprocAttr]
 refine loopS (fun k st => ∃ i : Nat, k = l.length - i ∧ i ≤ l.length ∧ lidx p (l.drop i) i = lidx p l 0 ∧
  st = ⟨[(0, .pd (.slice (rows AMatch.pd l))), (1, .fn g caps), (7, int l.length), (8, int i)], bs, [], .no⟩) l.length _ (Weak.refl _ _) ⟨0, rfl, Nat.zero_le _, rfl, rfl⟩ ?_
 rintro k st ⟨i, rfl, hi, hr, rfl⟩
 by_cases hlt : i < l.length
 ·obtain ⟨x, hx⟩ := at_lt hlt
  have hlt' : ((i : Int) < (l.length : Int)) = True := eq_true (by omega)
  have hw := i64_succ (show i < 1000000000 by omega)
  rw [drop_at hx, lidx] at hr
  simp only [go_sem, simprocAttr, hlt', rows_get hx]
  refine (hp x (List.mem_of_getElem? hx)).callW he _ (idr bs) hc.ok (hc.args (by rfl)) hc.see ?_
  rintro d rfl
  simp only [go_sem, simprocAttr]
  refine Gif.mk (fun h => ?_) (fun h => ?_)
  ·rw [if_pos h] at hr
   simp only [retK, resD, retL, oneD, simprocAttr, Tryz.results214]
   exact ⟨_, rfl, rfl, congrArg int hr⟩
  ·rw [if_neg (by simp [h])] at hr
   simp only [go_sem, simprocAttr, hw]
   refine ⟨l.length - (i + 1), _, ?_, ?_, i + 1, rfl, ?_, hr, rfl⟩
   ·omega
   ·exact Weak.less (by simp [lessL, lk]) (lessL_refl hc.nd) (by simp [lessL, lk]) rfl
   ·omega
 ·have hlt' : ((i : Int) < (l.length : Int)) = False := eq_false (by omega)
  rw [List.drop_eq_nil_of_le (by omega), lidx] at hr
  simp only [go_sem, simprocAttr, hlt']
  simp only [retK, resD, retL, oneD, simprocAttr, Tryz.results214]
  exact ⟨_, rfl, rfl, congrArg int hr⟩

theorem IndexFunc_Pair (p : APair → Bool) (g : FuncId) (he : Enters Tryz.prog g) (caps : List (Nat × Nat)) (bs : List (Nat × List D)) (hc : Cl bs caps) (l : List APair) (hl : l.length ≤ 1000000)
 (hp : ∀ x ∈ l, PureB Tryz.prog g (APair.d x :: capD caps) bs (fun d => d = bln (p x))) :
 PureB Tryz.prog 220 [.pd (.slice (rows APair.pd l)), .fn g caps] bs (fun d => d = int (lidx p l 0)) := by
 refine pureB_of_run follows an_zdecl Tryz.func220 rfl ok_zdecl.1 ok_zdecl.2 (by simp [Tryz.ntmps220]) ?_
 rw [run_start]
 simp only [ac_zdecl, go_sem, simprocAttr]
 refine loopS (fun k st => ∃ i : Nat, k = l.length - i ∧ i ≤ l.length ∧ lidx p (l.drop i) i = lidx p l 0 ∧
  st = ⟨[(0, .pd (.slice (rows APair.pd l))), (1, .fn g caps), (7, int l.length), (8, int i)], bs, [], .no⟩) l.length _ (Weak.refl _ _) ⟨0, rfl, Nat.zero_le _, rfl, rfl⟩ ?_
 rintro k st ⟨i, rfl, hi, hr, rfl⟩
 by_cases hlt : i < l.length
 ·obtain ⟨x, hx⟩ := at_lt hlt
  have hlt' : ((i : Int) < (l.length : Int)) = True := eq_true (by omega)
  have hw := i64_succ (show i < 1000000000 by omega)
  rw [drop_at hx, lidx] at hr
  simp only [go_sem, simprocAttr, hlt', rows_get hx]
  refine (hp x (List.mem_of_getElem? hx)).callW he _ (idr bs) hc.ok (hc.args (by rfl)) hc.see ?_
  rintro d rfl
  simp only [go_sem, simprocAttr]
  refine Gif.mk (fun h => ?_) (fun h => ?_)
  ·rw [if_pos h] at hr
   simp only [retK, resD, retL, oneD, simprocAttr, Tryz.results220]
   exact ⟨_, rfl, rfl, congrArg int hr⟩
  ·rw [if_neg (by simp [h])] at hr
   simp only [go_sem, simprocAttr, hw]
   refine ⟨l.length - (i + 1), _, ?_, ?_, i + 1, rfl, ?_, hr, rfl⟩
   ·omega
   ·exact Weak.less (by simp [lessL, lk]) (lessL_refl hc.nd) (by simp [lessL, lk]) rfl
   ·omega
 ·have hlt' : ((i : Int) < (l.length : Int)) = False := eq_false (by omega)
  rw [List.drop_eq_nil_of_le (by omega), lidx] at hr
  simp only [go_sem, simprocAttr, hlt']
  simp only [retK, resD, retL, oneD, simprocAttr, Tryz.results220]
  exact ⟨_, rfl, rfl, congrArg int hr⟩

theorem IndexFunc_Filter (p : AFilter → Bool) (g : FuncId) (he : Enters Tryz.prog g) (caps : List (Nat × Nat)) (bs : List (Nat × List D)) (hc : Cl bs caps) (l : List AFilter) (hl : l.length ≤ 1000000)
 (hp : ∀ x ∈ l, PureB Tryz.prog g (AFilter.d x :: capD caps) bs (fun d => d = bln (p x))) :
 PureB Tryz.prog 224 [.pd (.slice (rows AFilter.pd l)), .fn g caps] bs (fun d => d = int (lidx p l 0)) := by
 refine pureB_of_run follows an_zwgkv Tryz.func224 rfl ok_zwgkv.1 ok_zwgkv.2 (by simp [Tryz.ntmps224]) ?_
 rw [run_start]
 simp only [ac_zwgkv, go_sem, simprocAttr]
 refine loopS (fun k st => ∃ i : Nat, k = l.length - i ∧ i ≤ l.length ∧ lidx p (l.drop i) i = lidx p l 0 ∧
  st = ⟨[(0, .pd (.slice (rows AFilter.pd l))), (1, .fn g caps), (7, int l.length), (8, int i)], bs, [], .no⟩) l.length _ (Weak.refl _ _) ⟨0, rfl, Nat.zero_le _, rfl, rfl⟩ ?_
 rintro k st ⟨i, rfl, hi, hr, rfl⟩
 by_cases hlt : i < l.length
 ·obtain ⟨x, hx⟩ := at_lt hlt
  have hlt' : ((i : Int) < (l.length : Int)) = True := eq_true (by omega)
  have hw := i64_succ (show i < 1000000000 by omega)
  rw [drop_at hx, lidx] at hr
  simp only [go_sem, simprocAttr, hlt', rows_get hx]
  refine (hp x (List.mem_of_getElem? hx)).callW he _ (idr bs) hc.ok (hc.args (by rfl)) hc.see ?_
  rintro d rfl
  simp only [go_sem, simprocAttr]
  refine Gif.mk (fun h => ?_) (fun h => ?_)
  ·rw [if_pos h] at hr
   simp only [retK, resD, retL, oneD, simprocAttr, Tryz.results224]
   exact ⟨_, rfl, rfl, congrArg int hr⟩
  ·rw [if_neg (by simp [h])] at hr
   simp only [go_sem, simprocAttr, hw]
   refine ⟨l.length - (i + 1), _, ?_, ?_, i + 1, rfl, ?_, hr, rfl⟩
   ·omega
   ·exact Weak.less (by simp [lessL, lk]) (lessL_refl hc.nd) (by simp [lessL, lk]) rfl
   ·omega
 ·have hlt' : ((i : Int) < (l.length : Int)) = False := eq_false (by omega)
  rw [List.drop_eq_nil_of_le (by omega), lidx] at hr
  simp only [go_sem, simprocAttr, hlt']
  simp only [retK, resD, retL, oneD, simprocAttr, Tryz.results224]
  exact ⟨_, rfl, rfl, congrArg int hr⟩

theorem IndexFunc_Backend (p : ABackend → Bool) (g : FuncId) (he : Enters Tryz.prog g) (caps : List (Nat × Nat)) (bs : List (Nat × List D)) (hc : Cl bs caps) (l : List ABackend) (hl : l.length ≤ 1000000)
 (hp : ∀ x ∈ l, PureB Tryz.prog g (ABackend.d x :: capD caps) bs (fun d => d = bln (p x))) :
 PureB Tryz.prog 225 [.pd (.slice (rows ABackend.pd l)), .fn g caps] bs (fun d => d = int (lidx p l 0)) := by
 refine pureB_of_run follows an_zbcsd Tryz.func225 rfl ok_zbcsd.1 ok_zbcsd.2 (by simp [Tryz.ntmps225]) ?_
 rw [run_start]
 simp only [ac_zbcsd, go_sem, simprocAttr]
 refine loopS (fun k st => ∃ i : Nat, k = l.length - i ∧ i ≤ l.length ∧ lidx p (l.drop i) i = lidx p l 0 ∧
  st = ⟨[(0, .pd (.slice (rows ABackend.pd l))), (1, .fn g caps), (7, int l.length), (8, int i)], bs, [], .no⟩) l.length _ (Weak.refl _ _) ⟨0, rfl, Nat.zero_le _, rfl, rfl⟩ ?_
 rintro k st ⟨i, rfl, hi, hr, rfl⟩
 by_cases hlt : i < l.length
 ·obtain ⟨x, hx⟩ := at_lt hlt
  have hlt' : ((i : Int) < (l.length : Int)) = True := eq_true (by omega)
  have hw := i64_succ (show i < 1000000000 by omega)
  rw [drop_at hx, lidx] at hr
  simp only [go_sem, simprocAttr, hlt', rows_get hx]
  refine (hp x (List.mem_of_getElem? hx)).callW he _ (idr bs) hc.ok (hc.args (by rfl)) hc.see ?_
  rintro d rfl
  simp only [go_sem, simprocAttr]
  refine Gif.mk (fun h => ?_) (fun h => ?_)
  ·rw [if_pos h] at hr
   simp only [retK, resD, retL, oneD, simprocAttr, Tryz.results225]
   exact ⟨_, rfl, rfl, congrArg int hr⟩
  ·rw [if_neg (by simp [h])] at hr
   simp only [go_sem, simprocAttr, hw]
   refine ⟨l.length - (i + 1), _, ?_, ?_, i + 1, rfl, ?_, hr, rfl⟩
   ·omega
   ·exact Weak.less (by simp [lessL, lk]) (lessL_refl hc.nd) (by simp [lessL, lk]) rfl
   ·omega
 ·have hlt' : ((i : Int) < (l.length : Int)) = False := eq_false (by omega)
  rw [List.drop_eq_nil_of_le (by omega), lidx] at hr
  simp only [go_sem, simprocAttr, hlt']
  simp only [retK, resD, retL, oneD, simprocAttr, Tryz.results225]
  exact ⟨_, rfl, rfl, congrArg int hr⟩


theorem ContainsFunc_Side (p : ASide → Bool) (g : FuncId) (he : Enters Tryz.prog g) (caps : List (Nat × Nat)) (bs : List (Nat × List D)) (hc : Cl bs caps) (l : List ASide) (hl : l.length ≤ 1000000)
 (hp : ∀ x ∈ l, PureB Tryz.prog g (ASide.d x :: capD caps) bs (fun d => d = bln (p x))) :
 PureB Tryz.prog 146 [.pd (.slice (rows ASide.pd l)), .fn g caps] bs (fun d => d = bln (l.any p)) := by
 refine pureB_of_run follows an_zkgk0 Tryz.func146 rfl ok_zkgk0.1 ok_zkgk0.2 (by simp [Tryz.ntmps146]) ?_
 rw [run_start]
 simp only [ac_zkgk0, go_sem, simprocAttr]
 refine (IndexFunc_Side p g he caps bs hc l hl hp).callW (enters_of Tryz.func194 rfl rfl) _ (idr bs) hc.ok hc.two hc.see ?_
 rintro d rfl
 simp only [go_sem, simprocAttr]
 simp only [retK, resD, retL, oneD, simprocAttr, Tryz.results146]
 exact ⟨_, rfl, rfl, congrArg bln (lidx_any p l)⟩

theorem ContainsFunc_int (p : Int → Bool) (g : FuncId) (he : Enters Tryz.prog g) (caps : List (Nat × Nat)) (bs : List (Nat × List D)) (hc : Cl bs caps) (l : List Int) (hl : l.length ≤ 1000000)
 (hp : ∀ x ∈ l, PureB Tryz.prog g (int x :: capD caps) bs (fun d => d = bln (p x))) :
 PureB Tryz.prog 123 [.pd (.slice (rows cInt l)), .fn g caps] bs (fun d => d = bln (l.any p)) := by
 refine pureB_of_run follows an_z2spj Tryz.func123 rfl ok_z2spj.1 ok_z2spj.2 (by simp [Tryz.ntmps123]) ?_
 rw [run_start]
 simp only [ac_z2spj, go_sem, simprocAttr]
 refine (IndexFunc_int p g he caps bs hc l hl hp).callW (enters_of Tryz.func167 rfl rfl) _ (idr bs) hc.ok hc.two hc.see ?_
 rintro d rfl
 simp only [go_sem, simprocAttr]
 simp only [retK, resD, retL, oneD, simprocAttr, Tryz.results123]
 exact ⟨_, rfl, rfl, congrArg bln (lidx_any p l)⟩

theorem ContainsFunc_Listener (p : AListener → Bool) (g : FuncId) (he : Enters Tryz.prog g) (caps : List (Nat × Nat)) (bs : List (Nat × List D)) (hc : Cl bs caps) (l : List AListener) (hl : l.length ≤ 1000000)
 (hp : ∀ x ∈ l, PureB Tryz.prog g (AListener.d x :: capD caps) bs (fun d => d = bln (p x))) :
 PureB Tryz.prog 127 [.pd (.slice (rows AListener.pd l)), .fn g caps] bs (fun d => d = bln (l.any p)) := by
 refine pureB_of_run follows an_zosgm Tryz.func127 rfl ok_zosgm.1 ok_zosgm.2 (by simp [Tryz.ntmps127]) ?_
 rw [run_start]
 simp only [ac_zosgm, go_sem, simprocAttr]
 refine (IndexFunc_Listener p g he caps bs hc l hl hp).callW (enters_of Tryz.func168 rfl rfl) _ (idr bs) hc.ok hc.two hc.see ?_
 rintro d rfl
 simp only [go_sem, simprocAttr]
 simp only [retK, resD, retL, oneD, simprocAttr, Tryz.results127]
 exact ⟨_, rfl, rfl, congrArg bln (lidx_any p l)⟩

theorem ContainsFunc_Need (p : ANeed → Bool) (g : FuncId) (he : Enters Tryz.prog g) (caps : List (Nat × Nat)) (bs : List (Nat × List D)) (hc : Cl bs caps) (l : List ANeed) (hl : l.length ≤ 1000000)
 (hp : ∀ x ∈ l, PureB Tryz.prog g (ANeed.d x :: capD caps) bs (fun d => d = bln (p x))) :
 PureB Tryz.prog 169 [.pd (.slice (rows ANeed.pd l)), .fn g caps] bs (fun d => d = bln (l.any p)) := by
 refine pureB_of_run follows an_zy4fu Tryz.func169 rfl ok_zy4fu.1 ok_zy4fu.2 (by simp [Tryz.ntmps169]) ?_
 rw [run_start]
 simp only [ac_zy4fu, go_sem, simprocAttr]
 refine (IndexFunc_Need p g he caps bs hc l hl hp).callW (enters_of Tryz.func211 rfl rfl) _ (idr bs) hc.ok hc.two hc.see ?_
 rintro d rfl
 simp only [go_sem, simprocAttr]
 simp only [retK, resD, retL, oneD, simprocAttr, Tryz.results169]
 exact ⟨_, rfl, rfl, congrArg bln (lidx_any p l)⟩

theorem ContainsFunc_Parent (p : AParent → Bool) (g : FuncId) (he : Enters Tryz.prog g) (caps : List (Nat × Nat)) (bs : List (Nat × List D)) (hc : Cl bs caps) (l : List AParent) (hl : l.length ≤ 1000000)
 (hp : ∀ x ∈ l, PureB Tryz.prog g (AParent.d x :: capD caps) bs (fun d => d = bln (p x))) :
 PureB Tryz.prog 132 [.pd (.slice (rows AParent.pd l)), .fn g caps] bs (fun d => d = bln (l.any p)) := by
 refine pureB_of_run follows an_zic3s Tryz.func132 rfl ok_zic3s.1 ok_zic3s.2 (by simp [Tryz.ntmps132]) ?_
 rw [run_start]
 simp only [ac_zic3s, go_sem, simprocAttr]
 refine (IndexFunc_Parent p g he caps bs hc l hl hp).callW (enters_of Tryz.func172 rfl rfl) _ (idr bs) hc.ok hc.two hc.see ?_
 rintro d rfl
 simp only [go_sem, simprocAttr]
 simp only [retK, resD, retL, oneD, simprocAttr, Tryz.results132]
 exact ⟨_, rfl, rfl, congrArg bln (lidx_any p l)⟩

theorem ContainsFunc_string (p : ByteArray → Bool) (g : FuncId) (he : Enters Tryz.prog g) (caps : List (Nat × Nat)) (bs : List (Nat × List D)) (hc : Cl bs caps) (l : List ByteArray) (hl : l.length ≤ 1000000)
 (hp : ∀ x ∈ l, PureB Tryz.prog g (str x :: capD caps) bs (fun d => d = bln (p x))) :
 PureB Tryz.prog 134 [.pd (.slice (rows cStr l)), .fn g caps] bs (fun d => d = bln (l.any p)) := by
 refine pureB_of_run follows an_zyx5 Tryz.func134 rfl ok_zyx5.1 ok_zyx5.2 (by simp [Tryz.ntmps134]) ?_
 rw [run_start]
 simp only [ac_zyx5, go_sem, simprocAttr]
 refine (IndexFunc_string p g he caps bs hc l hl hp).callW (enters_of Tryz.func173 rfl rfl) _ (idr bs) hc.ok hc.two hc.see ?_
 rintro d rfl
 simp only [go_sem, simprocAttr]
 simp only [retK, resD, retL, oneD, simprocAttr, Tryz.results134]
 exact ⟨_, rfl, rfl, congrArg bln (lidx_any p l)⟩

theorem ContainsFunc_Rule (p : ARule → Bool) (g : FuncId) (he : Enters Tryz.prog g) (caps : List (Nat × Nat)) (bs : List (Nat × List D)) (hc : Cl bs caps) (l : List ARule) (hl : l.length ≤ 1000000)
 (hp : ∀ x ∈ l, PureB Tryz.prog g (ARule.d x :: capD caps) bs (fun d => d = bln (p x))) :
 PureB Tryz.prog 139 [.pd (.slice (rows ARule.pd l)), .fn g caps] bs (fun d => d = bln (l.any p)) := by
 refine pureB_of_run follows an_zwd90 Tryz.func139 rfl ok_zwd90.1 ok_zwd90.2 (by simp [Tryz.ntmps139]) ?_
 rw [run_start]
 simp only [ac_zwd90, go_sem, simprocAttr]
 refine (IndexFunc_Rule p g he caps bs hc l hl hp).callW (enters_of Tryz.func175 rfl rfl) _ (idr bs) hc.ok hc.two hc.see ?_
 rintro d rfl
 simp only [go_sem, simprocAttr]
 simp only [retK, resD, retL, oneD, simprocAttr, Tryz.results139]
 exact ⟨_, rfl, rfl, congrArg bln (lidx_any p l)⟩

theorem ContainsFunc_Match (p : AMatch → Bool) (g : FuncId) (he : Enters Tryz.prog g) (caps : List (Nat × Nat)) (bs : List (Nat × List D)) (hc : Cl bs caps) (l : List AMatch) (hl : l.length ≤ 1000000)
 (hp : ∀ x ∈ l, PureB Tryz.prog g (AMatch.d x :: capD caps) bs (fun d => d = bln (p x))) :
 PureB Tryz.prog 176 [.pd (.slice (rows AMatch.pd l)), .fn g caps] bs (fun d => d = bln (l.any p)) := by
 refine pureB_of_run follows an_zmyh8 Tryz.func176 rfl ok_zmyh8.1 ok_zmyh8.2 (by simp [Tryz.ntmps176]) ?_
 rw [run_start]
 simp only [ac_zmyh8, go_sem, simprocAttr]
 refine (IndexFunc_Match p g he caps bs hc l hl hp).callW (enters_of Tryz.func214 rfl rfl) _ (idr bs) hc.ok hc.two hc.see ?_
 rintro d rfl
 simp only [go_sem, simprocAttr]
 simp only [retK, resD, retL, oneD, simprocAttr, Tryz.results176]
 exact ⟨_, rfl, rfl, congrArg bln (lidx_any p l)⟩

theorem ContainsFunc_Pair (p : APair → Bool) (g : FuncId) (he : Enters Tryz.prog g) (caps : List (Nat × Nat)) (bs : List (Nat × List D)) (hc : Cl bs caps) (l : List APair) (hl : l.length ≤ 1000000)
 (hp : ∀ x ∈ l, PureB Tryz.prog g (APair.d x :: capD caps) bs (fun d => d = bln (p x))) :
 PureB Tryz.prog 183 [.pd (.slice (rows APair.pd l)), .fn g caps] bs (fun d => d = bln (l.any p)) := by
 refine pureB_of_run follows an_zr7hm Tryz.func183 rfl ok_zr7hm.1 ok_zr7hm.2 (by simp [Tryz.ntmps183]) ?_
 rw [run_start]
 simp only [ac_zr7hm, go_sem, simprocAttr]
 refine (IndexFunc_Pair p g he caps bs hc l hl hp).callW (enters_of Tryz.func220 rfl rfl) _ (idr bs) hc.ok hc.two hc.see ?_
 rintro d rfl
 simp only [go_sem, simprocAttr]
 simp only [retK, resD, retL, oneD, simprocAttr, Tryz.results183]
 exact ⟨_, rfl, rfl, congrArg bln (lidx_any p l)⟩

theorem ContainsFunc_Filter (p : AFilter → Bool) (g : FuncId) (he : Enters Tryz.prog g) (caps : List (Nat × Nat)) (bs : List (Nat × List D)) (hc : Cl bs caps) (l : List AFilter) (hl : l.length ≤ 1000000)
 (hp : ∀ x ∈ l, PureB Tryz.prog g (AFilter.d x :: capD caps) bs (fun d => d = bln (p x))) :
 PureB Tryz.prog 191 [.pd (.slice (rows AFilter.pd l)), .fn g caps] bs (fun d => d = bln (l.any p)) := by
 refine pureB_of_run follows an_zi3lv Tryz.func191 rfl ok_zi3lv.1 ok_zi3lv.2 (by simp [Tryz.ntmps191]) ?_
 rw [run_start]
 simp only [ac_zi3lv, go_sem, simprocAttr]
 refine (IndexFunc_Filter p g he caps bs hc l hl hp).callW (enters_of Tryz.func224 rfl rfl) _ (idr bs) hc.ok hc.two hc.see ?_
 rintro d rfl
 simp only [go_sem, simprocAttr]
 simp only [retK, resD, retL, oneD, simprocAttr, Tryz.results191]
 exact ⟨_, rfl, rfl, congrArg bln (lidx_any p l)⟩

theorem ContainsFunc_Backend (p : ABackend → Bool) (g : FuncId) (he : Enters Tryz.prog g) (caps : List (Nat × Nat)) (bs : List (Nat × List D)) (hc : Cl bs caps) (l : List ABackend) (hl : l.length ≤ 1000000)
 (hp : ∀ x ∈ l, PureB Tryz.prog g (ABackend.d x :: capD caps) bs (fun d => d = bln (p x))) :
 PureB Tryz.prog 192 [.pd (.slice (rows ABackend.pd l)), .fn g caps] bs (fun d => d = bln (l.any p)) := by
 refine pureB_of_run follows an_z7rwg Tryz.func192 rfl ok_z7rwg.1 ok_z7rwg.2 (by simp [Tryz.ntmps192]) ?_
 rw [run_start]
 simp only [ac_z7rwg, go_sem, simprocAttr]
 refine (IndexFunc_Backend p g he caps bs hc l hl hp).callW (enters_of Tryz.func225 rfl rfl) _ (idr bs) hc.ok hc.two hc.see ?_
 rintro d rfl
 simp only [go_sem, simprocAttr]
 simp only [retK, resD, retL, oneD, simprocAttr, Tryz.results192]
 exact ⟨_, rfl, rfl, congrArg bln (lidx_any p l)⟩

theorem ContainsP_Need (p : ANeed → Bool) (f : FuncId) (he : Enters Tryz.prog f) (l : List ANeed) (hl : l.length ≤ 1000000) (hp : ∀ x ∈ l, Pure Tryz.prog f [ANeed.d x] (fun d => d = bln (p x))) :
 Pure Tryz.prog 169 [.pd (.slice (rows ANeed.pd l)), .fn f []] (fun d => d = bln (l.any p)) :=
 (ContainsFunc_Need p f he [] [] (Cl.of rfl rfl rfl rfl rfl) l hl (fun x hx => (hp x hx).pureB rfl)).pure

theorem ContainsP_string (p : ByteArray → Bool) (f : FuncId) (he : Enters Tryz.prog f) (l : List ByteArray) (hl : l.length ≤ 1000000) (hp : ∀ x ∈ l, Pure Tryz.prog f [str x] (fun d => d = bln (p x))) :
 Pure Tryz.prog 134 [.pd (.slice (rows cStr l)), .fn f []] (fun d => d = bln (l.any p)) :=
 (ContainsFunc_string p f he [] [] (Cl.of rfl rfl rfl rfl rfl) l hl (fun x hx => (hp x hx).pureB rfl)).pure

theorem ContainsP_Pair (p : APair → Bool) (f : FuncId) (he : Enters Tryz.prog f) (l : List APair) (hl : l.length ≤ 1000000) (hp : ∀ x ∈ l, Pure Tryz.prog f [APair.d x] (fun d => d = bln (p x))) :
 Pure Tryz.prog 183 [.pd (.slice (rows APair.pd l)), .fn f []] (fun d => d = bln (l.any p)) :=
 (ContainsFunc_Pair p f he [] [] (Cl.of rfl rfl rfl rfl rfl) l hl (fun x hx => (hp x hx).pureB rfl)).pure


theorem every_int_1 (p : Int → Bool) (f : FuncId) (he : Enters Tryz.prog f) (x : Int) (hp : Pure Tryz.prog f [int x] (fun d => d = bln (p x))) :
 PureB Tryz.prog 124 [int x, .ptr 1000001 0] [(1000001, [.fn f []])] (fun d => d = bln (!p x)) := by
 refine pureB_of_run follows an_zkvy2 Tryz.func124 rfl ok_zkvy2.1 ok_zkvy2.2 (by simp [Tryz.ntmps124]) ?_
 rw [run_start]
 simp only [ac_zkvy2, go_sem, simprocAttr]
 refine hp.callW he _ rfl rfl ?_
 rintro d rfl
 simp only [go_sem, simprocAttr]
 simp only [retK, resD, retL, oneD, simprocAttr, Tryz.results124]
 exact ⟨_, rfl, rfl, rfl⟩

theorem every_int (p : Int → Bool) (f : FuncId) (he : Enters Tryz.prog f) (l : List Int) (hl : l.length ≤ 1000000) (n : Int) (hp : ∀ x ∈ l, Pure Tryz.prog f [int x] (fun d => d = bln (p x))) :
 Pure Tryz.prog 77 [.pd (.slice (rows cInt l)), int n, .fn f []] (fun d => d = bln (every p l n)) := by
 refine pure_of_run follows an_z5yno Tryz.func77 rfl ok_z5yno.1 ok_z5yno.2 (by simp [Tryz.ntmps77]) ?_
 rw [run_start]
 simp only [ac_z5yno, go_sem, simprocAttr]
 refine GifP.mk (fun h => ?_) (fun h => ?_)
 ·refine (ContainsFunc_int (fun x => !p x) 124 (enters_of Tryz.func124 rfl rfl) [(1000001, 0)] [(1000001, [.fn f []])] (Cl.of rfl rfl rfl rfl rfl) l hl (fun x hx => every_int_1 p f he x (hp x hx))).callW (enters_of Tryz.func123 rfl rfl) _ [(5, 1000001)] rfl rfl rfl ?_
  rintro d rfl
  simp only [go_sem, simprocAttr]
  simp only [retK, resD, retL, oneD, simprocAttr, Tryz.results77]
  exact ⟨_, rfl, rfl, congrArg bln (by simp [every, h, List.all_eq_not_any_not])⟩
 ·simp only [retK, resD, retL, oneD, simprocAttr, Tryz.results77]
  exact ⟨_, rfl, rfl, congrArg bln (by simp [every, h])⟩

theorem every_Listener_1 (p : AListener → Bool) (f : FuncId) (he : Enters Tryz.prog f) (x : AListener) (hp : Pure Tryz.prog f [AListener.d x] (fun d => d = bln (p x))) :
 PureB Tryz.prog 128 [AListener.d x, .ptr 1000001 0] [(1000001, [.fn f []])] (fun d => d = bln (!p x)) := by
 refine pureB_of_run follows an_zir97 Tryz.func128 rfl ok_zir97.1 ok_zir97.2 (by simp [Tryz.ntmps128]) ?_
 rw [run_start]
 simp only [ac_zir97, go_sem, simprocAttr]
 refine hp.callW he _ rfl rfl ?_
 rintro d rfl
 simp only [go_sem, simprocAttr]
 simp only [retK, resD, retL, oneD, simprocAttr, Tryz.results128]
 exact ⟨_, rfl, rfl, rfl⟩

theorem every_Listener (p : AListener → Bool) (f : FuncId) (he : Enters Tryz.prog f) (l : List AListener) (hl : l.length ≤ 1000000) (n : Int) (hp : ∀ x ∈ l, Pure Tryz.prog f [AListener.d x] (fun d => d = bln (p x))) :
 Pure Tryz.prog 83 [.pd (.slice (rows AListener.pd l)), int n, .fn f []] (fun d => d = bln (every p l n)) := by
 refine pure_of_run follows an_zpo9w Tryz.func83 rfl ok_zpo9w.1 ok_zpo9w.2 (by simp [Tryz.ntmps83]) ?_
 rw [run_start]
 simp only [ac_zpo9w, go_sem, simprocAttr]
 refine GifP.mk (fun h => ?_) (fun h => ?_)
 ·refine (ContainsFunc_Listener (fun x => !p x) 128 (enters_of Tryz.func128 rfl rfl) [(1000001, 0)] [(1000001, [.fn f []])] (Cl.of rfl rfl rfl rfl rfl) l hl (fun x hx => every_Listener_1 p f he x (hp x hx))).callW (enters_of Tryz.func127 rfl rfl) _ [(5, 1000001)] rfl rfl rfl ?_
  rintro d rfl
  simp only [go_sem, simprocAttr]
  simp only [retK, resD, retL, oneD, simprocAttr, Tryz.results83]
  exact ⟨_, rfl, rfl, congrArg bln (by simp [every, h, List.all_eq_not_any_not])⟩
 ·simp only [retK, resD, retL, oneD, simprocAttr, Tryz.results83]
  exact ⟨_, rfl, rfl, congrArg bln (by simp [every, h])⟩

theorem every_Parent_1 (p : AParent → Bool) (f : FuncId) (he : Enters Tryz.prog f) (x : AParent) (hp : Pure Tryz.prog f [AParent.d x] (fun d => d = bln (p x))) :
 PureB Tryz.prog 137 [AParent.d x, .ptr 1000001 0] [(1000001, [.fn f []])] (fun d => d = bln (!p x)) := by
 refine pureB_of_run follows an_z31hg Tryz.func137 rfl ok_z31hg.1 ok_z31hg.2 (by simp [Tryz.ntmps137]) ?_
 rw [run_start]
 simp only [ac_z31hg, go_sem, simprocAttr]
 refine hp.callW he _ rfl rfl ?_
 rintro d rfl
 simp only [go_sem, simprocAttr]
 simp only [retK, resD, retL, oneD, simprocAttr, Tryz.results137]
 exact ⟨_, rfl, rfl, rfl⟩

theorem every_Parent (p : AParent → Bool) (f : FuncId) (he : Enters Tryz.prog f) (l : List AParent) (hl : l.length ≤ 1000000) (n : Int) (hp : ∀ x ∈ l, Pure Tryz.prog f [AParent.d x] (fun d => d = bln (p x))) :
 Pure Tryz.prog 92 [.pd (.slice (rows AParent.pd l)), int n, .fn f []] (fun d => d = bln (every p l n)) := by
 refine pure_of_run follows an_zblzf Tryz.func92 rfl ok_zblzf.1 ok_zblzf.2 (by simp [Tryz.ntmps92]) ?_
 rw [run_start]
 simp only [ac_zblzf, go_sem, simprocAttr]
 refine GifP.mk (fun h => ?_) (fun h => ?_)
 ·refine (ContainsFunc_Parent (fun x => !p x) 137 (enters_of Tryz.func137 rfl rfl) [(1000001, 0)] [(1000001, [.fn f []])] (Cl.of rfl rfl rfl rfl rfl) l hl (fun x hx => every_Parent_1 p f he x (hp x hx))).callW (enters_of Tryz.func132 rfl rfl) _ [(5, 1000001)] rfl rfl rfl ?_
  rintro d rfl
  simp only [go_sem, simprocAttr]
  simp only [retK, resD, retL, oneD, simprocAttr, Tryz.results92]
  exact ⟨_, rfl, rfl, congrArg bln (by simp [every, h, List.all_eq_not_any_not])⟩
 ·simp only [retK, resD, retL, oneD, simprocAttr, Tryz.results92]
  exact ⟨_, rfl, rfl, congrArg bln (by simp [every, h])⟩

theorem every_string_1 (p : ByteArray → Bool) (f : FuncId) (he : Enters Tryz.prog f) (x : ByteArray) (hp : Pure Tryz.prog f [str x] (fun d => d = bln (p x))) :
 PureB Tryz.prog 138 [str x, .ptr 1000001 0] [(1000001, [.fn f []])] (fun d => d = bln (!p x)) := by
 refine pureB_of_run follows an_z1wya Tryz.func138 rfl ok_z1wya.1 ok_z1wya.2 (by simp [Tryz.ntmps138]) ?_
 rw [run_start]
 simp only [ac_z1wya, go_sem, simprocAttr]
 refine hp.callW he _ rfl rfl ?_
 rintro d rfl
 simp only [go_sem, simprocAttr]
 simp only [retK, resD, retL, oneD, simprocAttr, Tryz.results138]
 exact ⟨_, rfl, rfl, rfl⟩

theorem every_string (p : ByteArray → Bool) (f : FuncId) (he : Enters Tryz.prog f) (l : List ByteArray) (hl : l.length ≤ 1000000) (n : Int) (hp : ∀ x ∈ l, Pure Tryz.prog f [str x] (fun d => d = bln (p x))) :
 Pure Tryz.prog 94 [.pd (.slice (rows cStr l)), int n, .fn f []] (fun d => d = bln (every p l n)) := by
 refine pure_of_run follows an_zch4 Tryz.func94 rfl ok_zch4.1 ok_zch4.2 (by simp [Tryz.ntmps94]) ?_
 rw [run_start]
 simp only [ac_zch4, go_sem, simprocAttr]
 refine GifP.mk (fun h => ?_) (fun h => ?_)
 ·refine (ContainsFunc_string (fun x => !p x) 138 (enters_of Tryz.func138 rfl rfl) [(1000001, 0)] [(1000001, [.fn f []])] (Cl.of rfl rfl rfl rfl rfl) l hl (fun x hx => every_string_1 p f he x (hp x hx))).callW (enters_of Tryz.func134 rfl rfl) _ [(5, 1000001)] rfl rfl rfl ?_
  rintro d rfl
  simp only [go_sem, simprocAttr]
  simp only [retK, resD, retL, oneD, simprocAttr, Tryz.results94]
  exact ⟨_, rfl, rfl, congrArg bln (by simp [every, h, List.all_eq_not_any_not])⟩
 ·simp only [retK, resD, retL, oneD, simprocAttr, Tryz.results94]
  exact ⟨_, rfl, rfl, congrArg bln (by simp [every, h])⟩

theorem every_Rule_1 (p : ARule → Bool) (f : FuncId) (he : Enters Tryz.prog f) (x : ARule) (hp : Pure Tryz.prog f [ARule.d x] (fun d => d = bln (p x))) :
 PureB Tryz.prog 140 [ARule.d x, .ptr 1000001 0] [(1000001, [.fn f []])] (fun d => d = bln (!p x)) := by
 refine pureB_of_run follows an_z8keb Tryz.func140 rfl ok_z8keb.1 ok_z8keb.2 (by simp [Tryz.ntmps140]) ?_
 rw [run_start]
 simp only [ac_z8keb, go_sem, simprocAttr]
 refine hp.callW he _ rfl rfl ?_
 rintro d rfl
 simp only [go_sem, simprocAttr]
 simp only [retK, resD, retL, oneD, simprocAttr, Tryz.results140]
 exact ⟨_, rfl, rfl, rfl⟩

theorem every_Rule (p : ARule → Bool) (f : FuncId) (he : Enters Tryz.prog f) (l : List ARule) (hl : l.length ≤ 1000000) (n : Int) (hp : ∀ x ∈ l, Pure Tryz.prog f [ARule.d x] (fun d => d = bln (p x))) :
 Pure Tryz.prog 95 [.pd (.slice (rows ARule.pd l)), int n, .fn f []] (fun d => d = bln (every p l n)) := by
 refine pure_of_run follows an_z2qr7 Tryz.func95 rfl ok_z2qr7.1 ok_z2qr7.2 (by simp [Tryz.ntmps95]) ?_
 rw [run_start]
 simp only [ac_z2qr7, go_sem, simprocAttr]
 refine GifP.mk (fun h => ?_) (fun h => ?_)
 ·refine (ContainsFunc_Rule (fun x => !p x) 140 (enters_of Tryz.func140 rfl rfl) [(1000001, 0)] [(1000001, [.fn f []])] (Cl.of rfl rfl rfl rfl rfl) l hl (fun x hx => every_Rule_1 p f he x (hp x hx))).callW (enters_of Tryz.func139 rfl rfl) _ [(5, 1000001)] rfl rfl rfl ?_
  rintro d rfl
  simp only [go_sem, simprocAttr]
  simp only [retK, resD, retL, oneD, simprocAttr, Tryz.results95]
  exact ⟨_, rfl, rfl, congrArg bln (by simp [every, h, List.all_eq_not_any_not])⟩
 ·simp only [retK, resD, retL, oneD, simprocAttr, Tryz.results95]
  exact ⟨_, rfl, rfl, congrArg bln (by simp [every, h])⟩

theorem every_Side_1 (p : ASide → Bool) (f : FuncId) (he : Enters Tryz.prog f) (x : ASide) (hp : Pure Tryz.prog f [ASide.d x] (fun d => d = bln (p x))) :
 PureB Tryz.prog 147 [ASide.d x, .ptr 1000001 0] [(1000001, [.fn f []])] (fun d => d = bln (!p x)) := by
 refine pureB_of_run follows an_z7q8a Tryz.func147 rfl ok_z7q8a.1 ok_z7q8a.2 (by simp [Tryz.ntmps147]) ?_
 rw [run_start]
 simp only [ac_z7q8a, go_sem, simprocAttr]
 refine hp.callW he _ rfl rfl ?_
 rintro d rfl
 simp only [go_sem, simprocAttr]
 simp only [retK, resD, retL, oneD, simprocAttr, Tryz.results147]
 exact ⟨_, rfl, rfl, rfl⟩

theorem every_Side (p : ASide → Bool) (f : FuncId) (he : Enters Tryz.prog f) (l : List ASide) (hl : l.length ≤ 1000000) (n : Int) (hp : ∀ x ∈ l, Pure Tryz.prog f [ASide.d x] (fun d => d = bln (p x))) :
 Pure Tryz.prog 99 [.pd (.slice (rows ASide.pd l)), int n, .fn f []] (fun d => d = bln (every p l n)) := by
 refine pure_of_run follows an_zqdfu Tryz.func99 rfl ok_zqdfu.1 ok_zqdfu.2 (by simp [Tryz.ntmps99]) ?_
 rw [run_start]
 simp only [ac_zqdfu, go_sem, simprocAttr]
 refine GifP.mk (fun h => ?_) (fun h => ?_)
 ·refine (ContainsFunc_Side (fun x => !p x) 147 (enters_of Tryz.func147 rfl rfl) [(1000001, 0)] [(1000001, [.fn f []])] (Cl.of rfl rfl rfl rfl rfl) l hl (fun x hx => every_Side_1 p f he x (hp x hx))).callW (enters_of Tryz.func146 rfl rfl) _ [(5, 1000001)] rfl rfl rfl ?_
  rintro d rfl
  simp only [go_sem, simprocAttr]
  simp only [retK, resD, retL, oneD, simprocAttr, Tryz.results99]
  exact ⟨_, rfl, rfl, congrArg bln (by simp [every, h, List.all_eq_not_any_not])⟩
 ·simp only [retK, resD, retL, oneD, simprocAttr, Tryz.results99]
  exact ⟨_, rfl, rfl, congrArg bln (by simp [every, h])⟩

theorem every_Match_1 (p : AMatch → Bool) (f : FuncId) (he : Enters Tryz.prog f) (x : AMatch) (hp : Pure Tryz.prog f [AMatch.d x] (fun d => d = bln (p x))) :
 PureB Tryz.prog 177 [AMatch.d x, .ptr 1000001 0] [(1000001, [.fn f []])] (fun d => d = bln (!p x)) := by
 refine pureB_of_run follows an_z7wca Tryz.func177 rfl ok_z7wca.1 ok_z7wca.2 (by simp [Tryz.ntmps177]) ?_
 rw [run_start]
 simp only [ac_z7wca, go_sem, simprocAttr]
 refine hp.callW he _ rfl rfl ?_
 rintro d rfl
 simp only [go_sem, simprocAttr]
 simp only [retK, resD, retL, oneD, simprocAttr, Tryz.results177]
 exact ⟨_, rfl, rfl, rfl⟩

theorem every_Match (p : AMatch → Bool) (f : FuncId) (he : Enters Tryz.prog f) (l : List AMatch) (hl : l.length ≤ 1000000) (n : Int) (hp : ∀ x ∈ l, Pure Tryz.prog f [AMatch.d x] (fun d => d = bln (p x))) :
 Pure Tryz.prog 141 [.pd (.slice (rows AMatch.pd l)), int n, .fn f []] (fun d => d = bln (every p l n)) := by
 refine pure_of_run follows an_ziqd0 Tryz.func141 rfl ok_ziqd0.1 ok_ziqd0.2 (by simp [Tryz.ntmps141]) ?_
 rw [run_start]
 simp only [ac_ziqd0, go_sem, simprocAttr]
 refine GifP.mk (fun h => ?_) (fun h => ?_)
 ·refine (ContainsFunc_Match (fun x => !p x) 177 (enters_of Tryz.func177 rfl rfl) [(1000001, 0)] [(1000001, [.fn f []])] (Cl.of rfl rfl rfl rfl rfl) l hl (fun x hx => every_Match_1 p f he x (hp x hx))).callW (enters_of Tryz.func176 rfl rfl) _ [(5, 1000001)] rfl rfl rfl ?_
  rintro d rfl
  simp only [go_sem, simprocAttr]
  simp only [retK, resD, retL, oneD, simprocAttr, Tryz.results141]
  exact ⟨_, rfl, rfl, congrArg bln (by simp [every, h, List.all_eq_not_any_not])⟩
 ·simp only [retK, resD, retL, oneD, simprocAttr, Tryz.results141]
  exact ⟨_, rfl, rfl, congrArg bln (by simp [every, h])⟩

theorem every_Backend_1 (p : ABackend → Bool) (f : FuncId) (he : Enters Tryz.prog f) (x : ABackend) (hp : Pure Tryz.prog f [ABackend.d x] (fun d => d = bln (p x))) :
 PureB Tryz.prog 193 [ABackend.d x, .ptr 1000001 0] [(1000001, [.fn f []])] (fun d => d = bln (!p x)) := by
 refine pureB_of_run follows an_zi55u Tryz.func193 rfl ok_zi55u.1 ok_zi55u.2 (by simp [Tryz.ntmps193]) ?_
 rw [run_start]
 simp only [ac_zi55u, go_sem, simprocAttr]
 refine hp.callW he _ rfl rfl ?_
 rintro d rfl
 simp only [go_sem, simprocAttr]
 simp only [retK, resD, retL, oneD, simprocAttr, Tryz.results193]
 exact ⟨_, rfl, rfl, rfl⟩

theorem every_Backend (p : ABackend → Bool) (f : FuncId) (he : Enters Tryz.prog f) (l : List ABackend) (hl : l.length ≤ 1000000) (n : Int) (hp : ∀ x ∈ l, Pure Tryz.prog f [ABackend.d x] (fun d => d = bln (p x))) :
 Pure Tryz.prog 144 [.pd (.slice (rows ABackend.pd l)), int n, .fn f []] (fun d => d = bln (every p l n)) := by
 refine pure_of_run follows an_zb5o4 Tryz.func144 rfl ok_zb5o4.1 ok_zb5o4.2 (by simp [Tryz.ntmps144]) ?_
 rw [run_start]
 simp only [ac_zb5o4, go_sem, simprocAttr]
 refine GifP.mk (fun h => ?_) (fun h => ?_)
 ·refine (ContainsFunc_Backend (fun x => !p x) 193 (enters_of Tryz.func193 rfl rfl) [(1000001, 0)] [(1000001, [.fn f []])] (Cl.of rfl rfl rfl rfl rfl) l hl (fun x hx => every_Backend_1 p f he x (hp x hx))).callW (enters_of Tryz.func192 rfl rfl) _ [(5, 1000001)] rfl rfl rfl ?_
  rintro d rfl
  simp only [go_sem, simprocAttr]
  simp only [retK, resD, retL, oneD, simprocAttr, Tryz.results144]
  exact ⟨_, rfl, rfl, congrArg bln (by simp [every, h, List.all_eq_not_any_not])⟩
 ·simp only [retK, resD, retL, oneD, simprocAttr, Tryz.results144]
  exact ⟨_, rfl, rfl, congrArg bln (by simp [every, h])⟩

theorem twice_int_1 (q : Int → Int → Bool) (f : FuncId) (he : Enters Tryz.prog f) (x y : Int) (hp : Pure Tryz.prog f [int x, int y] (fun d => d = bln (q x y))) :
 PureB Tryz.prog 126 [int y, .ptr 1000001 0, .ptr 1000002 0] [(1000001, [.fn f []]), (1000002, [int x])] (fun d => d = bln (q x y)) := by
 refine pureB_of_run follows an_zovpw Tryz.func126 rfl ok_zovpw.1 ok_zovpw.2 (by simp [Tryz.ntmps126]) ?_
 rw [run_start]
 simp only [ac_zovpw, go_sem, simprocAttr]
 refine hp.callW he _ rfl rfl ?_
 rintro d rfl
 simp only [go_sem, simprocAttr]
 simp only [retK, resD, retL, oneD, simprocAttr, Tryz.results126]
 exact ⟨_, rfl, rfl, rfl⟩

theorem twice_int (q : Int → Int → Bool) (f : FuncId) (he : Enters Tryz.prog f) (l : List Int) (hl : l.length ≤ 1000000) (hp : ∀ x ∈ l, ∀ y ∈ l, Pure Tryz.prog f [int x, int y] (fun d => d = bln (q x y))) :
 Pure Tryz.prog 80 [.pd (.slice (rows cInt l)), .fn f []] (fun d => d = bln (twice q l)) := by
 refine pure_of_run follows an_zb3kh Tryz.func80 rfl ok_zb3kh.1 ok_zb3kh.2 (by simp [Tryz.ntmps80]) ?_
 rw [run_start]
 simp only [ac_zb3kh, go_sem, simprocAttr]
 refine loopS (fun k st => ∃ i : Nat, k = l.length - i ∧ i ≤ l.length ∧ twiceFrom q l k i = twice q l ∧
  st = ⟨[(0, .pd (.slice (rows cInt l))), (3, .ptr 3 0), (7, .pd (.slice (rows cInt l))), (8, int l.length), (9, int i)], [(3, [.fn f []])], [], .no⟩) l.length _ (Weak.refl _ _) ⟨0, rfl, Nat.zero_le _, rfl, rfl⟩ ?_
 rintro k st ⟨i, rfl, hi, hr, rfl⟩
 by_cases hlt : i < l.length
 ·obtain ⟨x, hx⟩ := at_lt hlt
  have hlt' : ((i : Int) < (l.length : Int)) = True := eq_true (by omega)
  have hle : (i ≤ l.length) = True := eq_true (by omega)
  have hw := i64_succ (show i < 1000000000 by omega)
  have hmx := List.mem_of_getElem? hx
  obtain ⟨m, hm⟩ : ∃ m, l.length - i = m + 1 := ⟨l.length - i - 1, by omega⟩
  rw [hm, twiceFrom, hx] at hr
  have hrows : rowsOK 1 (rows cInt l) = True := rowsOK_rows (f := cInt) (n := 1) (fun _ => rfl) l
  have htk : (rows cInt l).take i = rows cInt (l.take i) := by simp [rows, List.map_take]
  simp only [go_sem, simprocAttr, hlt', rows_get hx, rows_len, hrows, hle, htk]
  refine (ContainsFunc_int (fun y => q x y) 126 (enters_of Tryz.func126 rfl rfl) [(1000001, 0), (1000002, 0)] [(1000001, [.fn f []]), (1000002, [int x])] (Cl.of rfl rfl rfl rfl rfl) (l.take i) (by simp; omega)
   (fun y hy => twice_int_1 q f he x y (hp x hmx y (List.mem_of_mem_take hy)))).callW (enters_of Tryz.func123 rfl rfl) _ [(3, 1000001), (6, 1000002)] rfl rfl rfl ?_
  rintro d rfl
  simp only [go_sem, simprocAttr, hw]
  refine Gif.mk (fun h => ?_) (fun h => ?_)
  ·simp only [h, Bool.true_or] at hr
   simp only [retK, resD, retL, oneD, simprocAttr, Tryz.results80]
   exact ⟨_, rfl, rfl, congrArg bln hr⟩
  ·simp only [h, Bool.false_or] at hr
   refine ⟨m, _, ?_, ?_, i + 1, ?_, ?_, hr, rfl⟩
   ·omega
   ·exact lessA
   ·omega
   ·omega
 ·have hlt' : ((i : Int) < (l.length : Int)) = False := eq_false (by omega)
  rw [show l.length - i = 0 by omega, twiceFrom] at hr
  simp only [go_sem, simprocAttr, hlt']
  simp only [retK, resD, retL, oneD, simprocAttr, Tryz.results80]
  exact ⟨_, rfl, rfl, congrArg bln hr⟩

theorem twice_Listener_1 (q : AListener → AListener → Bool) (f : FuncId) (he : Enters Tryz.prog f) (x y : AListener) (hp : Pure Tryz.prog f [AListener.d x, AListener.d y] (fun d => d = bln (q x y))) :
 PureB Tryz.prog 131 [AListener.d y, .ptr 1000001 0, .ptr 1000002 0] [(1000001, [.fn f []]), (1000002, AListener.ds x)] (fun d => d = bln (q x y)) := by
 refine pureB_of_run follows an_ztyjm Tryz.func131 rfl ok_ztyjm.1 ok_ztyjm.2 (by simp [Tryz.ntmps131]) ?_
 rw [run_start]
 simp only [ac_ztyjm, go_sem, simprocAttr]
 refine hp.callW he _ rfl rfl ?_
 rintro d rfl
 simp only [go_sem, simprocAttr]
 simp only [retK, resD, retL, oneD, simprocAttr, Tryz.results131]
 exact ⟨_, rfl, rfl, rfl⟩

theorem twice_Listener (q : AListener → AListener → Bool) (f : FuncId) (he : Enters Tryz.prog f) (l : List AListener) (hl : l.length ≤ 1000000) (hp : ∀ x ∈ l, ∀ y ∈ l, Pure Tryz.prog f [AListener.d x, AListener.d y] (fun d => d = bln (q x y))) :
 Pure Tryz.prog 85 [.pd (.slice (rows AListener.pd l)), .fn f []] (fun d => d = bln (twice q l)) := by
 refine pure_of_run follows an_zp700 Tryz.func85 rfl ok_zp700.1 ok_zp700.2 (by simp [Tryz.ntmps85]) ?_
 rw [run_start]
 simp only [ac_zp700, go_sem, simprocAttr]
 refine loopS (fun k st => ∃ i : Nat, k = l.length - i ∧ i ≤ l.length ∧ twiceFrom q l k i = twice q l ∧
  st = ⟨[(0, .pd (.slice (rows AListener.pd l))), (3, .ptr 3 0), (7, .pd (.slice (rows AListener.pd l))), (8, int l.length), (9, int i)], [(3, [.fn f []])], [], .no⟩) l.length _ (Weak.refl _ _) ⟨0, rfl, Nat.zero_le _, rfl, rfl⟩ ?_
 rintro k st ⟨i, rfl, hi, hr, rfl⟩
 by_cases hlt : i < l.length
 ·obtain ⟨x, hx⟩ := at_lt hlt
  have hlt' : ((i : Int) < (l.length : Int)) = True := eq_true (by omega)
  have hle : (i ≤ l.length) = True := eq_true (by omega)
  have hw := i64_succ (show i < 1000000000 by omega)
  have hmx := List.mem_of_getElem? hx
  obtain ⟨m, hm⟩ : ∃ m, l.length - i = m + 1 := ⟨l.length - i - 1, by omega⟩
  rw [hm, twiceFrom, hx] at hr
  have hrows : rowsOK 9 (rows AListener.pd l) = True := rowsOK_rows (f := AListener.pd) (n := 9) (fun _ => rfl) l
  have htk : (rows AListener.pd l).take i = rows AListener.pd (l.take i) := by simp [rows, List.map_take]
  simp only [go_sem, simprocAttr, hlt', rows_get hx, rows_len, hrows, hle, htk]
  refine (ContainsFunc_Listener (fun y => q x y) 131 (enters_of Tryz.func131 rfl rfl) [(1000001, 0), (1000002, 0)] [(1000001, [.fn f []]), (1000002, AListener.ds x)] (Cl.of rfl rfl rfl rfl rfl) (l.take i) (by simp; omega)
   (fun y hy => twice_Listener_1 q f he x y (hp x hmx y (List.mem_of_mem_take hy)))).callW (enters_of Tryz.func127 rfl rfl) _ [(3, 1000001), (6, 1000002)] rfl rfl rfl ?_
  rintro d rfl
  simp only [go_sem, simprocAttr, hw]
  refine Gif.mk (fun h => ?_) (fun h => ?_)
  ·simp only [h, Bool.true_or] at hr
   simp only [retK, resD, retL, oneD, simprocAttr, Tryz.results85]
   exact ⟨_, rfl, rfl, congrArg bln hr⟩
  ·simp only [h, Bool.false_or] at hr
   refine ⟨m, _, ?_, ?_, i + 1, ?_, ?_, hr, rfl⟩
   ·omega
   ·exact lessA
   ·omega
   ·omega
 ·have hlt' : ((i : Int) < (l.length : Int)) = False := eq_false (by omega)
  rw [show l.length - i = 0 by omega, twiceFrom] at hr
  simp only [go_sem, simprocAttr, hlt']
  simp only [retK, resD, retL, oneD, simprocAttr, Tryz.results85]
  exact ⟨_, rfl, rfl, congrArg bln hr⟩

theorem twice_Parent_1 (q : AParent → AParent → Bool) (f : FuncId) (he : Enters Tryz.prog f) (x y : AParent) (hp : Pure Tryz.prog f [AParent.d x, AParent.d y] (fun d => d = bln (q x y))) :
 PureB Tryz.prog 133 [AParent.d y, .ptr 1000001 0, .ptr 1000002 0] [(1000001, [.fn f []]), (1000002, AParent.ds x)] (fun d => d = bln (q x y)) := by
 refine pureB_of_run follows an_z6aq8 Tryz.func133 rfl ok_z6aq8.1 ok_z6aq8.2 (by simp [Tryz.ntmps133]) ?_
 rw [run_start]
 simp only [ac_z6aq8, go_sem, simprocAttr]
 refine hp.callW he _ rfl rfl ?_
 rintro d rfl
 simp only [go_sem, simprocAttr]
 simp only [retK, resD, retL, oneD, simprocAttr, Tryz.results133]
 exact ⟨_, rfl, rfl, rfl⟩

theorem twice_Parent (q : AParent → AParent → Bool) (f : FuncId) (he : Enters Tryz.prog f) (l : List AParent) (hl : l.length ≤ 1000000) (hp : ∀ x ∈ l, ∀ y ∈ l, Pure Tryz.prog f [AParent.d x, AParent.d y] (fun d => d = bln (q x y))) :
 Pure Tryz.prog 86 [.pd (.slice (rows AParent.pd l)), .fn f []] (fun d => d = bln (twice q l)) := by
 refine pure_of_run follows an_zo7vn Tryz.func86 rfl ok_zo7vn.1 ok_zo7vn.2 (by simp [Tryz.ntmps86]) ?_
 rw [run_start]
 simp only [ac_zo7vn, go_sem, simprocAttr]
 refine loopS (fun k st => ∃ i : Nat, k = l.length - i ∧ i ≤ l.length ∧ twiceFrom q l k i = twice q l ∧
  st = ⟨[(0, .pd (.slice (rows AParent.pd l))), (3, .ptr 3 0), (7, .pd (.slice (rows AParent.pd l))), (8, int l.length), (9, int i)], [(3, [.fn f []])], [], .no⟩) l.length _ (Weak.refl _ _) ⟨0, rfl, Nat.zero_le _, rfl, rfl⟩ ?_
 rintro k st ⟨i, rfl, hi, hr, rfl⟩
 by_cases hlt : i < l.length
 ·obtain ⟨x, hx⟩ := at_lt hlt
  have hlt' : ((i : Int) < (l.length : Int)) = True := eq_true (by omega)
  have hle : (i ≤ l.length) = True := eq_true (by omega)
  have hw := i64_succ (show i < 1000000000 by omega)
  have hmx := List.mem_of_getElem? hx
  obtain ⟨m, hm⟩ : ∃ m, l.length - i = m + 1 := ⟨l.length - i - 1, by omega⟩
  rw [hm, twiceFrom, hx] at hr
  have hrows : rowsOK 4 (rows AParent.pd l) = True := rowsOK_rows (f := AParent.pd) (n := 4) (fun _ => rfl) l
  have htk : (rows AParent.pd l).take i = rows AParent.pd (l.take i) := by simp [rows, List.map_take]
  simp only [go_sem, simprocAttr, hlt', rows_get hx, rows_len, hrows, hle, htk]
  refine (ContainsFunc_Parent (fun y => q x y) 133 (enters_of Tryz.func133 rfl rfl) [(1000001, 0), (1000002, 0)] [(1000001, [.fn f []]), (1000002, AParent.ds x)] (Cl.of rfl rfl rfl rfl rfl) (l.take i) (by simp; omega)
   (fun y hy => twice_Parent_1 q f he x y (hp x hmx y (List.mem_of_mem_take hy)))).callW (enters_of Tryz.func132 rfl rfl) _ [(3, 1000001), (6, 1000002)] rfl rfl rfl ?_
  rintro d rfl
  simp only [go_sem, simprocAttr, hw]
  refine Gif.mk (fun h => ?_) (fun h => ?_)
  ·simp only [h, Bool.true_or] at hr
   simp only [retK, resD, retL, oneD, simprocAttr, Tryz.results86]
   exact ⟨_, rfl, rfl, congrArg bln hr⟩
  ·simp only [h, Bool.false_or] at hr
   refine ⟨m, _, ?_, ?_, i + 1, ?_, ?_, hr, rfl⟩
   ·omega
   ·exact lessA
   ·omega
   ·omega
 ·have hlt' : ((i : Int) < (l.length : Int)) = False := eq_false (by omega)
  rw [show l.length - i = 0 by omega, twiceFrom] at hr
  simp only [go_sem, simprocAttr, hlt']
  simp only [retK, resD, retL, oneD, simprocAttr, Tryz.results86]
  exact ⟨_, rfl, rfl, congrArg bln hr⟩

theorem twice_string_1 (q : ByteArray → ByteArray → Bool) (f : FuncId) (he : Enters Tryz.prog f) (x y : ByteArray) (hp : Pure Tryz.prog f [str x, str y] (fun d => d = bln (q x y))) :
 PureB Tryz.prog 135 [str y, .ptr 1000001 0, .ptr 1000002 0] [(1000001, [.fn f []]), (1000002, [str x])] (fun d => d = bln (q x y)) := by
 refine pureB_of_run follows an_zwcip Tryz.func135 rfl ok_zwcip.1 ok_zwcip.2 (by simp [Tryz.ntmps135]) ?_
 rw [run_start]
 simp only [ac_zwcip, go_sem, simprocAttr]
 refine hp.callW he _ rfl rfl ?_
 rintro d rfl
 simp only [go_sem, simprocAttr]
 simp only [retK, resD, retL, oneD, simprocAttr, Tryz.results135]
 exact ⟨_, rfl, rfl, rfl⟩

theorem twice_string (q : ByteArray → ByteArray → Bool) (f : FuncId) (he : Enters Tryz.prog f) (l : List ByteArray) (hl : l.length ≤ 1000000) (hp : ∀ x ∈ l, ∀ y ∈ l, Pure Tryz.prog f [str x, str y] (fun d => d = bln (q x y))) :
 Pure Tryz.prog 88 [.pd (.slice (rows cStr l)), .fn f []] (fun d => d = bln (twice q l)) := by
 refine pure_of_run follows an_zogir Tryz.func88 rfl ok_zogir.1 ok_zogir.2 (by simp [Tryz.ntmps88]) ?_
 rw [run_start]
 simp only [ac_zogir, go_sem, simprocAttr]
 refine loopS (fun k st => ∃ i : Nat, k = l.length - i ∧ i ≤ l.length ∧ twiceFrom q l k i = twice q l ∧
  st = ⟨[(0, .pd (.slice (rows cStr l))), (3, .ptr 3 0), (7, .pd (.slice (rows cStr l))), (8, int l.length), (9, int i)], [(3, [.fn f []])], [], .no⟩) l.length _ (Weak.refl _ _) ⟨0, rfl, Nat.zero_le _, rfl, rfl⟩ ?_
 rintro k st ⟨i, rfl, hi, hr, rfl⟩
 by_cases hlt : i < l.length
 ·obtain ⟨x, hx⟩ := at_lt hlt
  have hlt' : ((i : Int) < (l.length : Int)) = True := eq_true (by omega)
  have hle : (i ≤ l.length) = True := eq_true (by omega)
  have hw := i64_succ (show i < 1000000000 by omega)
  have hmx := List.mem_of_getElem? hx
  obtain ⟨m, hm⟩ : ∃ m, l.length - i = m + 1 := ⟨l.length - i - 1, by omega⟩
  rw [hm, twiceFrom, hx] at hr
  have hrows : rowsOK 1 (rows cStr l) = True := rowsOK_rows (f := cStr) (n := 1) (fun _ => rfl) l
  have htk : (rows cStr l).take i = rows cStr (l.take i) := by simp [rows, List.map_take]
  simp only [go_sem, simprocAttr, hlt', rows_get hx, rows_len, hrows, hle, htk]
  refine (ContainsFunc_string (fun y => q x y) 135 (enters_of Tryz.func135 rfl rfl) [(1000001, 0), (1000002, 0)] [(1000001, [.fn f []]), (1000002, [str x])] (Cl.of rfl rfl rfl rfl rfl) (l.take i) (by simp; omega)
   (fun y hy => twice_string_1 q f he x y (hp x hmx y (List.mem_of_mem_take hy)))).callW (enters_of Tryz.func134 rfl rfl) _ [(3, 1000001), (6, 1000002)] rfl rfl rfl ?_
  rintro d rfl
  simp only [go_sem, simprocAttr, hw]
  refine Gif.mk (fun h => ?_) (fun h => ?_)
  ·simp only [h, Bool.true_or] at hr
   simp only [retK, resD, retL, oneD, simprocAttr, Tryz.results88]
   exact ⟨_, rfl, rfl, congrArg bln hr⟩
  ·simp only [h, Bool.false_or] at hr
   refine ⟨m, _, ?_, ?_, i + 1, ?_, ?_, hr, rfl⟩
   ·omega
   ·exact lessA
   ·omega
   ·omega
 ·have hlt' : ((i : Int) < (l.length : Int)) = False := eq_false (by omega)
  rw [show l.length - i = 0 by omega, twiceFrom] at hr
  simp only [go_sem, simprocAttr, hlt']
  simp only [retK, resD, retL, oneD, simprocAttr, Tryz.results88]
  exact ⟨_, rfl, rfl, congrArg bln hr⟩


theorem Equal_Pair (l m : List APair) (hl : l.length ≤ 1000000) (hm : m.length ≤ 1000000) :
 Pure Tryz.prog 45 [.pd (.slice (rows APair.pd l)), .pd (.slice (rows APair.pd m))] (fun d => d = bln (decide (l = m))) := by
 refine pure_of_run follows an_zfsc3 Tryz.func45 rfl ok_zfsc3.1 ok_zfsc3.2 (by simp [Tryz.ntmps45]) ?_
 rw [run_start]
 simp only [ac_zfsc3, go_sem, simprocAttr, go_sem, rows_len]
 refine GifP.mk (fun hn => ?_) (fun hn => ?_)
 rotate_left
 ·simp only [retK, resD, retL, oneD, simprocAttr, Tryz.results45]
  exact ⟨_, rfl, rfl, congrArg bln (decide_eq_false (fun h => hn (by rw [h]))).symm⟩
 have hlm : l.length = m.length := by omega
 refine loopS (fun k st => ∃ i : Nat, k = l.length - i ∧ i ≤ l.length ∧ decide (l.drop i = m.drop i) = decide (l = m) ∧
  st = ⟨[(0, .pd (.slice (rows APair.pd l))), (1, .pd (.slice (rows APair.pd m))), (12, int l.length), (13, int i)], [], [], .no⟩) l.length _ (Weak.refl _ _) ⟨0, rfl, Nat.zero_le _, rfl, rfl⟩ ?_
 rintro k st ⟨i, rfl, hi, hr, rfl⟩
 by_cases hlt : i < l.length
 ·obtain ⟨x, hx⟩ := at_lt hlt
  obtain ⟨y, hy⟩ := at_lt (show i < m.length by omega)
  have hlt' : ((i : Int) < (l.length : Int)) = True := eq_true (by omega)
  have hw := i64_succ (show i < 1000000000 by omega)
  rw [drop_at hx, drop_at hy] at hr
  simp only [go_sem, simprocAttr, go_sem, hlt', rows_get hx, rows_get hy, eqVs, eqV, eq_Pair, hw]
  refine GifP.mk (fun h => ?_) (fun h => ?_)
  ·subst h
   simp only [List.cons.injEq, true_and] at hr
   refine ⟨l.length - (i + 1), _, ?_, ?_, i + 1, rfl, ?_, hr, rfl⟩
   ·omega
   ·exact lessA
   ·omega
  ·simp only [retK, resD, retL, oneD, simprocAttr, Tryz.results45]
   rw [decide_eq_false (fun e => h (List.cons.inj e).1)] at hr
   exact ⟨_, rfl, rfl, congrArg bln hr⟩
 ·have hlt' : ((i : Int) < (l.length : Int)) = False := eq_false (by omega)
  rw [List.drop_eq_nil_of_le (by omega), List.drop_eq_nil_of_le (by omega)] at hr
  simp only [go_sem, simprocAttr, go_sem, rows_len, hlt']
  simp only [retK, resD, retL, oneD, simprocAttr, Tryz.results45]
  exact ⟨_, rfl, rfl, congrArg bln (by simpa using hr)⟩

theorem Equal_int (l m : List Int) (hl : l.length ≤ 1000000) (hm : m.length ≤ 1000000) :
 Pure Tryz.prog 46 [.pd (.slice (rows cInt l)), .pd (.slice (rows cInt m))] (fun d => d = bln (decide (l = m))) := by
 refine pure_of_run follows an_zu266 Tryz.func46 rfl ok_zu266.1 ok_zu266.2 (by simp [Tryz.ntmps46]) ?_
 rw [run_start]
 simp only [ac_zu266, go_sem, simprocAttr, go_sem, rows_len]
 refine GifP.mk (fun hn => ?_) (fun hn => ?_)
 rotate_left
 ·simp only [retK, resD, retL, oneD, simprocAttr, Tryz.results46]
  exact ⟨_, rfl, rfl, congrArg bln (decide_eq_false (fun h => hn (by rw [h]))).symm⟩
 have hlm : l.length = m.length := by omega
 refine loopS (fun k st => ∃ i : Nat, k = l.length - i ∧ i ≤ l.length ∧ decide (l.drop i = m.drop i) = decide (l = m) ∧
  st = ⟨[(0, .pd (.slice (rows cInt l))), (1, .pd (.slice (rows cInt m))), (12, int l.length), (13, int i)], [], [], .no⟩) l.length _ (Weak.refl _ _) ⟨0, rfl, Nat.zero_le _, rfl, rfl⟩ ?_
 rintro k st ⟨i, rfl, hi, hr, rfl⟩
 by_cases hlt : i < l.length
 ·obtain ⟨x, hx⟩ := at_lt hlt
  obtain ⟨y, hy⟩ := at_lt (show i < m.length by omega)
  have hlt' : ((i : Int) < (l.length : Int)) = True := eq_true (by omega)
  have hw := i64_succ (show i < 1000000000 by omega)
  rw [drop_at hx, drop_at hy] at hr
  simp only [go_sem, simprocAttr, go_sem, hlt', rows_get hx, rows_get hy, eqVs, eqV, eq_int, hw]
  refine GifP.mk (fun h => ?_) (fun h => ?_)
  ·subst h
   simp only [List.cons.injEq, true_and] at hr
   refine ⟨l.length - (i + 1), _, ?_, ?_, i + 1, rfl, ?_, hr, rfl⟩
   ·omega
   ·exact lessA
   ·omega
  ·simp only [retK, resD, retL, oneD, simprocAttr, Tryz.results46]
   rw [decide_eq_false (fun e => h (List.cons.inj e).1)] at hr
   exact ⟨_, rfl, rfl, congrArg bln hr⟩
 ·have hlt' : ((i : Int) < (l.length : Int)) = False := eq_false (by omega)
  rw [List.drop_eq_nil_of_le (by omega), List.drop_eq_nil_of_le (by omega)] at hr
  simp only [go_sem, simprocAttr, go_sem, rows_len, hlt']
  simp only [retK, resD, retL, oneD, simprocAttr, Tryz.results46]
  exact ⟨_, rfl, rfl, congrArg bln (by simpa using hr)⟩

theorem Equal_string (l m : List ByteArray) (hl : l.length ≤ 1000000) (hm : m.length ≤ 1000000) :
 Pure Tryz.prog 47 [.pd (.slice (rows cStr l)), .pd (.slice (rows cStr m))] (fun d => d = bln (decide (l = m))) := by
 refine pure_of_run follows an_zdvt9 Tryz.func47 rfl ok_zdvt9.1 ok_zdvt9.2 (by simp [Tryz.ntmps47]) ?_
 rw [run_start]
 simp only [ac_zdvt9, go_sem, simprocAttr, go_sem, rows_len]
 refine GifP.mk (fun hn => ?_) (fun hn => ?_)
 rotate_left
 ·simp only [retK, resD, retL, oneD, simprocAttr, Tryz.results47]
  exact ⟨_, rfl, rfl, congrArg bln (decide_eq_false (fun h => hn (by rw [h]))).symm⟩
 have hlm : l.length = m.length := by omega
 refine loopS (fun k st => ∃ i : Nat, k = l.length - i ∧ i ≤ l.length ∧ decide (l.drop i = m.drop i) = decide (l = m) ∧
  st = ⟨[(0, .pd (.slice (rows cStr l))), (1, .pd (.slice (rows cStr m))), (12, int l.length), (13, int i)], [], [], .no⟩) l.length _ (Weak.refl _ _) ⟨0, rfl, Nat.zero_le _, rfl, rfl⟩ ?_
 rintro k st ⟨i, rfl, hi, hr, rfl⟩
 by_cases hlt : i < l.length
 ·obtain ⟨x, hx⟩ := at_lt hlt
  obtain ⟨y, hy⟩ := at_lt (show i < m.length by omega)
  have hlt' : ((i : Int) < (l.length : Int)) = True := eq_true (by omega)
  have hw := i64_succ (show i < 1000000000 by omega)
  rw [drop_at hx, drop_at hy] at hr
  simp only [go_sem, simprocAttr, go_sem, hlt', rows_get hx, rows_get hy, eqVs, eqV, eq_string, hw]
  refine GifP.mk (fun h => ?_) (fun h => ?_)
  ·subst h
   simp only [List.cons.injEq, true_and] at hr
   refine ⟨l.length - (i + 1), _, ?_, ?_, i + 1, rfl, ?_, hr, rfl⟩
   ·omega
   ·exact lessA
   ·omega
  ·simp only [retK, resD, retL, oneD, simprocAttr, Tryz.results47]
   rw [decide_eq_false (fun e => h (List.cons.inj e).1)] at hr
   exact ⟨_, rfl, rfl, congrArg bln hr⟩
 ·have hlt' : ((i : Int) < (l.length : Int)) = False := eq_false (by omega)
  rw [List.drop_eq_nil_of_le (by omega), List.drop_eq_nil_of_le (by omega)] at hr
  simp only [go_sem, simprocAttr, go_sem, rows_len, hlt']
  simp only [retK, resD, retL, oneD, simprocAttr, Tryz.results47]
  exact ⟨_, rfl, rfl, congrArg bln (by simpa using hr)⟩

theorem Equal_Parent (l m : List AParent) (hl : l.length ≤ 1000000) (hm : m.length ≤ 1000000) :
 Pure Tryz.prog 48 [.pd (.slice (rows AParent.pd l)), .pd (.slice (rows AParent.pd m))] (fun d => d = bln (decide (l = m))) := by
 refine pure_of_run follows an_zj0mp Tryz.func48 rfl ok_zj0mp.1 ok_zj0mp.2 (by simp [Tryz.ntmps48]) ?_
 rw [run_start]
 simp only [ac_zj0mp, go_sem, simprocAttr, go_sem, rows_len]
 refine GifP.mk (fun hn => ?_) (fun hn => ?_)
 rotate_left
 ·simp only [retK, resD, retL, oneD, simprocAttr, Tryz.results48]
  exact ⟨_, rfl, rfl, congrArg bln (decide_eq_false (fun h => hn (by rw [h]))).symm⟩
 have hlm : l.length = m.length := by omega
 refine loopS (fun k st => ∃ i : Nat, k = l.length - i ∧ i ≤ l.length ∧ decide (l.drop i = m.drop i) = decide (l = m) ∧
  st = ⟨[(0, .pd (.slice (rows AParent.pd l))), (1, .pd (.slice (rows AParent.pd m))), (12, int l.length), (13, int i)], [], [], .no⟩) l.length _ (Weak.refl _ _) ⟨0, rfl, Nat.zero_le _, rfl, rfl⟩ ?_
 rintro k st ⟨i, rfl, hi, hr, rfl⟩
 by_cases hlt : i < l.length
 ·obtain ⟨x, hx⟩ := at_lt hlt
  obtain ⟨y, hy⟩ := at_lt (show i < m.length by omega)
  have hlt' : ((i : Int) < (l.length : Int)) = True := eq_true (by omega)
  have hw := i64_succ (show i < 1000000000 by omega)
  rw [drop_at hx, drop_at hy] at hr
  simp only [go_sem, simprocAttr, go_sem, hlt', rows_get hx, rows_get hy, eqVs, eqV, eq_Parent, hw]
  refine GifP.mk (fun h => ?_) (fun h => ?_)
  ·subst h
   simp only [List.cons.injEq, true_and] at hr
   refine ⟨l.length - (i + 1), _, ?_, ?_, i + 1, rfl, ?_, hr, rfl⟩
   ·omega
   ·exact lessA
   ·omega
  ·simp only [retK, resD, retL, oneD, simprocAttr, Tryz.results48]
   rw [decide_eq_false (fun e => h (List.cons.inj e).1)] at hr
   exact ⟨_, rfl, rfl, congrArg bln hr⟩
 ·have hlt' : ((i : Int) < (l.length : Int)) = False := eq_false (by omega)
  rw [List.drop_eq_nil_of_le (by omega), List.drop_eq_nil_of_le (by omega)] at hr
  simp only [go_sem, simprocAttr, go_sem, rows_len, hlt']
  simp only [retK, resD, retL, oneD, simprocAttr, Tryz.results48]
  exact ⟨_, rfl, rfl, congrArg bln (by simpa using hr)⟩

theorem Equal_Side (l m : List ASide) (hl : l.length ≤ 1000000) (hm : m.length ≤ 1000000) :
 Pure Tryz.prog 49 [.pd (.slice (rows ASide.pd l)), .pd (.slice (rows ASide.pd m))] (fun d => d = bln (decide (l = m))) := by
 refine pure_of_run follows an_zlr2h Tryz.func49 rfl ok_zlr2h.1 ok_zlr2h.2 (by simp [Tryz.ntmps49]) ?_
 rw [run_start]
 simp only [ac_zlr2h, go_sem, simprocAttr, go_sem, rows_len]
 refine GifP.mk (fun hn => ?_) (fun hn => ?_)
 rotate_left
 ·simp only [retK, resD, retL, oneD, simprocAttr, Tryz.results49]
  exact ⟨_, rfl, rfl, congrArg bln (decide_eq_false (fun h => hn (by rw [h]))).symm⟩
 have hlm : l.length = m.length := by omega
 refine loopS (fun k st => ∃ i : Nat, k = l.length - i ∧ i ≤ l.length ∧ decide (l.drop i = m.drop i) = decide (l = m) ∧
  st = ⟨[(0, .pd (.slice (rows ASide.pd l))), (1, .pd (.slice (rows ASide.pd m))), (12, int l.length), (13, int i)], [], [], .no⟩) l.length _ (Weak.refl _ _) ⟨0, rfl, Nat.zero_le _, rfl, rfl⟩ ?_
 rintro k st ⟨i, rfl, hi, hr, rfl⟩
 by_cases hlt : i < l.length
 ·obtain ⟨x, hx⟩ := at_lt hlt
  obtain ⟨y, hy⟩ := at_lt (show i < m.length by omega)
  have hlt' : ((i : Int) < (l.length : Int)) = True := eq_true (by omega)
  have hw := i64_succ (show i < 1000000000 by omega)
  rw [drop_at hx, drop_at hy] at hr
  simp only [go_sem, simprocAttr, go_sem, hlt', rows_get hx, rows_get hy, eqVs, eqV, eq_Side, hw]
  refine GifP.mk (fun h => ?_) (fun h => ?_)
  ·subst h
   simp only [List.cons.injEq, true_and] at hr
   refine ⟨l.length - (i + 1), _, ?_, ?_, i + 1, rfl, ?_, hr, rfl⟩
   ·omega
   ·exact lessA
   ·omega
  ·simp only [retK, resD, retL, oneD, simprocAttr, Tryz.results49]
   rw [decide_eq_false (fun e => h (List.cons.inj e).1)] at hr
   exact ⟨_, rfl, rfl, congrArg bln hr⟩
 ·have hlt' : ((i : Int) < (l.length : Int)) = False := eq_false (by omega)
  rw [List.drop_eq_nil_of_le (by omega), List.drop_eq_nil_of_le (by omega)] at hr
  simp only [go_sem, simprocAttr, go_sem, rows_len, hlt']
  simp only [retK, resD, retL, oneD, simprocAttr, Tryz.results49]
  exact ⟨_, rfl, rfl, congrArg bln (by simpa using hr)⟩

theorem Equal_Filter (l m : List AFilter) (hl : l.length ≤ 1000000) (hm : m.length ≤ 1000000) :
 Pure Tryz.prog 109 [.pd (.slice (rows AFilter.pd l)), .pd (.slice (rows AFilter.pd m))] (fun d => d = bln (decide (l = m))) := by
 refine pure_of_run follows an_z7uuy Tryz.func109 rfl ok_z7uuy.1 ok_z7uuy.2 (by simp [Tryz.ntmps109]) ?_
 rw [run_start]
 simp only [ac_z7uuy, go_sem, simprocAttr, go_sem, rows_len]
 refine GifP.mk (fun hn => ?_) (fun hn => ?_)
 rotate_left
 ·simp only [retK, resD, retL, oneD, simprocAttr, Tryz.results109]
  exact ⟨_, rfl, rfl, congrArg bln (decide_eq_false (fun h => hn (by rw [h]))).symm⟩
 have hlm : l.length = m.length := by omega
 refine loopS (fun k st => ∃ i : Nat, k = l.length - i ∧ i ≤ l.length ∧ decide (l.drop i = m.drop i) = decide (l = m) ∧
  st = ⟨[(0, .pd (.slice (rows AFilter.pd l))), (1, .pd (.slice (rows AFilter.pd m))), (12, int l.length), (13, int i)], [], [], .no⟩) l.length _ (Weak.refl _ _) ⟨0, rfl, Nat.zero_le _, rfl, rfl⟩ ?_
 rintro k st ⟨i, rfl, hi, hr, rfl⟩
 by_cases hlt : i < l.length
 ·obtain ⟨x, hx⟩ := at_lt hlt
  obtain ⟨y, hy⟩ := at_lt (show i < m.length by omega)
  have hlt' : ((i : Int) < (l.length : Int)) = True := eq_true (by omega)
  have hw := i64_succ (show i < 1000000000 by omega)
  rw [drop_at hx, drop_at hy] at hr
  simp only [go_sem, simprocAttr, go_sem, hlt', rows_get hx, rows_get hy, eqVs, eqV, eq_Filter, hw]
  refine GifP.mk (fun h => ?_) (fun h => ?_)
  ·subst h
   simp only [List.cons.injEq, true_and] at hr
   refine ⟨l.length - (i + 1), _, ?_, ?_, i + 1, rfl, ?_, hr, rfl⟩
   ·omega
   ·exact lessA
   ·omega
  ·simp only [retK, resD, retL, oneD, simprocAttr, Tryz.results109]
   rw [decide_eq_false (fun e => h (List.cons.inj e).1)] at hr
   exact ⟨_, rfl, rfl, congrArg bln hr⟩
 ·have hlt' : ((i : Int) < (l.length : Int)) = False := eq_false (by omega)
  rw [List.drop_eq_nil_of_le (by omega), List.drop_eq_nil_of_le (by omega)] at hr
  simp only [go_sem, simprocAttr, go_sem, rows_len, hlt']
  simp only [retK, resD, retL, oneD, simprocAttr, Tryz.results109]
  exact ⟨_, rfl, rfl, congrArg bln (by simpa using hr)⟩

theorem Equal_Backend (l m : List ABackend) (hl : l.length ≤ 1000000) (hm : m.length ≤ 1000000) :
 Pure Tryz.prog 110 [.pd (.slice (rows ABackend.pd l)), .pd (.slice (rows ABackend.pd m))] (fun d => d = bln (decide (l = m))) := by
 refine pure_of_run follows an_ztr0f Tryz.func110 rfl ok_ztr0f.1 ok_ztr0f.2 (by simp [Tryz.ntmps110]) ?_
 rw [run_start]
 simp only [ac_ztr0f, go_sem, simprocAttr, go_sem, rows_len]
 refine GifP.mk (fun hn => ?_) (fun hn => ?_)
 rotate_left
 ·simp only [retK, resD, retL, oneD, simprocAttr, Tryz.results110]
  exact ⟨_, rfl, rfl, congrArg bln (decide_eq_false (fun h => hn (by rw [h]))).symm⟩
 have hlm : l.length = m.length := by omega
 refine loopS (fun k st => ∃ i : Nat, k = l.length - i ∧ i ≤ l.length ∧ decide (l.drop i = m.drop i) = decide (l = m) ∧
  st = ⟨[(0, .pd (.slice (rows ABackend.pd l))), (1, .pd (.slice (rows ABackend.pd m))), (12, int l.length), (13, int i)], [], [], .no⟩) l.length _ (Weak.refl _ _) ⟨0, rfl, Nat.zero_le _, rfl, rfl⟩ ?_
 rintro k st ⟨i, rfl, hi, hr, rfl⟩
 by_cases hlt : i < l.length
 ·obtain ⟨x, hx⟩ := at_lt hlt
  obtain ⟨y, hy⟩ := at_lt (show i < m.length by omega)
  have hlt' : ((i : Int) < (l.length : Int)) = True := eq_true (by omega)
  have hw := i64_succ (show i < 1000000000 by omega)
  rw [drop_at hx, drop_at hy] at hr
  simp only [go_sem, simprocAttr, go_sem, hlt', rows_get hx, rows_get hy, eqVs, eqV, eq_Backend, hw]
  refine GifP.mk (fun h => ?_) (fun h => ?_)
  ·subst h
   simp only [List.cons.injEq, true_and] at hr
   refine ⟨l.length - (i + 1), _, ?_, ?_, i + 1, rfl, ?_, hr, rfl⟩
   ·omega
   ·exact lessA
   ·omega
  ·simp only [retK, resD, retL, oneD, simprocAttr, Tryz.results110]
   rw [decide_eq_false (fun e => h (List.cons.inj e).1)] at hr
   exact ⟨_, rfl, rfl, congrArg bln hr⟩
 ·have hlt' : ((i : Int) < (l.length : Int)) = False := eq_false (by omega)
  rw [List.drop_eq_nil_of_le (by omega), List.drop_eq_nil_of_le (by omega)] at hr
  simp only [go_sem, simprocAttr, go_sem, rows_len, hlt']
  simp only [retK, resD, retL, oneD, simprocAttr, Tryz.results110]
  exact ⟨_, rfl, rfl, congrArg bln (by simpa using hr)⟩

theorem EqualFunc_Listener (q : AListener → AListener → Bool) (f : FuncId) (he : Enters Tryz.prog f) (l m : List AListener) (hl : l.length ≤ 1000000) (hm : m.length ≤ 1000000) (hp : ∀ x ∈ l, ∀ y ∈ m, Pure Tryz.prog f [AListener.d x, AListener.d y] (fun d => d = bln (q x y))) :
 Pure Tryz.prog 50 [.pd (.slice (rows AListener.pd l)), .pd (.slice (rows AListener.pd m)), .fn f []] (fun d => d = bln (eqf q l m)) := by
 refine pure_of_run follows an_zuyoe Tryz.func50 rfl ok_zuyoe.1 ok_zuyoe.2 (by simp [Tryz.ntmps50]) ?_
 rw [run_start]
 simp only [ac_zuyoe, go_sem, simprocAttr]
 refine GifP.mk (fun hn => ?_) (fun hn => ?_)
 rotate_left
 ·simp only [retK, resD, retL, oneD, simprocAttr, Tryz.results50]
  exact ⟨_, rfl, rfl, congrArg bln (eqf_len q (by omega)).symm⟩
 have hlm : l.length = m.length := by omega
 refine loopS (fun k st => ∃ i : Nat, k = l.length - i ∧ i ≤ l.length ∧ eqf q (l.drop i) (m.drop i) = eqf q l m ∧
  st = ⟨[(1, .pd (.slice (rows AListener.pd m))), (2, .fn f []), (15, .pd (.slice (rows AListener.pd l))), (16, int l.length), (17, int i)], [], [], .no⟩) l.length _ (Weak.refl _ _) ⟨0, rfl, Nat.zero_le _, rfl, rfl⟩ ?_
 rintro k st ⟨i, rfl, hi, hr, rfl⟩
 by_cases hlt : i < l.length
 ·obtain ⟨x, hx⟩ := at_lt hlt
  obtain ⟨y, hy⟩ := at_lt (show i < m.length by omega)
  have hlt' : ((i : Int) < (l.length : Int)) = True := eq_true (by omega)
  have hw := i64_succ (show i < 1000000000 by omega)
  rw [drop_at hx, drop_at hy, eqf] at hr
  simp only [go_sem, simprocAttr, hlt', rows_get hx, rows_get hy, hw]
  refine (hp x (List.mem_of_getElem? hx) y (List.mem_of_getElem? hy)).callW he _ rfl rfl ?_
  rintro d rfl
  simp only [go_sem, simprocAttr, hw]
  refine Gif.mk (fun h => ?_) (fun h => ?_)
  ·rw [h, Bool.true_and] at hr
   refine ⟨l.length - (i + 1), _, ?_, ?_, i + 1, rfl, ?_, hr, rfl⟩
   ·omega
   ·exact lessA
   ·omega
  ·rw [h, Bool.false_and] at hr
   simp only [retK, resD, retL, oneD, simprocAttr, Tryz.results50]
   exact ⟨_, rfl, rfl, congrArg bln hr⟩
 ·have hlt' : ((i : Int) < (l.length : Int)) = False := eq_false (by omega)
  rw [List.drop_eq_nil_of_le (by omega), List.drop_eq_nil_of_le (by omega), eqf] at hr
  simp only [go_sem, simprocAttr, hlt']
  simp only [retK, resD, retL, oneD, simprocAttr, Tryz.results50]
  exact ⟨_, rfl, rfl, congrArg bln hr⟩

theorem EqualFunc_Rule (q : ARule → ARule → Bool) (f : FuncId) (he : Enters Tryz.prog f) (l m : List ARule) (hl : l.length ≤ 1000000) (hm : m.length ≤ 1000000) (hp : ∀ x ∈ l, ∀ y ∈ m, Pure Tryz.prog f [ARule.d x, ARule.d y] (fun d => d = bln (q x y))) :
 Pure Tryz.prog 52 [.pd (.slice (rows ARule.pd l)), .pd (.slice (rows ARule.pd m)), .fn f []] (fun d => d = bln (eqf q l m)) := by
 refine pure_of_run follows an_zi41r Tryz.func52 rfl ok_zi41r.1 ok_zi41r.2 (by simp [Tryz.ntmps52]) ?_
 rw [run_start]
 simp only [ac_zi41r, go_sem, simprocAttr]
 refine GifP.mk (fun hn => ?_) (fun hn => ?_)
 rotate_left
 ·simp only [retK, resD, retL, oneD, simprocAttr, Tryz.results52]
  exact ⟨_, rfl, rfl, congrArg bln (eqf_len q (by omega)).symm⟩
 have hlm : l.length = m.length := by omega
 refine loopS (fun k st => ∃ i : Nat, k = l.length - i ∧ i ≤ l.length ∧ eqf q (l.drop i) (m.drop i) = eqf q l m ∧
  st = ⟨[(1, .pd (.slice (rows ARule.pd m))), (2, .fn f []), (15, .pd (.slice (rows ARule.pd l))), (16, int l.length), (17, int i)], [], [], .no⟩) l.length _ (Weak.refl _ _) ⟨0, rfl, Nat.zero_le _, rfl, rfl⟩ ?_
 rintro k st ⟨i, rfl, hi, hr, rfl⟩
 by_cases hlt : i < l.length
 ·obtain ⟨x, hx⟩ := at_lt hlt
  obtain ⟨y, hy⟩ := at_lt (show i < m.length by omega)
  have hlt' : ((i : Int) < (l.length : Int)) = True := eq_true (by omega)
  have hw := i64_succ (show i < 1000000000 by omega)
  rw [drop_at hx, drop_at hy, eqf] at hr
  simp only [go_sem, simprocAttr, hlt', rows_get hx, rows_get hy, hw]
  refine (hp x (List.mem_of_getElem? hx) y (List.mem_of_getElem? hy)).callW he _ rfl rfl ?_
  rintro d rfl
  simp only [go_sem, simprocAttr, hw]
  refine Gif.mk (fun h => ?_) (fun h => ?_)
  ·rw [h, Bool.true_and] at hr
   refine ⟨l.length - (i + 1), _, ?_, ?_, i + 1, rfl, ?_, hr, rfl⟩
   ·omega
   ·exact lessA
   ·omega
  ·rw [h, Bool.false_and] at hr
   simp only [retK, resD, retL, oneD, simprocAttr, Tryz.results52]
   exact ⟨_, rfl, rfl, congrArg bln hr⟩
 ·have hlt' : ((i : Int) < (l.length : Int)) = False := eq_false (by omega)
  rw [List.drop_eq_nil_of_le (by omega), List.drop_eq_nil_of_le (by omega), eqf] at hr
  simp only [go_sem, simprocAttr, hlt']
  simp only [retK, resD, retL, oneD, simprocAttr, Tryz.results52]
  exact ⟨_, rfl, rfl, congrArg bln hr⟩

theorem EqualFunc_Match (q : AMatch → AMatch → Bool) (f : FuncId) (he : Enters Tryz.prog f) (l m : List AMatch) (hl : l.length ≤ 1000000) (hm : m.length ≤ 1000000) (hp : ∀ x ∈ l, ∀ y ∈ m, Pure Tryz.prog f [AMatch.d x, AMatch.d y] (fun d => d = bln (q x y))) :
 Pure Tryz.prog 107 [.pd (.slice (rows AMatch.pd l)), .pd (.slice (rows AMatch.pd m)), .fn f []] (fun d => d = bln (eqf q l m)) := by
 refine pure_of_run follows an_zjaw1 Tryz.func107 rfl ok_zjaw1.1 ok_zjaw1.2 (by simp [Tryz.ntmps107]) ?_
 rw [run_start]
 simp only [ac_zjaw1, go_sem, simprocAttr]
 refine GifP.mk (fun hn => ?_) (fun hn => ?_)
 rotate_left
 ·simp only [retK, resD, retL, oneD, simprocAttr, Tryz.results107]
  exact ⟨_, rfl, rfl, congrArg bln (eqf_len q (by omega)).symm⟩
 have hlm : l.length = m.length := by omega
 refine loopS (fun k st => ∃ i : Nat, k = l.length - i ∧ i ≤ l.length ∧ eqf q (l.drop i) (m.drop i) = eqf q l m ∧
  st = ⟨[(1, .pd (.slice (rows AMatch.pd m))), (2, .fn f []), (15, .pd (.slice (rows AMatch.pd l))), (16, int l.length), (17, int i)], [], [], .no⟩) l.length _ (Weak.refl _ _) ⟨0, rfl, Nat.zero_le _, rfl, rfl⟩ ?_
 rintro k st ⟨i, rfl, hi, hr, rfl⟩
 by_cases hlt : i < l.length
 ·obtain ⟨x, hx⟩ := at_lt hlt
  obtain ⟨y, hy⟩ := at_lt (show i < m.length by omega)
  have hlt' : ((i : Int) < (l.length : Int)) = True := eq_true (by omega)
  have hw := i64_succ (show i < 1000000000 by omega)
  rw [drop_at hx, drop_at hy, eqf] at hr
  simp only [go_sem, simprocAttr, hlt', rows_get hx, rows_get hy, hw]
  refine (hp x (List.mem_of_getElem? hx) y (List.mem_of_getElem? hy)).callW he _ rfl rfl ?_
  rintro d rfl
  simp only [go_sem, simprocAttr, hw]
  refine Gif.mk (fun h => ?_) (fun h => ?_)
  ·rw [h, Bool.true_and] at hr
   refine ⟨l.length - (i + 1), _, ?_, ?_, i + 1, rfl, ?_, hr, rfl⟩
   ·omega
   ·exact lessA
   ·omega
  ·rw [h, Bool.false_and] at hr
   simp only [retK, resD, retL, oneD, simprocAttr, Tryz.results107]
   exact ⟨_, rfl, rfl, congrArg bln hr⟩
 ·have hlt' : ((i : Int) < (l.length : Int)) = False := eq_false (by omega)
  rw [List.drop_eq_nil_of_le (by omega), List.drop_eq_nil_of_le (by omega), eqf] at hr
  simp only [go_sem, simprocAttr, hlt']
  simp only [retK, resD, retL, oneD, simprocAttr, Tryz.results107]
  exact ⟨_, rfl, rfl, congrArg bln hr⟩

theorem EqualFunc_Need (q : ANeed → ANeed → Bool) (f : FuncId) (he : Enters Tryz.prog f) (l m : List ANeed) (hl : l.length ≤ 1000000) (hm : m.length ≤ 1000000) (hp : ∀ x ∈ l, ∀ y ∈ m, Pure Tryz.prog f [ANeed.d x, ANeed.d y] (fun d => d = bln (q x y))) :
 Pure Tryz.prog 152 [.pd (.slice (rows ANeed.pd l)), .pd (.slice (rows ANeed.pd m)), .fn f []] (fun d => d = bln (eqf q l m)) := by
 refine pure_of_run follows an_zdsnp Tryz.func152 rfl ok_zdsnp.1 ok_zdsnp.2 (by simp [Tryz.ntmps152]) ?_
 rw [run_start]
 simp only [ac_zdsnp, go_sem, simprocAttr]
 refine GifP.mk (fun hn => ?_) (fun hn => ?_)
 rotate_left
 ·simp only [retK, resD, retL, oneD, simprocAttr, Tryz.results152]
  exact ⟨_, rfl, rfl, congrArg bln (eqf_len q (by omega)).symm⟩
 have hlm : l.length = m.length := by omega
 refine loopS (fun k st => ∃ i : Nat, k = l.length - i ∧ i ≤ l.length ∧ eqf q (l.drop i) (m.drop i) = eqf q l m ∧
  st = ⟨[(1, .pd (.slice (rows ANeed.pd m))), (2, .fn f []), (15, .pd (.slice (rows ANeed.pd l))), (16, int l.length), (17, int i)], [], [], .no⟩) l.length _ (Weak.refl _ _) ⟨0, rfl, Nat.zero_le _, rfl, rfl⟩ ?_
 rintro k st ⟨i, rfl, hi, hr, rfl⟩
 by_cases hlt : i < l.length
 ·obtain ⟨x, hx⟩ := at_lt hlt
  obtain ⟨y, hy⟩ := at_lt (show i < m.length by omega)
  have hlt' : ((i : Int) < (l.length : Int)) = True := eq_true (by omega)
  have hw := i64_succ (show i < 1000000000 by omega)
  rw [drop_at hx, drop_at hy, eqf] at hr
  simp only [go_sem, simprocAttr, hlt', rows_get hx, rows_get hy, hw]
  refine (hp x (List.mem_of_getElem? hx) y (List.mem_of_getElem? hy)).callW he _ rfl rfl ?_
  rintro d rfl
  simp only [go_sem, simprocAttr, hw]
  refine Gif.mk (fun h => ?_) (fun h => ?_)
  ·rw [h, Bool.true_and] at hr
   refine ⟨l.length - (i + 1), _, ?_, ?_, i + 1, rfl, ?_, hr, rfl⟩
   ·omega
   ·exact lessA
   ·omega
  ·rw [h, Bool.false_and] at hr
   simp only [retK, resD, retL, oneD, simprocAttr, Tryz.results152]
   exact ⟨_, rfl, rfl, congrArg bln hr⟩
 ·have hlt' : ((i : Int) < (l.length : Int)) = False := eq_false (by omega)
  rw [List.drop_eq_nil_of_le (by omega), List.drop_eq_nil_of_le (by omega), eqf] at hr
  simp only [go_sem, simprocAttr, hlt']
  simp only [retK, resD, retL, oneD, simprocAttr, Tryz.results152]
  exact ⟨_, rfl, rfl, congrArg bln hr⟩


def okind (n : Int) : Bool := decide (1 ≤ n) && decide (n ≤ 7)
def oport (n : Int) : Bool := decide (1 ≤ n) && decide (n ≤ 65535)

theorem object_kind (n : Int) : Pure Tryz.prog 72 [int n] (fun d => d = bln (okind n)) := by
 refine pure_of_run follows an_zavnu Tryz.func72 rfl ok_zavnu.1 ok_zavnu.2 (by simp [Tryz.ntmps72]) ?_
 rw [run_start]
 simp only [ac_zavnu, go_sem, simprocAttr]
 (repeat' (first | (refine GifP.mk (fun _ => ?_) (fun _ => ?_)) | (refine Gif.mk (fun _ => ?_) (fun _ => ?_)))) <;> (simp only [retK, resD, retL, oneD, simprocAttr, Tryz.results72]; exact ⟨_, rfl, rfl, congrArg bln (by first | rfl | (rw [Bool.eq_iff_iff]; simp only [okind]; (first | (simp; done) | (simp; omega) | (simp [*]; done) | (simp [*]; omega))) | (simp_all [okind]; done) | (exfalso; omega))⟩)

theorem object_port (n : Int) : Pure Tryz.prog 78 [int n] (fun d => d = bln (oport n)) := by
 refine pure_of_run follows an_znt9b Tryz.func78 rfl ok_znt9b.1 ok_znt9b.2 (by simp [Tryz.ntmps78]) ?_
 rw [run_start]
 simp only [ac_znt9b, go_sem, simprocAttr]
 (repeat' (first | (refine GifP.mk (fun _ => ?_) (fun _ => ?_)) | (refine Gif.mk (fun _ => ?_) (fun _ => ?_)))) <;> (simp only [retK, resD, retL, oneD, simprocAttr, Tryz.results78]; exact ⟨_, rfl, rfl, congrArg bln (by first | rfl | (rw [Bool.eq_iff_iff]; simp only [oport]; (first | (simp; done) | (simp; omega) | (simp [*]; done) | (simp [*]; omega))) | (simp_all [oport]; done) | (exfalso; omega))⟩)

theorem object_near (s : ByteArray) : Pure Tryz.prog 129 [str s] (fun d => d = bln (labValue s)) := by
 refine pure_of_run follows an_ztrsy Tryz.func129 rfl ok_ztrsy.1 ok_ztrsy.2 (by simp [Tryz.ntmps129]) ?_
 rw [run_start]
 simp only [ac_ztrsy, go_sem, simprocAttr]
 (repeat' (first | (refine GifP.mk (fun _ => ?_) (fun _ => ?_)) | (refine Gif.mk (fun _ => ?_) (fun _ => ?_)) | (refine (dns_Label _).callW (enters_of Tryz.func71 rfl rfl) _ rfl rfl ?_; rintro _ rfl; try simp only [go_sem, simprocAttr]))) <;> (simp only [retK, resD, retL, oneD, simprocAttr, Tryz.results129]; exact ⟨_, rfl, rfl, congrArg bln (by first | rfl | (rw [Bool.eq_iff_iff]; simp only [labValue]; (first | (simp; done) | (simp; omega) | (simp [*]; done) | (simp [*]; omega))) | (simp_all [labValue]; done) | (exfalso; omega))⟩)

def parentMay (p : AParent) : Bool := labValue p.space && dname p.name && labValue p.section_ && (decide (p.port = 0) || oport p.port)

theorem object_parent (p : AParent) : Pure Tryz.prog 93 [p.d] (fun d => d = bln (parentMay p)) := by
 refine pure_of_run follows an_za0y7 Tryz.func93 rfl ok_za0y7.1 ok_za0y7.2 (by simp [Tryz.ntmps93]) ?_
 rw [run_start]
 simp only [ac_za0y7, go_sem, simprocAttr]
 (repeat' (first | (refine GifP.mk (fun _ => ?_) (fun _ => ?_)) | (refine Gif.mk (fun _ => ?_) (fun _ => ?_)) | ((first | refine (object_near _).callW (enters_of Tryz.func129 rfl rfl) _ rfl rfl ?_ | refine (dns_Name _).callW (enters_of Tryz.func70 rfl rfl) _ rfl rfl ?_ | refine (object_port _).callW (enters_of Tryz.func78 rfl rfl) _ rfl rfl ?_); rintro _ rfl; try simp only [go_sem, simprocAttr]))) <;> (simp only [retK, resD, retL, oneD, simprocAttr, Tryz.results93]; exact ⟨_, rfl, rfl, congrArg bln (by first | rfl | (rw [Bool.eq_iff_iff]; simp only [parentMay]; (first | (simp; done) | (simp; omega) | (simp [*]; done) | (simp [*]; omega))) | (simp_all [parentMay]; done) | (exfalso; omega))⟩)

def backendMay (b : ABackend) : Bool := okind b.ref.kind && labValue b.ref.space && dname b.ref.name && (decide (b.port = 0) || oport b.port) && decide (0 ≤ b.weight) && decide (b.weight ≤ 1000)

theorem object_backend (b : ABackend) : Pure Tryz.prog 145 [b.d] (fun d => d = bln (backendMay b)) := by
 refine pure_of_run follows an_z2jf5 Tryz.func145 rfl ok_z2jf5.1 ok_z2jf5.2 (by simp [Tryz.ntmps145]) ?_
 rw [run_start]
 simp only [ac_z2jf5, go_sem, simprocAttr]
 (repeat' (first | (refine GifP.mk (fun _ => ?_) (fun _ => ?_)) | (refine Gif.mk (fun _ => ?_) (fun _ => ?_)) | ((first | refine (object_kind _).callW (enters_of Tryz.func72 rfl rfl) _ rfl rfl ?_ | refine (object_near _).callW (enters_of Tryz.func129 rfl rfl) _ rfl rfl ?_ | refine (dns_Name _).callW (enters_of Tryz.func70 rfl rfl) _ rfl rfl ?_ | refine (object_port _).callW (enters_of Tryz.func78 rfl rfl) _ rfl rfl ?_); rintro _ rfl; try simp only [go_sem, simprocAttr]))) <;> (simp only [retK, resD, retL, oneD, simprocAttr, Tryz.results145]; exact ⟨_, rfl, rfl, congrArg bln (by first | rfl | (rw [Bool.eq_iff_iff]; simp only [backendMay]; (first | (simp; done) | (simp; omega) | (simp [*]; done) | (simp [*]; omega))) | (simp_all [backendMay]; done) | (exfalso; omega))⟩)

def sideFrom (s : ASide) : Bool := okind s.kind && label s.space && decide (s.name = ⟨#[]⟩)
def sideTo (s : ASide) : Bool := okind s.kind && decide (s.space = ⟨#[]⟩) && (decide (s.name = ⟨#[]⟩) || dname s.name)

theorem thing_grant_1 (s : ASide) : Pure Tryz.prog 97 [s.d] (fun d => d = bln (sideFrom s)) := by
 refine pure_of_run follows an_z9wz0 Tryz.func97 rfl ok_z9wz0.1 ok_z9wz0.2 (by simp [Tryz.ntmps97]) ?_
 rw [run_start]
 simp only [ac_z9wz0, go_sem, simprocAttr]
 (repeat' (first | (refine GifP.mk (fun _ => ?_) (fun _ => ?_)) | (refine Gif.mk (fun _ => ?_) (fun _ => ?_)) | ((first | refine (object_kind _).callW (enters_of Tryz.func72 rfl rfl) _ rfl rfl ?_ | refine (dns_Label _).callW (enters_of Tryz.func71 rfl rfl) _ rfl rfl ?_); rintro _ rfl; try simp only [go_sem, simprocAttr]))) <;> (simp only [retK, resD, retL, oneD, simprocAttr, Tryz.results97]; exact ⟨_, rfl, rfl, congrArg bln (by first | rfl | (rw [Bool.eq_iff_iff]; simp only [sideFrom]; (first | (simp; done) | (simp; omega) | (simp [*]; done) | (simp [*]; omega))) | (simp_all [sideFrom]; done) | (exfalso; omega))⟩)

theorem thing_grant_2 (s : ASide) : Pure Tryz.prog 98 [s.d] (fun d => d = bln (sideTo s)) := by
 refine pure_of_run follows an_z4xw6 Tryz.func98 rfl ok_z4xw6.1 ok_z4xw6.2 (by simp [Tryz.ntmps98]) ?_
 rw [run_start]
 simp only [ac_z4xw6, go_sem, simprocAttr]
 (repeat' (first | (refine GifP.mk (fun _ => ?_) (fun _ => ?_)) | (refine Gif.mk (fun _ => ?_) (fun _ => ?_)) | ((first | refine (object_kind _).callW (enters_of Tryz.func72 rfl rfl) _ rfl rfl ?_ | refine (dns_Name _).callW (enters_of Tryz.func70 rfl rfl) _ rfl rfl ?_); rintro _ rfl; try simp only [go_sem, simprocAttr]))) <;> (simp only [retK, resD, retL, oneD, simprocAttr, Tryz.results98]; exact ⟨_, rfl, rfl, congrArg bln (by first | rfl | (rw [Bool.eq_iff_iff]; simp only [sideTo]; (first | (simp; done) | (simp; omega) | (simp [*]; done) | (simp [*]; omega))) | (simp_all [sideTo]; done) | (exfalso; omega))⟩)

def intSame (a b : Int) : Bool := decide (a = b)
def strSame (a b : ByteArray) : Bool := decide (a = b)
def lisName (a b : AListener) : Bool := decide (a.name = b.name)
def parSame (a b : AParent) : Bool := decide (a = b)
def patMay (s : ByteArray) : Bool := !decide (s = ⟨#[]⟩) && hostMay s

theorem thing_service_1 (a b : Int) : Pure Tryz.prog 81 [int a, int b] (fun d => d = bln (intSame a b)) := by
 refine pure_of_run follows an_zwdgh Tryz.func81 rfl ok_zwdgh.1 ok_zwdgh.2 (by simp [Tryz.ntmps81]) ?_
 rw [run_start]
 simp only [ac_zwdgh, go_sem, simprocAttr]
 (repeat' (first | (refine GifP.mk (fun _ => ?_) (fun _ => ?_)) | (refine Gif.mk (fun _ => ?_) (fun _ => ?_)))) <;> (simp only [retK, resD, retL, oneD, simprocAttr, Tryz.results81]; exact ⟨_, rfl, rfl, congrArg bln (by first | rfl | (rw [Bool.eq_iff_iff]; simp only [intSame]; (first | (simp; done) | (simp; omega) | (simp [*]; done) | (simp [*]; omega))) | (simp_all [intSame]; done) | (exfalso; omega))⟩)

theorem thing_gateway_1 (a b : AListener) : Pure Tryz.prog 82 [a.d, b.d] (fun d => d = bln (lisName a b)) := by
 refine pure_of_run follows an_zpej9 Tryz.func82 rfl ok_zpej9.1 ok_zpej9.2 (by simp [Tryz.ntmps82]) ?_
 rw [run_start]
 simp only [ac_zpej9, go_sem, simprocAttr]
 (repeat' (first | (refine GifP.mk (fun _ => ?_) (fun _ => ?_)) | (refine Gif.mk (fun _ => ?_) (fun _ => ?_)))) <;> (simp only [retK, resD, retL, oneD, simprocAttr, Tryz.results82]; exact ⟨_, rfl, rfl, congrArg bln (by first | rfl | (rw [Bool.eq_iff_iff]; simp only [lisName]; (first | (simp; done) | (simp; omega) | (simp [*]; done) | (simp [*]; omega))) | (simp_all [lisName]; done) | (exfalso; omega))⟩)

theorem thing_route_1 (a b : AParent) : Pure Tryz.prog 87 [a.d, b.d] (fun d => d = bln (parSame a b)) := by
 refine pure_of_run follows an_zh5vi Tryz.func87 rfl ok_zh5vi.1 ok_zh5vi.2 (by simp [Tryz.ntmps87]) ?_
 rw [run_start]
 simp only [ac_zh5vi, go_sem, simprocAttr, eqVs, eqV, eq_Parent]
 simp only [retK, resD, retL, oneD, simprocAttr, Tryz.results87]
 exact ⟨_, rfl, rfl, rfl⟩

theorem thing_route_2 (a b : ByteArray) : Pure Tryz.prog 89 [str a, str b] (fun d => d = bln (strSame a b)) := by
 refine pure_of_run follows an_zkpqc Tryz.func89 rfl ok_zkpqc.1 ok_zkpqc.2 (by simp [Tryz.ntmps89]) ?_
 rw [run_start]
 simp only [ac_zkpqc, go_sem, simprocAttr]
 (repeat' (first | (refine GifP.mk (fun _ => ?_) (fun _ => ?_)) | (refine Gif.mk (fun _ => ?_) (fun _ => ?_)))) <;> (simp only [retK, resD, retL, oneD, simprocAttr, Tryz.results89]; exact ⟨_, rfl, rfl, congrArg bln (by first | rfl | (rw [Bool.eq_iff_iff]; simp only [strSame]; (first | (simp; done) | (simp; omega) | (simp [*]; done) | (simp [*]; omega))) | (simp_all [strSame]; done) | (exfalso; omega))⟩)

theorem thing_route_3 (s : ByteArray) : Pure Tryz.prog 90 [str s] (fun d => d = bln (patMay s)) := by
 refine pure_of_run follows an_z4pg2 Tryz.func90 rfl ok_z4pg2.1 ok_z4pg2.2 (by simp [Tryz.ntmps90]) ?_
 rw [run_start]
 simp only [ac_z4pg2, go_sem, simprocAttr]
 (repeat' (first | (refine GifP.mk (fun _ => ?_) (fun _ => ?_)) | (refine Gif.mk (fun _ => ?_) (fun _ => ?_)) | (refine (host_May _).callW (enters_of Tryz.func91 rfl rfl) _ rfl rfl ?_; rintro _ rfl; try simp only [go_sem, simprocAttr]))) <;> (simp only [retK, resD, retL, oneD, simprocAttr, Tryz.results90]; exact ⟨_, rfl, rfl, congrArg bln (by first | rfl | (rw [Bool.eq_iff_iff]; simp only [patMay]; (first | (simp; done) | (simp; omega) | (simp [*]; done) | (simp [*]; omega))) | (simp_all [patMay]; done) | (exfalso; omega))⟩)

def notNaN (_ : Int) : Bool := false
def intLess (a b : Int) : Bool := decide (a < b)

theorem cmp_isNaN (a : Int) : Pure Tryz.prog 114 [int a] (fun d => d = bln (notNaN a)) := by
 refine pure_of_run follows an_zkuzu Tryz.func114 rfl ok_zkuzu.1 ok_zkuzu.2 (by simp [Tryz.ntmps114]) ?_
 rw [run_start]
 simp only [ac_zkuzu, go_sem, simprocAttr]
 (repeat' (first | (refine GifP.mk (fun _ => ?_) (fun _ => ?_)) | (refine Gif.mk (fun _ => ?_) (fun _ => ?_)))) <;> (simp only [retK, resD, retL, oneD, simprocAttr, Tryz.results114]; exact ⟨_, rfl, rfl, congrArg bln (by first | rfl | (rw [Bool.eq_iff_iff]; simp only [notNaN]; (first | (simp; done) | (simp; omega) | (simp [*]; done) | (simp [*]; omega))) | (simp_all [notNaN]; done) | (exfalso; omega))⟩)

theorem cmp_Less (a b : Int) : Pure Tryz.prog 125 [int a, int b] (fun d => d = bln (intLess a b)) := by
 refine pure_of_run follows an_zte1c Tryz.func125 rfl ok_zte1c.1 ok_zte1c.2 (by simp [Tryz.ntmps125]) ?_
 rw [run_start]
 simp only [ac_zte1c, go_sem, simprocAttr]
 refine (cmp_isNaN a).callW (enters_of Tryz.func114 rfl rfl) _ rfl rfl ?_
 rintro d rfl
 simp only [go_sem, simprocAttr, notNaN]
 simp only [retK, resD, retL, oneD, simprocAttr, Tryz.results125]
 exact ⟨_, rfl, rfl, rfl⟩

def mayRef (r : ARef) : Bool := if r.kind = 1 then decide (r.space = ⟨#[]⟩) && dname r.name else if r.kind = 2 then decide (r.space = ⟨#[]⟩) && label r.name else okind r.kind && label r.space && dname r.name

theorem object_MayRef (r : ARef) : Pure Tryz.prog 25 [r.d] (fun d => d = bln (mayRef r)) := by
 refine pure_of_run follows an_zkdrf Tryz.func25 rfl ok_zkdrf.1 ok_zkdrf.2 (by simp [Tryz.ntmps25]) ?_
 rw [run_start]
 simp only [ac_zkdrf, go_sem, simprocAttr]
 (repeat' (first | (refine GifP.mk (fun _ => ?_) (fun _ => ?_)) | (refine Gif.mk (fun _ => ?_) (fun _ => ?_)) | ((first | refine (object_kind _).callW (enters_of Tryz.func72 rfl rfl) _ rfl rfl ?_ | refine (dns_Label _).callW (enters_of Tryz.func71 rfl rfl) _ rfl rfl ?_ | refine (dns_Name _).callW (enters_of Tryz.func70 rfl rfl) _ rfl rfl ?_); rintro _ rfl; try simp only [go_sem, simprocAttr]))) <;> (simp only [retK, resD, retL, oneD, simprocAttr, Tryz.results25]; exact ⟨_, rfl, rfl, congrArg bln (by first | rfl | (rw [Bool.eq_iff_iff]; simp only [mayRef]; (first | (simp; done) | (simp; omega) | (simp [*]; done) | (simp [*]; omega))) | (simp_all [mayRef]; done) | (exfalso; omega))⟩)

def fewVals (n : ANeed) : Bool := decide (1 ≤ n.vals.length) && decide (n.vals.length ≤ 8) && !n.vals.any (fun s => !labValue s)

theorem label_asks_1 (s : ByteArray) : Pure Tryz.prog 212 [str s] (fun d => d = bln (!labValue s)) := by
 refine pure_of_run follows an_zuzx4 Tryz.func212 rfl ok_zuzx4.1 ok_zuzx4.2 (by simp [Tryz.ntmps212]) ?_
 rw [run_start]
 simp only [ac_zuzx4, go_sem, simprocAttr]
 (repeat' (first | (refine GifP.mk (fun _ => ?_) (fun _ => ?_)) | (refine Gif.mk (fun _ => ?_) (fun _ => ?_)) | (refine (label_value _).callW (enters_of Tryz.func122 rfl rfl) _ rfl rfl ?_; rintro _ rfl; try simp only [go_sem, simprocAttr]))) <;> (simp only [retK, resD, retL, oneD, simprocAttr, Tryz.results212]; exact ⟨_, rfl, rfl, congrArg bln (by first | rfl | (rw [Bool.eq_iff_iff]; simp only [labValue]; (first | (simp; done) | (simp; omega) | (simp [*]; done) | (simp [*]; omega))) | (simp_all [labValue]; done) | (exfalso; omega))⟩)

def asksD (n : ANeed) : D :=
 if dname n.name = false then .pd (.raw .nilIface)
 else if n.kind = 1 ∧ fewVals n = true then .pd (.iface 212 true [pStr n.name, .slice (strs n.vals)])
 else if n.kind = 2 ∧ fewVals n = true then .pd (.iface 214 true [pStr n.name, .slice (strs n.vals)])
 else if n.kind = 3 ∧ n.vals.length = 0 then .pd (.iface 215 false [pStr n.name])
 else if n.kind = 4 ∧ n.vals.length = 0 then .pd (.iface 217 true [pStr n.name])
 else .pd (.raw .nilIface)

def askMay (n : ANeed) : Bool := dname n.name && ((decide (n.kind = 1) && fewVals n) || (decide (n.kind = 2) && fewVals n) || (decide (n.kind = 3) && decide (n.vals.length = 0)) || (decide (n.kind = 4) && decide (n.vals.length = 0)))

set_option maxHeartbeats 2000000 in
theorem label_asks (n : ANeed) (hv : n.vals.length ≤ 1000000) : Pure Tryz.prog 171 [n.d] (fun d => d = asksD n) := by
 refine pure_of_run follows an_zyjit Tryz.func171 rfl ok_zyjit.1 ok_zyjit.2 (by simp [Tryz.ntmps171]) ?_
 rw [run_start]
 simp only [ac_zyjit, go_sem, simprocAttr]
 have key : ∀ b : Bool, fewVals n = b → ∀ d : D, (d = if dname n.name = false then .pd (.raw .nilIface)
  else if n.kind = 1 ∧ b = true then .pd (.iface 212 true [pStr n.name, .slice (strs n.vals)])
  else if n.kind = 2 ∧ b = true then .pd (.iface 214 true [pStr n.name, .slice (strs n.vals)])
  else if n.kind = 3 ∧ n.vals.length = 0 then .pd (.iface 215 false [pStr n.name])
  else if n.kind = 4 ∧ n.vals.length = 0 then .pd (.iface 217 true [pStr n.name])
  else .pd (.raw .nilIface)) → d = asksD n := fun b h d hd => by
  rw [hd]; unfold asksD; rw [h]
 refine GifP.mk (fun h1 => ?_) (fun h1 => ?_)
 ·refine GifP.mk (fun h2 => ?_) (fun h2 => ?_)
  ·refine (ContainsP_string (fun s => !labValue s) _ (enters_of Tryz.func212 rfl rfl) n.vals hv (fun s _ => label_asks_1 s)).callW (enters_of Tryz.func134 rfl rfl) _ rfl rfl ?_
   rintro d rfl
   have hf : fewVals n = !n.vals.any (fun s => !labValue s) := by
    have h3 : 1 ≤ n.vals.length := by omega
    have h4 : n.vals.length ≤ 8 := by omega
    simp [fewVals, h3, h4]
   obtain ⟨q, hq⟩ : ∃ q, n.vals.any (fun s => !labValue s) = q := ⟨_, rfl⟩
   rw [hq] at hf ⊢
   cases q
   all_goals
    have key' := key _ hf
    simp only [go_sem, simprocAttr]
    (repeat' (first | (refine GifP.mk (fun _ => ?_) (fun _ => ?_)) | (refine Gif.mk (fun _ => ?_) (fun _ => ?_)) | (refine (dns_Name _).callW (enters_of Tryz.func70 rfl rfl) _ rfl rfl ?_; rintro _ rfl; try simp only [go_sem, simprocAttr]))) <;> (simp only [retK, resD, retL, oneD, simprocAttr, Tryz.results171]; refine ⟨_, rfl, rfl, ?_⟩; refine key' _ ?_; clear key key'; dsimp only [D.pub]; (repeat' split) <;> first | rfl | (exfalso; omega) | (exfalso; simp_all; done) | (exfalso; simp_all; omega))
  ·have hf : fewVals n = false := by
    have h4 : ¬ n.vals.length ≤ 8 := by omega
    simp [fewVals, h4]
   have key' := key _ hf
   (repeat' (first | (refine GifP.mk (fun _ => ?_) (fun _ => ?_)) | (refine Gif.mk (fun _ => ?_) (fun _ => ?_)) | (refine (dns_Name _).callW (enters_of Tryz.func70 rfl rfl) _ rfl rfl ?_; rintro _ rfl; try simp only [go_sem, simprocAttr]))) <;> (simp only [retK, resD, retL, oneD, simprocAttr, Tryz.results171]; refine ⟨_, rfl, rfl, ?_⟩; refine key' _ ?_; clear key key'; dsimp only [D.pub]; (repeat' split) <;> first | rfl | (exfalso; omega) | (exfalso; simp_all; done) | (exfalso; simp_all; omega))
 ·have hf : fewVals n = false := by
   have h4 : ¬ 1 ≤ n.vals.length := by omega
   simp [fewVals, h4]
  have key' := key _ hf
  (repeat' (first | (refine GifP.mk (fun _ => ?_) (fun _ => ?_)) | (refine Gif.mk (fun _ => ?_) (fun _ => ?_)) | (refine (dns_Name _).callW (enters_of Tryz.func70 rfl rfl) _ rfl rfl ?_; rintro _ rfl; try simp only [go_sem, simprocAttr]))) <;> (simp only [retK, resD, retL, oneD, simprocAttr, Tryz.results171]; refine ⟨_, rfl, rfl, ?_⟩; refine key' _ ?_; clear key key'; dsimp only [D.pub]; (repeat' split) <;> first | rfl | (exfalso; omega) | (exfalso; simp_all; done) | (exfalso; simp_all; omega))

theorem askMay_isnil (n : ANeed) : (∃ t a cs, asksD n = .pd (.iface t a cs) ∧ askMay n = true) ∨ (asksD n = .pd (.raw .nilIface) ∧ askMay n = false) := by
 unfold asksD askMay
 repeat' split
 all_goals first
  | exact .inl ⟨_, _, _, rfl, by simp_all⟩
  | exact .inr ⟨rfl, by simp_all⟩

theorem label_Needs_1 (n : ANeed) (hv : n.vals.length ≤ 1000000) : Pure Tryz.prog 170 [n.d] (fun d => d = bln (!askMay n)) := by
 refine pure_of_run follows an_zdaaj Tryz.func170 rfl ok_zdaaj.1 ok_zdaaj.2 (by simp [Tryz.ntmps170]) ?_
 rw [run_start]
 simp only [ac_zdaaj, go_sem, simprocAttr]
 refine (label_asks n hv).callW (enters_of Tryz.func171 rfl rfl) _ rfl rfl ?_
 rintro d rfl
 rcases askMay_isnil n with ⟨t, a, cs, h1, h2⟩ | ⟨h1, h2⟩
 all_goals
  rw [h1]
  simp only [go_sem, simprocAttr]
  simp only [retK, resD, retL, oneD, simprocAttr, Tryz.results170]
  exact ⟨_, rfl, rfl, congrArg bln (by rw [h2]; rfl)⟩

def ANeed.ok (n : ANeed) : Prop := n.vals.length ≤ 1000000

def needsMay (l : List ANeed) : Bool := decide (l.length ≤ 8) && !l.any (fun n => !askMay n)

theorem label_Needs (l : List ANeed) (hl : l.length ≤ 1000000) (hv : ∀ n ∈ l, n.ok) : Pure Tryz.prog 130 [.pd (.slice (rows ANeed.pd l))] (fun d => d = bln (needsMay l)) := by
 refine pure_of_run follows an_zlask Tryz.func130 rfl ok_zlask.1 ok_zlask.2 (by simp [Tryz.ntmps130]) ?_
 rw [run_start]
 simp only [ac_zlask, go_sem, simprocAttr]
 (repeat' (first | (refine GifP.mk (fun _ => ?_) (fun _ => ?_)) | (refine Gif.mk (fun _ => ?_) (fun _ => ?_)) | (refine (ContainsP_Need (fun n => !askMay n) _ (enters_of Tryz.func170 rfl rfl) l hl (fun n hn => label_Needs_1 n (hv n hn))).callW (enters_of Tryz.func169 rfl rfl) _ rfl rfl ?_; rintro _ rfl; try simp only [go_sem, simprocAttr]))) <;> (simp only [retK, resD, retL, oneD, simprocAttr, Tryz.results130]; exact ⟨_, rfl, rfl, congrArg bln (by first | rfl | (rw [Bool.eq_iff_iff]; simp only [needsMay]; (first | (simp; done) | (simp; omega) | (simp [*]; done) | (simp [*]; omega))) | (simp_all [needsMay]; done) | (exfalso; omega))⟩)

def needSame (a b : ANeed) : Bool := decide (a.kind = b.kind) && decide (a.name = b.name) && decide (a.vals = b.vals)

theorem label_Same_1 (a b : ANeed) (ha : a.ok) (hb : b.ok) : Pure Tryz.prog 153 [a.d, b.d] (fun d => d = bln (needSame a b)) := by
 refine pure_of_run follows an_zvpxe Tryz.func153 rfl ok_zvpxe.1 ok_zvpxe.2 (by simp [Tryz.ntmps153]) ?_
 rw [run_start]
 simp only [ac_zvpxe, go_sem, simprocAttr]
 (repeat' (first | (refine GifP.mk (fun _ => ?_) (fun _ => ?_)) | (refine Gif.mk (fun _ => ?_) (fun _ => ?_)) | (refine (Equal_string a.vals b.vals ha hb).callW (enters_of Tryz.func47 rfl rfl) _ rfl rfl ?_; rintro _ rfl; try simp only [go_sem, simprocAttr]))) <;> (simp only [retK, resD, retL, oneD, simprocAttr, Tryz.results153]; exact ⟨_, rfl, rfl, congrArg bln (by first | rfl | (rw [Bool.eq_iff_iff]; simp only [needSame]; (first | (simp; done) | (simp; omega) | (simp [*]; done) | (simp [*]; omega))) | (simp_all [needSame]; done) | (exfalso; omega))⟩)

theorem label_Same (l m : List ANeed) (hl : l.length ≤ 1000000) (hm : m.length ≤ 1000000) (h1 : ∀ n ∈ l, n.ok) (h2 : ∀ n ∈ m, n.ok) : Pure Tryz.prog 106 [.pd (.slice (rows ANeed.pd l)), .pd (.slice (rows ANeed.pd m))] (fun d => d = bln (eqf needSame l m)) := by
 refine pure_of_run follows an_zx2gm Tryz.func106 rfl ok_zx2gm.1 ok_zx2gm.2 (by simp [Tryz.ntmps106]) ?_
 rw [run_start]
 simp only [ac_zx2gm, go_sem, simprocAttr]
 (repeat' (first | (refine GifP.mk (fun _ => ?_) (fun _ => ?_)) | (refine Gif.mk (fun _ => ?_) (fun _ => ?_)) | (refine (EqualFunc_Need needSame _ (enters_of Tryz.func153 rfl rfl) l m hl hm (fun x hx y hy => label_Same_1 x y (h1 x hx) (h2 y hy))).callW (enters_of Tryz.func152 rfl rfl) _ rfl rfl ?_; rintro _ rfl; try simp only [go_sem, simprocAttr]))) <;> (simp only [retK, resD, retL, oneD, simprocAttr, Tryz.results106]; exact ⟨_, rfl, rfl, congrArg bln (by first | rfl | (rw [Bool.eq_iff_iff]; simp only [id]; (first | (simp; done) | (simp; omega) | (simp [*]; done) | (simp [*]; omega))) | (simp_all [id]; done) | (exfalso; omega))⟩)


def valOct (b : UInt8) : Bool := decide (32 ≤ b.toNat) && decide (b.toNat ≤ 126)

def fvalue (s : ByteArray) : Bool := s.data.toList.all valOct && decide (s.size ≤ 40) && decide (trim s = s)

theorem pairs_Value (s : ByteArray) (hs : s.size ≤ 1000000) : Pure Tryz.prog 180 [str s] (fun d => d = bln (fvalue s)) := by
 refine pure_of_run follows an_z4wze Tryz.func180 rfl ok_z4wze.1 ok_z4wze.2 (by simp [Tryz.ntmps180]) ?_
 rw [run_start]
 simp only [ac_z4wze, go_sem, simprocAttr]
 refine loopS (fun k st => ∃ i : Nat, k = s.size - i ∧ i ≤ s.size ∧ (s.data.toList.drop i).all valOct = s.data.toList.all valOct ∧
  st = ⟨[(0, str s), (5, int s.size), (6, int i)], [], [], .no⟩) s.size _ (Weak.refl _ _) ⟨0, rfl, Nat.zero_le _, rfl, rfl⟩ ?_
 rintro k st ⟨i, rfl, hi, hr, rfl⟩
 by_cases hlt : i < s.size
 ·obtain ⟨b, hb, hd⟩ := byte_at hlt
  have hlt' : ((i : Int) < (s.size : Int)) = True := eq_true (by omega)
  rw [hd, List.all_cons] at hr
  have bad : valOct b = false → fvalue s = false := fun h => by
   rw [h, Bool.false_and] at hr
   simp only [fvalue, ← hr, Bool.false_and]
  have hw := i64_succ (show i < 1000000000 by omega)
  simp only [go_sem, simprocAttr, hlt', hb, hw]
  repeat' (first | refine GifP.mk (fun _ => ?_) (fun _ => ?_) | refine Gif.mk (fun _ => ?_) (fun _ => ?_))
  iterate 2
   ·simp only [retK, iterK, resD, retL, oneD, simprocAttr, Tryz.results180]
    exact ⟨_, rfl, rfl, congrArg bln (bad (by simp [valOct]; omega)).symm⟩
  ·have hg : valOct b = true := by simp [valOct]; omega
   rw [hg, Bool.true_and] at hr
   refine ⟨s.size - (i + 1), _, ?_, ?_, i + 1, rfl, ?_, hr, rfl⟩
   ·omega
   ·exact lessA
   ·omega
 ·have hlt' : ((i : Int) < (s.size : Int)) = False := eq_false (by omega)
  rw [byte_end hlt] at hr
  have hr' := hr.symm
  rw [List.all_nil] at hr'
  simp only [go_sem, simprocAttr, hlt']
  (repeat' (first | (refine GifP.mk (fun _ => ?_) (fun _ => ?_)) | (refine Gif.mk (fun _ => ?_) (fun _ => ?_)) | (refine (strings_Trim s hs).callW (enters_of Tryz.func216 rfl rfl) _ rfl rfl ?_; rintro _ rfl; try simp only [go_sem, simprocAttr]))) <;> (simp only [retK, iterK, resD, retL, oneD, simprocAttr, Tryz.results180]; exact ⟨_, rfl, rfl, congrArg bln (by first | rfl | (rw [Bool.eq_iff_iff]; simp only [fvalue, hr']; (first | (simp; done) | (simp; omega) | (simp [*]; done) | (simp [*]; omega))) | (simp_all [fvalue, hr']; done) | (exfalso; omega))⟩)

def foldSame (a b : ByteArray) : Bool := decide (fold a = fold b)

theorem pairs_Same (a b : ByteArray) (ha : a.size ≤ 1000000) (hb : b.size ≤ 1000000) : Pure Tryz.prog 185 [str a, str b] (fun d => d = bln (foldSame a b)) := by
 refine pure_of_run follows an_zrrew Tryz.func185 rfl ok_zrrew.1 ok_zrrew.2 (by simp [Tryz.ntmps185]) ?_
 rw [run_start]
 simp only [ac_zrrew, go_sem, simprocAttr]
 (repeat' (first | (refine GifP.mk (fun _ => ?_) (fun _ => ?_)) | (refine Gif.mk (fun _ => ?_) (fun _ => ?_)) | ((first | refine (dns_Fold a ha).callW (enters_of Tryz.func222 rfl rfl) _ rfl rfl ?_ | refine (dns_Fold b hb).callW (enters_of Tryz.func222 rfl rfl) _ rfl rfl ?_); rintro _ rfl; try simp only [go_sem, simprocAttr]))) <;> (simp only [retK, resD, retL, oneD, simprocAttr, Tryz.results185]; exact ⟨_, rfl, rfl, congrArg bln (by first | rfl | (rw [Bool.eq_iff_iff]; simp only [foldSame]; (first | (simp; done) | (simp; omega) | (simp [*]; done) | (simp [*]; omega))) | (simp_all [foldSame]; done) | (exfalso; omega))⟩)

def APair.ok (p : APair) : Prop := p.name.size ≤ 1000000 ∧ p.val.size ≤ 1000000
def AFilter.ok (f : AFilter) : Prop := f.name.size ≤ 1000000 ∧ f.val.size ≤ 1000000
structure AMatch.ok (m : AMatch) : Prop where
 hl : m.head.length ≤ 1000000
 ql : m.query.length ≤ 1000000
 h : ∀ p ∈ m.head, p.ok
 q : ∀ p ∈ m.query, p.ok

def pairOdd (p : APair) : Bool := !token p.name || !fvalue p.val

theorem rule_May_1 (p : APair) (h : p.ok) : Pure Tryz.prog 178 [p.d] (fun d => d = bln (pairOdd p)) := by
 refine pure_of_run follows an_zqrzx Tryz.func178 rfl ok_zqrzx.1 ok_zqrzx.2 (by simp [Tryz.ntmps178]) ?_
 rw [run_start]
 simp only [ac_zqrzx, go_sem, simprocAttr]
 (repeat' (first | (refine GifP.mk (fun _ => ?_) (fun _ => ?_)) | (refine Gif.mk (fun _ => ?_) (fun _ => ?_)) | ((first | refine (pairs_Token p.name h.1).callW (enters_of Tryz.func179 rfl rfl) _ rfl rfl ?_ | refine (pairs_Value p.val h.2).callW (enters_of Tryz.func180 rfl rfl) _ rfl rfl ?_); rintro _ rfl; try simp only [go_sem, simprocAttr]))) <;> (simp only [retK, resD, retL, oneD, simprocAttr, Tryz.results178]; exact ⟨_, rfl, rfl, congrArg bln (by first | rfl | (rw [Bool.eq_iff_iff]; simp only [pairOdd]; (first | (simp; done) | (simp; omega) | (simp [*]; done) | (simp [*]; omega))) | (simp_all [pairOdd]; done) | (exfalso; omega))⟩)

theorem rule_May_2 (a b : ByteArray) : Pure Tryz.prog 187 [str a, str b] (fun d => d = bln (strSame a b)) := by
 refine pure_of_run follows an_zwio7 Tryz.func187 rfl ok_zwio7.1 ok_zwio7.2 (by simp [Tryz.ntmps187]) ?_
 rw [run_start]
 simp only [ac_zwio7, go_sem, simprocAttr]
 (repeat' (first | (refine GifP.mk (fun _ => ?_) (fun _ => ?_)) | (refine Gif.mk (fun _ => ?_) (fun _ => ?_)))) <;> (simp only [retK, resD, retL, oneD, simprocAttr, Tryz.results187]; exact ⟨_, rfl, rfl, congrArg bln (by first | rfl | (rw [Bool.eq_iff_iff]; simp only [strSame]; (first | (simp; done) | (simp; omega) | (simp [*]; done) | (simp [*]; omega))) | (simp_all [strSame]; done) | (exfalso; omega))⟩)

theorem rule_twice_1 (q : ByteArray → ByteArray → Bool) (f : FuncId) (he : Enters Tryz.prog f) (x y : APair) (hp : Pure Tryz.prog f [str y.name, str x.name] (fun d => d = bln (q y.name x.name))) :
 PureB Tryz.prog 221 [y.d, .ptr 1000001 0, .ptr 1000002 0] [(1000001, [.fn f []]), (1000002, [str x.name, str x.val])] (fun d => d = bln (q y.name x.name)) := by
 refine pureB_of_run follows an_zpw6o Tryz.func221 rfl ok_zpw6o.1 ok_zpw6o.2 (by simp [Tryz.ntmps221]) ?_
 rw [run_start]
 simp only [ac_zpw6o, go_sem, simprocAttr]
 refine hp.callW he _ rfl rfl ?_
 rintro d rfl
 simp only [go_sem, simprocAttr]
 simp only [retK, resD, retL, oneD, simprocAttr, Tryz.results221]
 exact ⟨_, rfl, rfl, rfl⟩

def pairTwice (q : ByteArray → ByteArray → Bool) (l : List APair) : Bool := twice (fun x y => q y.name x.name) l

theorem rule_twice (q : ByteArray → ByteArray → Bool) (f : FuncId) (he : Enters Tryz.prog f) (l : List APair) (hl : l.length ≤ 1000000) (hp : ∀ x ∈ l, ∀ y ∈ l, Pure Tryz.prog f [str y.name, str x.name] (fun d => d = bln (q y.name x.name))) :
 Pure Tryz.prog 184 [.pd (.slice (rows APair.pd l)), .fn f []] (fun d => d = bln (pairTwice q l)) := by
 refine pure_of_run follows an_z6for Tryz.func184 rfl ok_z6for.1 ok_z6for.2 (by simp [Tryz.ntmps184]) ?_
 rw [run_start]
 simp only [ac_z6for, go_sem, simprocAttr]
 refine loopS (fun k st => ∃ i : Nat, k = l.length - i ∧ i ≤ l.length ∧ twiceFrom (fun x y : APair => q y.name x.name) l k i = pairTwice q l ∧
  st = ⟨[(0, .pd (.slice (rows APair.pd l))), (3, .ptr 3 0), (7, .pd (.slice (rows APair.pd l))), (8, int l.length), (9, int i)], [(3, [.fn f []])], [], .no⟩) l.length _ (Weak.refl _ _) ⟨0, rfl, Nat.zero_le _, rfl, rfl⟩ ?_
 rintro k st ⟨i, rfl, hi, hr, rfl⟩
 by_cases hlt : i < l.length
 ·obtain ⟨x, hx⟩ := at_lt hlt
  have hlt' : ((i : Int) < (l.length : Int)) = True := eq_true (by omega)
  have hle : (i ≤ l.length) = True := eq_true (by omega)
  have hw := i64_succ (show i < 1000000000 by omega)
  have hmx := List.mem_of_getElem? hx
  obtain ⟨m, hm⟩ : ∃ m, l.length - i = m + 1 := ⟨l.length - i - 1, by omega⟩
  rw [hm, twiceFrom, hx] at hr
  have hrows : rowsOK 2 (rows APair.pd l) = True := rowsOK_rows (f := APair.pd) (n := 2) (fun _ => rfl) l
  have htk : (rows APair.pd l).take i = rows APair.pd (l.take i) := by simp [rows, List.map_take]
  simp only [go_sem, simprocAttr, hlt', rows_get hx, rows_len, hrows, hle, htk]
  refine (ContainsFunc_Pair (fun y => q y.name x.name) 221 (enters_of Tryz.func221 rfl rfl) [(1000001, 0), (1000002, 0)] [(1000001, [.fn f []]), (1000002, [str x.name, str x.val])] (Cl.of rfl rfl rfl rfl rfl) (l.take i) (by simp; omega)
   (fun y hy => rule_twice_1 q f he x y (hp x hmx y (List.mem_of_mem_take hy)))).callW (enters_of Tryz.func183 rfl rfl) _ [(3, 1000001), (6, 1000002)] rfl rfl rfl ?_
  rintro d rfl
  simp only [go_sem, simprocAttr, hw]
  refine Gif.mk (fun h => ?_) (fun h => ?_)
  ·simp only [h, Bool.true_or] at hr
   simp only [retK, resD, retL, oneD, simprocAttr, Tryz.results184]
   exact ⟨_, rfl, rfl, congrArg bln hr⟩
  ·simp only [h, Bool.false_or] at hr
   refine ⟨m, _, ?_, ?_, i + 1, ?_, ?_, hr, rfl⟩
   ·omega
   ·exact lessA
   ·omega
   ·omega
 ·have hlt' : ((i : Int) < (l.length : Int)) = False := eq_false (by omega)
  rw [show l.length - i = 0 by omega, twiceFrom] at hr
  simp only [go_sem, simprocAttr, hlt']
  simp only [retK, resD, retL, oneD, simprocAttr, Tryz.results184]
  exact ⟨_, rfl, rfl, congrArg bln hr⟩

def matchMay (m : AMatch) : Bool :=
 pathMay m.pkind m.pval && (decide (m.method = ⟨#[]⟩) || method m.method) && decide (m.head.length ≤ 8) && !m.head.any pairOdd && !pairTwice foldSame m.head && decide (m.query.length ≤ 8) && queryMay m.query && !pairTwice strSame m.query

set_option maxHeartbeats 1000000 in
theorem rule_May (m : AMatch) (h : m.ok) : Pure Tryz.prog 142 [m.d] (fun d => d = bln (matchMay m)) := by
 refine pure_of_run follows an_zi87h Tryz.func142 rfl ok_zi87h.1 ok_zi87h.2 (by simp [Tryz.ntmps142]) ?_
 rw [run_start]
 simp only [ac_zi87h, go_sem, simprocAttr]
 (repeat' (first | (refine GifP.mk (fun _ => ?_) (fun _ => ?_)) | (refine Gif.mk (fun _ => ?_) (fun _ => ?_)) | ((first | refine (path_May _ _).callW (enters_of Tryz.func181 rfl rfl) _ rfl rfl ?_ | refine (rule_Method _).callW (enters_of Tryz.func182 rfl rfl) _ rfl rfl ?_ | refine (ContainsP_Pair pairOdd _ (enters_of Tryz.func178 rfl rfl) m.head h.hl (fun p hp => rule_May_1 p (h.h p hp))).callW (enters_of Tryz.func183 rfl rfl) _ rfl rfl ?_ | refine (rule_twice foldSame _ (enters_of Tryz.func185 rfl rfl) m.head h.hl (fun x hx y hy => pairs_Same _ _ (h.h y hy).1 (h.h x hx).1)).callW (enters_of Tryz.func184 rfl rfl) _ rfl rfl ?_ | refine (rule_twice strSame _ (enters_of Tryz.func187 rfl rfl) m.query h.ql (fun x hx y hy => rule_May_2 _ _)).callW (enters_of Tryz.func184 rfl rfl) _ rfl rfl ?_ | refine (query_May m.query h.ql).callW (enters_of Tryz.func186 rfl rfl) _ rfl rfl ?_); rintro _ rfl; try simp only [go_sem, simprocAttr]))) <;> (simp only [retK, resD, retL, oneD, simprocAttr, Tryz.results142]; exact ⟨_, rfl, rfl, congrArg bln (by first | rfl | (rw [Bool.eq_iff_iff]; simp only [matchMay]; (first | (simp; done) | (simp; omega) | (simp [*]; done) | (simp [*]; omega))) | (simp_all [matchMay]; done) | (exfalso; omega))⟩)

def matchSame (a b : AMatch) : Bool := decide (a.pkind = b.pkind) && decide (a.pval = b.pval) && decide (a.method = b.method) && decide (a.head = b.head) && decide (a.query = b.query)

theorem rule_Same (a b : AMatch) (ha : a.ok) (hb : b.ok) : Pure Tryz.prog 108 [a.d, b.d] (fun d => d = bln (matchSame a b)) := by
 refine pure_of_run follows an_zb37x Tryz.func108 rfl ok_zb37x.1 ok_zb37x.2 (by simp [Tryz.ntmps108]) ?_
 rw [run_start]
 simp only [ac_zb37x, go_sem, simprocAttr, eqVs, eqV]
 (repeat' (first | (refine GifP.mk (fun _ => ?_) (fun _ => ?_)) | (refine Gif.mk (fun _ => ?_) (fun _ => ?_)) | ((first | refine (Equal_Pair a.head b.head ha.hl hb.hl).callW (enters_of Tryz.func45 rfl rfl) _ rfl rfl ?_ | refine (Equal_Pair a.query b.query ha.ql hb.ql).callW (enters_of Tryz.func45 rfl rfl) _ rfl rfl ?_); rintro _ rfl; try simp only [go_sem, simprocAttr, eqVs, eqV]))) <;> (simp only [retK, resD, retL, oneD, simprocAttr, Tryz.results108]; exact ⟨_, rfl, rfl, congrArg bln (by first | rfl | (rw [Bool.eq_iff_iff]; simp only [matchSame]; (first | (simp; done) | (simp; omega) | (simp [*]; done) | (simp [*]; omega))) | (simp_all [matchSame]; done) | (exfalso; omega))⟩)


theorem get_byte {s : ByteArray} {i : Nat} {b : UInt8} (h : s[i]? = some b) : s.get! i = b := by
 rw [bytes_get] at h
 have h1 : s.data[i]? = some b := by rw [← Array.getElem?_toList]; exact h
 simp only [ByteArray.get!]
 rw [getElem!_def, h1]

theorem decode_low {s : ByteArray} {i : Nat} {b : UInt8} (h : s[i]? = some b) (hb : b.toNat < 128) : Utf8.decode s i = (b.toNat, 1) := by
 rw [Lib.decode_at, get_byte h, Lib.decodeN, if_pos hb]

theorem decode_high {s : ByteArray} {i : Nat} {b : UInt8} (h : s[i]? = some b) (hb : ¬ b.toNat < 128) : 128 ≤ (Utf8.decode s i).1 := by
 rw [Lib.decode_at, get_byte h, Lib.decodeN, if_neg hb]
 repeat' split
 all_goals first | omega | (simp only []; omega)

theorem runeAll_bytes {p : Int → Bool} (hp : ∀ c, 128 ≤ c → p c = false) (s : ByteArray) : ∀ (k pos : Nat), s.size ≤ pos + k → runeAll p s k pos = (s.data.toList.drop pos).all fun b => p b.toNat
 | 0, pos, h => by
   rw [byte_end (by omega)]
   rfl
 | k + 1, pos, h => by
   by_cases hlt : pos < s.size
   ·obtain ⟨b, hb, hd⟩ := byte_at hlt
    rw [hd, List.all_cons]
    simp only [runeAll, hlt, if_true]
    by_cases h1 : b.toNat < 128
    ·rw [decode_low hb h1, runeAll_bytes hp s k (pos + 1) (by omega)]
    ·have h2 := decode_high hb h1
     rw [hp _ (by omega), hp (b.toNat : Int) (by omega)]
     simp
   ·rw [runeAll_end hlt, byte_end hlt]
    rfl

theorem runeIdx_all (p : Int → Bool) (s : ByteArray) : ∀ (k pos : Nat), (runeIdx (fun c => !p c) s k pos < 0) = (runeAll p s k pos = true)
 | 0, pos => by simp [runeIdx, runeAll]
 | k + 1, pos => by
   simp only [runeIdx, runeAll]
   split
   ·obtain ⟨q, hq⟩ : ∃ q, p (Utf8.decode s pos).1 = q := ⟨_, rfl⟩
    cases q with
    | false => simp only [hq, Bool.not_false, if_true, Bool.false_and, Bool.false_eq_true, eq_iff_iff, iff_false]; omega
    | true =>
      simp only [hq, Bool.not_true, Bool.false_eq_true, if_false, Bool.true_and]
      exact runeIdx_all p s k _
   ·simp

theorem idx_none {p : Int → Bool} (hp : ∀ c, 128 ≤ c → p c = false) (s : ByteArray) : decide (runeIdx (fun c => !p c) s s.size 0 < 0) = s.data.toList.all fun b => p b.toNat := by
 rw [Bool.eq_iff_iff, decide_eq_true_eq, runeIdx_all, runeAll_bytes hp s s.size 0 (by omega)]
 rfl

theorem all_bytes {s : ByteArray} {p : UInt8 → Bool} : s.data.toList.all p = true ↔ ∀ (j : Nat) (b : UInt8), s[j]? = some b → p b = true := by
 rw [List.all_eq_true]
 constructor
 ·intro h j b hb
  rw [bytes_get] at hb
  exact h b (List.mem_of_getElem? hb)
 ·intro h b hb
  obtain ⟨j, hj⟩ := List.getElem?_of_mem hb
  exact h j b (by rw [bytes_get]; exact hj)

def labAt (n j : Nat) (b : UInt8) : Bool := ((decide (97 ≤ b.toNat) && decide (b.toNat ≤ 122)) || (decide (48 ≤ b.toNat) && decide (b.toNat ≤ 57))) || (decide (b.toNat = 45) && !(decide (j = 0) || decide (j + 1 = n)))

theorem size0 {s : ByteArray} : s = ⟨#[]⟩ ↔ s.size = 0 := by
 constructor
 ·intro h; rw [h]; rfl
 ·intro h
  have : s.data = #[] := Array.eq_empty_of_size_eq_zero h
  cases s; simp_all

theorem label_iff (s : ByteArray) : label s = true ↔ 1 ≤ s.size ∧ s.size ≤ 20 ∧ ∀ (j : Nat) (b : UInt8), s[j]? = some b → labAt s.size j b = true := by
 have ho : ∀ c : Int, 128 ≤ c → octet c = false := fun c h => by simp [octet]; omega
 simp only [label, idx_none ho, Bool.and_eq_true, Bool.not_eq_true', decide_eq_true_eq, decide_eq_false_iff_not, size0, all_bytes]
 constructor
 ·rintro ⟨⟨⟨⟨h1, h2⟩, h3⟩, h4⟩, h5⟩
  refine ⟨by omega, h2, fun j b hb => ?_⟩
  have h6 := h3 j b hb
  simp only [octet, Bool.or_eq_true, Bool.and_eq_true, decide_eq_true_eq] at h6
  simp only [labAt, Bool.or_eq_true, Bool.and_eq_true, decide_eq_true_eq, Bool.not_eq_true', Bool.or_eq_false_iff, decide_eq_false_iff_not]
  by_cases e : b.toNat = 45
  ·right
   refine ⟨e, fun e0 => ?_, fun e1 => ?_⟩
   ·subst e0
    rw [hb] at h4
    simp [e] at h4
   ·have : j = s.size - 1 := by omega
    rw [← this, hb] at h5
    simp [e] at h5
  ·left
   omega
 ·rintro ⟨h1, h2, h3⟩
  refine ⟨⟨⟨⟨by omega, h2⟩, fun j b hb => ?_⟩, ?_⟩, ?_⟩
  ·have h6 := h3 j b hb
   simp only [labAt, Bool.or_eq_true, Bool.and_eq_true, decide_eq_true_eq] at h6
   simp only [octet, Bool.or_eq_true, Bool.and_eq_true, decide_eq_true_eq]
   omega
  ·obtain ⟨b, hb⟩ := at_byte (show 0 < s.size by omega)
   have h6 := h3 0 b hb
   rw [hb]
   simp [labAt] at h6 ⊢
   omega
  ·obtain ⟨b, hb⟩ := at_byte (show s.size - 1 < s.size by omega)
   have h6 := h3 _ b hb
   rw [hb]
   have : s.size - 1 + 1 = s.size := by omega
   simp [labAt, this] at h6 ⊢
   omega

def stepR (c : UInt8) (out : List ByteArray) (b : UInt8) : List ByteArray :=
 if b = c then out ++ [⟨#[]⟩] else out.set (out.length - 1) (out.getD (out.length - 1) default ++ ⟨#[b]⟩)

def splitR (c : UInt8) (l : List UInt8) : List ByteArray := l.foldl (stepR c) [⟨#[]⟩]

def partsL (c : UInt8) : ByteArray → List UInt8 → List ByteArray
 | cur, [] => [cur]
 | cur, b :: l => if b = c then cur :: partsL c ⟨#[]⟩ l else partsL c (cur ++ ⟨#[b]⟩) l

theorem foldl_parts (c : UInt8) : ∀ (l : List UInt8) (pre : List ByteArray) (cur : ByteArray), l.foldl (stepR c) (pre ++ [cur]) = pre ++ partsL c cur l
 | [], _, _ => rfl
 | b :: l, pre, cur => by
   simp only [List.foldl_cons, partsL]
   by_cases e : b = c
   ·simp only [stepR, e, if_true]
    rw [foldl_parts c l (pre ++ [cur]) ⟨#[]⟩, List.append_assoc]
    rfl
   ·simp only [stepR, e, if_false]
    have h1 : (pre ++ [cur]).length - 1 = pre.length := by simp
    rw [h1, List.getD_eq_getElem?_getD, List.getElem?_append_right (Nat.le_refl _), Nat.sub_self, List.set_append_right _ _ (Nat.le_refl _), Nat.sub_self]
    exact foldl_parts c l pre (cur ++ ⟨#[b]⟩)

theorem app_assoc (a b c : ByteArray) : a ++ b ++ c = a ++ (b ++ c) := ByteArray.append_assoc
theorem app_nil (a : ByteArray) : a ++ ⟨#[]⟩ = a := by
 apply ByteArray.ext
 simp
theorem app_list (a : ByteArray) (b : UInt8) (l : List UInt8) : a ++ ⟨#[b]⟩ ++ ⟨l.toArray⟩ = a ++ ⟨(b :: l).toArray⟩ := by
 rw [app_assoc]
 congr 1

theorem partsL_eq (c : UInt8) : ∀ (l : List UInt8) (cur : ByteArray),
 partsL c cur l = if Lib.indexByte l c < 0 then [cur ++ ⟨l.toArray⟩] else (cur ++ ⟨(l.take (Lib.indexByte l c).toNat).toArray⟩) :: partsL c ⟨#[]⟩ (l.drop ((Lib.indexByte l c).toNat + 1))
 | [], cur => by
   have h : Lib.indexByte [] c < 0 := by simp [Lib.indexByte]
   rw [if_pos h]
   simp only [partsL, app_nil]
 | b :: l, cur => by
   have hg := Lib.indexByte_ge l c
   have hi : Lib.indexByte (b :: l) c = if b == c then 0 else if Lib.indexByte l c == -1 then -1 else Lib.indexByte l c + 1 := rfl
   simp only [beq_iff_eq] at hi
   simp only [partsL]
   by_cases e : b = c
   ·rw [if_pos e] at hi
    rw [hi]
    simp [e, app_nil]
   ·rw [if_neg e] at hi
    rw [if_neg e, partsL_eq c l (cur ++ ⟨#[b]⟩)]
    by_cases h : Lib.indexByte l c = -1
    ·rw [if_pos h] at hi
     rw [if_pos (by omega), hi, if_pos (by decide), app_list]
    ·rw [if_neg h] at hi
     have hn : ¬ Lib.indexByte l c < 0 := by omega
     have h1 : (Lib.indexByte l c + 1).toNat = (Lib.indexByte l c).toNat + 1 := by omega
     rw [hi, if_neg hn, if_neg (by omega), h1, List.take_succ_cons, List.drop_succ_cons, app_list]

theorem extract_list (s : ByteArray) (i j : Nat) : s.extract i j = ⟨((s.data.toList.take j).drop i).toArray⟩ := by
 apply ByteArray.ext
 rw [ByteArray.data_extract]
 apply Array.ext'
 simp [List.drop_take]

theorem parts_splitB (c : UInt8) : ∀ (k : Nat) (s : ByteArray), s.size ≤ k → partsL c ⟨#[]⟩ s.data.toList = splitB c k s
 | 0, s, h => by
   have hs : s.data.toList = [] := List.eq_nil_of_length_eq_zero (by rw [size_list]; omega)
   rw [hs]
   have := size0.2 (show s.size = 0 by omega)
   simp only [partsL, splitB, this]
 | k + 1, s, h => by
   rw [partsL_eq]
   simp only [splitB]
   have e0 : ∀ l : List UInt8, (⟨#[]⟩ : ByteArray) ++ ⟨l.toArray⟩ = ⟨l.toArray⟩ := fun l => by apply ByteArray.ext; simp
   split
   ·rw [e0]
   ·rename_i hn
    have hlt := (indexByte_lt s.data.toList c).resolve_left hn
    rw [size_list] at hlt
    rw [e0, extract_list s 0, List.drop_zero]
    congr 1
    rw [← parts_splitB c k (s.extract ((Lib.indexByte s.data.toList c).toNat + 1) s.size) (by rw [ByteArray.size_extract]; omega)]
    rw [extract_list]
    simp only [List.take_of_length_le (show s.data.toList.length ≤ s.size from Nat.le_of_eq (size_list s))]

theorem splitR_eq (c : UInt8) (s : ByteArray) : splitR c s.data.toList = splitB c s.size s := by
 rw [← parts_splitB c s.size s (Nat.le_refl _)]
 exact foldl_parts c s.data.toList [] ⟨#[]⟩

theorem splitR_step (c : UInt8) {s : ByteArray} {i : Nat} {b : UInt8} (hb : s[i]? = some b) : splitR c (s.data.toList.take (i + 1)) = stepR c (splitR c (s.data.toList.take i)) b := by
 rw [take_at (by rw [← bytes_get]; exact hb)]
 unfold splitR
 rw [List.foldl_append]
 rfl

theorem stepR_len (c : UInt8) (out : List ByteArray) (b : UInt8) : out.length ≤ (stepR c out b).length ∧ (stepR c out b).length ≤ out.length + 1 := by
 unfold stepR
 split <;> simp

theorem splitR_len (c : UInt8) (l : List UInt8) : 1 ≤ (splitR c l).length ∧ (splitR c l).length ≤ l.length + 1 := by
 unfold splitR
 suffices h : ∀ (l : List UInt8) (out : List ByteArray), out.length ≤ (l.foldl (stepR c) out).length ∧ (l.foldl (stepR c) out).length ≤ l.length + out.length from by
  have := h l [⟨#[]⟩]
  simpa using this
 intro l
 induction l with
 | nil => intro out; simp
 | cons b l ih =>
   intro out
   have h1 := ih (stepR c out b)
   have h2 := stepR_len c out b
   simp only [List.foldl_cons, List.length_cons]
   omega

theorem stepR_size (c : UInt8) {out : List ByteArray} {b : UInt8} {n : Nat} (h : ∀ x ∈ out, x.size ≤ n) : ∀ x ∈ stepR c out b, x.size ≤ n + 1 := by
 intro x hx
 unfold stepR at hx
 split at hx
 ·rcases List.mem_append.1 hx with h1 | h1
  ·have := h x h1; omega
  ·simp only [List.mem_singleton] at h1
   subst h1
   exact Nat.zero_le _
 ·rcases List.mem_or_eq_of_mem_set hx with h1 | h1
  ·have := h x h1; omega
  ·subst h1
   rw [ByteArray.size_append]
   have h2 : (out.getD (out.length - 1) default).size ≤ n := by
    rw [List.getD_eq_getElem?_getD]
    cases h3 : out[out.length - 1]? with
    | none => exact Nat.zero_le _
    | some y => exact h y (List.mem_of_getElem? h3)
   have h4 : (ByteArray.mk #[b]).size = 1 := rfl
   omega

theorem splitR_size (c : UInt8) (l : List UInt8) : ∀ x ∈ splitR c l, x.size ≤ l.length := by
 unfold splitR
 suffices h : ∀ (l : List UInt8) (out : List ByteArray) (n : Nat), (∀ x ∈ out, x.size ≤ n) → ∀ x ∈ l.foldl (stepR c) out, x.size ≤ n + l.length from by
  have := h l [⟨#[]⟩] 0 (fun x hx => by simp only [List.mem_singleton] at hx; subst hx; exact Nat.zero_le _)
  simpa using this
 intro l
 induction l with
 | nil => intro out n h; simpa using h
 | cons b l ih =>
   intro out n h x hx
   have := ih (stepR c out b) (n + 1) (stepR_size c h) x hx
   simp only [List.length_cons]
   omega

theorem byte_one {s : ByteArray} {i : Nat} {b : UInt8} (hb : s[i]? = some b) : s.extract i (i + 1) = ⟨#[b]⟩ := by
 rw [extract_list, take_at (by rw [← bytes_get]; exact hb)]
 have hi : i < s.data.toList.length := (List.getElem?_eq_some_iff.1 ((bytes_get s i).symm.trans hb)).1
 rw [List.drop_append_of_le_length (by rw [List.length_take]; omega), List.drop_eq_nil_of_le (by rw [List.length_take]; omega)]
 rfl


def fturner (f : AFilter) : Bool := decide (f.kind = 4) || decide (f.kind = 5)

theorem filter_turner (f : AFilter) : Pure Tryz.prog 189 [f.d] (fun d => d = bln (fturner f)) := by
 refine pure_of_run follows an_zm6be Tryz.func189 rfl ok_zm6be.1 ok_zm6be.2 (by simp [Tryz.ntmps189]) ?_
 rw [run_start]
 simp only [ac_zm6be, go_sem, simprocAttr]
 (repeat' (first | (refine GifP.mk (fun _ => ?_) (fun _ => ?_)) | (refine Gif.mk (fun _ => ?_) (fun _ => ?_)))) <;> (simp only [retK, resD, retL, oneD, simprocAttr, Tryz.results189]; exact ⟨_, rfl, rfl, congrArg bln (by first | rfl | (rw [Bool.eq_iff_iff]; simp only [fturner]; (first | (simp; done) | (simp; omega) | (simp [*]; done) | (simp [*]; omega))) | (simp_all [fturner]; done) | (exfalso; omega))⟩)

def fturns (f : AFilter) : Bool :=
 !(!decide (f.host = ⟨#[]⟩) && !dname f.host) && (if f.path = ⟨#[]⟩ then !f.whole else if f.whole = true then pathIs f.path else pathMay 2 f.path)

theorem filter_turns (f : AFilter) : Pure Tryz.prog 223 [f.d] (fun d => d = bln (fturns f)) := by
 refine pure_of_run follows an_z3d8y Tryz.func223 rfl ok_z3d8y.1 ok_z3d8y.2 (by simp [Tryz.ntmps223]) ?_
 rw [run_start]
 simp only [ac_z3d8y, go_sem, simprocAttr]
 (repeat' (first | (refine GifP.mk (fun _ => ?_) (fun _ => ?_)) | (refine Gif.mk (fun _ => ?_) (fun _ => ?_)) | ((first | refine (dns_Name _).callW (enters_of Tryz.func70 rfl rfl) _ rfl rfl ?_ | refine (path_Is _).callW (enters_of Tryz.func217 rfl rfl) _ rfl rfl ?_ | refine (path_May _ _).callW (enters_of Tryz.func181 rfl rfl) _ rfl rfl ?_); rintro _ rfl; try simp only [go_sem, simprocAttr]))) <;> (simp only [retK, resD, retL, oneD, simprocAttr, Tryz.results223]; exact ⟨_, rfl, rfl, congrArg bln (by first | rfl | (rw [Bool.eq_iff_iff]; simp only [fturns]; (first | (simp; done) | (simp; omega) | (simp [*]; done) | (simp [*]; omega))) | (simp_all [fturns]; done) | (exfalso; omega))⟩)

def fzero (n v h p t w c : Bool) (f : AFilter) : Bool :=
 (n || decide (f.name = ⟨#[]⟩)) && (v || decide (f.val = ⟨#[]⟩)) && (h || decide (f.host = ⟨#[]⟩)) && (p || decide (f.port = 0)) && (t || decide (f.path = ⟨#[]⟩)) && (w || !f.whole) && (c || decide (f.code = 0))

def filterMay (f : AFilter) : Bool :=
 if f.kind = 1 ∨ f.kind = 2 then fzero true true false false false false false f && token f.name && fvalue f.val
 else if f.kind = 3 then fzero true false false false false false false f && token f.name
 else if f.kind = 4 then decide (f.name = ⟨#[]⟩) && decide (f.val = ⟨#[]⟩) && fturns f && decide (0 ≤ f.port) && decide (f.port ≤ 65535) && (decide (f.code = 301) || decide (f.code = 302))
 else if f.kind = 5 then fzero false false true false true true false f && fturns f && (!decide (f.host = ⟨#[]⟩) || !decide (f.path = ⟨#[]⟩))
 else false

theorem beq_self_true {b : Bool} : (b == b) = true := by cases b <;> rfl

set_option maxHeartbeats 1000000 in
theorem filter_May (f : AFilter) (h : f.ok) : Pure Tryz.prog 190 [f.d] (fun d => d = bln (filterMay f)) := by
 refine pure_of_run follows an_zhj59 Tryz.func190 rfl ok_zhj59.1 ok_zhj59.2 (by simp [Tryz.ntmps190]) ?_
 rw [run_start]
 simp only [ac_zhj59, go_sem, simprocAttr, eqVs, eqV, beq_self_true]
 (repeat' (first | (refine GifP.mk (fun _ => ?_) (fun _ => ?_)) | (refine Gif.mk (fun _ => ?_) (fun _ => ?_)) | ((first | refine (pairs_Token f.name h.1).callW (enters_of Tryz.func179 rfl rfl) _ rfl rfl ?_ | refine (pairs_Value f.val h.2).callW (enters_of Tryz.func180 rfl rfl) _ rfl rfl ?_ | refine (filter_turns f).callW (enters_of Tryz.func223 rfl rfl) _ rfl rfl ?_); rintro _ rfl; try simp only [go_sem, simprocAttr, eqVs, eqV, beq_self_true]))) <;> (simp only [retK, resD, retL, oneD, simprocAttr, Tryz.results190]; exact ⟨_, rfl, rfl, congrArg bln (by first | rfl | (rw [Bool.eq_iff_iff]; simp only [filterMay, fzero]; (first | (simp; done) | (simp; omega) | (simp [*]; done) | (simp [*]; omega))) | (simp_all [filterMay, fzero]; done) | (exfalso; omega))⟩)

def likeF (f x : AFilter) : Bool := (fturner x && fturner f) || (decide (x.kind = f.kind) && foldSame x.name f.name)

abbrev AFilter.ds (f : AFilter) : List D := [int f.kind, str f.name, str f.val, str f.host, int f.port, str f.path, bln f.whole, int f.code]

theorem filter_All_1 (f x : AFilter) (hf : f.ok) (hx : x.ok) : PureB Tryz.prog 188 [x.d, .ptr 1000001 0] [(1000001, f.ds)] (fun d => d = bln (likeF f x)) := by
 refine pureB_of_run follows an_z38ed Tryz.func188 rfl ok_z38ed.1 ok_z38ed.2 (by simp [Tryz.ntmps188]) ?_
 rw [run_start]
 simp only [ac_z38ed, go_sem, simprocAttr]
 (repeat' (first | (refine GifP.mk (fun _ => ?_) (fun _ => ?_)) | (refine Gif.mk (fun _ => ?_) (fun _ => ?_)) | ((first | refine (filter_turner x).callW (enters_of Tryz.func189 rfl rfl) _ rfl rfl ?_ | refine (filter_turner f).callW (enters_of Tryz.func189 rfl rfl) _ rfl rfl ?_ | refine (pairs_Same _ _ hx.1 hf.1).callW (enters_of Tryz.func185 rfl rfl) _ rfl rfl ?_); rintro _ rfl; try simp only [go_sem, simprocAttr]))) <;> (simp only [retK, resD, retL, oneD, simprocAttr, Tryz.results188]; exact ⟨_, rfl, rfl, congrArg bln (by first | rfl | (rw [Bool.eq_iff_iff]; simp only [likeF]; (first | (simp; done) | (simp; omega) | (simp [*]; done) | (simp [*]; omega))) | (simp_all [likeF]; done) | (exfalso; omega))⟩)

def filtersFrom (l : List AFilter) : Nat → Nat → Bool
 | 0, _ => true
 | k + 1, i => (match l[i]? with
   | some f => filterMay f && !(l.take i).any (likeF f)
   | none => true) && filtersFrom l k (i + 1)

def filtersAll (l : List AFilter) : Bool := filtersFrom l l.length 0 && decide (l.length ≤ 8)

theorem filter_All (l : List AFilter) (hl : l.length ≤ 1000000) (ho : ∀ f ∈ l, f.ok) : Pure Tryz.prog 143 [.pd (.slice (rows AFilter.pd l))] (fun d => d = bln (filtersAll l)) := by
 refine pure_of_run follows an_zhmnj Tryz.func143 rfl ok_zhmnj.1 ok_zhmnj.2 (by simp [Tryz.ntmps143]) ?_
 rw [run_start]
 simp only [ac_zhmnj, go_sem, simprocAttr]
 refine loopS (fun k st => ∃ i : Nat, k = l.length - i ∧ i ≤ l.length ∧ filtersFrom l k i = filtersFrom l l.length 0 ∧
  st = ⟨[(0, .pd (.slice (rows AFilter.pd l))), (6, .pd (.slice (rows AFilter.pd l))), (7, int l.length), (8, int i)], [], [], .no⟩) l.length _ (Weak.refl _ _) ⟨0, rfl, Nat.zero_le _, rfl, rfl⟩ ?_
 rintro k st ⟨i, rfl, hi, hr, rfl⟩
 by_cases hlt : i < l.length
 ·obtain ⟨x, hx⟩ := at_lt hlt
  have hlt' : ((i : Int) < (l.length : Int)) = True := eq_true (by omega)
  have hle : (i ≤ l.length) = True := eq_true (by omega)
  have hw := i64_succ (show i < 1000000000 by omega)
  have hmx := List.mem_of_getElem? hx
  obtain ⟨m, hm⟩ : ∃ m, l.length - i = m + 1 := ⟨l.length - i - 1, by omega⟩
  rw [hm, filtersFrom, hx] at hr
  have hrows : rowsOK 8 (rows AFilter.pd l) = True := rowsOK_rows (f := AFilter.pd) (n := 8) (fun _ => rfl) l
  have htk : (rows AFilter.pd l).take i = rows AFilter.pd (l.take i) := by simp [rows, List.map_take]
  have bad : filtersFrom l l.length 0 = false → filtersAll l = false := fun h => by simp [filtersAll, h]
  simp only [go_sem, simprocAttr, hlt', rows_get hx, rows_len, hrows, hle, htk]
  refine (filter_May x (ho x hmx)).callW (enters_of Tryz.func190 rfl rfl) _ rfl rfl ?_
  rintro d rfl
  simp only [go_sem, simprocAttr, hrows, hle, htk, rows_len]
  refine Gif.mk (fun h => ?_) (fun h => ?_)
  ·refine (ContainsFunc_Filter (likeF x) 188 (enters_of Tryz.func188 rfl rfl) [(1000001, 0)] [(1000001, x.ds)] (Cl.of rfl rfl rfl rfl rfl) (l.take i) (by simp; omega)
    (fun y hy => filter_All_1 x y (ho x hmx) (ho y (List.mem_of_mem_take hy)))).callW (enters_of Tryz.func191 rfl rfl) _ [(4, 1000001)] rfl rfl rfl ?_
   rintro d rfl
   simp only [go_sem, simprocAttr, hw]
   refine Gif.mk (fun h2 => ?_) (fun h2 => ?_)
   ·simp only [h, h2, Bool.not_true, Bool.and_false, Bool.false_and] at hr
    simp only [retK, resD, retL, oneD, simprocAttr, Tryz.results143]
    exact ⟨_, rfl, rfl, congrArg bln (bad hr.symm).symm⟩
   ·simp only [h, h2, Bool.not_false, Bool.and_true, Bool.true_and] at hr
    refine ⟨m, _, ?_, ?_, i + 1, ?_, ?_, hr, rfl⟩
    ·omega
    ·exact lessA
    ·omega
    ·omega
  ·simp only [h, Bool.false_and] at hr
   simp only [retK, resD, retL, oneD, simprocAttr, Tryz.results143]
   exact ⟨_, rfl, rfl, congrArg bln (bad hr.symm).symm⟩
 ·have hlt' : ((i : Int) < (l.length : Int)) = False := eq_false (by omega)
  rw [show l.length - i = 0 by omega, filtersFrom] at hr
  simp only [go_sem, simprocAttr, hlt']
  repeat' (first | refine GifP.mk (fun _ => ?_) (fun _ => ?_) | refine Gif.mk (fun _ => ?_) (fun _ => ?_))
  all_goals
   simp only [retK, resD, retL, oneD, simprocAttr, Tryz.results143]
   exact ⟨_, rfl, rfl, congrArg bln (by first | rfl | (rw [Bool.eq_iff_iff]; simp only [filtersAll, ← hr]; (first | (simp; done) | (simp; omega) | (simp [*]; done) | (simp [*]; omega))) | (simp_all [filtersAll, ← hr]; done) | (exfalso; omega))⟩

def listenerMay (l : AListener) : Bool :=
 (if l.tls = true then decide (l.cert.kind = 4) && labValue l.cert.space && dname l.cert.name else decide (l.cert.kind = 0) && decide (l.cert.space = ⟨#[]⟩) && decide (l.cert.name = ⟨#[]⟩)) &&
 label l.name && oport l.port && hostMay l.host && decide (0 ≤ l.from_) && decide (l.from_ ≤ 2) && needsMay l.needs && (decide (l.from_ = 2) || decide (l.needs.length = 0))

structure AListener.ok (l : AListener) : Prop where
 nl : l.needs.length ≤ 1000000
 n : ∀ x ∈ l.needs, x.ok

set_option maxHeartbeats 1000000 in
theorem object_listener (l : AListener) (h : l.ok) : Pure Tryz.prog 84 [l.d] (fun d => d = bln (listenerMay l)) := by
 refine pure_of_run follows an_z5xl6 Tryz.func84 rfl ok_z5xl6.1 ok_z5xl6.2 (by simp [Tryz.ntmps84]) ?_
 rw [run_start]
 simp only [ac_z5xl6, go_sem, simprocAttr, eqVs, eqV]
 (repeat' (first | (refine GifP.mk (fun _ => ?_) (fun _ => ?_)) | (refine Gif.mk (fun _ => ?_) (fun _ => ?_)) | ((first | refine (object_near _).callW (enters_of Tryz.func129 rfl rfl) _ rfl rfl ?_ | refine (dns_Name _).callW (enters_of Tryz.func70 rfl rfl) _ rfl rfl ?_ | refine (dns_Label _).callW (enters_of Tryz.func71 rfl rfl) _ rfl rfl ?_ | refine (object_port _).callW (enters_of Tryz.func78 rfl rfl) _ rfl rfl ?_ | refine (host_May _).callW (enters_of Tryz.func91 rfl rfl) _ rfl rfl ?_ | refine (label_Needs l.needs h.nl h.n).callW (enters_of Tryz.func130 rfl rfl) _ rfl rfl ?_); rintro _ rfl; try simp only [go_sem, simprocAttr, eqVs, eqV]))) <;> (simp only [retK, resD, retL, oneD, simprocAttr, Tryz.results84]; exact ⟨_, rfl, rfl, congrArg bln (by first | rfl | (rw [Bool.eq_iff_iff]; simp only [listenerMay]; (first | (simp; done) | (simp; omega) | (simp [*]; done) | (simp [*]; omega))) | (simp_all [listenerMay]; done) | (exfalso; omega))⟩)

structure ARule.ok (r : ARule) : Prop where
 ml : r.matches_.length ≤ 1000000
 fl : r.filters.length ≤ 1000000
 bl : r.backends.length ≤ 1000000
 m : ∀ x ∈ r.matches_, x.ok
 f : ∀ x ∈ r.filters, x.ok

def ruleMay (r : ARule) : Bool := every matchMay r.matches_ 4 && filtersAll r.filters && every backendMay r.backends 4

theorem object_ruled (r : ARule) (h : r.ok) : Pure Tryz.prog 96 [r.d] (fun d => d = bln (ruleMay r)) := by
 refine pure_of_run follows an_zjms9 Tryz.func96 rfl ok_zjms9.1 ok_zjms9.2 (by simp [Tryz.ntmps96]) ?_
 rw [run_start]
 simp only [ac_zjms9, go_sem, simprocAttr]
 (repeat' (first | (refine GifP.mk (fun _ => ?_) (fun _ => ?_)) | (refine Gif.mk (fun _ => ?_) (fun _ => ?_)) | ((first | refine (every_Match matchMay _ (enters_of Tryz.func142 rfl rfl) r.matches_ h.ml 4 (fun x hx => rule_May x (h.m x hx))).callW (enters_of Tryz.func141 rfl rfl) _ rfl rfl ?_ | refine (filter_All r.filters h.fl h.f).callW (enters_of Tryz.func143 rfl rfl) _ rfl rfl ?_ | refine (every_Backend backendMay _ (enters_of Tryz.func145 rfl rfl) r.backends h.bl 4 (fun x _ => object_backend x)).callW (enters_of Tryz.func144 rfl rfl) _ rfl rfl ?_); rintro _ rfl; try simp only [go_sem, simprocAttr]))) <;> (simp only [retK, resD, retL, oneD, simprocAttr, Tryz.results96]; exact ⟨_, rfl, rfl, congrArg bln (by first | rfl | (rw [Bool.eq_iff_iff]; simp only [ruleMay]; (first | (simp; done) | (simp; omega) | (simp [*]; done) | (simp [*]; omega))) | (simp_all [ruleMay]; done) | (exfalso; omega))⟩)

def listenerSame (a b : AListener) : Bool :=
 decide (a.name = b.name) && decide (a.port = b.port) && (a.tls == b.tls) && decide (a.host = b.host) && decide (a.cert = b.cert) && decide (a.from_ = b.from_) && eqf needSame a.needs b.needs

theorem object_sameListener (a b : AListener) (ha : a.ok) (hb : b.ok) : Pure Tryz.prog 51 [a.d, b.d] (fun d => d = bln (listenerSame a b)) := by
 refine pure_of_run follows an_z1fwi Tryz.func51 rfl ok_z1fwi.1 ok_z1fwi.2 (by simp [Tryz.ntmps51]) ?_
 rw [run_start]
 simp only [ac_z1fwi, go_sem, simprocAttr, eqVs, eqV, eq_Ref]
 (repeat' (first | (refine GifP.mk (fun _ => ?_) (fun _ => ?_)) | (refine Gif.mk (fun _ => ?_) (fun _ => ?_)) | (refine (label_Same a.needs b.needs ha.nl hb.nl ha.n hb.n).callW (enters_of Tryz.func106 rfl rfl) _ rfl rfl ?_; rintro _ rfl; try simp only [go_sem, simprocAttr, eqVs, eqV, eq_Ref]))) <;> (simp only [retK, resD, retL, oneD, simprocAttr, Tryz.results51]; exact ⟨_, rfl, rfl, congrArg bln (by first | rfl | (rw [Bool.eq_iff_iff]; simp only [listenerSame]; (first | (simp; done) | (simp; omega) | (simp [*]; done) | (simp [*]; omega))) | (simp_all [listenerSame]; done) | (exfalso; omega))⟩)

def ruleSame (a b : ARule) : Bool := eqf matchSame a.matches_ b.matches_ && decide (a.filters = b.filters) && decide (a.backends = b.backends)

theorem object_sameRule (a b : ARule) (ha : a.ok) (hb : b.ok) : Pure Tryz.prog 53 [a.d, b.d] (fun d => d = bln (ruleSame a b)) := by
 refine pure_of_run follows an_z30xg Tryz.func53 rfl ok_z30xg.1 ok_z30xg.2 (by simp [Tryz.ntmps53]) ?_
 rw [run_start]
 simp only [ac_z30xg, go_sem, simprocAttr]
 (repeat' (first | (refine GifP.mk (fun _ => ?_) (fun _ => ?_)) | (refine Gif.mk (fun _ => ?_) (fun _ => ?_)) | ((first | refine (EqualFunc_Match matchSame _ (enters_of Tryz.func108 rfl rfl) a.matches_ b.matches_ ha.ml hb.ml (fun x hx y hy => rule_Same x y (ha.m x hx) (hb.m y hy))).callW (enters_of Tryz.func107 rfl rfl) _ rfl rfl ?_ | refine (Equal_Filter a.filters b.filters ha.fl hb.fl).callW (enters_of Tryz.func109 rfl rfl) _ rfl rfl ?_ | refine (Equal_Backend a.backends b.backends ha.bl hb.bl).callW (enters_of Tryz.func110 rfl rfl) _ rfl rfl ?_); rintro _ rfl; try simp only [go_sem, simprocAttr]))) <;> (simp only [retK, resD, retL, oneD, simprocAttr, Tryz.results53]; exact ⟨_, rfl, rfl, congrArg bln (by first | rfl | (rw [Bool.eq_iff_iff]; simp only [ruleSame]; (first | (simp; done) | (simp; omega) | (simp [*]; done) | (simp [*]; omega))) | (simp_all [ruleSame]; done) | (exfalso; omega))⟩)


def labelsFrom (l : List APair) : Nat → Nat → Bool
 | 0, _ => true
 | k + 1, i => (match l[i]? with
   | some p => dname p.name && labValue p.val && (decide (i = 0) || (match l[i - 1]? with | some q => Op.bytesLess q.name.toList p.name.toList | none => false))
   | none => true) && labelsFrom l k (i + 1)

def labelsMay (l : List APair) : Bool := labelsFrom l l.length 0 && decide (l.length ≤ 8)

set_option maxHeartbeats 1000000 in
theorem label_May (l : List APair) (hl : l.length ≤ 1000000) : Pure Tryz.prog 76 [.pd (.slice (rows APair.pd l))] (fun d => d = bln (labelsMay l)) := by
 refine pure_of_run follows an_z2iq3 Tryz.func76 rfl ok_z2iq3.1 ok_z2iq3.2 (by simp [Tryz.ntmps76]) ?_
 rw [run_start]
 simp only [ac_z2iq3, go_sem, simprocAttr]
 refine loopS (fun k st => ∃ i : Nat, k = l.length - i ∧ i ≤ l.length ∧ labelsFrom l k i = labelsFrom l l.length 0 ∧
  st = ⟨[(0, .pd (.slice (rows APair.pd l))), (5, .pd (.slice (rows APair.pd l))), (6, int l.length), (7, int i)], [], [], .no⟩) l.length _ (Weak.refl _ _) ⟨0, rfl, Nat.zero_le _, rfl, rfl⟩ ?_
 rintro k st ⟨i, rfl, hi, hr, rfl⟩
 by_cases hlt : i < l.length
 ·obtain ⟨x, hx⟩ := at_lt hlt
  have hlt' : ((i : Int) < (l.length : Int)) = True := eq_true (by omega)
  have hw := i64_succ (show i < 1000000000 by omega)
  obtain ⟨m, hm⟩ : ∃ m, l.length - i = m + 1 := ⟨l.length - i - 1, by omega⟩
  rw [hm, labelsFrom, hx] at hr
  have bad : labelsFrom l l.length 0 = false → labelsMay l = false := fun h => by simp [labelsMay, h]
  have good : ∀ st, Weak Tryz.prog st ⟨[(0, .pd (.slice (rows APair.pd l))), (5, .pd (.slice (rows APair.pd l))), (6, int l.length), (7, int (i + 1 : Nat))], [], [], .no⟩ → labelsFrom l m (i + 1) = labelsFrom l l.length 0 →
   Round Tryz.prog (fun k st => ∃ i : Nat, k = l.length - i ∧ i ≤ l.length ∧ labelsFrom l k i = labelsFrom l l.length 0 ∧
    st = ⟨[(0, .pd (.slice (rows APair.pd l))), (5, .pd (.slice (rows APair.pd l))), (6, int l.length), (7, int i)], [], [], .no⟩) (l.length - i) st := fun st hst hr =>
   ⟨m, _, by omega, hst, i + 1, by omega, by omega, hr, rfl⟩
  simp (maxSteps := 2000000) only [go_sem, simprocAttr, go_sem, hlt', rows_get hx, rows_len]
  refine (dns_Name x.name).callX (enters_of Tryz.func70 rfl rfl) _ rfl rfl ?_
  rintro d rfl
  simp (maxSteps := 2000000) only [go_sem, simprocAttr, go_sem, rows_len]
  refine Gif.mk (fun h1 => ?_) (fun h1 => ?_)
  ·refine (label_value x.val).callX (enters_of Tryz.func122 rfl rfl) _ rfl rfl ?_
   rintro d rfl
   by_cases hi0 : 0 < i
   ·obtain ⟨q, hq⟩ := at_lt (show i - 1 < l.length by omega)
    have h0 : ((0 : Int) < (i : Int)) = True := eq_true (by omega)
    have hw1 : IntKind.i64.wrap ((i : Int) - 1) = ((i - 1 : Nat) : Int) := by rw [IntWalk.i64_in _ (by omega)]; omega
    simp (maxSteps := 2000000) only [go_sem, simprocAttr, go_sem, rows_len, h0, hw1, rows_get hq, hw]
    refine Gif.mk (fun h2 => ?_) (fun h2 => ?_)
    ·refine Gif.mk (fun h3 => ?_) (fun h3 => ?_)
     ·refine good _ (lessA) ?_
      simpa [h1, h2, h3, hq] using hr
     ·simp only [retK, resD, retL, oneD, simprocAttr, Tryz.results76]
      refine ⟨_, rfl, rfl, congrArg bln (bad ?_).symm⟩
      rw [← hr]; simp [h1, h2, h3, hq]; omega
    ·simp only [retK, resD, retL, oneD, simprocAttr, Tryz.results76]
     refine ⟨_, rfl, rfl, congrArg bln (bad ?_).symm⟩
     rw [← hr]; simp [h1, h2]
   ·have h0 : ((0 : Int) < (i : Int)) = False := eq_false (by omega)
    simp (maxSteps := 2000000) only [go_sem, simprocAttr, go_sem, rows_len, h0, hw]
    refine Gif.mk (fun h2 => ?_) (fun h2 => ?_)
    ·refine good _ (lessA) ?_
     simpa [h1, h2, show i = 0 by omega] using hr
    ·simp only [retK, resD, retL, oneD, simprocAttr, Tryz.results76]
     refine ⟨_, rfl, rfl, congrArg bln (bad ?_).symm⟩
     rw [← hr]; simp [h1, h2]
  ·simp only [retK, resD, retL, oneD, simprocAttr, Tryz.results76]
   refine ⟨_, rfl, rfl, congrArg bln (bad ?_).symm⟩
   rw [← hr]; simp [h1]
 ·have hlt' : ((i : Int) < (l.length : Int)) = False := eq_false (by omega)
  rw [show l.length - i = 0 by omega, labelsFrom] at hr
  simp only [go_sem, simprocAttr, hlt']
  repeat' (first | refine GifP.mk (fun _ => ?_) (fun _ => ?_) | refine Gif.mk (fun _ => ?_) (fun _ => ?_))
  all_goals
   simp only [retK, resD, retL, oneD, simprocAttr, Tryz.results76]
   exact ⟨_, rfl, rfl, congrArg bln (by first | rfl | (rw [Bool.eq_iff_iff]; simp only [labelsMay, ← hr]; (first | (simp; done) | (simp; omega) | (simp [*]; done) | (simp [*]; omega))) | (simp_all [labelsMay, ← hr]; done) | (exfalso; omega))⟩

def sortFrom (l : List Int) : Nat → Bool
 | 0 => true
 | i + 1 => (match l[i + 1]?, l[i]? with
   | some a, some b => !intLess a b
   | _, _ => true) && sortFrom l i

def sortedInts (l : List Int) : Bool := sortFrom l (l.length - 1)

theorem slices_IsSorted_int (l : List Int) (hl : l.length ≤ 1000000) : Pure Tryz.prog 79 [.pd (.slice (ints l))] (fun d => d = bln (sortedInts l)) := by
 refine pure_of_run follows an_zhfyj Tryz.func79 rfl ok_zhfyj.1 ok_zhfyj.2 (by simp [Tryz.ntmps79]) ?_
 rw [run_start]
 have hw0 : IntKind.i64.wrap ((l.length : Int) - 1) = (l.length : Int) - 1 := IntWalk.i64_in _ (by omega)
 simp only [ac_zhfyj, go_sem, simprocAttr, go_sem, rows_len, hw0]
 refine loopS (fun k st => ∃ i : Int, k = i.toNat ∧ -1 ≤ i ∧ i < (l.length : Int) ∧ sortFrom l i.toNat = sortedInts l ∧
  st = ⟨[(0, .pd (.slice (ints l))), (3, int i)], [], [], .no⟩) ((l.length : Int) - 1).toNat _ (Weak.refl _ _) ⟨(l.length : Int) - 1, rfl, by omega, by omega, by
   rw [sortedInts]; congr 1; omega, rfl⟩ ?_
 rintro k st ⟨i, rfl, hi, hi2, hr, rfl⟩
 by_cases hlt : 0 < i
 ·obtain ⟨j, rfl⟩ : ∃ j : Nat, i = (j + 1 : Nat) := ⟨(i - 1).toNat, by omega⟩
  obtain ⟨x, hx⟩ := at_lt (show j + 1 < l.length by omega)
  obtain ⟨y, hy⟩ := at_lt (show j < l.length by omega)
  have hlt' : ((0 : Int) < ((j + 1 : Nat) : Int)) = True := eq_true (by omega)
  have hw : IntKind.i64.wrap (((j + 1 : Nat) : Int) - 1) = (j : Int) := by rw [IntWalk.i64_in _ (by omega)]; omega
  rw [Int.toNat_natCast, sortFrom, hx, hy] at hr
  simp only [go_sem, simprocAttr, go_sem, hlt', rows_get hx, rows_get hy, hw]
  refine (cmp_Less x y).callX (enters_of Tryz.func125 rfl rfl) _ rfl rfl ?_
  rintro d rfl
  simp only [go_sem, simprocAttr, go_sem, hw]
  refine Gif.mk (fun h => ?_) (fun h => ?_)
  ·simp only [h, Bool.not_true, Bool.false_and] at hr
   simp only [retK, resD, retL, oneD, simprocAttr, Tryz.results79]
   exact ⟨_, rfl, rfl, congrArg bln hr⟩
  ·simp only [h, Bool.not_false, Bool.true_and] at hr
   refine ⟨j, _, ?_, ?_, (j : Int), by simp, by omega, by omega, by simpa using hr, rfl⟩
   ·omega
   ·exact lessA
 ·have hlt' : ((0 : Int) < i) = False := eq_false hlt
  rw [show i.toNat = 0 by omega, sortFrom] at hr
  simp only [go_sem, simprocAttr, go_sem, hlt']
  simp only [retK, resD, retL, oneD, simprocAttr, Tryz.results79]
  exact ⟨_, rfl, rfl, congrArg bln hr⟩

structure AObj.ok (o : AObj) : Prop where
 la : o.labels.length ≤ 1000000
 po : o.ports.length ≤ 1000000
 li : o.listeners.length ≤ 1000000
 pa : o.parents.length ≤ 1000000
 ho : o.hosts.length ≤ 1000000
 ru : o.rules.length ≤ 1000000
 fr : o.from_.length ≤ 1000000
 to : o.to_.length ≤ 1000000
 lis : ∀ x ∈ o.listeners, x.ok
 rus : ∀ x ∈ o.rules, x.ok

abbrev AObj.ds (o : AObj) : List D := [int o.ref.kind, str o.ref.space, str o.ref.name, bln o.good, .pd (.slice (rows APair.pd o.labels)), .pd (.slice (ints o.ports)), str o.cls, .pd (.slice (rows AListener.pd o.listeners)),
 .pd (.slice (rows AParent.pd o.parents)), .pd (.slice (strs o.hosts)), .pd (.slice (rows ARule.pd o.rules)), .pd (.slice (rows ASide.pd o.from_)), .pd (.slice (rows ASide.pd o.to_))]


def objSame (a b : AObj) : Bool :=
 decide (a.ref = b.ref) && (a.good == b.good) && decide (a.cls = b.cls) && decide (a.labels = b.labels) && decide (a.ports = b.ports) && decide (a.hosts = b.hosts) && decide (a.parents = b.parents) && decide (a.from_ = b.from_) && decide (a.to_ = b.to_) &&
 eqf listenerSame a.listeners b.listeners && eqf ruleSame a.rules b.rules

set_option maxHeartbeats 1000000 in
theorem object_Same (a b : AObj) (ha : a.ok) (hb : b.ok) : Pure Tryz.prog 13 [a.d, b.d] (fun d => d = bln (objSame a b)) := by
 refine pure_of_run follows an_zhbvt Tryz.func13 rfl ok_zhbvt.1 ok_zhbvt.2 (by simp [Tryz.ntmps13]) ?_
 rw [run_start]
 simp only [ac_zhbvt, go_sem, simprocAttr, eqVs, eqV, eq_Ref]
 (repeat' (first | (refine GifP.mk (fun _ => ?_) (fun _ => ?_)) | (refine Gif.mk (fun _ => ?_) (fun _ => ?_)) | ((first | refine (Equal_Pair a.labels b.labels ha.la hb.la).callW (enters_of Tryz.func45 rfl rfl) _ rfl rfl ?_ | refine (Equal_int a.ports b.ports ha.po hb.po).callW (enters_of Tryz.func46 rfl rfl) _ rfl rfl ?_ | refine (Equal_string a.hosts b.hosts ha.ho hb.ho).callW (enters_of Tryz.func47 rfl rfl) _ rfl rfl ?_ | refine (Equal_Parent a.parents b.parents ha.pa hb.pa).callW (enters_of Tryz.func48 rfl rfl) _ rfl rfl ?_ | refine (Equal_Side a.from_ b.from_ ha.fr hb.fr).callW (enters_of Tryz.func49 rfl rfl) _ rfl rfl ?_ | refine (Equal_Side a.to_ b.to_ ha.to hb.to).callW (enters_of Tryz.func49 rfl rfl) _ rfl rfl ?_ | refine (EqualFunc_Listener listenerSame _ (enters_of Tryz.func51 rfl rfl) a.listeners b.listeners ha.li hb.li (fun x hx y hy => object_sameListener x y (ha.lis x hx) (hb.lis y hy))).callW (enters_of Tryz.func50 rfl rfl) _ rfl rfl ?_ | refine (EqualFunc_Rule ruleSame _ (enters_of Tryz.func53 rfl rfl) a.rules b.rules ha.ru hb.ru (fun x hx y hy => object_sameRule x y (ha.rus x hx) (hb.rus y hy))).callW (enters_of Tryz.func52 rfl rfl) _ rfl rfl ?_); rintro _ rfl; try simp only [go_sem, simprocAttr, eqVs, eqV, eq_Ref]))) <;> (simp only [retK, resD, retL, oneD, simprocAttr, Tryz.results13]; exact ⟨_, rfl, rfl, congrArg bln (by first | rfl | (rw [Bool.eq_iff_iff]; simp only [objSame]; (first | (simp; done) | (simp; omega) | (simp [*]; done) | (simp [*]; omega))) | (simp_all [objSame]; done) | (exfalso; omega))⟩)

end Go.Proofs.YtbjaopoipkphnaaGreatDoor


