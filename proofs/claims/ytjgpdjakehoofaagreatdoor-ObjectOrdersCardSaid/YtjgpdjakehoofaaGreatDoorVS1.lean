/- Texts of the prover's, joined: SP A1 A2 A3 A4 A5 AM A6 A7 A8 A9 B1 B2 B3. -/
import Derived.Test.YtjgpdjakehoofaaGreatDoorRows
import Derived.JoinedOf
import Derived.KernelRfl
import Derived.Maps.AppendAt
import Derived.Below
import Derived.Deep.MidRow
import Derived.Laws.Rows
import Derived.WalkKit
import Derived.Great.BuildSlice
import Derived.RangeFuncRecord
import Derived.Laws.StructEq

namespace Go.Proofs.YtjgpdjakehoofaaGreatDoor
open Go
set_option maxRecDepth 100000

theorem closed_of {P : Program} {f : FuncId} {fn : Func} {s : ChangeSpec} {c : OpenClaim} (k0 : (c.wf (OpenSpec.ofChange s)) = true) (k1 : (laidOutB P) = true) (k2 : (mapsRowed P) = true) (k3 : (fn.params.all (P.readableRec ·)) = true) (k4 : (namedTie P c.named s.vars) = true) (k5 : (c.stops == []) = true) (k6 : (P.stops == []) = true) (k7 : (c.knobs == []) = true) (k8 : (P.stopKnobs == []) = true) (k9 : (c.inPlace == P.inPlace f) = true) (k10 : (c.unfollowed == P.unfollowed f) = true) (k11 : (c.recurses == P.recurses f) = true) (k12 : (c.named == P.varsNamed f) = true) (k13 : (c.maps == (fn.params.toList ++ s.plain.varTypes P).any (P.mapsRec ·)) = true) (k14 : (c.ifaces == (fn.params.toList ++ s.plain.varTypes P).any (P.ifacesRec ·)) = true) (k15 : (c.mapsOut == P.mapsAmong fn.resultTypes.toList) = true) (k16 : (c.loops == (fn.params.toList ++ s.plain.varTypes P).any (P.loopsFrom ·)) = true) (k17 : (c.wideKeys == (fn.params.toList ++ s.plain.varTypes P ++ fn.resultTypes.toList).any (P.wideKeysFrom ·)) = true) (k18 : (s.vars.all (P.varReadable ·)) = true) (k19 : (fn.resultTypes.all (fun t => P.readableRec t && decide (t < P.types.size))) = true) (k20 : (c.ifacesOut == fn.resultTypes.toList.any (P.ifacesRec ·)) = true) (k21 : (c.loopsOut == fn.resultTypes.toList.any (P.loopsFrom ·)) = true) (k22 : (c.plainKeys == P.plainKeys) = true) (k23 : (c.shortTexts.isNone) = true) (k24 : (P.stopsHeard) = true) (k25 : (P.mayEnter) = true) (k26 : (c.lifted == P.liftsFinal) = true) (k27 : (P.make == some c.make) = true) (k28 : (c.kinds == (if c.domain.isEmpty then [] else fn.params.toList.map fun t => match P.underlying t with | some (.int k) => some k | _ => none)) = true) (k29 : (c.pinned == c.pinnedBy) = true) (k30 : (c.veiled == (fn.params.toList ++ s.plain.varTypes P ++ fn.resultTypes.toList).any (P.veiledRec ·)) = true) (k31 : (c.veiledFits P fn.params.toList (fn.params.toList ++ s.plain.varTypes P ++ fn.resultTypes.toList)) = true) : joinedFacts P f fn s c = true := by
 unfold joinedFacts
 simp only [Bool.and_eq_true]
 exact ⟨⟨⟨⟨⟨⟨⟨⟨⟨⟨⟨⟨⟨⟨⟨⟨⟨⟨⟨⟨⟨⟨⟨⟨⟨⟨⟨⟨⟨⟨⟨k0, k1⟩, k2⟩, k3⟩, k4⟩, k5⟩, k6⟩, k7⟩, k8⟩, k9⟩, k10⟩, k11⟩, k12⟩, k13⟩, k14⟩, k15⟩, k16⟩, k17⟩, k18⟩, k19⟩, k20⟩, k21⟩, k22⟩, k23⟩, k24⟩, k25⟩, k26⟩, k27⟩, k28⟩, k29⟩, k30⟩, k31⟩

theorem sp_laid : (laidOutB Tryz.prog) = true := by kernel_rfl

theorem sp_maps : (mapsRowed Tryz.prog) = true := by kernel_rfl

theorem sp_stops : (Tryz.prog.stops == []) = true := by kernel_rfl

theorem sp_knobs : (Tryz.prog.stopKnobs == []) = true := by kernel_rfl

theorem sp_keys : (Rows.storeEventsRow.plainKeys == Tryz.prog.plainKeys) = true := by kernel_rfl

theorem sp_heard : (Tryz.prog.stopsHeard) = true := by kernel_rfl

theorem sp_enter : (Tryz.prog.mayEnter) = true := by kernel_rfl

theorem sp_lifts : (Rows.storeEventsRow.lifted == Tryz.prog.liftsFinal) = true := by kernel_rfl

theorem sp_make : (Tryz.prog.make == some Rows.storeEventsRow.make) = true := by kernel_rfl

end Go.Proofs.YtjgpdjakehoofaaGreatDoor



namespace Go.Proofs.YtjgpdjakehoofaaGreatDoor
open Go Go.RowKit
set_option linter.unusedSimpArgs false
set_option linter.unusedVariables false
set_option maxRecDepth 100000

inductive PD where
 | raw (v : Value)
 | slice (els : List (List PD))
 | iface (t : TypeId) (agg : Bool) (cs : List PD)
 deriving Inhabited

mutual
inductive PRep (Fz : Nat → Nat → Prop) (w : World) : Value → PD → Prop
 | raw (v : Value) (h1 : v.oneCell' = true) : PRep Fz w v (.raw v)
 | empty (a : Option Addr) (cap : Nat) : PRep Fz w (.slice a 0 cap) (.slice [])
 | slice (b off n cap sz : Nat) (els : List (List PD)) (vals : Nat → List Value) (hn : els.length = n) (hpos : 0 < n) (hcap : n ≤ cap) (hmax : n ≤ maxLen)
  (hlen : ∀ j, j < n → (vals j).length = sz)
  (hc : ∀ j i u, j < n → (vals j)[i]? = some u → w.cell? ⟨b, off + j * sz + i, none⟩ = some u ∧ Fz b (off + j * sz + i))
  (hr : ∀ j, j < n → PReps Fz w (vals j) (els.getD j [])) : PRep Fz w (.slice (some ⟨b, off, none⟩) n cap) (.slice els)
 | iface (t : TypeId) (v : Value) (d : PD) (h : PRep Fz w v d) : PRep Fz w (.iface t v) (.iface t false [d])
 | ifaceAgg (t : TypeId) (vs : List Value) (ds : List PD) (h : PReps Fz w vs ds) : PRep Fz w (.iface t (.agg vs.toArray)) (.iface t true ds)
inductive PReps (Fz : Nat → Nat → Prop) (w : World) : List Value → List PD → Prop
 | nil : PReps Fz w [] []
 | cons (v : Value) (d : PD) (vs : List Value) (ds : List PD) (h : PRep Fz w v d) (hs : PReps Fz w vs ds) : PReps Fz w (v :: vs) (d :: ds)
end

def Ex (Fz : Nat → Nat → Prop) (w : World) (Fz' : Nat → Nat → Prop) (w' : World) : Prop :=
 ∀ b o, Fz b o → Fz' b o ∧ w'.cell? ⟨b, o, none⟩ = w.cell? ⟨b, o, none⟩

theorem Ex.refl (Fz : Nat → Nat → Prop) (w : World) : Ex Fz w Fz w := fun _ _ h => ⟨h, rfl⟩
theorem Ex.trans {F1 F2 F3 : Nat → Nat → Prop} {w1 w2 w3 : World} (h : Ex F1 w1 F2 w2) (k : Ex F2 w2 F3 w3) : Ex F1 w1 F3 w3 :=
 fun b o hf => ⟨(k b o (h b o hf).1).1, (k b o (h b o hf).1).2.trans (h b o hf).2⟩

section
variable {Fz Fz' : Nat → Nat → Prop} {w w' : World}

theorem PRep.mono {v : Value} {d : PD} (h : PRep Fz w v d) (hx : Ex Fz w Fz' w') : PRep Fz' w' v d := by
 refine PRep.rec (Fz := Fz) (w := w) (motive_1 := fun v d _ => PRep Fz' w' v d) (motive_2 := fun vs ds _ => PReps Fz' w' vs ds) ?_ ?_ ?_ ?_ ?_ ?_ ?_ h
 ·exact fun v h1 => .raw v h1
 ·exact fun a cap => .empty a cap
 ·intro b off n cap sz els vals hn hpos hcap hmax hlen hc hr ih
  exact .slice b off n cap sz els vals hn hpos hcap hmax hlen (fun j i u hj hu => by
   obtain ⟨h1, h2⟩ := hc j i u hj hu
   exact ⟨(hx _ _ h2).2.trans h1, (hx _ _ h2).1⟩) ih
 ·exact fun t v d _ ih => .iface t v d ih
 ·exact fun t vs ds _ ih => .ifaceAgg t vs ds ih
 ·exact .nil
 ·exact fun v d vs ds _ _ ih ihs => .cons v d vs ds ih ihs

theorem PReps.mono {vs : List Value} {ds : List PD} (h : PReps Fz w vs ds) (hx : Ex Fz w Fz' w') : PReps Fz' w' vs ds := by
 induction ds generalizing vs with
 | nil => cases h; exact .nil
 | cons d ds ih => cases h with | cons v _ vs _ h hs => exact .cons _ _ _ _ (h.mono hx) (ih hs)

theorem PReps.length {vs : List Value} {ds : List PD} (h : PReps Fz w vs ds) : vs.length = ds.length := by
 induction ds generalizing vs with
 | nil => cases h; rfl
 | cons d ds ih => cases h with | cons v _ vs _ h hs => simp [ih hs]

theorem PReps.get {vs : List Value} {ds : List PD} (h : PReps Fz w vs ds) (i : Nat) (d : PD) (hd : ds[i]? = some d) : ∃ v, vs[i]? = some v ∧ PRep Fz w v d := by
 induction ds generalizing vs i with
 | nil => simp at hd
 | cons e ds ih =>
   cases h with
   | cons v _ vs _ h hs =>
     cases i with
     | zero => simp at hd; subst hd; exact ⟨v, by simp, h⟩
     | succ i => simpa using ih hs i (by simpa using hd)

theorem PReps.drop {vs : List Value} {ds : List PD} (h : PReps Fz w vs ds) (i : Nat) : PReps Fz w (vs.drop i) (ds.drop i) := by
 induction i generalizing vs ds with
 | zero => simpa using h
 | succ i ih => cases h with
   | nil => simpa using PReps.nil
   | cons v d vs ds h hs => simpa using ih hs

theorem PReps.take {vs : List Value} {ds : List PD} (h : PReps Fz w vs ds) (i : Nat) : PReps Fz w (vs.take i) (ds.take i) := by
 induction i generalizing vs ds with
 | zero => simpa using PReps.nil
 | succ i ih => cases h with
   | nil => simpa using PReps.nil
   | cons v d vs ds h hs => simpa using PReps.cons v d _ _ h (ih hs)

theorem PReps.append {vs us : List Value} {ds es : List PD} (h : PReps Fz w vs ds) (k : PReps Fz w us es) : PReps Fz w (vs ++ us) (ds ++ es) := by
 induction ds generalizing vs with
 | nil => cases h; simpa using k
 | cons d ds ih => cases h with | cons v _ vs _ h hs => simpa using PReps.cons v d _ _ h (ih hs)

theorem PRep.one {v : Value} {d : PD} (h : PRep Fz w v d) : v.oneCell' = true := by
 cases h <;> first | assumption | rfl

theorem PReps.ones {vs : List Value} {ds : List PD} (h : PReps Fz w vs ds) : ∀ u ∈ vs, u.oneCell' = true := by
 induction ds generalizing vs with
 | nil => cases h; simp
 | cons d ds ih => cases h with
   | cons v _ vs _ h hs =>
     intro u hu
     rcases List.mem_cons.1 hu with rfl | hu
     ·exact h.one
     ·exact ih hs u hu
end

inductive D where
 | pd (x : PD)
 | nils
 | own (e : TypeId) (sz : Nat) (els : List (List PD)) (t : Nat)
 | full (sz : Nat) (els : List (List PD))
 | ptr (n off : Nat)
 | eptr (cs : List PD)
 | oelt (t j : Nat) (cs : List PD)
 | fn (f : FuncId) (caps : List (Nat × Nat))
 | mp (n : Nat)
 | agg (ds : List D)
 | tup (ds : List D)
 | any
 deriving Inhabited

structure Gh where
 bx : Nat → Option Nat
 tk : Nat → Option (Value × TypeId)
 Fz : Nat → Nat → Prop
 df : List Nat

def Caps (g : Gh) : List (Nat × Nat) → List Value → Prop
 | [], vs => vs = []
 | c :: cs, vs => ∃ b vs', vs = .pointer (some ⟨b, c.2, none⟩) :: vs' ∧ g.bx c.1 = some b ∧ Caps g cs vs'

mutual
def Rep (g : Gh) (w : World) : D → Value → Prop
 | .pd x, v => PRep g.Fz w v x
 | .nils, v => v = .slice none 0 0
 | .own e sz els t, v => PRep g.Fz w v (.slice els) ∧ g.tk t = some (v, e) ∧ ∀ r ∈ els, r.length = sz
 | .full sz els, v => PRep g.Fz w v (.slice els) ∧ (∃ ad, v = .slice ad els.length els.length) ∧ ∀ r ∈ els, r.length = sz
 | .ptr n off, v => ∃ b, g.bx n = some b ∧ v = .pointer (some ⟨b, off, none⟩)
 | .eptr cs, v => ∃ b off vs, v = .pointer (some ⟨b, off, none⟩) ∧ PReps g.Fz w vs cs ∧ ∀ i u, vs[i]? = some u → w.cell? ⟨b, off + i, none⟩ = some u ∧ g.Fz b (off + i)
 | .oelt t j cs, v => (∃ b off vs, v = .pointer (some ⟨b, off, none⟩) ∧ PReps g.Fz w vs cs ∧ ∀ i u, vs[i]? = some u → w.cell? ⟨b, off + i, none⟩ = some u ∧ g.Fz b (off + i)) ∧ ∃ b len cap e, g.tk t = some (.slice (some ⟨b, 0, none⟩) len cap, e) ∧ v = .pointer (some ⟨b, j * cs.length, none⟩)
 | .fn f caps, v => ∃ cv, v = .func (.func f) #[] cv.toArray ∧ Caps g caps cv
 | .mp n, v => ∃ b, g.bx n = some b ∧ v = .map (some b)
 | .agg ds, v => ∃ vs, v = .agg vs.toArray ∧ Reps g w ds vs
 | .tup ds, v => ∃ vs, v = .tuple vs.toArray ∧ Reps g w ds vs
 | .any, _ => True
def Reps (g : Gh) (w : World) : List D → List Value → Prop
 | [], vs => vs = []
 | d :: ds, vs => ∃ v vs', vs = v :: vs' ∧ Rep g w d v ∧ Reps g w ds vs'
end

structure Gr (g : Gh) (w : World) (g' : Gh) (w' : World) : Prop where
 bx : ∀ n b, g.bx n = some b → g'.bx n = some b
 tk : ∀ t x, g.tk t = some x → g'.tk t = some x
 ex : Ex g.Fz w g'.Fz w'

theorem Gr.refl (g : Gh) (w : World) : Gr g w g w := ⟨fun _ _ h => h, fun _ _ h => h, Ex.refl _ _⟩

theorem Caps.mono {g g' : Gh} (hb : ∀ n b, g.bx n = some b → g'.bx n = some b) : ∀ {cs : List (Nat × Nat)} {vs : List Value}, Caps g cs vs → Caps g' cs vs
 | [], _, h => h
 | _ :: _, _, ⟨b, vs', e, h, hs⟩ => ⟨b, vs', e, hb _ _ h, Caps.mono hb hs⟩

mutual
theorem Rep.mono {g g' : Gh} {w w' : World} (hg : Gr g w g' w') : ∀ {d : D} {v : Value}, Rep g w d v → Rep g' w' d v
 | .pd _, _, h => by simp only [Rep] at h ⊢; exact h.mono hg.ex
 | .nils, _, h => by simp only [Rep] at h ⊢; exact h
 | .own _ _ _ _, _, h => by simp only [Rep] at h ⊢; exact ⟨h.1.mono hg.ex, hg.tk _ _ h.2.1, h.2.2⟩
 | .full _ _, _, h => by simp only [Rep] at h ⊢; exact ⟨h.1.mono hg.ex, h.2⟩
 | .ptr _ _, _, h => by simp only [Rep] at h ⊢; obtain ⟨b, hb, e⟩ := h; exact ⟨b, hg.bx _ _ hb, e⟩
 | .eptr _, _, h => by
   simp only [Rep] at h ⊢
   obtain ⟨b, off, vs, e, hp, hc⟩ := h
   exact ⟨b, off, vs, e, hp.mono hg.ex, fun i u hu => ⟨(hg.ex _ _ (hc i u hu).2).2.trans (hc i u hu).1, (hg.ex _ _ (hc i u hu).2).1⟩⟩
 | .oelt _ _ _, _, h => by
   simp only [Rep] at h ⊢
   obtain ⟨⟨b, off, vs, e, hp, hc⟩, b', len, cap, et, h1, h2⟩ := h
   exact ⟨⟨b, off, vs, e, hp.mono hg.ex, fun i u hu => ⟨(hg.ex _ _ (hc i u hu).2).2.trans (hc i u hu).1, (hg.ex _ _ (hc i u hu).2).1⟩⟩, b', len, cap, et, hg.tk _ _ h1, h2⟩
 | .fn _ _, _, h => by simp only [Rep] at h ⊢; obtain ⟨cv, e, hc⟩ := h; exact ⟨cv, e, hc.mono hg.bx⟩
 | .mp _, _, h => by simp only [Rep] at h ⊢; obtain ⟨b, hb, e⟩ := h; exact ⟨b, hg.bx _ _ hb, e⟩
 | .agg _, _, h => by simp only [Rep] at h ⊢; obtain ⟨vs, e, hs⟩ := h; exact ⟨vs, e, Reps.mono hg hs⟩
 | .tup _, _, h => by simp only [Rep] at h ⊢; obtain ⟨vs, e, hs⟩ := h; exact ⟨vs, e, Reps.mono hg hs⟩
 | .any, _, _ => by simp only [Rep]
theorem Reps.mono {g g' : Gh} {w w' : World} (hg : Gr g w g' w') : ∀ {ds : List D} {vs : List Value}, Reps g w ds vs → Reps g' w' ds vs
 | [], _, h => by simp only [Reps] at h ⊢; exact h
 | _ :: _, _, h => by simp only [Reps] at h ⊢; obtain ⟨v, vs', e, hv, hs⟩ := h; exact ⟨v, vs', e, Rep.mono hg hv, Reps.mono hg hs⟩
end

theorem Reps.length {g : Gh} {w : World} : ∀ {ds : List D} {vs : List Value}, Reps g w ds vs → vs.length = ds.length
 | [], _, h => by simp only [Reps] at h; simp [h]
 | _ :: _, _, h => by simp only [Reps] at h; obtain ⟨v, vs', rfl, _, hs⟩ := h; simp [Reps.length hs]

theorem Reps.get {g : Gh} {w : World} : ∀ {ds : List D} {vs : List Value} (_ : Reps g w ds vs) (i : Nat) (d : D), ds[i]? = some d → ∃ v, vs[i]? = some v ∧ Rep g w d v
 | [], _, _, _, _, hd => by simp at hd
 | e :: ds, _, h, i, d, hd => by
   simp only [Reps] at h
   obtain ⟨v, vs', rfl, hv, hs⟩ := h
   cases i with
   | zero => simp at hd; subst hd; exact ⟨v, by simp, hv⟩
   | succ i => simpa using Reps.get hs i d (by simpa using hd)

theorem Reps.take {g : Gh} {w : World} : ∀ {ds : List D} {vs : List Value} (_ : Reps g w ds vs) (i : Nat), Reps g w (ds.take i) (vs.take i)
 | _, _, _, 0 => by simp [Reps]
 | [], _, h, i + 1 => by simp only [Reps] at h; simp [h, Reps]
 | e :: ds, _, h, i + 1 => by
   simp only [Reps] at h
   obtain ⟨v, vs', rfl, hv, hs⟩ := h
   simp only [List.take_succ_cons, Reps]
   exact ⟨v, _, rfl, hv, Reps.take hs i⟩

theorem Reps.drop {g : Gh} {w : World} : ∀ {ds : List D} {vs : List Value} (_ : Reps g w ds vs) (i : Nat), Reps g w (ds.drop i) (vs.drop i)
 | _, _, h, 0 => by simpa using h
 | [], _, h, i + 1 => by simp only [Reps] at h; simp [h, Reps]
 | e :: ds, _, h, i + 1 => by
   simp only [Reps] at h
   obtain ⟨v, vs', rfl, hv, hs⟩ := h
   simpa using Reps.drop hs i

theorem Reps.append {g : Gh} {w : World} : ∀ {ds es : List D} {vs us : List Value}, Reps g w ds vs → Reps g w es us → Reps g w (ds ++ es) (vs ++ us)
 | [], _, _, _, h, k => by simp only [Reps] at h; simpa [h] using k
 | e :: ds, _, _, _, h, k => by
   simp only [Reps] at h
   obtain ⟨v, vs', rfl, hv, hs⟩ := h
   simp only [List.cons_append, Reps]
   exact ⟨v, _, rfl, hv, Reps.append hs k⟩

theorem Reps.of_pd {g : Gh} {w : World} : ∀ {cs : List PD} {vs : List Value}, PReps g.Fz w vs cs → Reps g w (cs.map .pd) vs
 | [], _, h => by cases h; simp [Reps]
 | c :: cs, _, h => by
   cases h with
   | cons v _ vs _ h hs =>
     simp only [List.map_cons, Reps]
     exact ⟨v, vs, rfl, by simp only [Rep]; exact h, Reps.of_pd hs⟩


def lk {α : Type} : List (Nat × α) → Nat → Option α
 | [], _ => none
 | (j, d) :: r, i => if i = j then some d else lk r i

inductive Hist where
 | no
 | it (l : Nat) (xs : List (List Value)) (i : Nat) (stop : Bool)
 | solo

inductive MO where
 | map (es : List (Value × Value))
 | sit (s : ByteArray) (pos : Nat)

def Stamped (ents : Array MapEntry) (clock : Nat) : Prop := clock = ents.size ∧ ∀ (i : Nat) (e : MapEntry), ents[i]? = some e → e.born = i

def MO.at : MO → Obj → Prop
 | .map es, o => ∃ ents clock, o = .map ents clock ∧ ents.toList.map (fun e => (e.key, e.val)) = es ∧ Stamped ents clock
 | .sit s pos, o => o = .stringIter s pos

def MO.ents : MO → Option (List (Value × Value))
 | .map es => some es
 | _ => none

def MO.iter : MO → Option (ByteArray × Nat)
 | .sit s pos => some (s, pos)
 | _ => none

theorem MO.no_cells {mo : MO} {cs : Array Value} {t : TypeId} {z : Nat × Nat} : ¬ mo.at (.cells cs t z) := by
 cases mo <;> simp [MO.at]
theorem MO.no_mark {mo : MO} {c : Option (List Deferred)} : ¬ mo.at (.deferred c) := by
 cases mo <;> simp [MO.at]

structure St where
 fr : List (Nat × D)
 bs : List (Nat × List D)
 ms : List (Nat × MO)
 hs : Hist

mutual
def D.drop (n : Nat) : D → D
 | .ptr m o => if m = n then .any else .ptr m o
 | .fn f caps => if caps.any (·.1 == n) then .any else .fn f caps
 | .mp m => if m = n then .any else .mp m
 | .agg ds => .agg (D.drops n ds)
 | .tup ds => .tup (D.drops n ds)
 | .pd x => .pd x
 | .nils => .nils
 | .own e sz els t => .own e sz els t
 | .full sz els => .full sz els
 | .eptr cs => .eptr cs
 | .oelt t j cs => .oelt t j cs
 | .any => .any
def D.drops (n : Nat) : List D → List D
 | [] => []
 | d :: ds => D.drop n d :: D.drops n ds
end

mutual
def D.purge (t : Nat) : D → D
 | .own e sz els s => if s = t then .pd (.slice els) else .own e sz els s
 | .full sz els => .full sz els
 | .agg ds => .agg (D.purges t ds)
 | .tup ds => .tup (D.purges t ds)
 | .pd x => .pd x
 | .nils => .nils
 | .ptr m o => .ptr m o
 | .fn f caps => .fn f caps
 | .mp m => .mp m
 | .eptr cs => .eptr cs
 | .oelt s j cs => if s = t then .eptr cs else .oelt s j cs
 | .any => .any
def D.purges (t : Nat) : List D → List D
 | [] => []
 | d :: ds => D.purge t d :: D.purges t ds
end

def D.sc : D → Bool
 | .agg _ | .tup _ | .any => false
 | _ => true

theorem Rep.one {g : Gh} {w : World} {d : D} {v : Value} (h : Rep g w d v) (hs : d.sc = true) : v.oneCell' = true := by
 cases d <;> simp only [Rep] at h <;> simp [D.sc] at hs
 ·exact h.one
 ·subst h; rfl
 ·exact h.1.one
 ·exact h.1.one
 ·obtain ⟨b, _, rfl⟩ := h; rfl
 ·obtain ⟨b, o, vs, rfl, _⟩ := h; rfl
 ·obtain ⟨⟨b, o, vs, rfl, _⟩, _⟩ := h; rfl
 ·obtain ⟨cv, rfl, _⟩ := h; rfl
 ·obtain ⟨b, _, rfl⟩ := h; rfl

theorem Reps.ones {g : Gh} {w : World} : ∀ {ds : List D} {vs : List Value}, Reps g w ds vs → ds.all D.sc = true → ∀ u ∈ vs, u.oneCell' = true
 | [], _, h, _ => by simp only [Reps] at h; subst h; simp
 | d :: ds, _, h, hs => by
   simp only [Reps] at h
   obtain ⟨v, vs', rfl, hv, hr⟩ := h
   simp only [List.all_cons, Bool.and_eq_true] at hs
   intro u hu
   rcases List.mem_cons.1 hu with rfl | hu
   ·exact hv.one hs.1
   ·exact Reps.ones hr hs.2 u hu

section
variable {g g' : Gh} {w w' : World} {n : Nat}

theorem Caps.dropped (hb : ∀ m b, m ≠ n → g.bx m = some b → g'.bx m = some b) : ∀ {cs : List (Nat × Nat)} {vs : List Value}, cs.any (·.1 == n) = false → Caps g cs vs → Caps g' cs vs
 | [], _, _, h => h
 | c :: cs, _, hn, ⟨b, vs', e, h, hs⟩ => by
   simp only [List.any_cons, Bool.or_eq_false_iff, beq_eq_false_iff_ne] at hn
   exact ⟨b, vs', e, hb _ _ hn.1 h, Caps.dropped hb hn.2 hs⟩

mutual
theorem Rep.dropped (hb : ∀ m b, m ≠ n → g.bx m = some b → g'.bx m = some b) (ht : ∀ t x, g.tk t = some x → g'.tk t = some x) (hx : Ex g.Fz w g'.Fz w') :
 ∀ {d : D} {v : Value}, Rep g w d v → Rep g' w' (d.drop n) v
 | .pd _, _, h => by simp only [Rep, D.drop] at h ⊢; exact h.mono hx
 | .nils, _, h => by simp only [Rep, D.drop] at h ⊢; exact h
 | .own _ _ _ _, _, h => by simp only [Rep, D.drop] at h ⊢; exact ⟨h.1.mono hx, ht _ _ h.2.1, h.2.2⟩
 | .full _ _, _, h => by simp only [Rep, D.drop] at h ⊢; exact ⟨h.1.mono hx, h.2⟩
 | .ptr m _, _, h => by
   simp only [Rep, D.drop] at h ⊢
   split
   ·simp only [Rep]
   ·rename_i hm
    simp only [Rep]; obtain ⟨b, hb', e⟩ := h; exact ⟨b, hb _ _ hm hb', e⟩
 | .eptr _, _, h => by
   simp only [Rep, D.drop] at h ⊢
   obtain ⟨b, off, vs, e, hp, hc⟩ := h
   exact ⟨b, off, vs, e, hp.mono hx, fun i u hu => ⟨(hx _ _ (hc i u hu).2).2.trans (hc i u hu).1, (hx _ _ (hc i u hu).2).1⟩⟩
 | .oelt _ _ _, _, h => by
   simp only [Rep, D.drop] at h ⊢
   obtain ⟨⟨b, off, vs, e, hp, hc⟩, b', len, cap, et, h1, h2⟩ := h
   exact ⟨⟨b, off, vs, e, hp.mono hx, fun i u hu => ⟨(hx _ _ (hc i u hu).2).2.trans (hc i u hu).1, (hx _ _ (hc i u hu).2).1⟩⟩, b', len, cap, et, ht _ _ h1, h2⟩
 | .fn _ caps, _, h => by
   simp only [Rep, D.drop] at h ⊢
   split
   ·simp only [Rep]
   ·rename_i hm
    simp only [Rep]; obtain ⟨cv, e, hc⟩ := h; exact ⟨cv, e, hc.dropped hb (by simpa only [Bool.not_eq_true] using hm)⟩
 | .mp m, _, h => by
   simp only [Rep, D.drop] at h ⊢
   split
   ·simp only [Rep]
   ·rename_i hm
    simp only [Rep]; obtain ⟨b, hb', e⟩ := h; exact ⟨b, hb _ _ hm hb', e⟩
 | .agg _, _, h => by simp only [Rep, D.drop] at h ⊢; obtain ⟨vs, e, hs⟩ := h; exact ⟨vs, e, Reps.dropped hb ht hx hs⟩
 | .tup _, _, h => by simp only [Rep, D.drop] at h ⊢; obtain ⟨vs, e, hs⟩ := h; exact ⟨vs, e, Reps.dropped hb ht hx hs⟩
 | .any, _, _ => by simp only [D.drop, Rep]
theorem Reps.dropped (hb : ∀ m b, m ≠ n → g.bx m = some b → g'.bx m = some b) (ht : ∀ t x, g.tk t = some x → g'.tk t = some x) (hx : Ex g.Fz w g'.Fz w') :
 ∀ {ds : List D} {vs : List Value}, Reps g w ds vs → Reps g' w' (D.drops n ds) vs
 | [], _, h => by simp only [Reps, D.drops] at h ⊢; exact h
 | _ :: _, _, h => by simp only [Reps, D.drops] at h ⊢; obtain ⟨v, vs', e, hv, hs⟩ := h; exact ⟨v, vs', e, Rep.dropped hb ht hx hv, Reps.dropped hb ht hx hs⟩
end

mutual
theorem Rep.purged (hb : ∀ m b, g.bx m = some b → g'.bx m = some b) (ht : ∀ t x, t ≠ n → g.tk t = some x → g'.tk t = some x) (hx : Ex g.Fz w g'.Fz w') :
 ∀ {d : D} {v : Value}, Rep g w d v → Rep g' w' (d.purge n) v
 | .pd _, _, h => by simp only [Rep, D.purge] at h ⊢; exact h.mono hx
 | .nils, _, h => by simp only [Rep, D.purge] at h ⊢; exact h
 | .own _ _ _ s, _, h => by
   simp only [Rep, D.purge] at h ⊢
   split
   ·simp only [Rep]; exact h.1.mono hx
   ·rename_i hs; simp only [Rep]; exact ⟨h.1.mono hx, ht _ _ hs h.2.1, h.2.2⟩
 | .full _ _, _, h => by simp only [Rep, D.purge] at h ⊢; exact ⟨h.1.mono hx, h.2⟩
 | .ptr m _, _, h => by simp only [Rep, D.purge] at h ⊢; obtain ⟨b, hb', e⟩ := h; exact ⟨b, hb _ _ hb', e⟩
 | .eptr _, _, h => by
   simp only [Rep, D.purge] at h ⊢
   obtain ⟨b, off, vs, e, hp, hc⟩ := h
   exact ⟨b, off, vs, e, hp.mono hx, fun i u hu => ⟨(hx _ _ (hc i u hu).2).2.trans (hc i u hu).1, (hx _ _ (hc i u hu).2).1⟩⟩
 | .oelt _ _ _, _, h => by
   simp only [Rep, D.purge] at h ⊢
   obtain ⟨⟨b, off, vs, e, hp, hc⟩, b', len, cap, et, h1, h2⟩ := h
   split
   ·simp only [Rep]
    exact ⟨b, off, vs, e, hp.mono hx, fun i u hu => ⟨(hx _ _ (hc i u hu).2).2.trans (hc i u hu).1, (hx _ _ (hc i u hu).2).1⟩⟩
   ·rename_i hs
    simp only [Rep]
    exact ⟨⟨b, off, vs, e, hp.mono hx, fun i u hu => ⟨(hx _ _ (hc i u hu).2).2.trans (hc i u hu).1, (hx _ _ (hc i u hu).2).1⟩⟩, b', len, cap, et, ht _ _ hs h1, h2⟩
 | .fn _ caps, _, h => by simp only [Rep, D.purge] at h ⊢; obtain ⟨cv, e, hc⟩ := h; exact ⟨cv, e, hc.mono hb⟩
 | .mp m, _, h => by simp only [Rep, D.purge] at h ⊢; obtain ⟨b, hb', e⟩ := h; exact ⟨b, hb _ _ hb', e⟩
 | .agg _, _, h => by simp only [Rep, D.purge] at h ⊢; obtain ⟨vs, e, hs⟩ := h; exact ⟨vs, e, Reps.purged hb ht hx hs⟩
 | .tup _, _, h => by simp only [Rep, D.purge] at h ⊢; obtain ⟨vs, e, hs⟩ := h; exact ⟨vs, e, Reps.purged hb ht hx hs⟩
 | .any, _, _ => by simp only [D.purge, Rep]
theorem Reps.purged (hb : ∀ m b, g.bx m = some b → g'.bx m = some b) (ht : ∀ t x, t ≠ n → g.tk t = some x → g'.tk t = some x) (hx : Ex g.Fz w g'.Fz w') :
 ∀ {ds : List D} {vs : List Value}, Reps g w ds vs → Reps g' w' (D.purges n ds) vs
 | [], _, h => by simp only [Reps, D.purges] at h ⊢; exact h
 | _ :: _, _, h => by simp only [Reps, D.purges] at h ⊢; obtain ⟨v, vs', e, hv, hs⟩ := h; exact ⟨v, vs', e, Rep.purged hb ht hx hv, Reps.purged hb ht hx hs⟩
end
end

structure KeepD (Dm : Nat → Prop) (w w' : World) : Prop where
 os : w'.os = w.os
 tape : w'.tape = w.tape
 output : w'.output = w.output
 size : w.heap.size ≤ w'.heap.size
 block : ∀ k, k < w.heap.size → ¬ Dm k → w'.heap[k]? = w.heap[k]?

theorem KeepD.refl (R : Nat → Prop) (w : World) : KeepD R w w := ⟨rfl, rfl, rfl, Nat.le_refl _, fun _ _ _ => rfl⟩
theorem KeepD.trans {R : Nat → Prop} {w1 w2 w3 : World} (h : KeepD R w1 w2) (k : KeepD R w2 w3) : KeepD R w1 w3 :=
 ⟨k.os.trans h.os, k.tape.trans h.tape, k.output.trans h.output, Nat.le_trans h.size k.size, fun b hb hr => (k.block b (Nat.lt_of_lt_of_le hb h.size) hr).trans (h.block b hb hr)⟩
theorem KeepD.mono {R R' : Nat → Prop} {w w' : World} (h : KeepD R w w') (hr : ∀ k, k < w.heap.size → R k → R' k) : KeepD R' w w' :=
 ⟨h.os, h.tape, h.output, h.size, fun b hb hn => h.block b hb (fun hk => hn (hr b hb hk))⟩
theorem KeepD.of_grown {w w' : World} {row : Option Nat} (h : w.grownBy w' row) : KeepD (fun k => row = some k) w w' :=
 ⟨h.os, h.tape, h.output, h.size, fun b hb hn => h.block b hb (fun e => hn e.symm)⟩

def Gh.has (g : Gh) (k0 : Nat) (b : Nat) : Prop :=
 (∃ n, (n < 1000000 ∨ k0 ≤ b) ∧ g.bx n = some b) ∨ (∃ t v e, g.tk t = some (v, e) ∧ v.ownBlock = some b) ∨ b ∈ g.df ∨ (k0 ≤ b ∧ ∃ o, g.Fz b o)

structure Ctx where
 P : Program
 w0 : World
 Fz0 : Nat → Nat → Prop
 S : Nat → Prop
 N : Nat
 wr : Nat → Bool
 nm : Nat → Option Nat
 X : Hist → (Nat → Prop) → World → Prop
 Dm : Nat → Prop
 wrok : ∀ i, wr i = true → i < N ∧ nm i = none
 nmok : ∀ n, 200000 ≤ n → n < 400000 → nm n = none
 dmok : ∀ k, Dm k → k < w0.heap.size ∧ ¬ S k ∧ ∀ o, ¬ Fz0 k o
 Xok : ∀ h O O' R w w', X h O w → KeepD R w w' → (∀ k, R k → O k) → (∀ k, O' k → O k ∨ w.heap.size ≤ k) → X h O' w'
 solo : ∀ O w, X .solo O w → ∀ k, ¬ S k

abbrev Ctx.fn (P : Program) (w0 : World) (Fz0 : Nat → Nat → Prop) (S : Nat → Prop) (N : Nat) : Ctx := ⟨P, w0, Fz0, S, N, fun i => decide (i < N), fun _ => none, fun h _ _ => h = .no, fun _ => False, fun i h => ⟨of_decide_eq_true h, rfl⟩, fun _ _ _ => rfl, fun _ h => h.elim, fun _ _ _ _ _ _ h _ _ _ => h, fun _ _ (h : Hist.solo = .no) => by cases h⟩

abbrev Ctx.alone (P : Program) (w0 : World) (Fz0 : Nat → Nat → Prop) (N : Nat) : Ctx := ⟨P, w0, Fz0, fun _ => False, N, fun i => decide (i < N), fun _ => none, fun h _ _ => h = .solo, fun _ => False, fun i h => ⟨of_decide_eq_true h, rfl⟩, fun _ _ _ => rfl, fun _ h => h.elim, fun _ _ _ _ _ _ h _ _ _ => h, fun _ _ _ _ h => h⟩

def markOf (D : Nat) : Deferred := { target := .collected D, args := #[] }

structure Mem (C : Ctx) (bs : List (Nat × List D)) (ms : List (Nat × MO)) (g : Gh) (w : World) : Prop where
 os : w.os = C.w0.os
 tape : w.tape = C.w0.tape
 output : w.output = C.w0.output
 hsz : C.w0.heap.size ≤ w.heap.size
 old : ∀ k, k < C.w0.heap.size → ¬ C.S k → ¬ C.Dm k → w.heap[k]? = C.w0.heap[k]?
 keep : Ex C.Fz0 C.w0 g.Fz w
 newfz : ∀ b o, g.Fz b o → b < C.w0.heap.size → C.Fz0 b o ∨ C.S b
 fzlt : ∀ b o, g.Fz b o → b < w.heap.size
 bxs : ∀ n ds, lk bs n = some ds → ∃ b cs t, g.bx n = some b ∧ w.heap[b]? = some (.cells cs t (0, 0)) ∧ Reps g w ds cs.toList
 mps : ∀ n es, lk ms n = some es → ∃ b o, g.bx n = some b ∧ w.heap[b]? = some o ∧ es.at o
 bxok : ∀ n b, g.bx n = some b → b < w.heap.size ∧ (C.w0.heap.size ≤ b ∨ C.S b ∨ 1000000 ≤ n) ∧ ∀ o, ¬ g.Fz b o
 bxinj : ∀ n m b, g.bx n = some b → g.bx m = some b → n = m
 tks : ∀ t v e, g.tk t = some (v, e) → ∃ i n xs, C.P.info? e = some i ∧ 0 < i.size ∧ w.ownsRow 0 e i.size v n xs ∧ ∀ b, v.ownBlock = some b → (C.w0.heap.size ≤ b ∨ C.S b) ∧ ∀ o, g.Fz b o → o < n * i.size
 tkinj : ∀ t s v u e f b, g.tk t = some (v, e) → g.tk s = some (u, f) → v.ownBlock = some b → u.ownBlock = some b → t = s
 bxtk : ∀ n t b v e, g.bx n = some b → g.tk t = some (v, e) → v.ownBlock ≠ some b
 dfs : ∀ D ∈ g.df, C.w0.heap.size ≤ D ∧ w.heap[D]? = some (.deferred (some []))
 dnd : g.df.Nodup
 bxdf : ∀ n D, D ∈ g.df → g.bx n ≠ some D
 bxdm : ∀ n b, g.bx n = some b → ¬ C.Dm b

structure SR (C : Ctx) (st : St) (g : Gh) (a : Act) (w : World) : Prop where
 defers : a.defers = g.df.map markOf
 size : a.tmps.size = C.N
 rep : ∀ i d, lk st.fr i = some d → i < C.N ∧ Rep g w d (a.tmps.getD i undef)
 mem : Mem C st.bs st.ms g w
 x : C.X st.hs (g.has C.w0.heap.size) w
 fix : ∀ n b, C.nm n = some b → g.bx n = some b

theorem lk_map {α β : Type} (f : α → β) : ∀ (l : List (Nat × α)) (i : Nat), lk (l.map fun p => (p.1, f p.2)) i = (lk l i).map f
 | [], _ => rfl
 | (j, d) :: r, i => by
   simp only [List.map_cons, lk]
   split
   ·rfl
   ·exact lk_map f r i

theorem lk_filter {α : Type} (p : Nat → Bool) : ∀ (l : List (Nat × α)) (i : Nat), lk (l.filter fun q => p q.1) i = if p i then lk l i else none
 | [], i => by simp [lk]
 | (j, d) :: r, i => by
   by_cases hj : p j = true
   ·rw [List.filter_cons_of_pos (by simpa using hj)]
    simp only [lk]
    by_cases hi : i = j
    ·subst hi; simp [hj]
    ·simp only [hi, if_false]; exact lk_filter p r i
   ·rw [List.filter_cons_of_neg (by simpa using hj)]
    rw [lk_filter p r i]
    by_cases hi : i = j
    ·subst hi; simp [hj]
    ·simp only [lk, hi, if_false]

def St.put (st : St) (i : Nat) (d : D) : St := { st with fr := (i, d) :: st.fr }

theorem SR.put {C : Ctx} {st : St} {g : Gh} {a : Act} {w : World} (h : SR C st g a w) {i : Nat} (hw : C.wr i = true) {d : D} {v : Value} (hd : Rep g w d v) : SR C (st.put i d) g (a.put (some i) v) w where
 defers := h.defers
 size := by simp [Act.put, h.size]
 rep := by
  intro j e hj
  simp only [St.put, lk] at hj
  by_cases hji : j = i
  ·subst hji
   simp only [if_true, Option.some.injEq] at hj
   subst hj
   have hi := (C.wrok _ hw).1
   refine ⟨hi, ?_⟩
   simp only [Act.put]
   rw [Array.getD_eq_getD_getElem?, Array.getElem?_setIfInBounds]
   simpa [h.size, hi] using hd
  ·simp only [hji, if_false] at hj
   obtain ⟨h1, h2⟩ := h.rep j e hj
   refine ⟨h1, ?_⟩
   simp only [Act.put]
   rw [Array.getD_eq_getD_getElem?, Array.getElem?_setIfInBounds_ne (Ne.symm hji), ← Array.getD_eq_getD_getElem?]
   exact h2
 mem := h.mem
 x := h.x
 fix := h.fix

theorem SR.less {C : Ctx} {st st' : St} {g : Gh} {a : Act} {w : World} (h : SR C st g a w) (hf : ∀ i d, lk st'.fr i = some d → lk st.fr i = some d ∨ d = .any ∧ i < C.N)
 (hb : ∀ n ds, lk st'.bs n = some ds → lk st.bs n = some ds) (hm : ∀ n es, lk st'.ms n = some es → lk st.ms n = some es) (hh : st'.hs = st.hs) : SR C st' g a w where
 defers := h.defers
 size := h.size
 rep := fun i d hd => by
  rcases hf i d hd with h1 | ⟨rfl, h1⟩
  ·exact h.rep i d h1
  ·exact ⟨h1, by simp only [Rep]⟩
 mem := { h.mem with bxs := fun n ds hn => h.mem.bxs n ds (hb n ds hn), mps := fun n es hn => h.mem.mps n es (hm n es hn) }
 x := by rw [hh]; exact h.x
 fix := h.fix

theorem cell_of_heap {w w' : World} (h : w'.heap = w.heap) (a : Addr) : w'.cell? a = w.cell? a := by simp [World.cell?, h]

theorem ownsRow_heap {w w' : World} (h : w'.heap = w.heap) {base : Nat} {e : TypeId} {size : Nat} {v : Value} {n : Nat} {xs : List Value} (ho : w.ownsRow base e size v n xs) : w'.ownsRow base e size v n xs := by
 unfold World.ownsRow at ho ⊢
 rw [h]; exact ho

theorem Mem.same {C : Ctx} {bs : List (Nat × List D)} {ms : List (Nat × MO)} {g : Gh} {w w' : World} (h : Mem C bs ms g w) (hh : w'.heap = w.heap) (ho : w'.os = w.os) (ht : w'.tape = w.tape) (hu : w'.output = w.output) : Mem C bs ms g w' where
 os := ho.trans h.os
 tape := ht.trans h.tape
 output := hu.trans h.output
 hsz := by rw [hh]; exact h.hsz
 old := fun k hk hs hd => by rw [hh]; exact h.old k hk hs hd
 keep := fun b o hf => ⟨(h.keep b o hf).1, (cell_of_heap hh _).trans (h.keep b o hf).2⟩
 newfz := h.newfz
 fzlt := fun b o hf => by rw [hh]; exact h.fzlt b o hf
 bxs := fun n ds hn => by
  obtain ⟨b, cs, t, h1, h2, h3⟩ := h.bxs n ds hn
  exact ⟨b, cs, t, h1, by rw [hh]; exact h2, h3.mono ⟨fun _ _ h => h, fun _ _ h => h, fun b o hf => ⟨hf, cell_of_heap hh _⟩⟩⟩
 mps := fun n es hn => by
  obtain ⟨b, en, h1, h2, h3⟩ := h.mps n es hn
  exact ⟨b, en, h1, by rw [hh]; exact h2, h3⟩
 bxok := fun n b hb => by rw [hh]; exact h.bxok n b hb
 bxinj := h.bxinj
 tks := fun t v e ht => by
  obtain ⟨i, n, xs, h1, h2, h3, h4⟩ := h.tks t v e ht
  exact ⟨i, n, xs, h1, h2, ownsRow_heap hh h3, h4⟩
 tkinj := h.tkinj
 bxtk := h.bxtk
 dfs := fun D hD => by rw [hh]; exact h.dfs D hD
 dnd := h.dnd
 bxdf := h.bxdf
 bxdm := h.bxdm

theorem SR.same {C : Ctx} {st : St} {g : Gh} {a : Act} {w w' : World} (h : SR C st g a w) (hh : w'.heap = w.heap) (ho : w'.os = w.os) (ht : w'.tape = w.tape) (hu : w'.output = w.output) : SR C st g a w' where
 defers := h.defers
 size := h.size
 rep := fun i d hd => ⟨(h.rep i d hd).1, (h.rep i d hd).2.mono ⟨fun _ _ h => h, fun _ _ h => h, fun b o hf => ⟨hf, cell_of_heap hh _⟩⟩⟩
 mem := h.mem.same hh ho ht hu
 x := C.Xok st.hs _ _ (fun _ => False) w w' h.x ⟨ho, ht, hu, by rw [hh]; exact Nat.le_refl _, fun k _ _ => by rw [hh]⟩ (fun _ e => e.elim) (fun _ h => .inl h)
 fix := h.fix


def St.drop (n : Nat) (st : St) : St where
 fr := st.fr.map fun p => (p.1, p.2.drop n)
 bs := (st.bs.filter fun p => p.1 != n).map fun p => (p.1, D.drops n p.2)
 ms := st.ms.filter fun p => p.1 != n
 hs := st.hs

def St.purge (t : Nat) (st : St) : St where
 fr := st.fr.map fun p => (p.1, p.2.purge t)
 bs := st.bs.map fun p => (p.1, D.purges t p.2)
 ms := st.ms
 hs := st.hs

abbrev Gh.noBx (g : Gh) (n : Nat) : Gh := { g with bx := fun m => if m = n then none else g.bx m }
abbrev Gh.noTk (g : Gh) (n : Nat) : Gh := { g with tk := fun m => if m = n then none else g.tk m }
abbrev Gh.withBx (g : Gh) (n b : Nat) : Gh := { g with bx := fun m => if m = n then some b else g.bx m }
abbrev Gh.withFz (g : Gh) (k : Nat) (Fz' : Nat → Nat → Prop) : Gh := { g with Fz := fun b o => g.Fz b o ∨ (k ≤ b ∧ Fz' b o) }

variable {C : Ctx} {st : St} {g : Gh} {a : Act} {w : World}

theorem SR.drop (h : SR C st g a w) (n : Nat) (hnm : C.nm n = none) : SR C (st.drop n) (g.noBx n) a w := by
 have hb : ∀ m b, m ≠ n → g.bx m = some b → (if m = n then none else g.bx m) = some b := fun m b hm e => by rw [if_neg hm]; exact e
 have hb' : ∀ m b, (if m = n then none else g.bx m) = some b → m ≠ n ∧ g.bx m = some b := fun m b e => by
  by_cases hm : m = n
  ·rw [if_pos hm] at e; cases e
  ·rw [if_neg hm] at e; exact ⟨hm, e⟩
 have hx : C.X st.hs ((g.noBx n).has C.w0.heap.size) w := C.Xok _ _ _ (fun _ => False) _ _ h.x (KeepD.refl _ w) (fun _ e => e.elim) (fun k hk => .inl (by
  rcases hk with ⟨m, h1, h2⟩ | hk
  ·exact .inl ⟨m, h1, (hb' m k h2).2⟩
  ·exact .inr hk))
 refine ⟨h.defers, h.size, ?_, ?_, hx, fun m b hm => hb m b (fun e => by rw [e, hnm] at hm; cases hm) (h.fix m b hm)⟩
 ·intro i d hd
  rw [St.drop, lk_map] at hd
  obtain ⟨d0, h0, rfl⟩ := Option.map_eq_some_iff.1 hd
  exact ⟨(h.rep i d0 h0).1, Rep.dropped (g' := g.noBx n) hb (fun _ _ h => h) (Ex.refl _ _) (h.rep i d0 h0).2⟩
 ·have m := h.mem
  exact { m with
   bxs := fun k ds hk => by
    simp only [St.drop] at hk
    rw [lk_map, lk_filter (fun j => j != n)] at hk
    obtain ⟨d0, h0, rfl⟩ := Option.map_eq_some_iff.1 hk
    split at h0
    ·rename_i hne
     obtain ⟨b, cs, t, h1, h2, h3⟩ := m.bxs k d0 h0
     exact ⟨b, cs, t, hb k b (by simpa using hne) h1, h2, Reps.dropped (g' := g.noBx n) hb (fun _ _ h => h) (Ex.refl _ _) h3⟩
    ·cases h0
   mps := fun k es hk => by
    simp only [St.drop] at hk
    rw [lk_filter (fun j => j != n)] at hk
    split at hk
    ·rename_i hne
     obtain ⟨b, en, h1, h2, h3⟩ := m.mps k es hk
     exact ⟨b, en, hb k b (by simpa using hne) h1, h2, h3⟩
    ·cases hk
   bxok := fun k b hk => m.bxok k b (hb' k b hk).2
   bxdm := fun k b hk => m.bxdm k b (hb' k b hk).2
   bxdf := fun k D hD hk => m.bxdf k D hD (hb' k D hk).2
   bxinj := fun k j b hk hj => m.bxinj k j b (hb' k b hk).2 (hb' j b hj).2
   bxtk := fun k t b v e hk ht => m.bxtk k t b v e (hb' k b hk).2 ht }

theorem hasPurge {g : Gh} {n k0 k : Nat} (hk : (g.noTk n).has k0 k) : g.has k0 k := by
 rcases hk with hk | ⟨t, v, e, h1, h2⟩ | hk
 ·exact .inl hk
 ·by_cases hm : t = n
  ·simp only [hm, if_true] at h1; cases h1
  ·simp only [hm, if_false] at h1
   exact .inr (.inl ⟨t, v, e, h1, h2⟩)
 ·exact .inr (.inr hk)

theorem SR.purge (h : SR C st g a w) (n : Nat) : SR C (st.purge n) (g.noTk n) a w := by
 have hb : ∀ m x, m ≠ n → g.tk m = some x → (if m = n then none else g.tk m) = some x := fun m b hm e => by rw [if_neg hm]; exact e
 have hb' : ∀ m x, (if m = n then none else g.tk m) = some x → m ≠ n ∧ g.tk m = some x := fun m b e => by
  by_cases hm : m = n
  ·rw [if_pos hm] at e; cases e
  ·rw [if_neg hm] at e; exact ⟨hm, e⟩
 have hx : C.X st.hs ((g.noTk n).has C.w0.heap.size) w := C.Xok _ _ _ (fun _ => False) _ _ h.x (KeepD.refl _ w) (fun _ e => e.elim) (fun k hk => .inl (by
  rcases hk with hk | ⟨t, v, e, h1, h2⟩ | hk
  ·exact .inl hk
  ·exact .inr (.inl ⟨t, v, e, (hb' t _ h1).2, h2⟩)
  ·exact .inr (.inr hk)))
 refine ⟨h.defers, h.size, ?_, ?_, hx, h.fix⟩
 ·intro i d hd
  rw [St.purge, lk_map] at hd
  obtain ⟨d0, h0, rfl⟩ := Option.map_eq_some_iff.1 hd
  exact ⟨(h.rep i d0 h0).1, Rep.purged (g := g) (g' := g.noTk n) (fun _ _ h => h) hb (Ex.refl _ _) (h.rep i d0 h0).2⟩
 ·have m := h.mem
  exact { m with
   bxs := fun k ds hk => by
    simp only [St.purge] at hk
    rw [lk_map] at hk
    obtain ⟨d0, h0, rfl⟩ := Option.map_eq_some_iff.1 hk
    obtain ⟨b, cs, t, h1, h2, h3⟩ := m.bxs k d0 h0
    exact ⟨b, cs, t, h1, h2, Reps.purged (g := g) (g' := g.noTk n) (fun _ _ h => h) hb (Ex.refl _ _) h3⟩
   tks := fun t v e ht => m.tks t v e (hb' _ _ ht).2
   tkinj := fun t s v u e f b ht hs => m.tkinj t s v u e f b (hb' _ _ ht).2 (hb' _ _ hs).2
   bxtk := fun k t b v e hk ht => m.bxtk k t b v e hk (hb' _ _ ht).2 }

theorem Mem.grow {bs : List (Nat × List D)} {ms : List (Nat × MO)} (m : Mem C bs ms g w) {w' : World} {row : Option Nat} (hg : w.grownBy w' row)
 (hrow : ∀ k, row = some k → (C.w0.heap.size ≤ k ∨ C.S k) ∧ (∀ o, ¬ g.Fz k o) ∧ (∀ n ds, lk bs n = some ds → g.bx n ≠ some k) ∧ (∀ n es, lk ms n = some es → g.bx n ≠ some k) ∧ (∀ t v e, g.tk t = some (v, e) → v.ownBlock ≠ some k) ∧ (∀ D ∈ g.df, D ≠ k)) :
 Mem C bs ms g w' ∧ Gr g w g w' := by
 have hex : Ex g.Fz w g.Fz w' := fun b o hf => ⟨hf, World.cell?_of_block (hg.block b (m.fzlt b o hf) (fun e => (hrow b e.symm).2.1 o hf))⟩
 have hgr : Gr g w g w' := ⟨fun _ _ h => h, fun _ _ h => h, hex⟩
 refine ⟨?_, hgr⟩
 exact {
  os := hg.os.trans m.os
  tape := hg.tape.trans m.tape
  output := hg.output.trans m.output
  hsz := Nat.le_trans m.hsz hg.size
  old := fun k hk hs hd => (hg.block k (Nat.lt_of_lt_of_le hk m.hsz) (fun e => by
   rcases (hrow k e.symm).1 with h | h
   ·omega
   ·exact hs h)).trans (m.old k hk hs hd)
  keep := m.keep.trans hex
  newfz := m.newfz
  fzlt := fun b o hf => Nat.lt_of_lt_of_le (m.fzlt b o hf) hg.size
  bxs := fun n ds hn => by
   obtain ⟨b, cs, t, h1, h2, h3⟩ := m.bxs n ds hn
   exact ⟨b, cs, t, h1, (hg.block b (m.bxok n b h1).1 (fun e => (hrow b e.symm).2.2.1 n ds hn h1)).trans h2, h3.mono hgr⟩
  mps := fun n es hn => by
   obtain ⟨b, en, h1, h2, h3⟩ := m.mps n es hn
   exact ⟨b, en, h1, (hg.block b (m.bxok n b h1).1 (fun e => (hrow b e.symm).2.2.2.1 n es hn h1)).trans h2, h3⟩
  bxok := fun n b hb => ⟨Nat.lt_of_lt_of_le (m.bxok n b hb).1 hg.size, (m.bxok n b hb).2⟩
  bxinj := m.bxinj
  tks := fun t v e ht => by
   obtain ⟨i, n, xs, h1, h2, h3, h4⟩ := m.tks t v e ht
   refine ⟨i, n, xs, h1, h2, h3.kept hg ?_, h4⟩
   cases hv : v.ownBlock with
   | none => exact .inl rfl
   | some k =>
     refine .inr fun e' => ?_
     exact (hrow k e'.symm).2.2.2.2.1 t v e ht hv
  tkinj := m.tkinj
  bxtk := m.bxtk
  dfs := fun D hD => ⟨(m.dfs D hD).1, (hg.block D (Array.getElem?_eq_some_iff.1 (m.dfs D hD).2).1 (fun e => (hrow D e.symm).2.2.2.2.2 D hD rfl)).trans (m.dfs D hD).2⟩
  dnd := m.dnd
  bxdf := m.bxdf
  bxdm := m.bxdm }

theorem SR.gr {st' : St} {g' : Gh} {w' : World} (h : SR C st g a w) (hg : Gr g w g' w') (hdf : g'.df = g.df) (hf : st'.fr = st.fr) (hh : st'.hs = st.hs) (hx : C.X st.hs (g'.has C.w0.heap.size) w') (hm : Mem C st'.bs st'.ms g' w') : SR C st' g' a w' :=
 ⟨by rw [hdf]; exact h.defers, h.size, fun i d hd => by rw [hf] at hd; exact ⟨(h.rep i d hd).1, (h.rep i d hd).2.mono hg⟩, hm, by rw [hh]; exact hx, fun n b hn => hg.bx n b (h.fix n b hn)⟩

theorem SR.newbox (h : SR C st g a w) (n : Nat) (hn : g.bx n = none) (cs : Array Value) (t : TypeId) (ds : List D) (hd : Reps g w ds cs.toList) :
 SR C { st with bs := (n, ds) :: st.bs } (g.withBx n w.heap.size) a (w.alloc (.cells cs t)) ∧
 Gr g w (g.withBx n w.heap.size) (w.alloc (.cells cs t)) := by
 have m := h.mem
 obtain ⟨m1, hg1⟩ := m.grow (World.grownBy_alloc w (.cells cs t) none) (fun k e => by cases e)
 have hbx : ∀ k b, g.bx k = some b → (if k = n then some w.heap.size else g.bx k) = some b := fun k b e => by
  rw [if_neg]
  ·exact e
  ·rintro rfl; rw [hn] at e; cases e
 have hbx' : ∀ k b, (if k = n then some w.heap.size else g.bx k) = some b → (k = n ∧ b = w.heap.size) ∨ (k ≠ n ∧ g.bx k = some b) := fun k b e => by
  by_cases hk : k = n
  ·rw [if_pos hk] at e; exact .inl ⟨hk, (Option.some.inj e).symm⟩
  ·rw [if_neg hk] at e; exact .inr ⟨hk, e⟩
 have hgr : Gr g w (g.withBx n w.heap.size) (w.alloc (.cells cs t)) := ⟨hbx, fun _ _ h => h, hg1.ex⟩
 have hgr1 : Gr g (w.alloc (.cells cs t)) (g.withBx n w.heap.size) (w.alloc (.cells cs t)) := ⟨hbx, fun _ _ h => h, Ex.refl _ _⟩
 refine ⟨h.gr hgr rfl rfl rfl (C.Xok _ _ _ _ _ _ h.x (KeepD.of_grown (World.grownBy_alloc w (.cells cs t) none)) (fun k e => by cases e) (fun k hk => by
  rcases hk with ⟨m', h1, h2⟩ | hk
  ·rcases hbx' m' k h2 with ⟨_, rfl⟩ | ⟨_, h2⟩
   ·exact .inr (Nat.le_refl _)
   ·exact .inl (.inl ⟨m', h1, h2⟩)
  ·exact .inl (.inr hk))) ?_, hgr⟩
 have hnofz : ∀ o, ¬ g.Fz w.heap.size o := fun o hf => Nat.lt_irrefl _ (m.fzlt _ _ hf)
 exact { m1 with
  keep := m1.keep
  bxs := fun k es hk => by
   simp only [lk] at hk
   by_cases hkn : k = n
   ·simp only [hkn, if_true, Option.some.injEq] at hk
    subst hk
    exact ⟨w.heap.size, cs, t, by simp [hkn], Go.heap_alloc_new w _, hd.mono hgr⟩
   ·simp only [hkn, if_false] at hk
    obtain ⟨b, cs', t', h1, h2, h3⟩ := m1.bxs k es hk
    exact ⟨b, cs', t', hbx k b h1, h2, h3.mono hgr1⟩
  mps := fun k es hk => by
   obtain ⟨b, en, h1, h2, h3⟩ := m1.mps k es hk
   exact ⟨b, en, hbx k b h1, h2, h3⟩
  bxok := fun k b hk => by
   rcases hbx' k b hk with ⟨_, rfl⟩ | ⟨_, hk⟩
   ·exact ⟨by simp, .inl m.hsz, hnofz⟩
   ·exact m1.bxok k b hk
  bxdf := fun k D hD hk => by
   rcases hbx' k D hk with ⟨_, rfl⟩ | ⟨_, hk⟩
   ·exact Nat.lt_irrefl _ (Array.getElem?_eq_some_iff.1 (m.dfs _ hD).2).1
   ·exact m.bxdf k D hD hk
  bxinj := fun k j b hk hj => by
   rcases hbx' k b hk with ⟨e1, e2⟩ | ⟨_, hk1⟩
   ·rcases hbx' j _ hj with ⟨e3, _⟩ | ⟨_, hj1⟩
    ·exact e1.trans e3.symm
    ·exact absurd (e2 ▸ (m.bxok j _ hj1).1) (Nat.lt_irrefl _)
   ·rcases hbx' j b hj with ⟨_, e4⟩ | ⟨_, hj1⟩
    ·exact absurd (e4 ▸ (m.bxok k _ hk1).1) (Nat.lt_irrefl _)
    ·exact m.bxinj k j b hk1 hj1
  bxtk := fun k t' b v e hk ht => by
   rcases hbx' k b hk with ⟨rfl, rfl⟩ | ⟨_, hk⟩
   ·obtain ⟨i, nn, xs, _, _, h3, _⟩ := m.tks t' v e ht
    intro hv
    have := (h3.lt _ hv).2
    omega
   ·exact m.bxtk k t' b v e hk ht
  bxdm := fun k b hk => by
   rcases hbx' k b hk with ⟨_, rfl⟩ | ⟨_, hk⟩
   ·intro hd
    have := (C.dmok _ hd).1
    have := m.hsz
    omega
   ·exact m.bxdm k b hk }

theorem SR.setbox (h : SR C st g a w) (n b : Nat) (ds : List D) (hl : lk st.bs n = some ds) (hb : g.bx n = some b) (cs : Array Value) (t : TypeId) (hcs : w.heap[b]? = some (.cells cs t (0, 0))) (hro : n < 1000000)
 (cs' : Array Value) (ds' : List D) (hd : Reps g w ds' cs'.toList) : SR C { st with bs := (n, ds') :: st.bs } g a (w.setRow b cs') := by
 have m := h.mem
 have hwr : C.w0.heap.size ≤ b ∨ C.S b := by
  rcases (m.bxok n b hb).2.1 with h | h | h
  ·exact .inl h
  ·exact .inr h
  ·omega
 have hg : w.grownBy (w.setRow b cs') (some b) := ⟨rfl, rfl, rfl, by simp [World.setRow], fun k _ hk => setRow_other w b k _ (fun e => hk (by rw [e]))⟩
 have m0 : Mem C (st.bs.filter fun p => p.1 != n) (st.ms.filter fun p => p.1 != n) g w := { m with
  bxs := fun k es hk => by
   rw [lk_filter (fun j => j != n)] at hk
   split at hk
   ·exact m.bxs k es hk
   ·cases hk
  mps := fun k es hk => by
   rw [lk_filter (fun j => j != n)] at hk
   split at hk
   ·exact m.mps k es hk
   ·cases hk }
 obtain ⟨m1, hgr⟩ := m0.grow hg (fun k e => by
  cases e
  refine ⟨hwr, (m.bxok n b hb).2.2, ?_, ?_, fun t v e ht => m.bxtk n t b v e hb ht, fun D hD e => by subst e; rw [(m.dfs D hD).2] at hcs; cases hcs⟩
  ·intro k es hk he
   rw [lk_filter (fun j => j != n), m.bxinj k n b he hb] at hk
   simp at hk
  ·intro k es hk he
   rw [lk_filter (fun j => j != n), m.bxinj k n b he hb] at hk
   simp at hk)
 refine h.gr hgr rfl rfl rfl (C.Xok _ _ _ _ _ _ h.x (KeepD.of_grown hg) (fun k e => by cases e; exact .inl ⟨n, .inl hro, hb⟩) (fun _ h => .inl h)) ?_
 have hnew : (w.setRow b cs').heap[b]? = some (.cells cs' t (0, 0)) := setRow_heap w b cs cs' t (0, 0) hcs
 exact { m1 with
  bxs := fun k es hk => by
   simp only [lk] at hk
   by_cases hkn : k = n
   ·simp only [hkn, if_true, Option.some.injEq] at hk
    subst hk
    exact ⟨b, cs', t, by rw [hkn]; exact hb, hnew, hd.mono hgr⟩
   ·simp only [hkn, if_false] at hk
    exact m1.bxs k es (by rw [lk_filter (fun j => j != n)]; simp [hkn, hk])
  mps := fun k es hk => by
   by_cases hkn : k = n
   ·subst hkn
    obtain ⟨b', en, h1, h2, h3⟩ := m.mps k es hk
    rw [hb] at h1
    cases h1
    rw [hcs] at h2
    cases h2
    exact (MO.no_cells h3).elim
   ·exact m1.mps k es (by rw [lk_filter (fun j => j != n)]; simp [hkn, hk]) }

theorem SR.called (h : SR C st g a w) {w' : World} (hb : Below w.heap.size w w') (Fz' : Nat → Nat → Prop) (hf : Ex g.Fz w Fz' w') (hlt : ∀ b o, Fz' b o → b < w'.heap.size) :
 SR C st (g.withFz w.heap.size Fz') a w' ∧ Gr g w (g.withFz w.heap.size Fz') w' := by
 have m := h.mem
 have hg : w.grownBy w' none := ⟨hb.os, hb.tape, hb.output, hb.size, fun k hk _ => hb.block k hk⟩
 obtain ⟨m1, hg1⟩ := m.grow hg (fun k e => by cases e)
 have hgr : Gr g w (g.withFz w.heap.size Fz') w' := ⟨fun _ _ h => h, fun _ _ h => h, fun b o hf => ⟨.inl hf, (hg1.ex b o hf).2⟩⟩
 have hgr1 : Gr g w' (g.withFz w.heap.size Fz') w' := ⟨fun _ _ h => h, fun _ _ h => h, fun b o hf => ⟨.inl hf, rfl⟩⟩
 refine ⟨h.gr hgr rfl rfl rfl (C.Xok _ _ _ _ _ _ h.x (KeepD.of_grown hg) (fun k e => by cases e) (fun k hk => by
  rcases hk with hk | hk | hk | ⟨h1, o, hf | ⟨h2, _⟩⟩
  ·exact .inl (.inl hk)
  ·exact .inl (.inr (.inl hk))
  ·exact .inl (.inr (.inr (.inl hk)))
  ·exact .inl (.inr (.inr (.inr ⟨h1, o, hf⟩)))
  ·exact .inr h2)) ?_, hgr⟩
 exact { m1 with
  keep := m1.keep.trans hgr1.ex
  newfz := fun b o hf hlt => by
   rcases hf with hf | ⟨hf, _⟩
   ·exact m.newfz b o hf hlt
   ·have := m.hsz; omega
  fzlt := fun b o hf => by
   rcases hf with hf | ⟨_, hf⟩
   ·exact m1.fzlt b o hf
   ·exact hlt b o hf
  bxs := fun n ds hn => by
   obtain ⟨b, cs, t, h1, h2, h3⟩ := m1.bxs n ds hn
   exact ⟨b, cs, t, h1, h2, h3.mono hgr1⟩
  bxok := fun n b hb => ⟨(m1.bxok n b hb).1, (m1.bxok n b hb).2.1, fun o hf => by
   rcases hf with hf | ⟨hf, _⟩
   ·exact (m1.bxok n b hb).2.2 o hf
   ·have := (m.bxok n b hb).1; omega⟩
  tks := fun t v e ht => by
   obtain ⟨i, n, xs, h1, h2, h3, h4⟩ := m1.tks t v e ht
   refine ⟨i, n, xs, h1, h2, h3, fun b hv => ⟨(h4 b hv).1, fun o hf => ?_⟩⟩
   rcases hf with hf | ⟨hf, _⟩
   ·exact (h4 b hv).2 o hf
   ·obtain ⟨i0, n0, xs0, _, _, h30, _⟩ := m.tks t v e ht
    have := (h30.lt b hv).2
    omega }


theorem flat_idx {α : Type} (sz : Nat) : ∀ (l : List (List α)) (j i : Nat), (∀ r ∈ l, r.length = sz) → i < sz → l.flatten[j * sz + i]? = (l[j]?).bind (·[i]?)
 | [], j, i, _, _ => by simp
 | r :: l, 0, i, h, hi => by
   have := h r List.mem_cons_self
   simp only [List.flatten_cons, Nat.zero_mul, Nat.zero_add, List.getElem?_cons_zero, Option.bind_some]
   rw [List.getElem?_append_left (by omega)]
 | r :: l, j + 1, i, h, hi => by
   have h0 := h r List.mem_cons_self
   simp only [List.flatten_cons, List.getElem?_cons_succ]
   rw [List.getElem?_append_right (by rw [h0, Nat.add_mul]; omega), ← flat_idx sz l j i (fun r hr => h r (List.mem_cons_of_mem _ hr)) hi]
   congr 1
   rw [h0, Nat.add_mul]
   omega

theorem flat_len {α : Type} (sz : Nat) : ∀ (l : List (List α)), (∀ r ∈ l, r.length = sz) → l.flatten.length = l.length * sz
 | [], _ => by simp
 | r :: l, h => by
   simp only [List.flatten_cons, List.length_append, List.length_cons, h r List.mem_cons_self, flat_len sz l (fun r hr => h r (List.mem_cons_of_mem _ hr)), Nat.add_mul]
   omega

def RowsR (Fz : Nat → Nat → Prop) (w : World) : List (List Value) → List (List PD) → Prop
 | [], ds => ds = []
 | v :: vs, ds => ∃ d ds', ds = d :: ds' ∧ PReps Fz w v d ∧ RowsR Fz w vs ds'

theorem RowsR.length {Fz : Nat → Nat → Prop} {w : World} : ∀ {vs : List (List Value)} {ds : List (List PD)}, RowsR Fz w vs ds → vs.length = ds.length
 | [], _, h => by simp [RowsR] at h; simp [h]
 | _ :: _, _, ⟨d, ds', rfl, _, h⟩ => by simp [RowsR.length h]

theorem RowsR.get {Fz : Nat → Nat → Prop} {w : World} : ∀ {vs : List (List Value)} {ds : List (List PD)} (_ : RowsR Fz w vs ds) (j : Nat), j < vs.length → PReps Fz w (vs.getD j []) (ds.getD j [])
 | [], _, _, _, hj => by simp at hj
 | v :: vs, _, ⟨d, ds', rfl, h, hs⟩, j, hj => by
   cases j with
   | zero => simpa using h
   | succ j => simpa using RowsR.get hs j (by simpa using hj)

theorem RowsR.append {Fz : Nat → Nat → Prop} {w : World} : ∀ {vs us : List (List Value)} {ds es : List (List PD)}, RowsR Fz w vs ds → RowsR Fz w us es → RowsR Fz w (vs ++ us) (ds ++ es)
 | [], _, _, _, h, k => by simp [RowsR] at h; simpa [h] using k
 | v :: vs, _, _, _, ⟨d, ds', rfl, h, hs⟩, k => by
   simp only [List.cons_append, RowsR]
   exact ⟨d, _, rfl, h, RowsR.append hs k⟩

theorem RowsR.mono {Fz Fz' : Nat → Nat → Prop} {w w' : World} (hx : Ex Fz w Fz' w') : ∀ {vs : List (List Value)} {ds : List (List PD)}, RowsR Fz w vs ds → RowsR Fz' w' vs ds
 | [], _, h => h
 | _ :: _, _, ⟨d, ds', e, h, hs⟩ => ⟨d, ds', e, h.mono hx, RowsR.mono hx hs⟩

theorem RowsR.sizes {Fz : Nat → Nat → Prop} {w : World} {sz : Nat} : ∀ {vs : List (List Value)} {ds : List (List PD)}, RowsR Fz w vs ds → (∀ r ∈ ds, r.length = sz) → ∀ r ∈ vs, r.length = sz
 | [], _, _, _, r, hr => by simp at hr
 | v :: vs, _, ⟨d, ds', rfl, h, hs⟩, hl, r, hr => by
   rcases List.mem_cons.1 hr with rfl | hr
   ·rw [h.length]; exact hl d List.mem_cons_self
   ·exact RowsR.sizes hs (fun r hr => hl r (List.mem_cons_of_mem _ hr)) r hr

theorem RowsR.ones {Fz : Nat → Nat → Prop} {w : World} : ∀ {vs : List (List Value)} {ds : List (List PD)}, RowsR Fz w vs ds → ∀ u ∈ vs.flatten, u.oneCell' = true
 | [], _, _, u, hu => by simp at hu
 | v :: vs, _, ⟨d, ds', rfl, h, hs⟩, u, hu => by
   rw [List.flatten_cons, List.mem_append] at hu
   rcases hu with hu | hu
   ·exact h.ones u hu
   ·exact RowsR.ones hs u hu

theorem PRep.rows {Fz : Nat → Nat → Prop} {w : World} {v : Value} {els : List (List PD)} (h : PRep Fz w v (.slice els)) {sz : Nat} (hl : ∀ r ∈ els, r.length = sz) :
 ∃ a cap vss, v = .slice a els.length cap ∧ els.length ≤ cap ∧ els.length ≤ maxLen ∧ RowsR Fz w vss els ∧ (0 < els.length → ∃ b off, a = some ⟨b, off, none⟩ ∧ ∀ j u, vss.flatten[j]? = some u → w.cell? ⟨b, off + j, none⟩ = some u ∧ Fz b (off + j)) := by
 cases h with
 | empty a cap => exact ⟨a, cap, [], rfl, by simp, by simp, by simp [RowsR], by simp⟩
 | slice b off n cap sz' els vals hn hpos hcap hmax hlen hc hr =>
   subst hn
   have hsz : sz' = sz := by
    have h0 := hr 0 hpos
    have h1 := hl (els.getD 0 []) (by
     rw [List.getD_eq_getElem?_getD, List.getElem?_eq_getElem hpos]; exact List.getElem_mem _)
    rw [← h1, ← h0.length, hlen 0 hpos]
   subst hsz
   have key : ∀ (k : Nat) (es : List (List PD)), (∀ j, j < es.length → PReps Fz w (vals (k + j)) (es.getD j [])) → RowsR Fz w ((List.range' k es.length).map vals) es := by
    intro k es
    induction es generalizing k with
    | nil => intro _; simp [RowsR]
    | cons d es ih =>
      intro h
      simp only [List.length_cons, List.range'_succ, List.map_cons, RowsR]
      exact ⟨d, es, rfl, by simpa using h 0 (by simp), ih (k + 1) (fun j hj => by have := h (j + 1) (by simpa using hj); simpa [Nat.add_assoc, Nat.add_comm 1 j] using this)⟩
   refine ⟨some ⟨b, off, none⟩, cap, (List.range' 0 els.length).map vals, rfl, hcap, hmax, key 0 els (fun j hj => by simpa using hr j hj), fun _ => ⟨b, off, rfl, fun j u hu => ?_⟩⟩
   have hlens : ∀ r ∈ (List.range' 0 els.length).map vals, r.length = sz' := by
    intro r hr'
    obtain ⟨j, hj, rfl⟩ := List.mem_map.1 hr'
    rw [List.mem_range'] at hj
    obtain ⟨i, hi, rfl⟩ := hj
    exact hlen _ (by omega)
   have hlt : j < els.length * sz' := by
    have := (List.getElem?_eq_some_iff.1 hu).1
    rw [flat_len sz' _ hlens] at this
    simpa using this
   have hs0 : 0 < sz' := by
    rcases Nat.eq_zero_or_pos sz' with h | h
    ·subst h; simp at hlt
    ·exact h
   have e : j = j / sz' * sz' + j % sz' := by rw [Nat.mul_comm]; exact (Nat.div_add_mod j sz').symm
   have hd : j / sz' < els.length := (Nat.div_lt_iff_lt_mul hs0).2 hlt
   rw [e, flat_idx sz' _ (j / sz') (j % sz') hlens (Nat.mod_lt _ hs0)] at hu
   simp only [List.getElem?_map] at hu
   rw [List.getElem?_range' (by simpa using hd)] at hu
   simp only [Option.map_some, Option.bind_some, Nat.zero_add, Nat.one_mul] at hu
   have := hc (j / sz') (j % sz') u hd hu
   rw [Nat.add_assoc, ← e] at this
   exact this

theorem PRep.of_rows {Fz : Nat → Nat → Prop} {w : World} {els : List (List PD)} {vss : List (List Value)} {sz b cap : Nat} (hr : RowsR Fz w vss els) (hl : ∀ r ∈ els, r.length = sz) (hcap : els.length ≤ cap) (hmax : els.length ≤ maxLen)
 (hc : ∀ j u, vss.flatten[j]? = some u → w.cell? ⟨b, j, none⟩ = some u ∧ Fz b j) : PRep Fz w (.slice (some ⟨b, 0, none⟩) els.length cap) (.slice els) := by
 rcases Nat.eq_zero_or_pos els.length with h0 | hpos
 ·have : els = [] := List.eq_nil_of_length_eq_zero h0
  subst this
  exact .empty _ _
 ·have hvl := hr.length
  have hvs := RowsR.sizes hr hl
  refine .slice b 0 els.length cap sz els (fun j => vss.getD j []) rfl hpos hcap hmax ?_ ?_ ?_
  ·intro j hj
   rw [List.getD_eq_getElem?_getD, List.getElem?_eq_getElem (by omega)]
   exact hvs _ (List.getElem_mem _)
  ·intro j i u hj hu
   rw [List.getD_eq_getElem?_getD, List.getElem?_eq_getElem (show j < vss.length by omega)] at hu
   simp only [Option.getD_some] at hu
   have hi : i < sz := by
    have := (List.getElem?_eq_some_iff.1 hu).1
    rw [hvs _ (List.getElem_mem _)] at this
    exact this
   have := hc (j * sz + i) u (by rw [flat_idx sz vss j i hvs hi, List.getElem?_eq_getElem (show j < vss.length by omega)]; exact hu)
   rwa [Nat.zero_add]
  ·intro j hj
   exact hr.get j (by omega)

abbrev Gh.withOwn (g : Gh) (t : Nat) (v : Value) (e : TypeId) (k : Nat) : Gh :=
 { g with tk := fun m => if m = t then some (v, e) else g.tk m, Fz := fun b o => g.Fz b o ∨ (v.ownBlock = some b ∧ o < k) }

variable {C : Ctx} {st : St} {g : Gh} {a : Act} {w : World}

theorem SR.owned (h : SR C st g a w) (t : Nat) (ht : g.tk t = none) {w' : World} {row : Option Nat} (hg : w.grownBy w' row)
 (O : Nat → Prop) (hxO : C.X st.hs O w) (hO1 : ∀ k, row = some k → O k) (hO2 : ∀ k, g.has C.w0.heap.size k → O k)
 (hrow : ∀ k, row = some k → (C.w0.heap.size ≤ k ∨ C.S k) ∧ (∀ n, g.bx n ≠ some k) ∧ (∀ t v e, g.tk t = some (v, e) → v.ownBlock ≠ some k) ∧ (∀ D ∈ g.df, D ≠ k) ∧ ∃ cs t f, w.heap[k]? = some (.cells cs t f))
 (e : TypeId) (i : TypeInfo) (hi : C.P.info? e = some i) (hpos : 0 < i.size) (v' : Value) (n : Nat) (xs : List Value) (hown : w'.ownsRow 0 e i.size v' n xs)
 (hblk : ∀ b, v'.ownBlock = some b → row = some b ∨ w.heap.size ≤ b)
 (hex : ∀ b o, g.Fz b o → row = some b → w'.cell? ⟨b, o, none⟩ = w.cell? ⟨b, o, none⟩ ∧ (v'.ownBlock = some b → o < n * i.size)) :
 SR C st (g.withOwn t v' e (n * i.size)) a w' ∧ Gr g w (g.withOwn t v' e (n * i.size)) w' := by
 have m := h.mem
 have hx : Ex g.Fz w (g.withOwn t v' e (n * i.size)).Fz w' := fun b o hf => ⟨.inl hf, by
  by_cases hb : row = some b
  ·exact (hex b o hf hb).1
  ·exact World.cell?_of_block (hg.block b (m.fzlt b o hf) (fun e => hb e.symm))⟩
 have htk : ∀ s x, g.tk s = some x → (if s = t then some (v', e) else g.tk s) = some x := fun s x hs => by
  rw [if_neg]
  ·exact hs
  ·rintro rfl; rw [ht] at hs; cases hs
 have hgr : Gr g w (g.withOwn t v' e (n * i.size)) w' := ⟨fun _ _ h => h, htk, hx⟩
 have hblt : ∀ b, v'.ownBlock = some b → b < w'.heap.size ∧ (C.w0.heap.size ≤ b ∨ C.S b) := fun b hb => ⟨(hown.lt b hb).2, by
  rcases hblk b hb with hr | hr
  ·exact (hrow b hr).1
  ·exact .inl (Nat.le_trans m.hsz hr)⟩
 have hnobx : ∀ b, v'.ownBlock = some b → ∀ k, g.bx k ≠ some b := fun b hb k hk => by
  rcases hblk b hb with hr | hr
  ·exact (hrow b hr).2.1 k hk
  ·have := (m.bxok k b hk).1; omega
 have hnotk : ∀ b, v'.ownBlock = some b → ∀ s u f, g.tk s = some (u, f) → u.ownBlock ≠ some b := fun b hb s u f hs hu => by
  rcases hblk b hb with hr | hr
  ·exact (hrow b hr).2.2.1 s u f hs hu
  ·obtain ⟨_, _, _, _, _, h3, _⟩ := m.tks s u f hs
   have := (h3.lt b hu).2; omega
 refine ⟨h.gr hgr rfl rfl rfl (C.Xok _ _ _ _ _ _ hxO (KeepD.of_grown hg) hO1 (fun k hk => by
  have hnew : v'.ownBlock = some k → O k ∨ w.heap.size ≤ k := fun hv => by
   rcases hblk k hv with hr | hr
   ·exact .inl (hO1 k hr)
   ·exact .inr hr
  rcases hk with hk | ⟨s, u, f, h1, h2⟩ | hk | ⟨h1, o, hf | ⟨hf, _⟩⟩
  ·exact .inl (hO2 k (.inl hk))
  ·by_cases hst : s = t
   ·simp only [hst, if_true, Option.some.injEq, Prod.mk.injEq] at h1
    obtain ⟨rfl, rfl⟩ := h1
    exact hnew h2
   ·simp only [hst, if_false] at h1
    exact .inl (hO2 k (.inr (.inl ⟨s, u, f, h1, h2⟩)))
  ·exact .inl (hO2 k (.inr (.inr (.inl hk))))
  ·exact .inl (hO2 k (.inr (.inr (.inr ⟨h1, o, hf⟩))))
  ·exact hnew hf)) ?_, hgr⟩
 exact {
  os := hg.os.trans m.os
  tape := hg.tape.trans m.tape
  output := hg.output.trans m.output
  hsz := Nat.le_trans m.hsz hg.size
  old := fun k hk hs hd => (hg.block k (Nat.lt_of_lt_of_le hk m.hsz) (fun e => by
   rcases (hrow k e.symm).1 with h | h
   ·omega
   ·exact hs h)).trans (m.old k hk hs hd)
  keep := m.keep.trans hx
  newfz := fun b o hf hlt => by
   rcases hf with hf | ⟨hf, _⟩
   ·exact m.newfz b o hf hlt
   ·rcases (hblt b hf).2 with h | h
    ·omega
    ·exact .inr h
  fzlt := fun b o hf => by
   rcases hf with hf | ⟨hf, _⟩
   ·exact Nat.lt_of_lt_of_le (m.fzlt b o hf) hg.size
   ·exact (hblt b hf).1
  bxs := fun k ds hk => by
   obtain ⟨b, cs, t', h1, h2, h3⟩ := m.bxs k ds hk
   exact ⟨b, cs, t', h1, (hg.block b (m.bxok k b h1).1 (fun e => (hrow b e.symm).2.1 k h1)).trans h2, h3.mono hgr⟩
  mps := fun k es hk => by
   obtain ⟨b, en, h1, h2, h3⟩ := m.mps k es hk
   exact ⟨b, en, h1, (hg.block b (m.bxok k b h1).1 (fun e => (hrow b e.symm).2.1 k h1)).trans h2, h3⟩
  bxok := fun k b hk => ⟨Nat.lt_of_lt_of_le (m.bxok k b hk).1 hg.size, (m.bxok k b hk).2.1, fun o hf => by
   rcases hf with hf | ⟨hf, _⟩
   ·exact (m.bxok k b hk).2.2 o hf
   ·exact hnobx b hf k hk⟩
  bxinj := m.bxinj
  tks := fun s u f hs => by
   by_cases hst : s = t
   ·simp only [hst, if_true, Option.some.injEq, Prod.mk.injEq] at hs
    obtain ⟨rfl, rfl⟩ := hs
    refine ⟨i, n, xs, hi, hpos, hown, fun b hb => ⟨(hblt b hb).2, fun o hf => ?_⟩⟩
    rcases hf with hf | ⟨_, hf⟩
    ·rcases hblk b hb with hr | hr
     ·exact (hex b o hf hr).2 hb
     ·have := m.fzlt b o hf; omega
    ·exact hf
   ·simp only [hst, if_false] at hs
    obtain ⟨i', n', xs', h1, h2, h3, h4⟩ := m.tks s u f hs
    refine ⟨i', n', xs', h1, h2, h3.kept hg ?_, fun b hb => ⟨(h4 b hb).1, fun o hf => ?_⟩⟩
    ·cases hu : u.ownBlock with
     | none => exact .inl rfl
     | some k => exact .inr fun e' => (hrow k e'.symm).2.2.1 s u f hs hu
    ·rcases hf with hf | ⟨hf, _⟩
     ·exact (h4 b hb).2 o hf
     ·exact absurd hb (hnotk b hf s u f hs)
  tkinj := fun s r u x f f' b hs hr hu hx' => by
   by_cases h1 : s = t <;> by_cases h2 : r = t
   ·exact h1.trans h2.symm
   ·simp only [h1, if_true, Option.some.injEq, Prod.mk.injEq] at hs
    simp only [h2, if_false] at hr
    obtain ⟨rfl, rfl⟩ := hs
    exact absurd hx' (hnotk b hu r x f' hr)
   ·simp only [h2, if_true, Option.some.injEq, Prod.mk.injEq] at hr
    simp only [h1, if_false] at hs
    obtain ⟨rfl, rfl⟩ := hr
    exact absurd hu (hnotk b hx' s u f hs)
   ·simp only [h1, if_false] at hs
    simp only [h2, if_false] at hr
    exact m.tkinj s r u x f f' b hs hr hu hx'
  bxtk := fun k s b u f hk hs => by
   by_cases h1 : s = t
   ·simp only [h1, if_true, Option.some.injEq, Prod.mk.injEq] at hs
    obtain ⟨rfl, rfl⟩ := hs
    exact fun hb => hnobx b hb k hk
   ·simp only [h1, if_false] at hs
    exact m.bxtk k s b u f hk hs
  dfs := fun D hD => ⟨(m.dfs D hD).1, (hg.block D (Array.getElem?_eq_some_iff.1 (m.dfs D hD).2).1 (fun e => (hrow D e.symm).2.2.2.1 D hD rfl)).trans (m.dfs D hD).2⟩
  dnd := m.dnd
  bxdf := m.bxdf
  bxdm := m.bxdm }


theorem run_append3 {P : Program} (w : World) (base : Nat) (t ty e : TypeId) (i : TypeInfo) (z : Value) (ht : P.underlying t = some (.slice e)) (hi : P.info? e = some i) (hz : i.zero = some z)
 (hzs : z.cells.size = i.size) (hsz : 0 < i.size) (v : Value) (n : Nat) (xs : List Value) (hown : w.ownsRow base e i.size v n xs)
 (y : Option Addr) (m c : Nat) (news : List Value) (hl : news.length = m * i.size) (hy : 0 < m → ∃ ad, y = some ad ∧ ∀ j u, news[j]? = some u → w.cell? (ad.add j) = some u) (h1 : ∀ u ∈ news, u.oneCell' = true)
 (h63 : n + m ≤ maxLen) (hbytes : (n + m) * i.bytes ≤ 140737488355328) (hbase : base ≤ w.heap.size) :
 ∃ v' w', (Builtin.append_ #[t, t] ty #[v, .slice y m c]).run P w = .ok v' w' ∧ w'.ownsRow base e i.size v' (n + m) (xs ++ news) ∧
   ((w.grownBy w' none ∧ (v' = v ∧ w' = w ∨ v'.ownBlock = some w.heap.size)) ∨ (∃ b, v.ownBlock = some b ∧ v'.ownBlock = some b ∧ w.grownBy w' (some b))) := by
 rcases Nat.eq_zero_or_pos m with hm | hm
 ·subst hm
  have hn : news = [] := List.eq_nil_of_length_eq_zero (by simpa using hl)
  subst hn
  refine ⟨v, w, ?_, by simpa using hown, .inl ⟨⟨rfl, rfl, rfl, Nat.le_refl _, fun _ _ _ => rfl⟩, .inl ⟨rfl, rfl⟩⟩⟩
  rcases hown.2 with ⟨rfl, rfl⟩ | ⟨g, cap, cur, rfl, _, _, hnc, _⟩
  ·cases y <;> simp [Builtin.append_, run_underlying ht, sizeOf, typeInfo, hi, Builtin.lenOf, Builtin.firstCells, loadCells, loadCellsFrom]
  ·cases y <;> simp [Builtin.append_, run_underlying ht, sizeOf, typeInfo, hi, Builtin.lenOf, Builtin.firstCells, loadCells, loadCellsFrom, hnc, storeCells]
 ·obtain ⟨ad, rfl, hnews⟩ := hy hm
  have hsmall : n + m ≤ 9223372036854775807 := by simp only [maxLen] at h63; omega
  have hlen : (xs ++ news).length = (n + m) * i.size := by rw [List.length_append, hown.1, hl, Nat.add_mul]
  have grown : ∀ (old : Nat), old < n + m →
   (w.drew.alloc (.cells (xs.toArray ++ news.toArray ++ Builtin.zeroCells z.cells (grownCap w (n + m) old e - (n + m))) e)).ownsRow base e i.size
    (.slice (some ⟨w.heap.size, 0, none⟩) (n + m) (grownCap w (n + m) old e)) (n + m) (xs ++ news) ∧
   w.grownBy (w.drew.alloc (.cells (xs.toArray ++ news.toArray ++ Builtin.zeroCells z.cells (grownCap w (n + m) old e - (n + m))) e)) none := by
   intro old ho
   have hge := grownCap_ge w (n + m) old e
   have hcm : grownCap w (n + m) old e ≤ maxLen := grownCap_le_maxLen w (n + m) old e h63
   refine ⟨⟨hlen, .inr ⟨w.heap.size, _, _, rfl, hbase, Go.heap_alloc_new w.drew _, hge, hcm, ?_, ?_⟩⟩, ⟨rfl, rfl, rfl, by simp, fun k hk _ => Below.heap_alloc w.drew _ k hk⟩⟩
   ·simp only [Array.size_append, List.size_toArray, size_zeroCells, hzs, hown.1, hl, ← Nat.add_mul]
    congr 1
    omega
   ·simp only [Array.toList_append, List.append_assoc]
    rw [← List.append_assoc, ← hlen]
    exact List.take_left
  rcases hown.2 with ⟨rfl, rfl⟩ | ⟨g, cap, cur, rfl, hbg, hg, hnc, hcm, hcs, htake⟩
  ·have hx : xs = [] := List.eq_nil_of_length_eq_zero (by simpa using hown.1)
   subst hx
   have hr := run_append_nil (P := P) w t ty e i z ht hi hz ad m c news hl hnews hm (by omega) (by have hb := hbytes; simp only [Nat.zero_add] at hb; omega)
   have hgr := grown 0 (by omega)
   simp only [Nat.zero_add, List.nil_append, Array.empty_append] at hgr ⊢
   exact ⟨_, _, hr, hgr.1, .inl ⟨hgr.2, .inr rfl⟩⟩
  ·by_cases hroom : n + m ≤ cap
   ·have hfit : n * i.size + news.length ≤ cur.size := by rw [hl, hcs, ← Nat.add_mul]; exact Nat.mul_le_mul_right _ hroom
    have hr := run_append_room (P := P) w t ty e i ht hi g n cap cur hg ad m c news hl hnews h1 hroom hfit
    refine ⟨_, _, hr, ⟨hlen, .inr ⟨g, cap, _, rfl, hbg, setRow_heap w g cur _ e _ hg, hroom, hcm, ?_, ?_⟩⟩, .inr ⟨g, rfl, rfl, ⟨rfl, rfl, rfl, by simp [World.setRow], fun k _ hk => setRow_other w g k _ (fun e => hk (by rw [e]))⟩⟩⟩
    ·simp only [List.size_toArray, List.length_append, List.length_take, List.length_drop, Array.length_toList]
     omega
    ·rw [htake, ← hlen]
     exact List.take_left
   ·have holds : ∀ j u, xs[j]? = some u → w.cell? ((⟨g, 0, none⟩ : Addr).add j) = some u := hown.cells (g := g) rfl
    have hr := run_append_grow (P := P) w t ty e i z ht hi hz ⟨g, 0, none⟩ n cap xs hown.1 holds ad m c news hl hnews (by omega) (by omega) (growslice_fits (by omega) hbytes)
    have hgr := grown cap (by omega)
    exact ⟨_, _, hr, hgr.1, .inl ⟨hgr.2, .inr rfl⟩⟩

variable {C : Ctx} {st : St} {g : Gh} {a : Act} {w : World}

theorem own_cell {w : World} {base : Nat} {e : TypeId} {size : Nat} {v : Value} {n : Nat} {xs : List Value} (h : w.ownsRow base e size v n xs) {b : Nat} (hb : v.ownBlock = some b) (j : Nat) (u : Value) (hu : xs[j]? = some u) : w.cell? ⟨b, j, none⟩ = some u := by
 have := h.cells hb j u hu
 rwa [Addr.add_mid, Nat.zero_add] at this

structure SF (g : Gh) (w : World) (g' : Gh) (w' : World) (t : Option Nat) : Prop where
 ex : Ex g.Fz w g'.Fz w'
 bx : ∀ n b, t ≠ some n → g.bx n = some b → g'.bx n = some b ∧ w'.heap[b]? = w.heap[b]?

theorem SF.refl (g : Gh) (w : World) (t : Option Nat) : SF g w g w t := ⟨Ex.refl _ _, fun _ _ _ h => ⟨h, rfl⟩⟩

theorem SR.append (h : SR C st g a w) (t : Nat) (htk : g.tk t = none) (ty ty' e : TypeId) (i : TypeInfo) (z : Value) (ht : C.P.underlying ty = some (.slice e)) (hi : C.P.info? e = some i) (hz : i.zero = some z)
 (hzs : z.cells.size = i.size) (hsz : 0 < i.size) (v y : Value) (els es : List (List PD)) (hv : PRep g.Fz w v (.slice els)) (hl : ∀ r ∈ els, r.length = i.size)
 (O : Nat → Prop) (hxO : C.X st.hs O w) (hO1 : ∀ k, v.ownBlock = some k → O k) (hO2 : ∀ k, g.has C.w0.heap.size k → O k)
 (n : Nat) (xs : List Value) (hown : w.ownsRow 0 e i.size v n xs) (hfz : ∀ b, v.ownBlock = some b → (C.w0.heap.size ≤ b ∨ C.S b) ∧ ∀ o, g.Fz b o → o < n * i.size)
 (hbx : ∀ b, v.ownBlock = some b → ∀ k, g.bx k ≠ some b) (htks : ∀ b, v.ownBlock = some b → ∀ s u f, g.tk s = some (u, f) → u.ownBlock ≠ some b)
 (hy : PRep g.Fz w y (.slice es)) (hly : ∀ r ∈ es, r.length = i.size) (h63 : els.length + es.length ≤ maxLen) (hbytes : (els.length + es.length) * i.bytes ≤ 140737488355328) :
 ∃ v' w' g', (Builtin.append_ #[ty, ty] ty' #[v, y]).run C.P w = .ok v' w' ∧ SR C st g' a w' ∧ Rep g' w' (.own e i.size (els ++ es) t) v' ∧ SF g w g' w' none := by
 have m := h.mem
 obtain ⟨ya, yc, yss, rfl, hyc, _, hyr, hyx⟩ := hy.rows hly
 obtain ⟨va, vc, vss, rfl, hvc, _, hvr, hvx⟩ := hv.rows hl
 have hn : n = els.length := by
  rcases hown.2 with ⟨e1, e2⟩ | ⟨g1, cap, cur, e1, _⟩
  ·injection e1 with _ e3 _; omega
  ·injection e1 with _ e3 _; exact e3.symm
 subst hn
 have hvl := RowsR.sizes hvr hl
 have hyl := RowsR.sizes hyr hly
 have hyf : yss.flatten.length = es.length * i.size := by rw [flat_len i.size yss hyl, hyr.length]
 have hvf : vss.flatten.length = els.length * i.size := by rw [flat_len i.size vss hvl, hvr.length]
 -- the row's cells are the slice's rows
 have hxs : xs = vss.flatten := by
  rcases Nat.eq_zero_or_pos els.length with h0 | hpos
  ·have e1 : xs = [] := List.eq_nil_of_length_eq_zero (by rw [hown.1, h0, Nat.zero_mul])
   have e2 : vss.flatten = [] := List.eq_nil_of_length_eq_zero (by rw [hvf, h0, Nat.zero_mul])
   rw [e1, e2]
  ·obtain ⟨b, off, rfl, hcell⟩ := hvx hpos
   have hoff : off = 0 := by
    rcases hown.2 with ⟨e1, _⟩ | ⟨g1, cap, cur, e1, _⟩
    ·cases e1
    ·injection e1 with e2 _ _; injection e2 with e3; injection e3
   subst hoff
   refine List.ext_getElem? fun j => ?_
   by_cases hj : j < els.length * i.size
   ·have h1 := own_cell hown (b := b) rfl j (xs[j]'(by rw [hown.1]; exact hj)) (List.getElem?_eq_getElem _)
    have h2 := (hcell j (vss.flatten[j]'(by rw [hvf]; exact hj)) (List.getElem?_eq_getElem _)).1
    rw [Nat.zero_add, h1] at h2
    rw [List.getElem?_eq_getElem (by rw [hown.1]; exact hj), List.getElem?_eq_getElem (by rw [hvf]; exact hj)]
    exact h2
   ·rw [List.getElem?_eq_none (by rw [hown.1]; omega), List.getElem?_eq_none (by rw [hvf]; omega)]
 subst hxs
 obtain ⟨v', w', hrun, hown', hcase⟩ := run_append3 (P := C.P) w 0 ty ty' e i z ht hi hz hzs hsz _ els.length vss.flatten hown ya es.length yc yss.flatten hyf
  (fun hp => by
   obtain ⟨b, off, rfl, hc⟩ := hyx hp
   exact ⟨_, rfl, fun j u hu => by rw [Addr.add_mid]; exact (hc j u hu).1⟩) hyr.ones h63 hbytes (Nat.zero_le _)
 have hrow : ∀ b, (Value.slice va els.length vc).ownBlock = some b → (C.w0.heap.size ≤ b ∨ C.S b) ∧ (∀ k, g.bx k ≠ some b) ∧ (∀ s u f, g.tk s = some (u, f) → u.ownBlock ≠ some b) ∧ (∀ D ∈ g.df, D ≠ b) ∧ ∃ cs t f, w.heap[b]? = some (.cells cs t f) := by
  intro b hb
  obtain ⟨cs, tt, f, hcur⟩ : ∃ cs t f, w.heap[b]? = some (.cells cs t f) := by
   rcases hown.2 with ⟨e1, _⟩ | ⟨g1, cap, cur, e1, _, hcur, _⟩
   ·rw [e1] at hb; cases hb
   ·rw [e1] at hb; cases hb; exact ⟨_, _, _, hcur⟩
  exact ⟨(hfz b hb).1, hbx b hb, htks b hb, (fun D hD e => by
   subst e
   rw [(m.dfs _ hD).2] at hcur; cases hcur), _, _, _, hcur⟩
 have hSR : ∃ row, w.grownBy w' row ∧ (∀ k, row = some k → (Value.slice va els.length vc).ownBlock = some k) ∧ (∀ b, v'.ownBlock = some b → row = some b ∨ w.heap.size ≤ b) ∧ (∀ b, row = some b → v'.ownBlock = some b) := by
  rcases hcase with ⟨hg, hc⟩ | ⟨b, hb, hb', hg⟩
  ·rcases hc with ⟨rfl, rfl⟩ | hc
   ·exact ⟨(Value.slice va els.length vc).ownBlock, ⟨rfl, rfl, rfl, Nat.le_refl _, fun _ _ _ => rfl⟩, fun k e => e, fun b hb => .inl hb, fun b e => e⟩
   ·exact ⟨none, hg, (fun k e => by cases e), (fun b hb => by rw [hc] at hb; cases hb; exact .inr (Nat.le_refl _)), (fun b e => by cases e)⟩
  ·exact ⟨some b, hg, (fun k e => by cases e; exact hb), (fun c hc => by rw [hb'] at hc; exact .inl hc), (fun c e => by cases e; exact hb')⟩
 obtain ⟨row, hg, hr1, hr2, hr3⟩ := hSR
 have howned := SR.owned h t htk hg O hxO (fun k e => hO1 k (hr1 k e)) hO2 (fun k e => hrow k (hr1 k e)) e i hi hsz v' (els.length + es.length) _ hown' hr2 (by
  intro b o hf hb
  have hb1 := hr1 b hb
  have ho := (hfz b hb1).2 o hf
  refine ⟨?_, fun _ => by rw [Nat.add_mul]; omega⟩
  have hj : o < vss.flatten.length := by rw [hvf]; exact ho
  rw [own_cell hown hb1 o (vss.flatten[o]) (List.getElem?_eq_getElem hj)]
  exact own_cell hown' (hr3 b hb) o _ (by rw [List.getElem?_append_left hj]; exact List.getElem?_eq_getElem hj))
 refine ⟨v', w', _, hrun, howned.1, ?_, howned.2.ex, fun k b _ hk => ⟨hk, hg.block b (m.bxok k b hk).1 (fun e => (hrow b (hr1 b e.symm)).2.1 k hk)⟩⟩
 simp only [Rep]
 refine ⟨?_, by simp, ?_⟩
 ·have hrows : RowsR (g.withOwn t v' e ((els.length + es.length) * i.size)).Fz w' (vss ++ yss) (els ++ es) := (hvr.mono howned.2.ex).append (hyr.mono howned.2.ex)
  rcases hown'.2 with ⟨rfl, h0⟩ | ⟨b, cap, cur, rfl, _, _, hcap, _⟩
  ·have : els ++ es = [] := List.eq_nil_of_length_eq_zero (by rw [List.length_append]; exact h0)
   rw [this]; exact .empty _ _
  ·have hp : PRep (g.withOwn t (.slice (some ⟨b, 0, none⟩) (els.length + es.length) cap) e ((els.length + es.length) * i.size)).Fz w' (.slice (some ⟨b, 0, none⟩) (els ++ es).length cap) (.slice (els ++ es)) := by
    refine PRep.of_rows (sz := i.size) hrows (fun r hr => ?_) (by simpa using hcap) (by simpa using h63) (fun j u hu => ?_)
    ·rcases List.mem_append.1 hr with hr | hr
     ·exact hl r hr
     ·exact hly r hr
    ·have hj : j < (els.length + es.length) * i.size := by
      have := (List.getElem?_eq_some_iff.1 hu).1
      rw [List.flatten_append, List.length_append, hvf, hyf, ← Nat.add_mul] at this
      exact this
     exact ⟨own_cell hown' rfl j u (by rw [← List.flatten_append]; exact hu), .inr ⟨rfl, hj⟩⟩
   rwa [List.length_append] at hp
 ·intro r hr
  rcases List.mem_append.1 hr with hr | hr
  ·exact hl r hr
  ·exact hly r hr


variable {C : Ctx} {st : St} {g : Gh} {a : Act} {w : World}

theorem SR.newobj (h : SR C st g a w) (n : Nat) (hn : g.bx n = none) (mo : MO) (ob : Obj) (hat : mo.at ob) :
 SR C { st with ms := (n, mo) :: st.ms } (g.withBx n w.heap.size) a (w.alloc ob) ∧ Gr g w (g.withBx n w.heap.size) (w.alloc ob) := by
 have m := h.mem
 have hga := World.grownBy_alloc w ob none
 obtain ⟨m1, hg1⟩ := m.grow hga (fun k e => by cases e)
 have hbx : ∀ k b, g.bx k = some b → (if k = n then some w.heap.size else g.bx k) = some b := fun k b e => by
  rw [if_neg]
  ·exact e
  ·rintro rfl; rw [hn] at e; cases e
 have hbx' : ∀ k b, (if k = n then some w.heap.size else g.bx k) = some b → (k = n ∧ b = w.heap.size) ∨ (k ≠ n ∧ g.bx k = some b) := fun k b e => by
  by_cases hk : k = n
  ·rw [if_pos hk] at e; exact .inl ⟨hk, (Option.some.inj e).symm⟩
  ·rw [if_neg hk] at e; exact .inr ⟨hk, e⟩
 have hgr : Gr g w (g.withBx n w.heap.size) (w.alloc ob) := ⟨hbx, fun _ _ h => h, hg1.ex⟩
 have hgr1 : Gr g (w.alloc ob) (g.withBx n w.heap.size) (w.alloc ob) := ⟨hbx, fun _ _ h => h, Ex.refl _ _⟩
 have hnofz : ∀ o, ¬ g.Fz w.heap.size o := fun o hf => Nat.lt_irrefl _ (m.fzlt _ _ hf)
 refine ⟨h.gr hgr rfl rfl rfl (C.Xok _ _ _ _ _ _ h.x (KeepD.of_grown hga) (fun k e => by cases e) (fun k hk => by
  rcases hk with ⟨m', h1, h2⟩ | hk
  ·rcases hbx' m' k h2 with ⟨_, rfl⟩ | ⟨_, h2⟩
   ·exact .inr (Nat.le_refl _)
   ·exact .inl (.inl ⟨m', h1, h2⟩)
  ·exact .inl (.inr hk))) ?_, hgr⟩
 exact { m1 with
  keep := m1.keep
  bxs := fun k es hk => by
   obtain ⟨b, cs', t', h1, h2, h3⟩ := m1.bxs k es hk
   exact ⟨b, cs', t', hbx k b h1, h2, h3.mono hgr1⟩
  mps := fun k es hk => by
   simp only [lk] at hk
   by_cases hkn : k = n
   ·simp only [hkn, if_true, Option.some.injEq] at hk
    subst hk
    exact ⟨w.heap.size, ob, by simp [hkn], Go.heap_alloc_new w _, hat⟩
   ·simp only [hkn, if_false] at hk
    obtain ⟨b, en, h1, h2, h3⟩ := m1.mps k es hk
    exact ⟨b, en, hbx k b h1, h2, h3⟩
  bxok := fun k b hk => by
   rcases hbx' k b hk with ⟨_, rfl⟩ | ⟨_, hk⟩
   ·exact ⟨by simp, .inl m.hsz, hnofz⟩
   ·exact m1.bxok k b hk
  bxdf := fun k D hD hk => by
   rcases hbx' k D hk with ⟨_, rfl⟩ | ⟨_, hk⟩
   ·exact Nat.lt_irrefl _ (Array.getElem?_eq_some_iff.1 (m.dfs _ hD).2).1
   ·exact m.bxdf k D hD hk
  bxinj := fun k j b hk hj => by
   rcases hbx' k b hk with ⟨e1, e2⟩ | ⟨_, hk1⟩
   ·rcases hbx' j _ hj with ⟨e3, _⟩ | ⟨_, hj1⟩
    ·exact e1.trans e3.symm
    ·exact absurd (e2 ▸ (m.bxok j _ hj1).1) (Nat.lt_irrefl _)
   ·rcases hbx' j b hj with ⟨_, e4⟩ | ⟨_, hj1⟩
    ·exact absurd (e4 ▸ (m.bxok k _ hk1).1) (Nat.lt_irrefl _)
    ·exact m.bxinj k j b hk1 hj1
  bxtk := fun k t' b v e hk ht => by
   rcases hbx' k b hk with ⟨rfl, rfl⟩ | ⟨_, hk⟩
   ·obtain ⟨i, nn, xs, _, _, h3, _⟩ := m.tks t' v e ht
    intro hv
    have := (h3.lt _ hv).2
    omega
   ·exact m.bxtk k t' b v e hk ht
  bxdm := fun k b hk => by
   rcases hbx' k b hk with ⟨_, rfl⟩ | ⟨_, hk⟩
   ·intro hd
    have := (C.dmok _ hd).1
    have := m.hsz
    omega
   ·exact m.bxdm k b hk }

theorem SR.setobj (h : SR C st g a w) (n b : Nat) (hb : g.bx n = some b) (mo0 : MO) (ob0 : Obj) (hat0 : mo0.at ob0) (hcs : w.heap[b]? = some ob0) (hro : n < 1000000)
 (mo' : MO) (ob' : Obj) (he : mo'.at ob') : SR C { st with ms := (n, mo') :: st.ms } g a (w.putObj b ob') := by
 have m := h.mem
 have hwr : C.w0.heap.size ≤ b ∨ C.S b := by
  rcases (m.bxok n b hb).2.1 with h | h | h
  ·exact .inl h
  ·exact .inr h
  ·omega
 have hlt := (m.bxok n b hb).1
 have hg : w.grownBy (w.putObj b ob') (some b) := ⟨rfl, rfl, rfl, by simp, fun k _ hk => World.putObj_heap_other (fun e => hk (by rw [e]))⟩
 have m0 : Mem C (st.bs.filter fun p => p.1 != n) (st.ms.filter fun p => p.1 != n) g w := { m with
  bxs := fun k es hk => by
   rw [lk_filter (fun j => j != n)] at hk
   split at hk
   ·exact m.bxs k es hk
   ·cases hk
  mps := fun k es hk => by
   rw [lk_filter (fun j => j != n)] at hk
   split at hk
   ·exact m.mps k es hk
   ·cases hk }
 obtain ⟨m1, hgr⟩ := m0.grow hg (fun k e => by
  cases e
  refine ⟨hwr, (m.bxok n b hb).2.2, ?_, ?_, fun t v e ht => m.bxtk n t b v e hb ht, fun D hD e => by subst e; rw [(m.dfs D hD).2] at hcs; cases hcs; exact MO.no_mark hat0⟩
  ·intro k es hk he
   rw [lk_filter (fun j => j != n), m.bxinj k n b he hb] at hk
   simp at hk
  ·intro k es hk he
   rw [lk_filter (fun j => j != n), m.bxinj k n b he hb] at hk
   simp at hk)
 refine h.gr hgr rfl rfl rfl (C.Xok _ _ _ _ _ _ h.x (KeepD.of_grown hg) (fun k e => by cases e; exact .inl ⟨n, .inl hro, hb⟩) (fun _ h => .inl h)) ?_
 exact { m1 with
  bxs := fun k es hk => by
   by_cases hkn : k = n
   ·subst hkn
    obtain ⟨b', cs, t, h1, h2, _⟩ := m.bxs k es hk
    rw [hb] at h1
    cases h1
    rw [hcs] at h2
    cases h2
    exact (MO.no_cells hat0).elim
   ·exact m1.bxs k es (by rw [lk_filter (fun j => j != n)]; simp [hkn, hk])
  mps := fun k es hk => by
   simp only [lk] at hk
   by_cases hkn : k = n
   ·simp only [hkn, if_true, Option.some.injEq] at hk
    subst hk
    exact ⟨b, ob', by rw [hkn]; exact hb, World.putObj_heap_same hlt, he⟩
   ·simp only [hkn, if_false] at hk
    exact m1.mps k es (by rw [lk_filter (fun j => j != n)]; simp [hkn, hk]) }


inductive LK where
 | int | str | bool
 deriving Inhabited, DecidableEq

inductive AOp where
 | mv (x : Operand)
 | pick (c a b : Operand)
 | alloc (e : TypeId) (zs : List D)
 | box (e : TypeId) (x : Operand)
 | build (zs : List D) (parts : List (Nat × Nat × Operand))
 | bslice (e : TypeId) (sz : Nat) (parts : List Operand)
 | load (agg : Option Nat) (x : Operand)
 | store (sz : Nat) (x y : Operand)
 | ncheck (x : Operand)
 | bin (op : BinOp) (x y : Operand)
 | binB (neg : Bool) (x y : Operand)
 | eqs (neg : Bool) (ks : List LK) (x y : Operand)
 | un (op : UnOp) (x : Operand)
 | conv (k : IntKind) (x : Operand)
 | fieldA (off : Nat) (x : Operand)
 | field (off : Nat) (agg : Option Nat) (x : Operand)
 | idxA (sz : Nat) (x i : Operand)
 | idxS (x i : Operand)
 | extract (x : Operand) (j : Nat)
 | mkfn (f : FuncId) (caps : List Operand)
 | mkif (t : TypeId) (x : Operand)
 | len (x : Operand) (str : Bool)
 | minmax (mx : Bool) (x y : Operand)
 | slcS (x : Operand) (lo hi : Option Operand)
 | slcL (sz : Nat) (x : Operand) (lo hi : Option Operand)
 | slcF (sz : Nat) (x hi mx : Operand)
 | mkmap
 | mget (ks : List LK) (z : Value) (x i : Operand)
 | mset (ks : List LK) (x i v : Operand)
 | mentry (ks : List LK) (z : Value) (x i : Operand)
 | mstore (x s v : Operand)
 | srange (x : Operand)
 | snext (x : Operand)
 | isnil (neg : Bool) (x : Operand)
 | nilS (neg : Bool) (x : Operand)
 | tassert (t : TypeId) (z : Value) (x : Operand)
 | bstr (x : Operand)
 | append (e : TypeId) (sz bytes : Nat) (x y : Operand)
 | call (f : FuncId) (args : List Operand)
 | callv (x : Operand) (args : List Operand)
 deriving Inhabited

structure AOper where
 guard : Option (Nat × Bool)
 dst : Option Nat
 op : AOp
 deriving Inhabited

def cD0 : Value → D
 | .slice none 0 0 => .nils
 | .agg _ => .any
 | .tuple _ => .any
 | v => .pd (.raw v)

def cD : Value → D
 | .agg cs => .agg (cs.toList.map cD0)
 | v => cD0 v

def St.get (st : St) (i : Nat) : D := (lk st.fr i).getD .any

def St.ev (st : St) : Operand → D
 | .tmp t => st.get t
 | .const v => cD v
 | .func f => .fn f []
 | .global _ => .any

def D.cells : D → List D
 | .agg ds => ds
 | d => [d]

def D.fixed : D → Bool
 | .agg _ => true
 | d => d.sc

def D.toPD : D → Option PD
 | .pd x => some x
 | .nils => some (.slice [])
 | .own _ _ els _ => some (.slice els)
 | .full _ els => some (.slice els)
 | _ => none

def D.toPDs : List D → Option (List PD)
 | [] => some []
 | d :: ds => match d.toPD, D.toPDs ds with
   | some x, some xs => some (x :: xs)
   | _, _ => none

def D.els : D → Option (List (List PD))
 | .pd (.slice els) => some els
 | .nils => some []
 | .own _ _ els _ => some els
 | .full _ els => some els
 | _ => none

def D.caps : List D → Option (List (Nat × Nat))
 | [] => some []
 | .ptr n o :: ds => (D.caps ds).map ((n, o) :: ·)
 | _ => none

def binV : BinOp → Value → Value → Option Value
 | .add, .int k a, .int j b => if k = j then some (.int k (k.wrap (a + b))) else none
 | .sub, .int k a, .int j b => if k = j then some (.int k (k.wrap (a - b))) else none
 | .mul, .int k a, .int j b => if k = j then some (.int k (k.wrap (a * b))) else none
 | .rem, .int k a, .int j b => if k = j ∧ b ≠ 0 then some (.int k (a.tmod b)) else none
 | .eql, .int k a, .int j b => if k = j then some (.bool (decide (a = b))) else none
 | .neq, .int k a, .int j b => if k = j then some (.bool (!decide (a = b))) else none
 | .lss, .int k a, .int j b => if k = j then some (.bool (decide (a < b))) else none
 | .leq, .int k a, .int j b => if k = j then some (.bool (decide (a ≤ b))) else none
 | .gtr, .int k a, .int j b => if k = j then some (.bool (decide (b < a))) else none
 | .geq, .int k a, .int j b => if k = j then some (.bool (decide (b ≤ a))) else none
 | .and, .int k a, .int j b => if k = j then some (.int k (k.wrap (BitVec.ofInt k.bits a &&& BitVec.ofInt k.bits b).toNat)) else none
 | .or, .int k a, .int j b => if k = j then some (.int k (k.wrap (BitVec.ofInt k.bits a ||| BitVec.ofInt k.bits b).toNat)) else none
 | .xor, .int k a, .int j b => if k = j then some (.int k (k.wrap (BitVec.ofInt k.bits a ^^^ BitVec.ofInt k.bits b).toNat)) else none
 | .add, .string a, .string b => if a.size + b.size ≤ 9223372036854775807 then some (.string (a ++ b)) else none
 | .eql, .string a, .string b => some (.bool (decide (a = b)))
 | .neq, .string a, .string b => some (.bool (!decide (a = b)))
 | .lss, .string a, .string b => some (.bool (Op.bytesLess a.toList b.toList))
 | .geq, .string a, .string b => some (.bool (!Op.bytesLess a.toList b.toList))
 | .gtr, .string a, .string b => some (.bool (!(Op.bytesLess a.toList b.toList || decide (a = b))))
 | .leq, .string a, .string b => some (.bool (Op.bytesLess a.toList b.toList || decide (a = b)))
 | .shr, .int k a, .int _ b => if b = 1 ∧ 0 ≤ a then some (.int k (a / 2)) else none
 | _, _, _ => none

def eqV : LK → Value → Value → Option Bool
 | .int, .int k a, .int j b => if k = j then some (decide (a = b)) else none
 | .str, .string a, .string b => some (decide (a = b))
 | .bool, .bool a, .bool b => some (a == b)
 | _, _, _ => none

def eqVs : List LK → List Value → List Value → Option Bool
 | [], [], [] => some true
 | k :: ks, x :: xs, y :: ys => match eqV k x y, eqVs ks xs ys with
   | some a, some b => some (a && b)
   | _, _ => none
 | _, _, _ => none

def D.raws : List D → Option (List Value)
 | [] => some []
 | d :: ds => match d, D.raws ds with
   | .pd (.raw v), some vs => some (v :: vs)
   | _, _ => none

def binD (op : BinOp) : D → D → Option D
 | .pd (.raw x), .pd (.raw y) => (binV op x y).map fun v => .pd (.raw v)
 | _, _ => none

def unD : UnOp → D → Option D
 | .not, .pd (.raw (.bool b)) => some (.pd (.raw (.bool (!b))))
 | .neg, .pd (.raw (.int k n)) => some (.pd (.raw (.int k (k.wrap (0 - n)))))
 | _, _ => none

def fillD : List D → List (Nat × Nat × List D) → Option (List D)
 | zs, [] => some zs
 | zs, (off, sz, cs) :: r => if cs.length = sz ∧ off + sz ≤ zs.length then fillD (zs.take off ++ (cs ++ zs.drop (off + sz))) r else none

def rowsD (sz : Nat) : List D → Option (List (List PD))
 | [] => some []
 | d :: ds => match D.toPDs d.cells, rowsD sz ds with
   | some r, some rs => if r.length = sz then some (r :: rs) else none
   | _, _ => none

def rowsOK (sz : Nat) (els : List (List PD)) : Prop := ∀ r ∈ els, r.length = sz
instance (sz : Nat) (els : List (List PD)) : Decidable (rowsOK sz els) := inferInstanceAs (Decidable (∀ r ∈ els, r.length = sz))

def boundD (st : St) (n : Nat) : Option Operand → Option Nat
 | none => some n
 | some x => match st.ev x with
   | .pd (.raw (.int _ i)) => if 0 ≤ i then some i.toNat else none
   | _ => none

def findM (k : IntKind) (j : Int) : List (Value × Value) → Nat → Option (Option (Nat × Value))
 | [], _ => some none
 | (.int k' a, v) :: r, i => if k = k' then (if j = a then some (some (i, v)) else findM k j r (i + 1)) else none
 | _ :: _, _ => none

def findS (ks : List LK) (vs : List Value) : List (Value × Value) → Nat → Option (Option (Nat × Value))
 | [], _ => some none
 | (.agg cs, v) :: r, i => match eqVs ks vs cs.toList with
   | some true => some (some (i, v))
   | some false => findS ks vs r (i + 1)
   | none => none
 | _ :: _, _ => none

def keyD : List LK → D → Option (List Value)
 | [], .pd (.raw (.int k j)) => some [.int k j]
 | _ :: _, .agg ds => D.raws ds
 | _, _ => none
def keyV : List LK → List Value → Value
 | [], [v] => v
 | [], _ => .nilIface
 | _ :: _, vs => .agg vs.toArray
def findK : List LK → List Value → List (Value × Value) → Option (Option (Nat × Value))
 | [], [.int k j], es => findM k j es 0
 | k :: ks, vs, es => if vs.length = (k :: ks).length then findS (k :: ks) vs es 0 else none
 | _, _, _ => none

def putM (key u : Value) (r : Option (Nat × Value)) (es : List (Value × Value)) : List (Value × Value) :=
 match r with
 | some (i, _) => es.set i (key, u)
 | none => es ++ [(key, u)]

def stampM (r : Option (Nat × Value)) (es : List (Value × Value)) : Int :=
 match r with
 | some (i, _) => i
 | none => es.length

def setAt (es : List (Value × Value)) (p : Int) (u : Value) : Option (List (Value × Value)) :=
 if 0 ≤ p then (es[p.toNat]?).map fun e => es.set p.toNat (e.1, u) else none

def valM : D → Option Value
 | .pd (.raw v) => some v
 | .fn f [] => some (.func (.func f) #[] #[])
 | _ => none

def octets : List (List PD) → Option (List Int)
 | [] => some []
 | [.raw (.int .u8 n)] :: r => (octets r).map (n :: ·)
 | _ => none

def octStr (ns : List Int) : ByteArray := ns.foldl (fun r n => r.push (UInt8.ofNat n.toNat)) ByteArray.empty

def eltD (d : D) (n : Nat) (row : List PD) : D := match d with
 | .own _ _ _ t => .oelt t n row
 | _ => .eptr row

def AOp.ex (dst : Option Nat) (st : St) : AOp → Option (D × St)
 | .mv x => some (st.ev x, st)
 | .alloc _ zs => match dst with
   | some n => some (.ptr n 0, { st.drop n with bs := (n, zs) :: (st.drop n).bs })
   | none => none
 | .box _ x => match dst with
   | some n => if (st.ev x).fixed then some (.ptr n 0, { st.drop n with bs := (n, D.drops n (st.ev x).cells) :: (st.drop n).bs }) else none
   | none => none
 | .build zs parts => if parts.all (fun p => (st.ev p.2.2).fixed) = false then none else (fillD zs (parts.map fun p => (p.1, p.2.1, (st.ev p.2.2).cells))).map fun ds => (.agg ds, st)
 | .bslice e sz parts => match dst, rowsD sz (parts.map st.ev) with
   | some t, some rows => some (.own e sz rows t, st.purge t)
   | _, _ => none
 | .load none x => match st.ev x with
   | .ptr n off => ((lk st.bs n).bind (·[off]?)).map fun d => (d, st)
   | .eptr (c :: _) => some (.pd c, st)
   | .oelt _ _ (c :: _) => some (.pd c, st)
   | _ => none
 | .load (some k) x => match st.ev x with
   | .ptr n off => (lk st.bs n).bind fun ds => if off + k ≤ ds.length then some (.agg ((ds.drop off).take k), st) else none
   | .eptr cs => if k ≤ cs.length then some (.agg ((cs.take k).map .pd), st) else none
   | .oelt _ _ cs => if k ≤ cs.length then some (.agg ((cs.take k).map .pd), st) else none
   | _ => none
 | .store sz x y => match st.ev x with
   | .ptr n off => (lk st.bs n).bind fun ds =>
     if (st.ev y).cells.length = sz ∧ off + sz ≤ ds.length ∧ (st.ev y).cells.all D.sc = true ∧ n < 1000000 then
      some (.any, { st with bs := (n, ds.take off ++ ((st.ev y).cells ++ ds.drop (off + sz))) :: st.bs })
     else none
   | _ => none
 | .ncheck x => match st.ev x with
   | .ptr n off => some (.ptr n off, st)
   | .eptr cs => some (.eptr cs, st)
   | .oelt t j cs => some (.oelt t j cs, st)
   | .fn f caps => some (.fn f caps, st)
   | .pd (.raw (.func (.func f) first caps)) => some (.pd (.raw (.func (.func f) first caps)), st)
   | _ => none
 | .bin op x y => (binD op (st.ev x) (st.ev y)).map fun d => (d, st)
 | .binB neg x y => match st.ev x, st.ev y with
   | .pd (.raw (.bool a)), .pd (.raw (.bool b)) => some (.pd (.raw (.bool (if neg then !(a == b) else a == b))), st)
   | _, _ => none
 | .eqs neg ks x y => match st.ev x, st.ev y with
   | .agg ds, .agg es => match D.raws ds, D.raws es with
     | some xs, some ys => (eqVs ks xs ys).map fun b => (.pd (.raw (.bool (if neg then !b else b))), st)
     | _, _ => none
   | _, _ => none
 | .un op x => (unD op (st.ev x)).map fun d => (d, st)
 | .conv k x => match st.ev x with
   | .pd (.raw (.int _ n)) => some (.pd (.raw (.int k (k.wrap n))), st)
   | _ => none
 | .fieldA off x => match st.ev x with
   | .ptr n o => some (.ptr n (o + off), st)
   | .eptr cs => some (.eptr (cs.drop off), st)
   | .oelt _ _ cs => some (.eptr (cs.drop off), st)
   | _ => none
 | .field off none x => match st.ev x with
   | .agg ds => (ds[off]?).map fun d => (d, st)
   | _ => none
 | .field off (some k) x => match st.ev x with
   | .agg ds => if off + k ≤ ds.length then some (.agg ((ds.drop off).take k), st) else none
   | _ => none
 | .idxA sz x i => match (st.ev x).els, st.ev i with
   | some els, .pd (.raw (.int _ n)) => if 0 ≤ n then match els[n.toNat]? with
     | some row => if row.length = sz then some (eltD (st.ev x) n.toNat row, st) else none
     | none => none
     else none
   | _, _ => none
 | .idxS x i => match st.ev x, st.ev i with
   | .pd (.raw (.string s)), .pd (.raw (.int _ n)) => if 0 ≤ n then (s[n.toNat]?).map fun b => (.pd (.raw (.int .u8 b.toNat)), st) else none
   | _, _ => none
 | .extract x j => match st.ev x with
   | .tup ds => (ds[j]?).map fun d => (d, st)
   | _ => none
 | .mkfn f caps => (D.caps (caps.map st.ev)).map fun cs => (.fn f cs, st)
 | .mkif t x => match st.ev x with
   | .agg ds => (D.toPDs ds).map fun cs => (.pd (.iface t true cs), st)
   | d => d.toPD.map fun c => (.pd (.iface t false [c]), st)
 | .slcS x lo hi => match st.ev x with
   | .pd (.raw (.string s)) => match boundD st 0 lo, boundD st s.size hi with
     | some l, some h => if l ≤ h ∧ h ≤ s.size then some (.pd (.raw (.string (s.extract l h))), st) else none
     | _, _ => none
   | _ => none
 | .slcL sz x lo hi => match (st.ev x).els with
   | some els => match boundD st 0 lo, boundD st els.length hi with
     | some l, some h => if l ≤ h ∧ h ≤ els.length ∧ rowsOK sz els then some (.pd (.slice ((els.take h).drop l)), st) else none
     | _, _ => none
   | none => none
 | .slcF sz x hi mx => match (st.ev x).els with
   | some els => match boundD st 0 (some hi), boundD st 0 (some mx) with
     | some h, some m => if h = m ∧ h ≤ els.length ∧ rowsOK sz els then some (.full sz (els.take h), st) else none
     | _, _ => none
   | none => none
 | .minmax mx x y => match st.ev x, st.ev y with
   | .pd (.raw (.int k a)), .pd (.raw (.int j b)) => if k = j then some (.pd (.raw (.int k (if mx then (if a < b then b else a) else (if b < a then b else a)))), st) else none
   | _, _ => none
 | .len x true => match st.ev x with
   | .pd (.raw (.string s)) => some (.pd (.raw (.int .i64 s.size)), st)
   | _ => none
 | .len x false => (st.ev x).els.map fun els => (.pd (.raw (.int .i64 els.length)), st)
 | .mkmap => match dst with
   | some n => some (.mp n, { st.drop n with ms := (n, .map []) :: (st.drop n).ms })
   | none => none
 | .mget ks z x i => match st.ev x, keyD ks (st.ev i) with
   | .mp n, some kv => ((lk st.ms n).bind MO.ents).bind fun es => (findK ks kv es).map fun r => (cD0 ((r.map (·.2)).getD z), st)
   | _, _ => none
 | .mset ks x i v => match st.ev x, keyD ks (st.ev i), valM (st.ev v) with
   | .mp n, some kv, some u => ((lk st.ms n).bind MO.ents).bind fun es => if n < 1000000 then (findK ks kv es).map fun r => (.any, { st with ms := (n, .map (putM (keyV ks kv) u r es)) :: st.ms }) else none
   | _, _, _ => none
 | .mentry ks z x i => match st.ev x, keyD ks (st.ev i) with
   | .mp n, some kv => ((lk st.ms n).bind MO.ents).bind fun es => if n < 1000000 then (findK ks kv es).map fun r =>
    (.tup [cD0 ((r.map (·.2)).getD z), .pd (.raw (.int .i64 (stampM r es)))], { st with ms := (n, .map (putM (keyV ks kv) ((r.map (·.2)).getD z) r es)) :: st.ms }) else none
   | _, _ => none
 | .mstore x s v => match st.ev x, st.ev s, valM (st.ev v) with
   | .mp n, .pd (.raw (.int .i64 p)), some u => ((lk st.ms n).bind MO.ents).bind fun es => if n < 1000000 then (setAt es p u).map fun es' => (.any, { st with ms := (n, .map es') :: st.ms }) else none
   | _, _, _ => none
 | .tassert t z x => match st.ev x with
   | .pd (.raw .nilIface) => some (.tup [cD z, .pd (.raw (.bool false))], st)
   | .pd (.iface u agg cs) => if u = t then (match agg, cs with
     | true, cs => some (.tup [.agg (cs.map .pd), .pd (.raw (.bool true))], st)
     | false, [c] => some (.tup [.pd c, .pd (.raw (.bool true))], st)
     | _, _ => none) else some (.tup [cD z, .pd (.raw (.bool false))], st)
   | _ => none
 | .isnil neg x => match st.ev x with
   | .pd (.raw .nilIface) => some (.pd (.raw (.bool (!neg))), st)
   | .pd (.iface ..) => some (.pd (.raw (.bool neg)), st)
   | _ => none
 | .bstr x => match st.ev x with
   | .pd (.slice els) => (octets els).map fun ns => (.pd (.raw (.string (octStr ns))), st)
   | .own _ 1 els _ => (octets els).map fun ns => (.pd (.raw (.string (octStr ns))), st)
   | _ => none
 | .srange x => match dst, st.ev x with
   | some n, .pd (.raw (.string s)) => some (.ptr n 0, { st.drop n with ms := (n, .sit s 0) :: (st.drop n).ms })
   | _, _ => none
 | .snext x => match st.ev x with
   | .ptr n 0 => ((lk st.ms n).bind MO.iter).bind fun p => if n < 1000000 then (if p.2 < p.1.size then
    some (.tup [.pd (.raw (.bool true)), .pd (.raw (.int .i64 p.2)), .pd (.raw (.int .i32 (Utf8.decode p.1 p.2).1))], { st with ms := (n, .sit p.1 (p.2 + (Utf8.decode p.1 p.2).2)) :: st.ms })
    else some (.tup [.pd (.raw (.bool false))], st)) else none
   | _ => none
 | _ => none

def AOp.quiet : AOp → Bool
 | .alloc .. | .box .. | .bslice .. | .store .. | .pick .. | .append .. | .call .. | .callv .. | .mkmap | .mset .. | .mentry .. | .mstore .. | .srange .. | .snext .. | .nilS .. => false
 | _ => true

def AOp.reads (st : St) : AOp → Option Nat
 | .mget _ _ x _ => match st.ev x with
   | .mp n => some n
   | _ => none
 | .load _ x => match st.ev x with
   | .ptr n _ => some n
   | _ => none
 | _ => none

def AOp.touch (dst : Option Nat) (st : St) : AOp → Option Nat
 | .mkmap => dst
 | .srange _ => dst
 | .snext x => match st.ev x with
   | .ptr n _ => some n
   | _ => none
 | .mset _ x _ _ => match st.ev x with
   | .mp n => some n
   | _ => none
 | .mentry _ _ x _ => match st.ev x with
   | .mp n => some n
   | _ => none
 | .mstore x _ _ => match st.ev x with
   | .mp n => some n
   | _ => none
 | .alloc .. => dst
 | .box .. => dst
 | .store _ x _ => match st.ev x with
   | .ptr n _ => some n
   | _ => none
 | _ => none

mutual
def leafs (P : Program) : Nat → TypeId → Option (List LK)
 | 0, _ => none
 | n + 1, t => match P.underlying t with
   | some (.int _) => some [.int]
   | some .string => some [.str]
   | some .bool => some [.bool]
   | some (.struct fs) => if P.stoodInHeld t then none else leafsF P n fs.toList 0
   | _ => none
def leafsF (P : Program) : Nat → List Field → Nat → Option (List LK)
 | _, [], _ => some []
 | 0, _ :: _, _ => none
 | n + 1, f :: fs, off => if f.name = "_" ∨ f.offset ≠ off then none else match leafs P n f.type, P.info? f.type with
   | some ks, some i => if i.size = ks.length then (leafsF P n fs (off + ks.length)).map (ks ++ ·) else none
   | _, _ => none
end

def aggSize (P : Program) (t : TypeId) : Option (Option Nat) :=
 match P.underlying t, P.info? t with
 | some (.struct _), some i => some (some i.size)
 | some (.array _ _), _ => none
 | some _, some _ => some none
 | _, _ => none

def partsOf (P : Program) (fs : Array Field) : List (Nat × Operand) → Option (List (Nat × Nat × Operand))
 | [] => some []
 | (j, x) :: r => match fs[j]?, partsOf P fs r with
   | some f, some rs => match P.info? f.type with
     | some i => some ((f.offset, i.size, x) :: rs)
     | none => none
   | _, _ => none

def keyKs (P : Program) (kt : TypeId) : Option (List LK) :=
 match P.underlying kt with
 | some (.int _) => some []
 | some (.struct _) => match leafs P 40 kt with
   | some (k :: ks) => some (k :: ks)
   | _ => none
 | _ => none

def mapKs (P : Program) (t : TypeId) : Option (List LK) :=
 match P.underlying t with
 | some (.map kt _) => keyKs P kt
 | _ => none

def mapZero (P : Program) (t : TypeId) : Option Value :=
 match P.underlying t with
 | some (.map _ et) => match P.info? et with
   | some i => match i.zero with
     | some z => if z.oneCell' then some z else none
     | none => none
   | none => none
 | _ => none

def comp (P : Program) : Op → Option AOp
 | .move x => some (.mv x)
 | .assign x => some (.mv x)
 | .pick c a b => some (.pick c a b)
 | .alloc e => match P.info? e with
   | some i => match i.zero with
     | some z => if z.cells.all (·.oneCell') then some (.alloc e (z.cells.toList.map cD0)) else none
     | none => none
   | none => none
 | .box e x => some (.box e x)
 | .build t parts => match P.underlying t, P.info? t with
   | some (.struct fs), some i => match i.zero, partsOf P fs parts.toList with
     | some z, some ps => if z.cells.all (·.oneCell') ∧ fs.toList.all (fun f => (P.info? f.type).isSome) then some (.build (z.cells.toList.map cD0) ps) else none
     | _, _ => none
   | _, _ => none
 | .buildSlice t n parts => match P.underlying t with
   | some (.slice e) => match P.info? e with
     | some i => match i.zero with
       | some z => if parts.toList.map (·.1) = List.range n ∧ z.cells.size = i.size ∧ 0 < i.size ∧ n * i.size ≤ 16777216 then some (.bslice e i.size (parts.toList.map (·.2))) else none
       | none => none
     | none => none
   | _ => none
 | .load t x => (aggSize P t).map fun k => .load k x
 | .store t x y => match P.info? t with
   | some i => some (.store i.size x y)
   | none => none
 | .nilCheck x => some (.ncheck x)
 | .binOp op t x y _ => match P.underlying t with
   | some (.int _) => some (.bin op x y)
   | some .string => some (.bin op x y)
   | some .bool => match op with
     | .eql => some (.binB false x y)
     | .neq => some (.binB true x y)
     | _ => none
   | some (.struct _) => match op, leafs P 40 t with
     | .eql, some ks => if P.eqGuardType P.depth t then none else some (.eqs false ks x y)
     | .neq, some ks => if P.eqGuardType P.depth t then none else some (.eqs true ks x y)
     | _, _ => none
   | some (.interface _) => match op, y with
     | .eql, .const .nilIface => some (.isnil false x)
     | .neq, .const .nilIface => some (.isnil true x)
     | _, _ => none
   | some (.slice _) => match op, y with
     | .eql, .const (.slice none 0 0) => some (.nilS false x)
     | .neq, .const (.slice none 0 0) => some (.nilS true x)
     | _, _ => none
   | _ => none
 | .unOp op _ x => some (.un op x)
 | .convert s t x => match P.underlying s, P.underlying t with
   | some (.int _), some (.int k) => some (.conv k x)
   | some (.slice e), some .string => match P.underlying e with
     | some (.int .u8) => some (.bstr x)
     | _ => none
   | _, _ => none
 | .fieldAddr s x f => match P.underlying s with
   | some (.struct fs) => match fs[f]? with
     | some fd => match P.info? fd.type with
       | some i => if i.size = 0 then none else some (.fieldA fd.offset x)
       | none => none
     | none => none
   | _ => none
 | .field s x f => match P.underlying s with
   | some (.struct fs) => match fs[f]? with
     | some fd => (aggSize P fd.type).map fun k => .field fd.offset k x
     | none => none
   | _ => none
 | .indexAddr t x i => match P.underlying t with
   | some (.slice e) => match P.info? e with
     | some ie => some (.idxA ie.size x i)
     | none => none
   | _ => none
 | .index t x i => match P.underlying t with
   | some .string => some (.idxS x i)
   | _ => none
 | .extract x j => some (.extract x j)
 | .makeFunc (.func f) first caps => if first = #[] then some (.mkfn f caps.toList) else none
 | .makeInterface t x => match P.underlying t with
   | some (.interface _) => none
   | some _ => some (.mkif t x)
   | none => none
 | .call c => match c.callee with
   | .value (.func f) => some (.call f c.args.toList)
   | .value x => some (.callv x c.args.toList)
   | .builtin .len => match c.args.toList, c.argTypes.toList with
     | [x], [t] => match P.underlying t with
       | some .string => some (.len x true)
       | some (.slice _) => some (.len x false)
       | _ => none
     | _, _ => none
   | .builtin .max => match c.args.toList with
     | [x, y] => some (.minmax true x y)
     | _ => none
   | .builtin .min => match c.args.toList with
     | [x, y] => some (.minmax false x y)
     | _ => none
   | .builtin .append => match c.args.toList, c.argTypes.toList with
     | [x, y], [t, u] => if t = u then match P.underlying t with
       | some (.slice e) => match P.info? e with
         | some i => match i.zero with
           | some z => if z.cells.size = i.size ∧ 0 < i.size then some (.append e i.size i.bytes x y) else none
           | none => none
         | none => none
       | _ => none
       else none
     | _, _ => none
   | _ => none
 | .slice t x lo hi none => match P.underlying t with
   | some .string => some (.slcS x lo hi)
   | some (.slice e) => match P.info? e with
     | some i => some (.slcL i.size x lo hi)
     | none => none
   | _ => none
 | .makeMap _ none => some .mkmap
 | .lookup t x i false => (mapKs P t).bind fun ks => (mapZero P t).map fun z => .mget ks z x i
 | .mapUpdate t m i v => (mapKs P t).map fun ks => .mset ks m i v
 | .insert t m i v => (mapKs P t).map fun ks => .mset ks m i v
 | .range t x => match P.underlying t with
   | some .string => some (.srange x)
   | _ => none
 | .next x true => some (.snext x)
 | .mapEntry t x i => (mapKs P t).bind fun ks => (mapZero P t).map fun z => .mentry ks z x i
 | .entryStore _ x s v => some (.mstore x s v)
 | .typeAssert x _ t true => match P.underlying t with
   | some (.interface _) => none
   | some _ => match P.info? t with
     | some i => i.zero.map fun z => .tassert t z x
     | none => none
   | none => none
 | .slice t x none (some hi) (some mx) => match P.underlying t with
   | some (.slice e) => match P.info? e with
     | some i => some (.slcF i.size x hi mx)
     | none => none
   | _ => none
 | _ => none

def compO (P : Program) (ops : Array Oper) (o : Oper) : Option AOper :=
 match comp P o.op with
 | some ao => match o.guard with
   | none => some ⟨none, o.dst, ao⟩
   | some (j, b) => ((ops[j]?).bind (·.dst)).map fun s => ⟨some (s, b), o.dst, ao⟩
 | none => none

def compL (P : Program) (ops : Array Oper) : List Nat → Option (List AOper)
 | [] => some []
 | i :: l => match ops[i]? with
   | some o => match compO P ops o, compL P ops l with
     | some a, some l => some (a :: l)
     | _, _ => none
   | none => none


variable {C : Ctx} {st st' : St} {g : Gh} {a : Act} {w : World}

theorem cD0_rep (g : Gh) (w : World) (v : Value) : Rep g w (cD0 v) v := by
 unfold cD0
 split <;> simp only [Rep]
 rename_i h1 h2 h3
 refine .raw v ?_
 cases v <;> first | rfl | exact absurd rfl (h2 _) | exact absurd rfl (h3 _)

theorem cD0s_rep (g : Gh) (w : World) : ∀ l : List Value, Reps g w (l.map cD0) l
 | [] => by simp [Reps]
 | v :: l => by simp only [List.map_cons, Reps]; exact ⟨v, l, rfl, cD0_rep g w v, cD0s_rep g w l⟩

theorem cD_rep (g : Gh) (w : World) (v : Value) : Rep g w (cD v) v := by
 unfold cD
 split
 ·rename_i cs
  simp only [Rep]
  exact ⟨cs.toList, by simp, cD0s_rep g w _⟩
 ·exact cD0_rep g w v

theorem SR.ev (h : SR C st g a w) (x : Operand) : Rep g w (st.ev x) (a.eval x) := by
 cases x with
 | tmp t =>
   simp only [St.ev, St.get, Act.eval]
   cases hl : lk st.fr t with
   | none => simp only [Option.getD_none, Rep]
   | some d => exact (h.rep t d hl).2
 | const v => exact cD_rep g w v
 | func f => simp only [St.ev, Act.eval, Rep]; exact ⟨[], rfl, rfl⟩
 | global n => simp only [St.ev, Rep]

theorem Rep.cells {d : D} {v : Value} (h : Rep g w d v) (hs : d.cells.all D.sc = true) : Reps g w d.cells v.cells.toList := by
 cases d <;> simp only [D.cells] at hs ⊢
 case agg ds =>
  simp only [Rep] at h
  obtain ⟨vs, rfl, hr⟩ := h
  simpa [Value.cells] using hr
 all_goals
  have h1 : v.oneCell' = true := h.one (by simpa using hs)
  have h2 : v.cells = #[v] := by cases v <;> first | rfl | (simp [Value.oneCell'] at h1)
  rw [h2]
  simp only [Reps]
  exact ⟨v, [], rfl, h, rfl⟩

theorem Rep.toPD {d : D} {v : Value} {x : PD} (h : Rep g w d v) (hx : d.toPD = some x) : PRep g.Fz w v x := by
 cases d <;> simp only [D.toPD, Option.some.injEq, reduceCtorEq] at hx
 ·subst hx; simpa only [Rep] using h
 ·subst hx; simp only [Rep] at h; subst h; exact .empty _ _
 ·subst hx; simp only [Rep] at h; exact h.1
 ·subst hx; simp only [Rep] at h; exact h.1

theorem Reps.toPDs : ∀ {ds : List D} {vs : List Value} {xs : List PD}, Reps g w ds vs → D.toPDs ds = some xs → PReps g.Fz w vs xs
 | [], _, _, h, hx => by
   simp only [D.toPDs, Option.some.injEq] at hx
   simp only [Reps] at h
   subst hx; subst h; exact .nil
 | d :: ds, _, _, h, hx => by
   simp only [Reps] at h
   obtain ⟨v, vs', rfl, hv, hr⟩ := h
   simp only [D.toPDs] at hx
   split at hx
   ·rename_i x xs h1 h2
    cases hx
    exact .cons _ _ _ _ (hv.toPD h1) (Reps.toPDs hr h2)
   ·cases hx

theorem toPD_sc {d : D} {x : PD} (h : d.toPD = some x) : d.sc = true := by cases d <;> simp [D.toPD] at h <;> rfl

theorem toPDs_sc : ∀ {ds : List D} {xs : List PD}, D.toPDs ds = some xs → ds.all D.sc = true
 | [], _, _ => rfl
 | d :: ds, _, hx => by
   simp only [D.toPDs] at hx
   split at hx
   ·rename_i x xs h1 h2
    simp [toPD_sc h1, toPDs_sc h2]
   ·cases hx

theorem Rep.els {d : D} {v : Value} {els : List (List PD)} (h : Rep g w d v) (hx : d.els = some els) : PRep g.Fz w v (.slice els) := by
 cases d <;> simp only [D.els, Option.some.injEq, reduceCtorEq] at hx
 case pd x =>
  cases x <;> simp only [Option.some.injEq, reduceCtorEq] at hx
  subst hx; simpa only [Rep] using h
 case nils => subst hx; simp only [Rep] at h; subst h; exact .empty _ _
 case own => subst hx; simp only [Rep] at h; exact h.1
 case full => subst hx; simp only [Rep] at h; exact h.1

theorem Reps.caps : ∀ {ds : List D} {vs : List Value} {cs : List (Nat × Nat)}, Reps g w ds vs → D.caps ds = some cs → Caps g cs vs
 | [], _, _, h, hx => by
   simp only [D.caps, Option.some.injEq] at hx
   simp only [Reps] at h
   subst hx; subst h; rfl
 | d :: ds, _, _, h, hx => by
   simp only [Reps] at h
   obtain ⟨v, vs', rfl, hv, hr⟩ := h
   cases d <;> simp only [D.caps, Option.map_eq_some_iff, reduceCtorEq] at hx
   obtain ⟨cs, h1, rfl⟩ := hx
   simp only [Rep] at hv
   obtain ⟨b, hb, rfl⟩ := hv
   exact ⟨b, vs', rfl, hb, Reps.caps hr h1⟩

theorem Reps.evs (h : SR C st g a w) : ∀ xs : List Operand, Reps g w (xs.map st.ev) (xs.map a.eval)
 | [] => by simp [Reps]
 | x :: xs => by simp only [List.map_cons, Reps]; exact ⟨_, _, rfl, h.ev x, Reps.evs h xs⟩

theorem raw_inv {v u : Value} (h : Rep g w (.pd (.raw u)) v) : v = u := by
 simp only [Rep] at h
 cases h; rfl

structure Keep (g : Gh) (r : Option Nat) (w w' : World) : Prop where
 fz : ∀ b o, g.Fz b o → w'.cell? ⟨b, o, none⟩ = w.cell? ⟨b, o, none⟩
 bx : ∀ n b, r = some n → g.bx n = some b → w'.heap[b]? = w.heap[b]?

theorem Keep.refl (g : Gh) (r : Option Nat) (w : World) : Keep g r w w := ⟨fun _ _ _ => rfl, fun _ _ _ _ => rfl⟩

def Sound (C : Ctx) (o : Oper) (ao : AOp) : Prop := (∀ d, o.dst = some d → C.wr d = true) → ∀ st g a w d st', SR C st g a w → ao.ex o.dst st = some (d, st') →
 (ao.quiet = true → st' = st ∧ ∃ v, (∀ w', Keep g (ao.reads st) w w' → (execOp a.eval o).run C.P w' = .ok (.value v) w') ∧ Rep g w d v) ∧
 ∃ nx w' g', (execOp a.eval o).run C.P w = .ok nx w' ∧ SR C st' g' a w' ∧ SF g w g' w' (ao.touch o.dst st) ∧ ((∃ v, nx = .value v ∧ Rep g' w' d v) ∨ (nx = .skip ∧ d = .any))

theorem Sound.quiet {o : Oper} {ao : AOp} (h : ∀ st g a w d st', SR C st g a w → ao.ex o.dst st = some (d, st') → st' = st ∧ ∃ v, (∀ w', Keep g (ao.reads st) w w' → (execOp a.eval o).run C.P w' = .ok (.value v) w') ∧ Rep g w d v) : Sound C o ao := by
 intro _ st g a w d st' hs he
 obtain ⟨rfl, v, h1, h2⟩ := h st g a w d st' hs he
 exact ⟨fun _ => ⟨rfl, v, h1, h2⟩, _, w, g, h1 w (Keep.refl _ _ _), hs, SF.refl _ _ _, .inl ⟨v, rfl, h2⟩⟩

theorem snd_mv {o : Oper} {x : Operand} (ho : o.op = .move x ∨ o.op = .assign x) : Sound C o (.mv x) := by
 refine Sound.quiet fun st g a w d st' hs he => ?_
 simp only [AOp.ex, Option.some.injEq, Prod.mk.injEq] at he
 obtain ⟨rfl, rfl⟩ := he
 refine ⟨rfl, a.eval x, ?_, hs.ev x⟩
 intro w' _
 rcases ho with ho | ho <;> (unfold execOp; simp only [ho, Sem.run_pure])

theorem newVar_run (P : Program) (w : World) (t : TypeId) (v : Value) : (newVar t v).run P w = .ok ⟨w.heap.size, 0, none⟩ (w.alloc (.cells v.cells t)) := by
 simp only [newVar, newRow, Sem.run_bind, run_newObj, Result.andThen_ok, Sem.run_pure]
 rfl

theorem SF.newbox (hs : SR C st g a w) {dst : Option Nat} {n : Nat} (hn : dst = some n) {t : Option Nat} (ht : t = dst) {o : Obj} (hx : Ex g.Fz w g.Fz (w.alloc o)) : SF g w ((g.noBx n).withBx n w.heap.size) (w.alloc o) t := by
 refine ⟨hx, fun m b hm hb => ?_⟩
 rw [ht, hn] at hm
 have hmn : m ≠ n := fun e => hm (by rw [e])
 refine ⟨by simp [hmn, hb], ?_⟩
 exact (World.grownBy_alloc w o none).block b (hs.mem.bxok m b hb).1 (fun e => by cases e)

theorem snd_alloc {o : Oper} {e : TypeId} {i : TypeInfo} {z : Value} (ho : o.op = .alloc e) (hi : C.P.info? e = some i) (hz : i.zero = some z) : Sound C o (.alloc e (z.cells.toList.map cD0)) := by
 intro hdw st g a w d st' hs he
 simp only [AOp.ex] at he
 split at he
 ·rename_i n hn
  cases he
  have h1 := hs.drop n (C.wrok n (hdw n hn)).2
  obtain ⟨h2, h3⟩ := SR.newbox h1 n (by simp) z.cells e (z.cells.toList.map cD0) (cD0s_rep _ _ _)
  refine ⟨(fun h => by cases h), _, _, _, ?_, h2, SF.newbox hs hn rfl h3.ex, .inl ⟨.pointer (some ⟨w.heap.size, 0, none⟩), rfl, ?_⟩⟩
  ·unfold execOp
   simp only [ho, Instr.alloc, zeroValue, typeInfo, Sem.run_bind, run_program, Result.andThen_ok, hi, hz, Sem.run_pure, newVar_run]
  ·simp only [Rep]
   exact ⟨w.heap.size, by simp, rfl⟩
 ·cases he


theorem bytes_eq (a b : ByteArray) : (a.toList == b.toList) = decide (a = b) := by
 rw [Bool.eq_iff_iff, beq_iff_eq, decide_eq_true_iff]
 constructor
 ·intro h
  rw [ByteArray.toList_eq, ByteArray.toList_eq] at h
  obtain ⟨⟨x⟩⟩ := a
  obtain ⟨⟨y⟩⟩ := b
  simp only at h
  rw [h]
 ·rintro rfl
  rfl

theorem eqVs_split : ∀ (ks : List LK) {ls : List LK} {xs ys : List Value} {b : Bool}, eqVs (ks ++ ls) xs ys = some b →
 ∃ b1 b2, eqVs ks (xs.take ks.length) (ys.take ks.length) = some b1 ∧ eqVs ls (xs.drop ks.length) (ys.drop ks.length) = some b2 ∧ b = (b1 && b2)
 | [], _, xs, ys, b, h => ⟨true, b, by simp [eqVs], by simpa using h, by simp⟩
 | k :: ks, ls, xs, ys, b, h => by
   cases xs with
   | nil => simp [eqVs] at h
   | cons x xs =>
     cases ys with
     | nil => simp [eqVs] at h
     | cons y ys =>
       simp only [List.cons_append, eqVs] at h
       split at h
       ·rename_i a c h1 h2
        cases h
        obtain ⟨b1, b2, e1, e2, rfl⟩ := eqVs_split ks h2
        refine ⟨a && b1, b2, ?_, by simpa using e2, by rw [Bool.and_assoc]⟩
        simp only [List.length_cons, List.take_succ_cons, eqVs, h1, e1]
       ·cases h

theorem eqVs_length : ∀ {ks : List LK} {xs ys : List Value} {b : Bool}, eqVs ks xs ys = some b → xs.length = ks.length ∧ ys.length = ks.length
 | [], [], [], _, _ => ⟨rfl, rfl⟩
 | k :: ks, x :: xs, y :: ys, _, h => by
   simp only [eqVs] at h
   split at h
   ·rename_i a c h1 h2
    have := eqVs_length h2
    simp [this.1, this.2]
   ·cases h
 | [], _ :: _, _, _, h => by simp [eqVs] at h
 | [], [], _ :: _, _, h => by simp [eqVs] at h
 | _ :: _, [], _, _, h => by simp [eqVs] at h
 | _ :: _, _ :: _, [], _, h => by simp [eqVs] at h

theorem eq_scalar {P : Program} (w : World) (d : Nat) (t : TypeId) (k : LK) (x y : Value) (b : Bool) (h : eqV k x y = some b)
 (ht : (∃ q, P.underlying t = some (.int q) ∧ k = .int) ∨ (P.underlying t = some .string ∧ k = .str) ∨ (P.underlying t = some .bool ∧ k = .bool)) : (Op.equalIn (d + 1) t x y).run P w = .ok b w := by
 rcases ht with ⟨q, hu, rfl⟩ | ⟨hu, rfl⟩ | ⟨hu, rfl⟩
 ·cases x <;> cases y <;> simp only [eqV, reduceCtorEq] at h
  split at h
  ·rename_i e; subst e; cases h; rw [run_equalIn_int w d t _ q _ _ hu]; rfl
  ·cases h
 ·cases x <;> cases y <;> simp only [eqV, reduceCtorEq] at h
  cases h; rw [run_equalIn_string w d t _ _ hu, bytes_eq]
 ·cases x <;> cases y <;> simp only [eqV, reduceCtorEq] at h
  cases h; exact run_equalIn_bool w d t _ _ hu

theorem eqVs_one {k : LK} {xs ys : List Value} {b : Bool} (h : eqVs [k] xs ys = some b) : ∃ x y, xs = [x] ∧ ys = [y] ∧ eqV k x y = some b := by
 obtain ⟨h1, h2⟩ := eqVs_length h
 match xs, ys, h1, h2 with
 | [x], [y], _, _ =>
   refine ⟨x, y, rfl, rfl, ?_⟩
   simp only [eqVs] at h
   split at h
   ·rename_i a c e1 e2
    cases e2
    rw [e1, ← h]
    simp
   ·cases h

theorem part_scalar {P : Program} (w : World) (t : TypeId) (xs : List Value) (off : Nat) (d : TypeDesc) (hu : P.underlying t = some d) (hd : d.isRow = false) (x : Value) (hx : xs[off]? = some x) : (part t xs.toArray off).run P w = .ok x w := by
 have hagg : (isAgg t).run P w = .ok false w := by
  unfold isAgg
  rw [Sem.run_bind, run_underlying hu w]
  cases d <;> simp_all
 unfold part
 rw [Sem.run_bind, hagg]
 simp [hx]

theorem part_struct {P : Program} (w : World) (t : TypeId) (xs : List Value) (off : Nat) (fs : Array Field) (hu : P.underlying t = some (.struct fs)) (i : TypeInfo) (hi : P.info? t = some i) : (part t xs.toArray off).run P w = .ok (.agg ((xs.drop off).take i.size).toArray) w := by
 have hagg : (isAgg t).run P w = .ok true w := by
  unfold isAgg
  rw [Sem.run_bind, run_underlying hu w]
  simp
 unfold part
 rw [Sem.run_bind, hagg]
 simp [sizeOf, typeInfo, hi, List.extract_eq_take_drop]

mutual
theorem eq_run {P : Program} (w : World) : ∀ (n : Nat) (t : TypeId) (ks : List LK), leafs P n t = some ks → ∀ (d : Nat), n ≤ d → ∀ (xs ys : List Value) (b : Bool), eqVs ks xs ys = some b →
 (∀ fs, P.underlying t = some (.struct fs) → (Op.equalIn d t (.agg xs.toArray) (.agg ys.toArray)).run P w = .ok b w) ∧
 ((∃ u, P.underlying t = some u ∧ u.isRow = false) → ∃ x y, xs = [x] ∧ ys = [y] ∧ (Op.equalIn d t x y).run P w = .ok b w)
 | 0, _, _, h, _, _, _, _, _, _ => by simp [leafs] at h
 | n + 1, t, ks, h, d, hd, xs, ys, b, hb => by
   obtain ⟨d, rfl⟩ : ∃ m, d = m + 1 := ⟨d - 1, by omega⟩
   simp only [leafs] at h
   split at h
   ·rename_i q hu
    cases h
    obtain ⟨x, y, rfl, rfl, e⟩ := eqVs_one hb
    exact ⟨(fun fs hf => by rw [hu] at hf; cases hf), fun _ => ⟨x, y, rfl, rfl, eq_scalar w d t .int x y b e (.inl ⟨q, hu, rfl⟩)⟩⟩
   ·rename_i hu
    cases h
    obtain ⟨x, y, rfl, rfl, e⟩ := eqVs_one hb
    exact ⟨(fun fs hf => by rw [hu] at hf; cases hf), fun _ => ⟨x, y, rfl, rfl, eq_scalar w d t .str x y b e (.inr (.inl ⟨hu, rfl⟩))⟩⟩
   ·rename_i hu
    cases h
    obtain ⟨x, y, rfl, rfl, e⟩ := eqVs_one hb
    exact ⟨(fun fs hf => by rw [hu] at hf; cases hf), fun _ => ⟨x, y, rfl, rfl, eq_scalar w d t .bool x y b e (.inr (.inr ⟨hu, rfl⟩))⟩⟩
   ·rename_i fs hu
    split at h
    ·cases h
    ·rename_i hp
     refine ⟨fun fs' hf => ?_, fun ⟨u, h1, h2⟩ => by rw [hu] at h1; cases h1; simp [TypeDesc.isRow] at h2⟩
     have hfo : P.fieldsOf t = fs := by simp [Program.fieldsOf, hu]
     rw [run_equalIn_struct w d t _ _ (by rw [hfo]; exact hu) (by simpa using hp), hfo]
     exact eqF_run w n fs.toList 0 ks h d (by omega) xs ys b (by simpa using hb)
   ·cases h
theorem eqF_run {P : Program} (w : World) : ∀ (n : Nat) (fs : List Field) (off : Nat) (ks : List LK), leafsF P n fs off = some ks → ∀ (d : Nat), n ≤ d → ∀ (xs ys : List Value) (b : Bool), eqVs ks (xs.drop off) (ys.drop off) = some b →
 (Op.eqFields d xs.toArray ys.toArray fs).run P w = .ok b w
 | _, [], _, _, h, _, _, _, _, _, hb => by
   simp only [leafsF, Option.some.injEq] at h
   subst h
   obtain ⟨h1, h2⟩ := eqVs_length hb
   rw [List.eq_nil_of_length_eq_zero h1, List.eq_nil_of_length_eq_zero h2] at hb
   simp only [eqVs, Option.some.injEq] at hb
   subst hb
   simp [Op.eqFields]
 | 0, _ :: _, _, _, h, _, _, _, _, _, _ => by simp [leafsF] at h
 | n + 1, f :: fs, off, ks, h, d, hd, xs, ys, b, hb => by
   simp only [leafsF] at h
   split at h
   ·cases h
   ·rename_i hname
    have hn : f.name ≠ "_" := fun e => hname (.inl e)
    have ho : f.offset = off := by
     rcases Nat.decEq f.offset off with h1 | h1
     ·exact absurd (.inr h1) hname
     ·exact h1
    split at h
    ·rename_i kf i h1 h2
     split at h
     ·rename_i hsz
      obtain ⟨ks', h3, rfl⟩ := Option.map_eq_some_iff.1 h
      obtain ⟨b1, b2, e1, e2, rfl⟩ := eqVs_split kf hb
      rw [List.drop_drop, List.drop_drop] at e2
      have ih := eq_run w n f.type kf h1 d (by omega) _ _ b1 e1
      have hrest := eqF_run w n fs (off + kf.length) ks' h3 d (by omega) xs ys b2 e2
      have hfld : ∃ x y, (part f.type xs.toArray f.offset).run P w = .ok x w ∧ (part f.type ys.toArray f.offset).run P w = .ok y w ∧ (Op.equalIn d f.type x y).run P w = .ok b1 w := by
       cases hu : P.underlying f.type with
       | none => cases n <;> simp [leafs, hu] at h1
       | some u =>
         by_cases hr : u.isRow = false
         ·obtain ⟨x, y, ex, ey, er⟩ := ih.2 ⟨u, hu, hr⟩
          refine ⟨x, y, part_scalar w _ _ _ u hu hr x ?_, part_scalar w _ _ _ u hu hr y ?_, er⟩
          ·have : ((xs.drop off).take kf.length)[0]? = some x := by rw [ex]; rfl
           rw [List.getElem?_take] at this
           split at this
           ·rw [List.getElem?_drop] at this; rw [ho]; simpa using this
           ·cases this
          ·have : ((ys.drop off).take kf.length)[0]? = some y := by rw [ey]; rfl
           rw [List.getElem?_take] at this
           split at this
           ·rw [List.getElem?_drop] at this; rw [ho]; simpa using this
           ·cases this
         ·cases u with
          | struct gs =>
            refine ⟨_, _, part_struct w _ _ _ gs hu i h2, part_struct w _ _ _ gs hu i h2, ?_⟩
            rw [ho, hsz]
            exact ih.1 gs hu
          | array m e => cases n <;> simp [leafs, hu] at h1
          | _ => exact absurd rfl hr
      obtain ⟨x, y, hx, hy, hxy⟩ := hfld
      simp only [Op.eqFields, if_pos hn, Sem.run_bind, hx, hy, hxy, Result.andThen_ok]
      cases b1
      ·simp
      ·simpa using hrest
     ·cases h
    ·cases h
end


variable {C : Ctx} {st st' : St} {g : Gh} {a : Act} {w : World}

theorem Rep.cellsF {d : D} {v : Value} (h : Rep g w d v) (hs : d.fixed = true) : Reps g w d.cells v.cells.toList := by
 cases d
 case agg ds =>
  simp only [D.cells]
  simp only [Rep] at h
  obtain ⟨vs, rfl, hr⟩ := h
  simpa [Value.cells] using hr
 all_goals exact h.cells (by simpa [D.cells, D.fixed] using hs)

theorem snd_box {o : Oper} {e : TypeId} {x : Operand} (ho : o.op = .box e x) : Sound C o (.box e x) := by
 intro hdw st g a w d st' hs he
 simp only [AOp.ex] at he
 split at he
 ·rename_i n hn
  split at he
  ·rename_i hf
   cases he
   have h1 := hs.drop n (C.wrok n (hdw n hn)).2
   have hc : Reps (g.noBx n) w (D.drops n (st.ev x).cells) (a.eval x).cells.toList :=
    Reps.dropped (g := g) (g' := g.noBx n) (fun m b hm e => by simp only [hm, if_false]; exact e) (fun _ _ h => h) (Ex.refl _ _) ((hs.ev x).cellsF hf)
   obtain ⟨h2, h3⟩ := SR.newbox h1 n (by simp) (a.eval x).cells e _ hc
   refine ⟨(fun h => by cases h), _, _, _, ?_, h2, SF.newbox hs hn rfl h3.ex, .inl ⟨.pointer (some ⟨w.heap.size, 0, none⟩), rfl, ?_⟩⟩
   ·unfold execOp
    simp only [ho, Instr.box, Sem.run_bind, Result.andThen_ok, Sem.run_pure, newVar_run]
   ·simp only [Rep]
    exact ⟨w.heap.size, by simp, rfl⟩
  ·cases he
 ·cases he

theorem fill_run (place : Nat → Option (Nat × Nat)) : ∀ (ps : List (Nat × Nat × Nat × Value)) (cells : Array Value) (zs : List D) (ds : List D) (cs : List (List D)),
 (∀ p ∈ ps, place p.1 = some (p.2.1, p.2.2.1)) → Reps g w zs cells.toList → cs.length = ps.length →
 (∀ (j : Nat) (p : Nat × Nat × Nat × Value) (c : List D), ps[j]? = some p → cs[j]? = some c → Reps g w c p.2.2.2.cells.toList) →
 fillD zs ((ps.zip cs).map fun q => (q.1.2.1, q.1.2.2.1, q.2)) = some ds →
 ∃ r, Instr.fill place cells (ps.map fun p => (p.1, p.2.2.2)) = some r ∧ Reps g w ds r.toList
 | [], cells, zs, ds, cs, _, hz, _, _, hf => by
   simp only [List.zip_nil_left, List.map_nil, fillD, Option.some.injEq] at hf
   subst hf
   exact ⟨cells, rfl, hz⟩
 | p :: ps, cells, zs, ds, [], _, _, hl, _, _ => by simp at hl
 | p :: ps, cells, zs, ds, c :: cs, hp, hz, hl, hc, hf => by
   simp only [List.zip_cons_cons, List.map_cons, fillD] at hf
   split at hf
   ·rename_i hsz
    have h0 := hc 0 p c (by simp) (by simp)
    have hlen : p.2.2.2.cells.size = p.2.2.1 := by rw [← Array.length_toList, h0.length]; exact hsz.1
    have hzl : cells.size = zs.length := by rw [← Array.length_toList, hz.length]
    obtain ⟨f1, f2⟩ := Go.Great.foldl_set p.2.1 p.2.2.2.cells.toList 0 cells
    have hset : ∃ cells' : Array Value, p.2.2.2.cells.zipIdx.foldl (fun cs (x : Value × Nat) => cs.setIfInBounds (p.2.1 + x.2) x.1) cells = cells' ∧
     cells'.toList = cells.toList.take p.2.1 ++ (p.2.2.2.cells.toList ++ cells.toList.drop (p.2.1 + p.2.2.1)) := by
     refine ⟨_, rfl, ?_⟩
     rw [← Array.foldl_toList, Array.toList_zipIdx]
     refine List.ext_getElem? fun k => ?_
     have := f2 k
     rw [← Array.getElem?_toList] at this
     rw [this]
     have hcl : p.2.2.2.cells.toList.length = p.2.2.1 := by rw [Array.length_toList]; exact hlen
     rw [hcl, Nat.add_zero]
     by_cases h1 : k < p.2.1
     ·rw [if_neg (by omega), List.getElem?_append_left (by rw [List.length_take, Array.length_toList]; omega), List.getElem?_take, if_pos h1, Array.getElem?_toList]
     ·rw [List.getElem?_append_right (by rw [List.length_take, Array.length_toList]; omega), List.length_take, Array.length_toList, Nat.min_eq_left (by omega)]
      by_cases h2 : k < p.2.1 + p.2.2.1
      ·rw [if_pos ⟨by omega, h2, by omega⟩, List.getElem?_append_left (by rw [hcl]; omega)]
      ·rw [if_neg (by omega), List.getElem?_append_right (by rw [hcl]; omega), hcl, List.getElem?_drop, Array.getElem?_toList]
       congr 1
       omega
    obtain ⟨cells', hs1, hs2⟩ := hset
    obtain ⟨r, hr, hrr⟩ := fill_run place ps cells' _ ds cs (fun q hq => hp q (List.mem_cons_of_mem _ hq)) (by
     rw [hs2]
     exact (hz.take _).append (h0.append (hz.drop _))) (by simpa using hl) (fun j q e hq he => hc (j + 1) q e (by simpa using hq) (by simpa using he)) hf
    refine ⟨r, ?_, hrr⟩
    simp only [List.map_cons, Instr.fill, hp p List.mem_cons_self]
    split
    ·rename_i hbad
     exfalso
     simp at hbad
     omega
    ·rw [← hs1] at hr
     exact hr
   ·cases hf

theorem partsOf_spec {P : Program} {fs : Array Field} : ∀ {parts : List (Nat × Operand)} {ps : List (Nat × Nat × Operand)}, partsOf P fs parts = some ps →
 ps.length = parts.length ∧ ∀ (j : Nat) (p : Nat × Operand) (q : Nat × Nat × Operand), parts[j]? = some p → ps[j]? = some q → p.2 = q.2.2 ∧ ∃ f i, fs[p.1]? = some f ∧ P.info? f.type = some i ∧ q.1 = f.offset ∧ q.2.1 = i.size
 | [], _, h => by
   simp only [partsOf, Option.some.injEq] at h
   subst h
   exact ⟨rfl, fun j p q hp _ => by simp at hp⟩
 | (k, x) :: r, _, h => by
   simp only [partsOf] at h
   split at h
   ·rename_i f rs h1 h2
    split at h
    ·rename_i i h3
     cases h
     obtain ⟨e1, e2⟩ := partsOf_spec h2
     refine ⟨by simp [e1], fun j p q hp hq => ?_⟩
     cases j with
     | zero => simp at hp hq; subst hp; subst hq; exact ⟨rfl, f, i, h1, h3, rfl, rfl⟩
     | succ j => exact e2 j p q (by simpa using hp) (by simpa using hq)
    ·cases h
   ·cases h

theorem rangeAt_of_box {b : Nat} {cs : Array Value} {t : TypeId} {fr : Nat × Nat} (h : w.heap[b]? = some (.cells cs t fr)) (off k : Nat) : w.rangeAt b off ((cs.toList.drop off).take k) := by
 intro j v hj
 rw [List.getElem?_take] at hj
 split at hj
 ·rw [List.getElem?_drop, Array.getElem?_toList] at hj
  simp [World.cell?, h, hj]
 ·cases hj

theorem aggSize_none {P : Program} {t : TypeId} (h : aggSize P t = some none) : ∃ d, P.underlying t = some d ∧ d.isRow = false := by
 unfold aggSize at h
 split at h
 ·cases h
 ·cases h
 ·rename_i d i h1 h2 h3 h4
  refine ⟨d, h3, ?_⟩
  cases d <;> first | rfl | exact (h1 _ rfl).elim | exact (h2 _ _ rfl).elim
 ·cases h


variable {C : Ctx} {st st' : St} {g : Gh} {a : Act} {w : World}

theorem places_run {P : Program} : ∀ (fs : List Field), fs.all (fun f => (P.info? f.type).isSome) = true →
 fs.mapM (fun f => (P.info? f.type).map fun i => (f.offset, i.size)) = some (fs.map fun f => (f.offset, ((P.info? f.type).map (·.size)).getD 0))
 | [], _ => rfl
 | f :: fs, h => by
   simp only [List.all_cons, Bool.and_eq_true] at h
   obtain ⟨i, hi⟩ := Option.isSome_iff_exists.1 h.1
   simp [List.mapM_cons, hi, places_run fs h.2]

theorem zip_map_id {α β γ : Type} (f : α → β → γ) : ∀ (l : List α) (m : List β), m.length = l.length → ∀ (k : List γ), (∀ (j : Nat) (x : α) (y : β), l[j]? = some x → m[j]? = some y → k[j]? = some (f x y)) → k.length = l.length → (l.zip m).map (fun q => f q.1 q.2) = k
 | [], m, hm, k, _, hk => by
   have : k = [] := List.eq_nil_of_length_eq_zero (by simpa using hk)
   simp [this]
 | x :: l, [], hm, _, _, _ => by simp at hm
 | x :: l, y :: m, hm, [], _, hk => by simp at hk
 | x :: l, y :: m, hm, z :: k, h, hk => by
   have h0 := h 0 x y (by simp) (by simp)
   simp only [List.getElem?_cons_zero, Option.some.injEq] at h0
   simp only [List.zip_cons_cons, List.map_cons, h0]
   rw [zip_map_id f l m (by simpa using hm) k (fun j a b ha hb => by have := h (j + 1) a b (by simpa using ha) (by simpa using hb); simpa using this) (by simpa using hk)]

theorem snd_build {o : Oper} {t : TypeId} {parts : Array (Nat × Operand)} {fs : Array Field} {i : TypeInfo} {z : Value} {ps : List (Nat × Nat × Operand)} (ho : o.op = .build t parts)
 (hu : C.P.underlying t = some (.struct fs)) (hi : C.P.info? t = some i) (hz : i.zero = some z) (hp : partsOf C.P fs parts.toList = some ps) (hall : fs.toList.all (fun f => (C.P.info? f.type).isSome) = true) :
 Sound C o (.build (z.cells.toList.map cD0) ps) := by
 refine Sound.quiet fun st g a w d st' hs he => ?_
 simp only [AOp.ex] at he
 split at he
 ·cases he
 rename_i hfix
 have hfix : ps.all (fun p => (st.ev p.2.2).fixed) = true := by simpa using hfix
 obtain ⟨ds, hf, he2⟩ := Option.map_eq_some_iff.1 he
 cases he2
 obtain ⟨hlen, hspec⟩ := partsOf_spec hp
 obtain ⟨places, hplaces⟩ : ∃ l, l = fs.toList.map fun f => (f.offset, ((C.P.info? f.type).map (·.size)).getD 0) := ⟨_, rfl⟩
 obtain ⟨vals, hvals⟩ : ∃ l : List (Nat × Nat × Nat × Value), l = (parts.toList.zip ps).map fun q => (q.1.1, q.2.1, q.2.2.1, a.eval q.1.2) := ⟨_, rfl⟩
 have hget : ∀ (j : Nat) (p : Nat × Nat × Nat × Value), vals[j]? = some p → ∃ (x : Nat × Operand) (y : Nat × Nat × Operand), parts.toList[j]? = some x ∧ ps[j]? = some y ∧ p = (x.1, y.1, y.2.1, a.eval x.2) := by
  intro j p hj
  simp only [hvals, List.getElem?_map, Option.map_eq_some_iff] at hj
  obtain ⟨q, hq, rfl⟩ := hj
  rw [List.getElem?_zip_eq_some] at hq
  exact ⟨q.1, q.2, hq.1, hq.2, rfl⟩
 have hvl : vals.length = ps.length := by simp [hvals, hlen]
 have hplace : ∀ p ∈ vals, (places.toArray[·]?) p.1 = some (p.2.1, p.2.2.1) := by
  intro p hp'
  obtain ⟨j, hj, hjp⟩ := List.mem_iff_getElem.1 hp'
  obtain ⟨x, y, hx, hy, rfl⟩ := hget j p (by rw [List.getElem?_eq_getElem hj, hjp])
  obtain ⟨_, f, i', h1, h2, h3, h4⟩ := hspec j x y hx hy
  have : fs.toList[x.1]? = some f := by rw [Array.getElem?_toList]; exact h1
  simp [hplaces, this, h2, h3, h4]
 have hcs : ∀ (j : Nat) (p : Nat × Nat × Nat × Value) (c : List D), vals[j]? = some p → (ps.map fun q => (st.ev q.2.2).cells)[j]? = some c → Reps g w c p.2.2.2.cells.toList := by
  intro j p c hj hc
  obtain ⟨x, y, hx, hy, rfl⟩ := hget j p hj
  simp only [List.getElem?_map, hy, Option.map_some, Option.some.injEq] at hc
  subst hc
  obtain ⟨h1, _⟩ := hspec j x y hx hy
  rw [← h1]
  refine (hs.ev x.2).cellsF ?_
  rw [h1]
  exact List.all_eq_true.1 hfix y (List.mem_of_getElem? hy)
 have hzip : (vals.zip (ps.map fun q => (st.ev q.2.2).cells)).map (fun q => (q.1.2.1, q.1.2.2.1, q.2)) = ps.map fun p => (p.1, p.2.1, (st.ev p.2.2).cells) := by
  refine zip_map_id (fun p c => (p.2.1, p.2.2.1, c)) vals (ps.map fun q => (st.ev q.2.2).cells) (by simp [hvl]) (ps.map fun p => (p.1, p.2.1, (st.ev p.2.2).cells)) ?_ (by simp [hvl])
  intro j p c hj hc
  obtain ⟨x, y, hx, hy, rfl⟩ := hget j p hj
  simp only [List.getElem?_map, hy, Option.map_some, Option.some.injEq] at hc ⊢
  subst hc; rfl
 obtain ⟨r, hr, hrr⟩ := fill_run (g := g) (w := w) (places.toArray[·]?) vals z.cells (z.cells.toList.map cD0) ds (ps.map fun q => (st.ev q.2.2).cells) hplace (cD0s_rep _ _ _) (by simp [hvl]) hcs (by rw [hzip]; exact hf)
 have hparts : vals.map (fun p => (p.1, p.2.2.2)) = (parts.map fun (i, x) => (i, a.eval x)).toList := by
  rw [Array.toList_map]
  refine List.ext_getElem? fun j => ?_
  rw [List.getElem?_map, List.getElem?_map]
  cases hj : vals[j]? with
  | none =>
    have : parts.toList[j]? = none := by
     rw [List.getElem?_eq_none_iff] at hj ⊢
     omega
    exact (congrArg (Option.map fun (x : Nat × Operand) => (x.1, a.eval x.2)) this).symm
  | some p =>
    obtain ⟨x, y, hx, hy, rfl⟩ := hget j p hj
    exact (congrArg (Option.map fun (x : Nat × Operand) => (x.1, a.eval x.2)) hx).symm
 refine ⟨rfl, .agg r, ?_, ?_⟩
 ·intro w' _
  unfold execOp
  simp only [ho, Sem.run_bind]
  rw [run_build w' t _ r]
  ·rfl
  ·unfold Program.built
   simp only [hi, hu, hz, places_run _ hall, ← hplaces]
   rw [← hparts]
   exact hr
 ·simp only [Rep]
  exact ⟨r.toList, by simp, hrr⟩

theorem rowsD_spec {sz : Nat} : ∀ {ds : List D} {vs : List Value} {rows : List (List PD)}, Reps g w ds vs → rowsD sz ds = some rows →
 RowsR g.Fz w (vs.map fun v => v.cells.toList) rows ∧ (∀ r ∈ rows, r.length = sz) ∧ rows.length = ds.length
 | [], _, _, h, hr => by
   simp only [rowsD, Option.some.injEq] at hr
   simp only [Reps] at h
   subst hr; subst h
   simp [RowsR]
 | d :: ds, _, _, h, hr => by
   simp only [Reps] at h
   obtain ⟨v, vs', rfl, hv, hs⟩ := h
   simp only [rowsD] at hr
   split at hr
   ·rename_i r rs h1 h2
    split at hr
    ·rename_i h3
     cases hr
     obtain ⟨e1, e2, e3⟩ := rowsD_spec hs h2
     refine ⟨?_, ?_, by simp [e3]⟩
     ·simp only [List.map_cons, RowsR]
      exact ⟨r, rs, rfl, (hv.cells (toPDs_sc h1)).toPDs h1, e1⟩
     ·intro x hx
      rcases List.mem_cons.1 hx with rfl | hx
      ·exact h3
      ·exact e2 x hx
    ·cases hr
   ·cases hr

theorem snd_bslice {o : Oper} {t e : TypeId} {n : Nat} {parts : Array (Nat × Operand)} {i : TypeInfo} {z : Value} (ho : o.op = .buildSlice t n parts)
 (hu : C.P.underlying t = some (.slice e)) (hi : C.P.info? e = some i) (hz : i.zero = some z) (hidx : parts.toList.map (·.1) = List.range n) (hzs : z.cells.size = i.size) (hpos : 0 < i.size) (hbig : n * i.size ≤ 16777216) :
 Sound C o (.bslice e i.size (parts.toList.map (·.2))) := by
 intro _ st g a w d st' hs he
 simp only [AOp.ex] at he
 split at he
 ·rename_i t' rows hd hr
  cases he
  have h1 := hs.purge t'
  have hev := Reps.evs hs (parts.toList.map (·.2))
  obtain ⟨r1, r2, r3⟩ := rowsD_spec hev hr
  have hnl : parts.toList.length = n := by have := congrArg List.length hidx; simpa using this
  have hrn : rows.length = n := by simp [r3, hnl]
  let vs := (parts.toList.map (·.2)).map a.eval
  have hvl : vs.length = n := by simp [vs, hnl]
  have hsz : ∀ v ∈ vs, v.cells.size = i.size := by
   intro v hv
   have := RowsR.sizes r1 r2 v.cells.toList (List.mem_map_of_mem hv)
   simpa using this
  have hcells : ∃ cells : Array Value, (Instr.buildSlice t n (parts.map fun (i, x) => (i, a.eval x))).run C.P w = .ok (.slice (some ⟨w.heap.size, 0, none⟩) n n) (w.alloc (.cells cells e)) ∧ cells.toList = (vs.map fun v => v.cells.toList).flatten := by
   have hpv : (parts.map fun (i, x) => (i, a.eval x)).toList = (vs.zipIdx 0).map fun x => (x.2, x.1) := by
    rw [Array.toList_map]
    refine List.ext_getElem? fun j => ?_
    rw [List.getElem?_map, List.getElem?_map, List.getElem?_zipIdx]
    have hj := congrArg (·[j]?) hidx
    simp only [List.getElem?_map] at hj
    simp only [vs, List.getElem?_map]
    cases hp : parts.toList[j]? with
    | none => simp
    | some p =>
      rw [hp] at hj
      have hjn : j < n := by rw [← hnl]; exact (List.getElem?_eq_some_iff.1 hp).1
      rw [List.getElem?_range hjn] at hj
      simp only [Option.map_some, Option.some.injEq] at hj
      simp [hj]
   rcases Nat.eq_zero_or_pos n with h0 | hn
   ·subst h0
    have hv0 : vs = [] := List.eq_nil_of_length_eq_zero hvl
    refine ⟨#[], ?_, by simp [hv0]⟩
    rw [hv0] at hpv
    simp only [Instr.buildSlice, Sem.run_bind, run_underlying hu, Result.andThen_ok, sizeOf, typeInfo, run_program, hi, Sem.run_pure]
    have hp0 : parts = #[] := Array.eq_empty_of_size_eq_zero (by simpa using hnl)
    subst hp0
    have h00 : Array.range 0 = #[] := by simp [Array.range]
    simp [Instr.fill, newRow, h00]
   ·refine ⟨(vs.flatMap fun v => v.cells.toList).toArray, ?_, by simp [List.flatMap]⟩
    refine run_buildSlice w t e n _ _ i z hu hi hz (by omega) (by
     have := Nat.mul_pos hn hpos; omega) ?_
    rw [hpv]
    exact Go.Great.fill_whole hpos vs _ hsz (by simp [hvl])
  obtain ⟨cells, hrun, hct⟩ := hcells
  have hlenf : (vs.map fun v => v.cells.toList).flatten.length = n * i.size := by
   rw [flat_len i.size _ (RowsR.sizes r1 r2)]; simp [vs, hnl]
  have hsizes : n ≤ maxLen := by
   unfold maxLen
   have : n * 1 ≤ n * i.size := Nat.mul_le_mul_left n hpos
   omega
  have hown : (w.alloc (.cells cells e)).ownsRow 0 e i.size (.slice (some ⟨w.heap.size, 0, none⟩) n n) n cells.toList :=
   ⟨by rw [hct]; exact hlenf, .inr ⟨w.heap.size, n, cells, rfl, Nat.zero_le _, Go.heap_alloc_new w _, Nat.le_refl _, hsizes, by rw [← Array.length_toList, hct]; exact hlenf, by
    rw [hct, ← hlenf, List.take_length]⟩⟩
  obtain ⟨h2, h3⟩ := SR.owned h1 t' (by simp) (World.grownBy_alloc w (.cells cells e) none) _ h1.x (fun k e => by cases e) (fun _ h => h) (fun k e => by cases e) e i hi hpos _ n _ hown (fun b hb => by cases hb; exact .inr (Nat.le_refl _)) (fun b o _ hb => by cases hb)
  refine ⟨(fun h => by cases h), .value (.slice (some ⟨w.heap.size, 0, none⟩) n n), _, _, ?_, h2, ⟨h3.ex, fun k b _ hk => ⟨hk, (World.grownBy_alloc w (.cells cells e) none).block b (hs.mem.bxok k b hk).1 (fun e => by cases e)⟩⟩, .inl ⟨_, rfl, ?_⟩⟩
  ·unfold execOp
   simp only [ho, Sem.run_bind, hrun, Result.andThen_ok, Sem.run_pure]
  ·simp only [Rep]
   refine ⟨?_, by simp, r2⟩
   have := PRep.of_rows (Fz := (Gh.withOwn (g.noTk t') t' (.slice (some ⟨w.heap.size, 0, none⟩) n n) e (n * i.size)).Fz) (w := w.alloc (.cells cells e)) (sz := i.size) (b := w.heap.size) (cap := n) (r1.mono h3.ex) r2 (by omega) (by omega) (fun j u hu => by
    have hj : j < n * i.size := by rw [← hlenf]; exact (List.getElem?_eq_some_iff.1 hu).1
    exact ⟨own_cell hown rfl j u (by rw [hct]; exact hu), .inr ⟨rfl, hj⟩⟩)
   rw [hrn] at this
   exact this
 ·cases he

theorem snd_load_none {o : Oper} {t : TypeId} {x : Operand} (ho : o.op = .load t x) (hk : aggSize C.P t = some none) : Sound C o (.load none x) := by
 obtain ⟨d0, hu, hd⟩ := aggSize_none hk
 have hagg : ∀ w, (isAgg t).run C.P w = .ok false w := fun w => by
  unfold isAgg
  rw [Sem.run_bind, run_underlying hu w]
  cases d0 <;> simp_all
 have key : ∀ (a : Act) (w : World) (b off : Nat) (v : Value), a.eval x = .pointer (some ⟨b, off, none⟩) → w.cell? ⟨b, off, none⟩ = some v → (execOp a.eval o).run C.P w = .ok (.value v) w := fun a w b off v h1 h2 => by
  unfold execOp
  simp [ho, h1, Instr.loadAt, Instr.sureAddr, loadVar, hagg, h2]
 refine Sound.quiet fun st g a w d st' hs he => ?_
 have hx := hs.ev x
 simp only [AOp.ex] at he
 split at he
 ·rename_i n off hev
  obtain ⟨d1, h1, h2⟩ := Option.map_eq_some_iff.1 he
  cases h2
  obtain ⟨ds, h3, h4⟩ := Option.bind_eq_some_iff.1 h1
  rw [hev] at hx
  simp only [Rep] at hx
  obtain ⟨b, hb, hv⟩ := hx
  obtain ⟨b', cs, t', h5, h6, h7⟩ := hs.mem.bxs n ds h3
  rw [hb] at h5; cases h5
  obtain ⟨v, h8, h9⟩ := h7.get off d h4
  refine ⟨rfl, v, fun w' hk => key a w' b off v hv ?_, h9⟩
  rw [Array.getElem?_toList] at h8
  have h6' := (hk.bx n b (by simp only [AOp.reads, hev]) hb).trans h6
  simp [World.cell?, h6', h8]
 ·rename_i c cs hev
  cases he
  rw [hev] at hx
  simp only [Rep] at hx
  obtain ⟨b, off, vs, hv, hp, hc⟩ := hx
  cases hp with
  | cons v _ vs _ h1 h2 =>
    refine ⟨rfl, v, fun w' hk => key a w' b off v hv ?_, by simpa only [Rep] using h1⟩
    have := (hk.fz _ _ (hc 0 v (by simp)).2).trans (hc 0 v (by simp)).1
    simpa using this
 ·rename_i t' j' c cs hev
  cases he
  rw [hev] at hx
  simp only [Rep] at hx
  obtain ⟨⟨b, off, vs, hv, hp, hc⟩, _⟩ := hx
  cases hp with
  | cons v _ vs _ h1 h2 =>
    refine ⟨rfl, v, fun w' hk => key a w' b off v hv ?_, by simpa only [Rep] using h1⟩
    have := (hk.fz _ _ (hc 0 v (by simp)).2).trans (hc 0 v (by simp)).1
    simpa using this
 ·cases he

theorem aggSize_some {P : Program} {t : TypeId} {k : Nat} (h : aggSize P t = some (some k)) : ∃ fs i, P.underlying t = some (.struct fs) ∧ P.info? t = some i ∧ i.size = k := by
 unfold aggSize at h
 split at h
 ·rename_i fs i h1 h2
  cases h
  exact ⟨fs, i, h1, h2, rfl⟩
 all_goals cases h

theorem snd_load_some {o : Oper} {t : TypeId} {x : Operand} {k : Nat} (ho : o.op = .load t x) (hk : aggSize C.P t = some (some k)) : Sound C o (.load (some k) x) := by
 obtain ⟨fs, i, hu, hi, rfl⟩ := aggSize_some hk
 have key : ∀ (a : Act) (w : World) (b off : Nat) (vs : List Value), a.eval x = .pointer (some ⟨b, off, none⟩) → vs.length = i.size → w.rangeAt b off vs → (execOp a.eval o).run C.P w = .ok (.value (.agg vs.toArray)) w := fun a w b off vs h1 h2 h3 => by
  unfold execOp
  simp only [ho, h1, Sem.run_bind, run_loadAt_mid w b off t vs _ h3 hu rfl (by simp [hi, h2]), Result.andThen_ok, Sem.run_pure]
 refine Sound.quiet fun st g a w d st' hs he => ?_
 have hx := hs.ev x
 simp only [AOp.ex] at he
 split at he
 ·rename_i n off hev
  obtain ⟨ds, h3, h4⟩ := Option.bind_eq_some_iff.1 he
  split at h4
  ·rename_i hlen
   cases h4
   rw [hev] at hx
   simp only [Rep] at hx
   obtain ⟨b, hb, hv⟩ := hx
   obtain ⟨b', cs, t', h5, h6, h7⟩ := hs.mem.bxs n ds h3
   rw [hb] at h5; cases h5
   refine ⟨rfl, _, fun w' hk => key a w' b off ((cs.toList.drop off).take i.size) hv ?_ (rangeAt_of_box ((hk.bx n b (by simp only [AOp.reads, hev]) hb).trans h6) off i.size), ?_⟩
   ·have := h7.length
    rw [List.length_take, List.length_drop]; omega
   ·simp only [Rep]
    exact ⟨_, rfl, (h7.drop off).take i.size⟩
  ·cases h4
 ·rename_i cs hev
  split at he
  ·rename_i hlen
   cases he
   rw [hev] at hx
   simp only [Rep] at hx
   obtain ⟨b, off, vs, hv, hp, hc⟩ := hx
   refine ⟨rfl, _, fun w' hk => key a w' b off (vs.take i.size) hv ?_ ?_, ?_⟩
   ·have := hp.length
    rw [List.length_take]; omega
   ·intro j v hj
    rw [List.getElem?_take] at hj
    split at hj
    ·exact (hk.fz _ _ (hc j v hj).2).trans (hc j v hj).1
    ·cases hj
   ·simp only [Rep]
    exact ⟨_, rfl, Reps.of_pd (hp.take i.size)⟩
  ·cases he
 ·rename_i cs hev
  split at he
  ·rename_i hlen
   cases he
   rw [hev] at hx
   simp only [Rep] at hx
   obtain ⟨⟨b, off, vs, hv, hp, hc⟩, _⟩ := hx
   refine ⟨rfl, _, fun w' hk => key a w' b off (vs.take i.size) hv ?_ ?_, ?_⟩
   ·have := hp.length
    rw [List.length_take]; omega
   ·intro j v hj
    rw [List.getElem?_take] at hj
    split at hj
    ·exact (hk.fz _ _ (hc j v hj).2).trans (hc j v hj).1
    ·cases hj
   ·simp only [Rep]
    exact ⟨_, rfl, Reps.of_pd (hp.take i.size)⟩
  ·cases he
 ·cases he

theorem snd_store {o : Oper} {t : TypeId} {x y : Operand} {i : TypeInfo} (ho : o.op = .store t x y) (hi : C.P.info? t = some i) : Sound C o (.store i.size x y) := by
 intro _ st g a w d st' hs he
 have hx := hs.ev x
 have hy := hs.ev y
 simp only [AOp.ex] at he
 split at he
 ·rename_i n off hev
  obtain ⟨ds, h3, h4⟩ := Option.bind_eq_some_iff.1 he
  split at h4
  ·rename_i hc
   cases h4
   rw [hev] at hx
   simp only [Rep] at hx
   obtain ⟨b, hb, hv⟩ := hx
   obtain ⟨b', cs, t', h5, h6, h7⟩ := hs.mem.bxs n ds h3
   rw [hb] at h5; cases h5
   have hyc := hy.cells hc.2.2.1
   have hlen : (a.eval y).cells.size = i.size := by rw [← Array.length_toList, hyc.length]; exact hc.1
   have hcl : cs.size = ds.length := by rw [← Array.length_toList, h7.length]
   have hrun := run_storeCells_at (P := C.P) b off t' (a.eval y).cells.toList 0 cs w h6 (by rw [Array.length_toList]; omega) (hyc.ones hc.2.2.1)
   have hset := hs.setbox n b ds h3 hb cs t' h6 hc.2.2.2 (cs.toList.take (off + 0) ++ (a.eval y).cells.toList ++ cs.toList.drop (off + 0 + (a.eval y).cells.toList.length)).toArray
    (ds.take off ++ ((st.ev y).cells ++ ds.drop (off + i.size))) (by
     simp only [Nat.add_zero, Array.length_toList, hlen]
     rw [List.append_assoc]
     exact (h7.take off).append (hyc.append (h7.drop _)))
   refine ⟨(fun h => by cases h), .skip, _, g, ?_, hset, ⟨fun b' o hf => ⟨hf, World.cell?_of_block (setRow_other w b b' _ (fun e => by subst e; exact (hs.mem.bxok n b' hb).2.2 o hf))⟩, fun k b' hk hkb => ⟨hkb, setRow_other w b b' _ (fun e => by
    subst e
    exact hk (by simp only [AOp.touch, hev, hs.mem.bxinj k n b' hkb hb]))⟩⟩, .inr ⟨rfl, rfl⟩⟩
   unfold execOp
   simp only [ho, hv, Instr.storeAt, Instr.sureAddr, storeVar, sizeOf, typeInfo, Sem.run_bind, run_program, Result.andThen_ok, hi, Sem.run_pure, hlen, ne_eq, not_true_eq_false, if_false, hrun, Sem.run_ite]
  ·cases h4
 ·cases he


variable {C : Ctx} {st st' : St} {g : Gh} {a : Act} {w : World}

theorem snd_ncheck {o : Oper} {x : Operand} (ho : o.op = .nilCheck x) : Sound C o (.ncheck x) := by
 refine Sound.quiet fun st g a w d st' hs he => ?_
 have hx := hs.ev x
 simp only [AOp.ex] at he
 split at he
 ·rename_i n off hev
  cases he
  rw [hev] at hx
  have hx' := hx
  simp only [Rep] at hx'
  obtain ⟨b, hb, hv⟩ := hx'
  exact ⟨rfl, a.eval x, fun w' _ => by unfold execOp; simp [ho, hv], hx⟩
 ·rename_i cs hev
  cases he
  rw [hev] at hx
  have hx' := hx
  simp only [Rep] at hx'
  obtain ⟨b, off, vs, hv, _⟩ := hx'
  exact ⟨rfl, a.eval x, fun w' _ => by unfold execOp; simp [ho, hv], hx⟩
 ·rename_i t' j' cs hev
  cases he
  rw [hev] at hx
  have hx' := hx
  simp only [Rep] at hx'
  obtain ⟨⟨b, off, vs, hv, _⟩, _⟩ := hx'
  exact ⟨rfl, a.eval x, fun w' _ => by unfold execOp; simp [ho, hv], hx⟩
 ·rename_i f caps hev
  cases he
  rw [hev] at hx
  have hx' := hx
  simp only [Rep] at hx'
  obtain ⟨cv, hv, _⟩ := hx'
  exact ⟨rfl, a.eval x, fun w' _ => by unfold execOp; simp [ho, hv], hx⟩
 ·rename_i f first caps hev
  cases he
  rw [hev] at hx
  have hv := raw_inv hx
  exact ⟨rfl, a.eval x, fun w' _ => by unfold execOp; simp [ho, hv], hx⟩
 ·cases he

theorem binV_one {op : BinOp} {a b v : Value} (h : binV op a b = some v) : v.oneCell' = true := by
 unfold binV at h
 split at h <;> first | (split at h <;> cases h <;> rfl) | (cases h; rfl) | cases h

theorem binV_run {P : Program} {op : BinOp} {a b v : Value} (h : binV op a b = some v) (t : TypeId) (x y : Operand) (w : World) :
 (do eqGuard op t x y a b; binOp op t a b : Sem Value).run P w = .ok v w := by
 unfold binV at h
 split at h
 iterate 3
  ·split at h
   ·rename_i e; subst e; cases h; simp [eqGuard, binOp, Op.intArith]
   ·cases h
 ·split at h
  ·rename_i e; obtain ⟨e1, e2⟩ := e; subst e1; cases h; simp [eqGuard, binOp, Op.intDiv, e2]
  ·cases h
 iterate 6
  ·split at h
   ·rename_i e; subst e; cases h; simp [eqGuard, binOp, Op.intCmp]; try rfl
   ·cases h
 iterate 3
  ·split at h
   ·rename_i e; subst e; cases h; simp [eqGuard, binOp, Op.intBits]
   ·cases h
 ·split at h
  ·rename_i e
   cases h
   have e' : ¬ (((_ : Nat) : Int) > IntKind.i64.max) := Int.not_lt.2 (Int.ofNat_le.2 e)
   simp only [eqGuard, binOp, Op.stringOp, Sem.run_bind, if_neg e']
   simp
  ·cases h
 iterate 6
  ·cases h
   simp [eqGuard, binOp, Op.stringOp, bytes_eq]
 ·split at h
  ·rename_i k a k' b e
   obtain ⟨rfl, h0⟩ := e
   cases h
   have e1 : min (1 : Int).toNat k.bits = 1 := by cases k <;> rfl
   have e2 : a.fdiv (2 ^ 1) = a / 2 := Int.fdiv_eq_ediv_of_nonneg a (by decide)
   simp [eqGuard, binOp, Op.shift]
   rw [show min 1 k.bits = 1 from e1]
   exact e2
  ·cases h
 ·cases h


variable {C : Ctx} {st st' : St} {g : Gh} {a : Act} {w : World}

theorem rep_raw {v : Value} (h : v.oneCell' = true) : Rep g w (.pd (.raw v)) v := by simp only [Rep]; exact .raw v h

theorem snd_bin {o : Oper} {op : BinOp} {t t2 : TypeId} {x y : Operand} (ho : o.op = .binOp op t x y t2) : Sound C o (.bin op x y) := by
 refine Sound.quiet fun st g a w d st' hs he => ?_
 simp only [AOp.ex] at he
 obtain ⟨d1, h1, h2⟩ := Option.map_eq_some_iff.1 he
 cases h2
 unfold binD at h1
 split at h1
 ·rename_i u v hu hv
  obtain ⟨r, h3, rfl⟩ := Option.map_eq_some_iff.1 h1
  have hx := hs.ev x
  have hy := hs.ev y
  rw [hu] at hx
  rw [hv] at hy
  have ex := raw_inv hx
  have ey := raw_inv hy
  refine ⟨rfl, r, ?_, rep_raw (binV_one h3)⟩
  intro w' _
  have := binV_run (P := C.P) h3 t x y w'
  unfold execOp
  simp only [ho, ex, ey]
  rw [Sem.run_bind, this]
  rfl
 ·cases h1

theorem binOp_eql_bool (t : TypeId) (a b : Bool) : binOp .eql t (.bool a) (.bool b) = (do pure (.bool (← Op.equal t (.bool a) (.bool b)))) := rfl
theorem binOp_neq_bool (t : TypeId) (a b : Bool) : binOp .neq t (.bool a) (.bool b) = (do pure (.bool (!(← Op.equal t (.bool a) (.bool b))))) := rfl
theorem binOp_eql_agg (t : TypeId) (a b : Array Value) : binOp .eql t (.agg a) (.agg b) = (do pure (.bool (← Op.equal t (.agg a) (.agg b)))) := rfl
theorem binOp_neq_agg (t : TypeId) (a b : Array Value) : binOp .neq t (.agg a) (.agg b) = (do pure (.bool (!(← Op.equal t (.agg a) (.agg b))))) := rfl

theorem snd_binB {o : Oper} {neg : Bool} {t t2 : TypeId} {x y : Operand} (ho : o.op = .binOp (if neg then .neq else .eql) t x y t2) (hu : C.P.underlying t = some .bool) : Sound C o (.binB neg x y) := by
 refine Sound.quiet fun st g a w d st' hs he => ?_
 simp only [AOp.ex] at he
 split at he
 ·rename_i u v hu' hv'
  cases he
  have hx := hs.ev x
  have hy := hs.ev y
  rw [hu'] at hx
  rw [hv'] at hy
  have ex := raw_inv hx
  have ey := raw_inv hy
  refine ⟨rfl, _, ?_, rep_raw rfl⟩
  intro w' _
  have heq : (Op.equal t (.bool u) (.bool v)).run C.P w' = .ok (u == v) w' := eq_scalar w' 9999 t .bool _ _ _ rfl (.inr (.inr ⟨hu, rfl⟩))
  unfold execOp
  cases neg
  ·simp only [ho, ex, ey, Bool.false_eq_true, if_false, binOp_eql_bool]
   simp [eqGuard, heq]
  ·simp only [ho, ex, ey, if_true, binOp_neq_bool]
   simp [eqGuard, heq]
 ·cases he

theorem raws_inv : ∀ {ds : List D} {vs us : List Value}, Reps g w ds vs → D.raws ds = some us → vs = us
 | [], _, _, h, hr => by
   simp only [D.raws, Option.some.injEq] at hr
   simp only [Reps] at h
   rw [h, ← hr]
 | d :: ds, _, _, h, hr => by
   simp only [Reps] at h
   obtain ⟨v, vs', rfl, hv, hs⟩ := h
   simp only [D.raws] at hr
   split at hr
   ·rename_i u us' h1
    cases hr
    rw [raw_inv hv, raws_inv hs h1]
   ·cases hr

theorem snd_eqs {o : Oper} {neg : Bool} {t t2 : TypeId} {fs : Array Field} {ks : List LK} {x y : Operand} (ho : o.op = .binOp (if neg then .neq else .eql) t x y t2) (hu : C.P.underlying t = some (.struct fs))
 (hk : leafs C.P 40 t = some ks) (hg : C.P.eqGuardType C.P.depth t = false) : Sound C o (.eqs neg ks x y) := by
 refine Sound.quiet fun st g a w d st' hs he => ?_
 simp only [AOp.ex] at he
 split at he
 ·rename_i ds es hu' hv'
  split at he
  ·rename_i xs ys hxs hys
   obtain ⟨b, h1, h2⟩ := Option.map_eq_some_iff.1 he
   cases h2
   have hx := hs.ev x
   have hy := hs.ev y
   rw [hu'] at hx
   rw [hv'] at hy
   simp only [Rep] at hx hy
   obtain ⟨vs, ex, hx⟩ := hx
   obtain ⟨us, ey, hy⟩ := hy
   have e1 := raws_inv hx hxs
   have e2 := raws_inv hy hys
   subst e1; subst e2
   have heq : ∀ w, (Op.equal t (.agg vs.toArray) (.agg us.toArray)).run C.P w = .ok b w := fun w => (eq_run (P := C.P) w 40 t ks hk Op.maxDepth (by decide) vs us b h1).1 fs hu
   refine ⟨rfl, _, ?_, rep_raw rfl⟩
   intro w' _
   unfold execOp
   cases neg
   ·simp only [ho, ex, ey, Bool.false_eq_true, if_false, binOp_eql_agg]
    simp [eqGuard, hg, heq]
   ·simp only [ho, ex, ey, if_true, binOp_neq_agg]
    simp [eqGuard, hg, heq]
  ·cases he
 ·cases he

theorem snd_un {o : Oper} {op : UnOp} {t : TypeId} {x : Operand} (ho : o.op = .unOp op t x) : Sound C o (.un op x) := by
 refine Sound.quiet fun st g a w d st' hs he => ?_
 simp only [AOp.ex] at he
 obtain ⟨d1, h1, h2⟩ := Option.map_eq_some_iff.1 he
 cases h2
 have hx := hs.ev x
 unfold unD at h1
 split at h1
 ·rename_i b hb
  cases h1
  rw [hb] at hx
  have ex := raw_inv hx
  exact ⟨rfl, _, fun w' _ => by unfold execOp; simp [ho, ex, Op.unary], rep_raw rfl⟩
 ·rename_i k n hb
  cases h1
  rw [hb] at hx
  have ex := raw_inv hx
  exact ⟨rfl, _, fun w' _ => by unfold execOp; simp [ho, ex, Op.unary, Op.intArith], rep_raw rfl⟩
 ·cases h1

theorem snd_conv {o : Oper} {s t : TypeId} {k q : IntKind} {x : Operand} (ho : o.op = .convert s t x) (hs1 : C.P.underlying s = some (.int q)) (ht : C.P.underlying t = some (.int k)) : Sound C o (.conv k x) := by
 refine Sound.quiet fun st g a w d st' hs he => ?_
 simp only [AOp.ex] at he
 have hx := hs.ev x
 split at he
 ·rename_i j n hb
  cases he
  rw [hb] at hx
  have ex := raw_inv hx
  exact ⟨rfl, _, fun w' _ => by unfold execOp; simp [ho, ex, convert, run_underlying hs1, run_underlying ht, Conv.intToInt], rep_raw rfl⟩
 ·cases he

theorem add_off (b o n : Nat) : (⟨b, o, none⟩ : Addr).add n = ⟨b, o + n, none⟩ := Addr.add_mid b o n

theorem snd_fieldA {o : Oper} {s : TypeId} {f : Nat} {fs : Array Field} {fd : Field} {i : TypeInfo} {x : Operand} (ho : o.op = .fieldAddr s x f) (hu : C.P.underlying s = some (.struct fs)) (hf : fs[f]? = some fd)
 (hi : C.P.info? fd.type = some i) (h0 : i.size ≠ 0) : Sound C o (.fieldA fd.offset x) := by
 have key : ∀ (a : Act) (w : World) (b off : Nat), a.eval x = .pointer (some ⟨b, off, none⟩) → (execOp a.eval o).run C.P w = .ok (.value (.pointer (some ⟨b, off + fd.offset, none⟩))) w := fun a w b off h1 => by
  unfold execOp
  simp [ho, h1, Instr.fieldAt, run_underlying hu, hf, Instr.sureAddr, fieldPlace, sizeOf, typeInfo, hi, h0, add_off]
 refine Sound.quiet fun st g a w d st' hs he => ?_
 simp only [AOp.ex] at he
 have hx := hs.ev x
 split at he
 ·rename_i n off hb
  cases he
  rw [hb] at hx
  simp only [Rep] at hx
  obtain ⟨b, h1, h2⟩ := hx
  exact ⟨rfl, _, fun w' _ => key a w' b off h2, by simp only [Rep]; exact ⟨b, h1, rfl⟩⟩
 ·rename_i cs hb
  cases he
  rw [hb] at hx
  simp only [Rep] at hx
  obtain ⟨b, off, vs, h1, h2, h3⟩ := hx
  refine ⟨rfl, _, fun w' _ => key a w' b off h1, ?_⟩
  simp only [Rep]
  refine ⟨b, off + fd.offset, vs.drop fd.offset, rfl, h2.drop _, fun j u hu => ?_⟩
  rw [List.getElem?_drop] at hu
  have := h3 _ _ hu
  rw [Nat.add_assoc]
  exact this
 ·rename_i cs hb
  cases he
  rw [hb] at hx
  simp only [Rep] at hx
  obtain ⟨⟨b, off, vs, h1, h2, h3⟩, _⟩ := hx
  refine ⟨rfl, _, fun w' _ => key a w' b off h1, ?_⟩
  simp only [Rep]
  refine ⟨b, off + fd.offset, vs.drop fd.offset, rfl, h2.drop _, fun j u hu => ?_⟩
  rw [List.getElem?_drop] at hu
  have := h3 _ _ hu
  rw [Nat.add_assoc]
  exact this
 ·cases he

theorem snd_field {o : Oper} {s : TypeId} {f : Nat} {fs : Array Field} {fd : Field} {x : Operand} {k : Option Nat} (ho : o.op = .field s x f) (hu : C.P.underlying s = some (.struct fs)) (hf : fs[f]? = some fd)
 (hk : aggSize C.P fd.type = some k) : Sound C o (.field fd.offset k x) := by
 refine Sound.quiet fun st g a w d st' hs he => ?_
 have hx := hs.ev x
 cases k with
 | none =>
   simp only [AOp.ex] at he
   split at he
   ·rename_i ds hb
    obtain ⟨d1, h1, h2⟩ := Option.map_eq_some_iff.1 he
    cases h2
    rw [hb] at hx
    simp only [Rep] at hx
    obtain ⟨vs, ex, hr⟩ := hx
    obtain ⟨v, h3, h4⟩ := hr.get _ _ h1
    obtain ⟨d0, hu0, hd0⟩ := aggSize_none hk
    refine ⟨rfl, v, ?_, h4⟩
    intro w' _
    unfold execOp
    simp [ho, ex, Instr.field, run_underlying hu, hf, asAgg, part_scalar w' fd.type vs fd.offset d0 hu0 hd0 v h3]
   ·cases he
 | some k =>
   simp only [AOp.ex] at he
   split at he
   ·rename_i ds hb
    split at he
    ·rename_i hle
     cases he
     rw [hb] at hx
     simp only [Rep] at hx
     obtain ⟨vs, ex, hr⟩ := hx
     obtain ⟨gs, i, hu0, hi0, rfl⟩ := aggSize_some hk
     refine ⟨rfl, .agg ((vs.drop fd.offset).take i.size).toArray, ?_, ?_⟩
     ·intro w' _
      unfold execOp
      simp [ho, ex, Instr.field, run_underlying hu, hf, asAgg, part_struct w' fd.type vs fd.offset gs hu0 i hi0]
     ·simp only [Rep]
      exact ⟨_, rfl, (hr.drop _).take _⟩
    ·cases he
   ·cases he

theorem snd_idxA {o : Oper} {t e : TypeId} {ie : TypeInfo} {x i : Operand} (ho : o.op = .indexAddr t x i) (hu : C.P.underlying t = some (.slice e)) (hi : C.P.info? e = some ie) : Sound C o (.idxA ie.size x i) := by
 refine Sound.quiet fun st g a w d st' hs he => ?_
 simp only [AOp.ex] at he
 have hx := hs.ev x
 have hix := hs.ev i
 split at he
 ·rename_i els k n hel hev
  split at he
  ·rename_i h0
   split at he
   ·rename_i row hrow
    split at he
    ·rename_i hlen
     cases he
     rw [hev] at hix
     have ei := raw_inv hix
     have hp := hx.els hel
     obtain ⟨hlt, hget⟩ := List.getElem?_eq_some_iff.1 hrow
     generalize hv : a.eval x = v at hp
     cases hp with
     | empty => simp at hlt
     | slice b off m cap sz els vals hn hpos hcap hmax hlens hc hr =>
       subst hn
       have hrr := hr n.toNat hlt
       rw [List.getD_eq_getElem?_getD, hrow, Option.getD_some] at hrr
       have hsz : sz = ie.size := by rw [← hlens n.toNat hlt, hrr.length]; exact hlen
       subst hsz
       have hn' : n < (els.length : Int) := by omega
       refine ⟨rfl, .pointer (some ⟨b, off + n.toNat * ie.size, none⟩), ?_, ?_⟩
       ·intro w' _
        unfold execOp
        simp [ho, hv, ei, Instr.indexAt, asIntOf, run_underlying hu, h0, hn', sizeOf, typeInfo, hi, add_off]
       ·have he : ∃ b' off' vs', (Value.pointer (some ⟨b, off + n.toNat * ie.size, none⟩)) = .pointer (some ⟨b', off', none⟩) ∧ PReps g.Fz w vs' row ∧ ∀ i u, vs'[i]? = some u → w.cell? ⟨b', off' + i, none⟩ = some u ∧ g.Fz b' (off' + i) :=
         ⟨b, _, vals n.toNat, rfl, hrr, fun j u hj => hc n.toNat j u hlt hj⟩
        unfold eltD
        split
        ·rename_i e' sz' els' t' hown
         rw [hown] at hx
         simp only [Rep] at hx
         obtain ⟨_, htk, _⟩ := hx
         rw [hv] at htk
         obtain ⟨i', n', xs', _, _, how, _⟩ := hs.mem.tks _ _ _ htk
         have h0' : off = 0 := by
          rcases how.2 with ⟨e1, _⟩ | ⟨g1, cap1, cur1, e1, _⟩
          ·cases e1
          ·cases e1; rfl
         subst h0'
         simp only [Rep]
         exact ⟨he, b, _, _, _, htk, by rw [hlen, Nat.zero_add]⟩
        ·simp only [Rep]
         exact he
    ·cases he
   ·cases he
  ·cases he
 ·cases he

theorem snd_idxS {o : Oper} {t : TypeId} {x i : Operand} (ho : o.op = .index t x i) (hu : C.P.underlying t = some .string) : Sound C o (.idxS x i) := by
 refine Sound.quiet fun st g a w d st' hs he => ?_
 simp only [AOp.ex] at he
 have hx := hs.ev x
 have hix := hs.ev i
 split at he
 ·rename_i s k n hel hev
  split at he
  ·rename_i h0
   obtain ⟨b, h1, h2⟩ := Option.map_eq_some_iff.1 he
   cases h2
   rw [hev] at hix
   rw [hel] at hx
   have ei := raw_inv hix
   have ex := raw_inv hx
   refine ⟨rfl, _, ?_, rep_raw rfl⟩
   intro w' _
   unfold execOp
   simp [ho, ex, ei, Instr.index, asIntOf, run_underlying hu, h0, h1]
  ·cases he
 ·cases he

theorem snd_extract {o : Oper} {x : Operand} {j : Nat} (ho : o.op = .extract x j) : Sound C o (.extract x j) := by
 refine Sound.quiet fun st g a w d st' hs he => ?_
 simp only [AOp.ex] at he
 have hx := hs.ev x
 split at he
 ·rename_i ds hb
  obtain ⟨d1, h1, h2⟩ := Option.map_eq_some_iff.1 he
  cases h2
  rw [hb] at hx
  simp only [Rep] at hx
  obtain ⟨vs, ex, hr⟩ := hx
  obtain ⟨v, h3, h4⟩ := hr.get _ _ h1
  exact ⟨rfl, v, fun w' _ => by unfold execOp; simp [ho, ex, Instr.extract, h3], h4⟩
 ·cases he

theorem snd_mkfn {o : Oper} {f : FuncId} {caps : Array Operand} (ho : o.op = .makeFunc (.func f) #[] caps) : Sound C o (.mkfn f caps.toList) := by
 refine Sound.quiet fun st g a w d st' hs he => ?_
 simp only [AOp.ex] at he
 obtain ⟨cs, h1, h2⟩ := Option.map_eq_some_iff.1 he
 cases h2
 have := Reps.caps (Reps.evs hs caps.toList) h1
 refine ⟨rfl, .func (.func f) #[] (caps.map a.eval), fun w' _ => by unfold execOp; simp [ho, Instr.makeFunc], ?_⟩
 simp only [Rep]
 exact ⟨caps.toList.map a.eval, by rw [← Array.toList_map], this⟩

theorem snd_mkif {o : Oper} {t : TypeId} {u : TypeDesc} {x : Operand} (ho : o.op = .makeInterface t x) (hu : C.P.underlying t = some u) (hn : ∀ ms, u ≠ .interface ms) : Sound C o (.mkif t x) := by
 have key : ∀ (a : Act) (w : World), (execOp a.eval o).run C.P w = .ok (.value (.iface t (a.eval x))) w := fun a w => by
  unfold execOp
  simp only [ho, Instr.makeInterface, Sem.run_bind, run_underlying hu, Result.andThen_ok]
  cases u <;> first | rfl | exact absurd rfl (hn _)
 refine Sound.quiet fun st g a w d st' hs he => ?_
 simp only [AOp.ex] at he
 have hx := hs.ev x
 split at he
 ·rename_i ds hb
  obtain ⟨cs, h1, h2⟩ := Option.map_eq_some_iff.1 he
  cases h2
  rw [hb] at hx
  simp only [Rep] at hx
  obtain ⟨vs, ex, hr⟩ := hx
  refine ⟨rfl, _, fun w' _ => key a w', ?_⟩
  rw [ex]
  simp only [Rep]
  exact .ifaceAgg t vs cs (hr.toPDs h1)
 ·obtain ⟨c, h1, h2⟩ := Option.map_eq_some_iff.1 he
  cases h2
  refine ⟨rfl, _, fun w' _ => key a w', ?_⟩
  simp only [Rep]
  exact .iface t _ c (hx.toPD h1)

theorem els_slice {d : D} {v : Value} {els : List (List PD)} (h : Rep g w d v) (hx : d.els = some els) : ∃ b cap, v = .slice b els.length cap := by
 have hp := h.els hx
 cases hp with
 | empty a cap => exact ⟨a, cap, rfl⟩
 | slice b off n cap sz els vals hn hpos hcap hmax hlen hc hr => subst hn; exact ⟨_, cap, rfl⟩

theorem snd_len {o : Oper} {c : Call} {t : TypeId} {u : TypeDesc} {x : Operand} (ho : o.op = .call c) (hc : c.callee = .builtin .len) (ha : c.args.toList = [x]) (ht : c.argTypes.toList = [t])
 (hu : C.P.underlying t = some u) (hsu : u = .string ∨ ∃ e, u = .slice e) : Sound C o (.len x (match u with | .string => true | _ => false)) := by
 have ha' : c.args = #[x] := by rw [← Array.toArray_toList (xs := c.args), ha]
 have ht' : c.argTypes = #[t] := by rw [← Array.toArray_toList (xs := c.argTypes), ht]
 refine Sound.quiet fun st g a w d st' hs he => ?_
 have hx := hs.ev x
 rcases hsu with rfl | ⟨e, rfl⟩
 ·simp only [AOp.ex] at he
  split at he
  ·rename_i s hb
   cases he
   rw [hb] at hx
   have ex := raw_inv hx
   refine ⟨rfl, _, ?_, rep_raw rfl⟩
   intro w' _
   unfold execOp
   simp [ho, resolve, hc, ha', ht', invoke, builtin, Builtin.len_, run_underlying hu, ex, goInt]
  ·cases he
 ·simp only [AOp.ex] at he
  obtain ⟨els, h1, h2⟩ := Option.map_eq_some_iff.1 he
  cases h2
  obtain ⟨b, cap, ex⟩ := els_slice hx h1
  refine ⟨rfl, _, ?_, rep_raw rfl⟩
  intro w' _
  unfold execOp
  simp [ho, resolve, hc, ha', ht', invoke, builtin, Builtin.len_, run_underlying hu, ex, goInt]

theorem bound_run (hs : SR C st g a w) {n h : Nat} {x : Option Operand} (hb : boundD st n x = some h) : (x = none ∧ h = n) ∨ ∃ y k i, x = some y ∧ a.eval y = .int k i ∧ 0 ≤ i ∧ h = i.toNat := by
 unfold boundD at hb
 split at hb
 ·cases hb; exact .inl ⟨rfl, rfl⟩
 ·rename_i y
  split at hb
  ·rename_i k i hev
   split at hb
   ·rename_i h0
    cases hb
    have hy := hs.ev y
    rw [hev] at hy
    exact .inr ⟨y, k, i, rfl, raw_inv hy, h0, rfl⟩
   ·cases hb
  ·cases hb

theorem bounds_run (hs : SR C st g a w) {len l h cap : Nat} {lo hi : Option Operand} (hlo : boundD st 0 lo = some l) (hhi : boundD st len hi = some h) (h1 : l ≤ h) (h2 : h ≤ len) (hc : len ≤ cap) (isS : Bool) (w' : World) :
 (Instr.sliceBounds isS len cap (lo.map a.eval) (hi.map a.eval) none).run C.P w' = .ok (l, h, cap) w' := by
 rcases bound_run hs hlo with ⟨rfl, rfl⟩ | ⟨y, k, i, rfl, e1, e2, rfl⟩ <;> rcases bound_run hs hhi with ⟨rfl, rfl⟩ | ⟨y', k', i', rfl, e3, e4, rfl⟩
 ·simp [Instr.sliceBounds]
 ·have h5 : i' ≤ (cap : Int) := by omega
  simp [Instr.sliceBounds, e3, run_sliceBound, e4, h5]
 ·have h5 : i ≤ (h : Int) := by omega
  simp [Instr.sliceBounds, e1, run_sliceBound, e2, h5]
 ·have h5 : i' ≤ (cap : Int) := by omega
  have h6 : i ≤ i' := by omega
  have h7 : (i'.toNat : Int) = i' := Int.toNat_of_nonneg e4
  simp [Instr.sliceBounds, e1, e3, run_sliceBound, e2, e4, h5, h6, h7]

theorem snd_slcS {o : Oper} {t : TypeId} {x : Operand} {lo hi : Option Operand} (ho : o.op = .slice t x lo hi none) (hu : C.P.underlying t = some .string) : Sound C o (.slcS x lo hi) := by
 refine Sound.quiet fun st g a w d st' hs he => ?_
 simp only [AOp.ex] at he
 split at he
 ·rename_i s hev
  split at he
  ·rename_i l h hl hh
   split at he
   ·rename_i hc
    cases he
    have hx := hs.ev x
    rw [hev] at hx
    have ex := raw_inv hx
    refine ⟨rfl, _, fun w' _ => ?_, rep_raw rfl⟩
    unfold execOp
    simp [ho, ex, run_sliceAt_string _ _ _ _ _ _ hu, Instr.slice, run_underlying hu, bounds_run hs hl hh hc.1 hc.2 (Nat.le_refl _) false w']
   ·cases he
  ·cases he
 ·cases he

theorem snd_slcL {o : Oper} {t e : TypeId} {ie : TypeInfo} {x : Operand} {lo hi : Option Operand} (ho : o.op = .slice t x lo hi none) (hu : C.P.underlying t = some (.slice e)) (hi' : C.P.info? e = some ie) : Sound C o (.slcL ie.size x lo hi) := by
 refine Sound.quiet fun st g a w d st' hs he => ?_
 simp only [AOp.ex] at he
 split at he
 ·rename_i els hel
  split at he
  ·rename_i l h hl hh
   split at he
   ·rename_i hc
    cases he
    have hp := (hs.ev x).els hel
    have hsl : ∀ w' v, (Instr.sliceAt t v (lo.map a.eval) (hi.map a.eval) none).run C.P w' = (Instr.slice t v (lo.map a.eval) (hi.map a.eval) none).run C.P w' := fun w' v => by
     simp [Instr.sliceAt, run_underlying hu]
    generalize hv : a.eval x = v at hp
    cases hp with
    | empty ad cap =>
      have hh0 : h = 0 := by simpa using hc.2.1
      subst hh0
      have hl0 : l = 0 := by omega
      subst hl0
      refine ⟨rfl, .slice (if cap = 0 then ad else ad.map fun q => q.add 0) 0 cap, fun w' _ => ?_, ?_⟩
      ·unfold execOp
       have hb := bounds_run (len := 0) (cap := cap) hs hl hh hc.1 hc.2.1 (Nat.zero_le cap) true w'
       simp only [ho, hv, Sem.run_bind, Option.map_none, hsl]
       simp [Instr.slice, run_underlying hu, hb, sizeOf, typeInfo, hi']
      ·simp only [Rep]
       simp only [List.take_nil, List.drop_nil]
       exact .empty _ _
    | slice b off m cap sz els vals hn hpos hcap hmax hlens hcl hr =>
      subst hn
      have hrun : ∀ w', (execOp a.eval o).run C.P w' = .ok (.value (.slice (if cap = l then some ⟨b, off, none⟩ else some ⟨b, off + l * ie.size, none⟩) (h - l) (cap - l))) w' := fun w' => by
       unfold execOp
       have hb := bounds_run hs hl hh hc.1 hc.2.1 hcap true w'
       simp only [ho, hv, Sem.run_bind, Option.map_none, hsl]
       simp [Instr.slice, run_underlying hu, hb, sizeOf, typeInfo, hi', add_off]
      refine ⟨rfl, _, fun w' _ => hrun w', ?_⟩
      simp only [Rep]
      have hlen : ((els.take h).drop l).length = h - l := by rw [List.length_drop, List.length_take]; omega
      rcases Nat.eq_zero_or_pos (h - l) with h0 | hp
      ·have e1 : (els.take h).drop l = [] := List.eq_nil_of_length_eq_zero (by omega)
       rw [e1, h0]
       exact .empty _ _
      ·have hsz : sz = ie.size := by
        rw [← hlens 0 hpos, (hr 0 hpos).length, List.getD_eq_getElem?_getD, List.getElem?_eq_getElem hpos, Option.getD_some]
        exact hc.2.2 _ (List.getElem_mem _)
       subst hsz
       rw [if_neg (by omega)]
       refine .slice b (off + l * ie.size) (h - l) (cap - l) ie.size _ (fun j => vals (l + j)) hlen hp (by omega) (by omega) (fun j hj => hlens _ (by omega)) (fun j i u hj hu => ?_) (fun j hj => ?_)
       ·have := hcl (l + j) i u (by omega) hu
        rw [Nat.add_mul] at this
        rw [Nat.add_assoc off]
        exact this
       ·have := hr (l + j) (by omega)
        rw [List.getD_eq_getElem?_getD] at this ⊢
        rw [List.getElem?_drop, List.getElem?_take_of_lt (by omega)]
        exact this
   ·cases he
  ·cases he
 ·cases he

theorem snd_slcF {o : Oper} {t e : TypeId} {ie : TypeInfo} {x hi mx : Operand} (ho : o.op = .slice t x none (some hi) (some mx)) (hu : C.P.underlying t = some (.slice e)) (hi' : C.P.info? e = some ie) : Sound C o (.slcF ie.size x hi mx) := by
 refine Sound.quiet fun st g a w d st' hs he => ?_
 simp only [AOp.ex] at he
 split at he
 ·rename_i els hel
  split at he
  ·rename_i h m hh hm
   split at he
   ·rename_i hc
    cases he
    obtain ⟨rfl, hle, hrows⟩ := hc
    have hp := (hs.ev x).els hel
    rcases bound_run hs hh with ⟨hnone, _⟩ | ⟨y, k, i, hy, e1, e2, e3⟩
    ·cases hnone
    ·rcases bound_run hs hm with ⟨hnone, _⟩ | ⟨y', k', i', hy', e1', e2', e3'⟩
     ·cases hnone
     ·cases hy; cases hy'
      have hsl : ∀ w' v, (Instr.sliceAt t v none (some (a.eval hi)) (some (a.eval mx))).run C.P w' = (Instr.slice t v none (some (a.eval hi)) (some (a.eval mx))).run C.P w' := fun w' v => by
       simp [Instr.sliceAt, run_underlying hu]
      have hb : ∀ (len cap : Nat) (w' : World), h ≤ len → len ≤ cap → (Instr.sliceBounds true len cap none (some (a.eval hi)) (some (a.eval mx))).run C.P w' = .ok (0, h, h) w' := fun len cap w' h1 h2 => by
       have h5 : i' ≤ (cap : Int) := by omega
       have h6 : i ≤ (h : Int) := by omega
       have h7 : i ≤ i' := by omega
       have h8 : i.toNat = h := by omega
       have h9 : i'.toNat = h := by omega
       simp [Instr.sliceBounds, e1, e1', run_sliceBound, e2, e2', h5, h6, h7, h8, h9]
      generalize hv : a.eval x = v at hp
      cases hp with
      | empty ad cap =>
        have hh0 : h = 0 := by simpa using hle
        subst hh0
        refine ⟨rfl, .slice ad 0 0, fun w' _ => ?_, ?_⟩
        ·unfold execOp
         simp only [ho, hv, Sem.run_bind, Option.map_none, Option.map_some, hsl]
         simp [Instr.slice, run_underlying hu, hb 0 cap w' (Nat.le_refl _) (Nat.zero_le _), sizeOf, typeInfo, hi']
        ·simp only [Rep, List.take_nil]
         exact ⟨.empty _ _, ⟨ad, rfl⟩, by simp⟩
      | slice b off m cap sz els vals hn hpos hcap hmax hlens hcl hr =>
        subst hn
        have hrun : ∀ w', (execOp a.eval o).run C.P w' = .ok (.value (.slice (some ⟨b, off, none⟩) h h)) w' := fun w' => by
         unfold execOp
         simp only [ho, hv, Sem.run_bind, Option.map_none, Option.map_some, hsl]
         simp [Instr.slice, run_underlying hu, hb _ cap w' hle hcap, sizeOf, typeInfo, hi', add_off]
        refine ⟨rfl, _, fun w' _ => hrun w', ?_⟩
        simp only [Rep]
        have hlen : (els.take h).length = h := by rw [List.length_take]; omega
        have hrl : ∀ r ∈ els.take h, r.length = ie.size := fun r hr' => hrows r (List.mem_of_mem_take hr')
        refine ⟨?_, ⟨_, by rw [hlen]⟩, hrl⟩
        rcases Nat.eq_zero_or_pos h with h0 | hp
        ·subst h0
         exact .empty _ _
        ·refine .slice b off h h sz _ vals hlen hp (Nat.le_refl _) (by omega) (fun j hj => hlens _ (by omega)) (fun j i u hj hu => hcl j i u (by omega) hu) (fun j hj => ?_)
         have := hr j (by omega)
         rw [List.getD_eq_getElem?_getD] at this ⊢
         rw [List.getElem?_take_of_lt (by omega)]
         exact this
   ·cases he
  ·cases he
 ·cases he

theorem snd_minmax {o : Oper} {c : Call} {mx : Bool} {x y : Operand} (ho : o.op = .call c) (hc : c.callee = .builtin (if mx then .max else .min)) (ha : c.args.toList = [x, y]) : Sound C o (.minmax mx x y) := by
 have ha' : c.args = #[x, y] := by rw [← Array.toArray_toList (xs := c.args), ha]
 refine Sound.quiet fun st g a w d st' hs he => ?_
 simp only [AOp.ex] at he
 split at he
 ·rename_i k p j q h1 h2
  split at he
  ·rename_i hkj
   subst hkj
   cases he
   have hx := hs.ev x
   have hy := hs.ev y
   rw [h1] at hx
   rw [h2] at hy
   have ex := raw_inv hx
   have ey := raw_inv hy
   refine ⟨rfl, _, fun w' _ => ?_, rep_raw rfl⟩
   unfold execOp
   cases mx
   ·simp [ho, resolve, hc, ha', invoke, builtin, Builtin.min_, Builtin.min2, ex, ey]
   ·simp [ho, resolve, hc, ha', invoke, builtin, Builtin.max_, Builtin.max2, ex, ey]
  ·cases he
 ·cases he

end Go.Proofs.YtjgpdjakehoofaaGreatDoor


