/- The abstract layer, part 1: plain data, abstract values, what stands for what in memory, and how that lasts. -/
import Derived.Maps.AppendAt
import Derived.Below
import Derived.Deep.MidRow
import Derived.Laws.Rows
import Derived.WalkKit
namespace Go.Proofs.YtbpgebfejebmlaaGreatDoor
open Go Go.RowKit
set_option linter.unusedSimpArgs false
set_option linter.unusedVariables false

/-- Plain data: a value without addresses; a slice of rows of cells; a value in an interface. -/
inductive PD where
  | raw (v : Value)
  | slice (els : List (List PD))
  | iface (t : TypeId) (agg : Bool) (cs : List PD)
  deriving Inhabited

mutual
/-- A machine value stands for plain data: all that it leads to lies in cells of 'Fz', which nobody writes any more. -/
inductive PRep (Fz : Nat → Nat → Prop) (w : World) : Value → PD → Prop
  | raw (v : Value) (h1 : v.oneCell' = true) : PRep Fz w v (.raw v)
  | empty (a : Option Addr) (cap : Nat) : PRep Fz w (.slice a 0 cap) (.slice [])
  | slice (b off n cap sz : Nat) (els : List (List PD)) (vals : Nat → List Value) (hn : els.length = n) (hpos : 0 < n) (hcap : n ≤ cap) (hmax : n ≤ maxLen)
      (hlen : ∀ j, j < n → (vals j).length = sz)
      (hc : ∀ j i u, j < n → (vals j)[i]? = some u → w.cell? ⟨b, off + j * sz + i, none⟩ = some u ∧ Fz b (off + j * sz + i))
      (hr : ∀ j, j < n → PReps Fz w (vals j) (els.getD j [])) : PRep Fz w (.slice (some ⟨b, off, none⟩) n cap) (.slice els)
  | iface (t : TypeId) (v : Value) (d : PD) (h : PRep Fz w v d) : PRep Fz w (.iface t v) (.iface t false [d])
  | ifaceAgg (t : TypeId) (vs : List Value) (ds : List PD) (h : PReps Fz w vs ds) : PRep Fz w (.iface t (.agg vs.toArray)) (.iface t true ds)
inductive PReps (Fz : Nat → Nat → Prop) (w : World) : List Value → List PD → Prop
  | nil : PReps Fz w [] []
  | cons (v : Value) (d : PD) (vs : List Value) (ds : List PD) (h : PRep Fz w v d) (hs : PReps Fz w vs ds) : PReps Fz w (v :: vs) (d :: ds)
end

/-- What was frozen stays, and reads as it did. -/
def Ex (Fz : Nat → Nat → Prop) (w : World) (Fz' : Nat → Nat → Prop) (w' : World) : Prop :=
  ∀ b o, Fz b o → Fz' b o ∧ w'.cell? ⟨b, o, none⟩ = w.cell? ⟨b, o, none⟩

theorem Ex.refl (Fz : Nat → Nat → Prop) (w : World) : Ex Fz w Fz w := fun _ _ h => ⟨h, rfl⟩
theorem Ex.trans {F1 F2 F3 : Nat → Nat → Prop} {w1 w2 w3 : World} (h : Ex F1 w1 F2 w2) (k : Ex F2 w2 F3 w3) : Ex F1 w1 F3 w3 :=
  fun b o hf => ⟨(k b o (h b o hf).1).1, (k b o (h b o hf).1).2.trans (h b o hf).2⟩

section
variable {Fz Fz' : Nat → Nat → Prop} {w w' : World}

theorem PRep.mono {v : Value} {d : PD} (h : PRep Fz w v d) (hx : Ex Fz w Fz' w') : PRep Fz' w' v d := by
  refine PRep.rec (Fz := Fz) (w := w) (motive_1 := fun v d _ => PRep Fz' w' v d) (motive_2 := fun vs ds _ => PReps Fz' w' vs ds) ?_ ?_ ?_ ?_ ?_ ?_ ?_ h
  · exact fun v h1 => .raw v h1
  · exact fun a cap => .empty a cap
  · intro b off n cap sz els vals hn hpos hcap hmax hlen hc hr ih
    exact .slice b off n cap sz els vals hn hpos hcap hmax hlen (fun j i u hj hu => by
      obtain ⟨h1, h2⟩ := hc j i u hj hu
      exact ⟨(hx _ _ h2).2.trans h1, (hx _ _ h2).1⟩) ih
  · exact fun t v d _ ih => .iface t v d ih
  · exact fun t vs ds _ ih => .ifaceAgg t vs ds ih
  · exact .nil
  · exact fun v d vs ds _ _ ih ihs => .cons v d vs ds ih ihs

theorem PReps.mono {vs : List Value} {ds : List PD} (h : PReps Fz w vs ds) (hx : Ex Fz w Fz' w') : PReps Fz' w' vs ds := by
  induction ds generalizing vs with
  | nil => cases h; exact .nil
  | cons d ds ih => cases h with | cons v _ vs _ h hs => exact .cons _ _ _ _ (h.mono hx) (ih hs)

theorem PReps.length {vs : List Value} {ds : List PD} (h : PReps Fz w vs ds) : vs.length = ds.length := by
  induction ds generalizing vs with
  | nil => cases h; rfl
  | cons d ds ih => cases h with | cons v _ vs _ h hs => simp [ih hs]

theorem PReps.get {vs : List Value} {ds : List PD} (h : PReps Fz w vs ds) (i : Nat) (d : PD) (hd : ds[i]? = some d) : ∃ v, vs[i]? = some v ∧ PRep Fz w v d := by
  induction ds generalizing vs i with
  | nil => simp at hd
  | cons e ds ih =>
    cases h with
    | cons v _ vs _ h hs =>
      cases i with
      | zero => simp at hd; subst hd; exact ⟨v, by simp, h⟩
      | succ i => simpa using ih hs i (by simpa using hd)

theorem PReps.drop {vs : List Value} {ds : List PD} (h : PReps Fz w vs ds) (i : Nat) : PReps Fz w (vs.drop i) (ds.drop i) := by
  induction i generalizing vs ds with
  | zero => simpa using h
  | succ i ih => cases h with
    | nil => simpa using PReps.nil
    | cons v d vs ds h hs => simpa using ih hs

theorem PReps.take {vs : List Value} {ds : List PD} (h : PReps Fz w vs ds) (i : Nat) : PReps Fz w (vs.take i) (ds.take i) := by
  induction i generalizing vs ds with
  | zero => simpa using PReps.nil
  | succ i ih => cases h with
    | nil => simpa using PReps.nil
    | cons v d vs ds h hs => simpa using PReps.cons v d _ _ h (ih hs)

theorem PReps.append {vs us : List Value} {ds es : List PD} (h : PReps Fz w vs ds) (k : PReps Fz w us es) : PReps Fz w (vs ++ us) (ds ++ es) := by
  induction ds generalizing vs with
  | nil => cases h; simpa using k
  | cons d ds ih => cases h with | cons v _ vs _ h hs => simpa using PReps.cons v d _ _ h (ih hs)

theorem PRep.one {v : Value} {d : PD} (h : PRep Fz w v d) : v.oneCell' = true := by
  cases h <;> first | assumption | rfl

theorem PReps.ones {vs : List Value} {ds : List PD} (h : PReps Fz w vs ds) : ∀ u ∈ vs, u.oneCell' = true := by
  induction ds generalizing vs with
  | nil => cases h; simp
  | cons d ds ih => cases h with
    | cons v _ vs _ h hs =>
      intro u hu
      rcases List.mem_cons.1 hu with rfl | hu
      · exact h.one
      · exact ih hs u hu
end

/-- An abstract value: plain data; the nil slice; a slice whose room behind its end is the function's own (its element type; a name); the address of a variable's cell (by name); an element's address; a function value and the variables that it captured; a map (by name); a struct; a tuple; whatever. -/
inductive D where
  | pd (x : PD)
  | nils
  | own (e : TypeId) (sz : Nat) (els : List (List PD)) (t : Nat)
  | ptr (n off : Nat)
  | eptr (cs : List PD)
  | fn (f : FuncId) (caps : List (Nat × Nat))
  | mp (n : Nat)
  | agg (ds : List D)
  | tup (ds : List D)
  | any
  deriving Inhabited

structure Gh where
  bx : Nat → Option Nat
  tk : Nat → Option (Value × TypeId)
  Fz : Nat → Nat → Prop
  df : List Nat

/-- The addresses of captured variables. -/
def Caps (g : Gh) : List (Nat × Nat) → List Value → Prop
  | [], vs => vs = []
  | c :: cs, vs => ∃ b vs', vs = .pointer (some ⟨b, c.2, none⟩) :: vs' ∧ g.bx c.1 = some b ∧ Caps g cs vs'

mutual
def Rep (g : Gh) (w : World) : D → Value → Prop
  | .pd x, v => PRep g.Fz w v x
  | .nils, v => v = .slice none 0 0
  | .own e sz els t, v => PRep g.Fz w v (.slice els) ∧ g.tk t = some (v, e) ∧ ∀ r ∈ els, r.length = sz
  | .ptr n off, v => ∃ b, g.bx n = some b ∧ v = .pointer (some ⟨b, off, none⟩)
  | .eptr cs, v => ∃ b off vs, v = .pointer (some ⟨b, off, none⟩) ∧ PReps g.Fz w vs cs ∧ ∀ i u, vs[i]? = some u → w.cell? ⟨b, off + i, none⟩ = some u ∧ g.Fz b (off + i)
  | .fn f caps, v => ∃ cv, v = .func (.func f) #[] cv.toArray ∧ Caps g caps cv
  | .mp n, v => ∃ b, g.bx n = some b ∧ v = .map (some b)
  | .agg ds, v => ∃ vs, v = .agg vs.toArray ∧ Reps g w ds vs
  | .tup ds, v => ∃ vs, v = .tuple vs.toArray ∧ Reps g w ds vs
  | .any, _ => True
def Reps (g : Gh) (w : World) : List D → List Value → Prop
  | [], vs => vs = []
  | d :: ds, vs => ∃ v vs', vs = v :: vs' ∧ Rep g w d v ∧ Reps g w ds vs'
end

/-- The ghost grows: names stay, what was frozen stays. -/
structure Gr (g : Gh) (w : World) (g' : Gh) (w' : World) : Prop where
  bx : ∀ n b, g.bx n = some b → g'.bx n = some b
  tk : ∀ t x, g.tk t = some x → g'.tk t = some x
  ex : Ex g.Fz w g'.Fz w'

theorem Gr.refl (g : Gh) (w : World) : Gr g w g w := ⟨fun _ _ h => h, fun _ _ h => h, Ex.refl _ _⟩

theorem Caps.mono {g g' : Gh} (hb : ∀ n b, g.bx n = some b → g'.bx n = some b) : ∀ {cs : List (Nat × Nat)} {vs : List Value}, Caps g cs vs → Caps g' cs vs
  | [], _, h => h
  | _ :: _, _, ⟨b, vs', e, h, hs⟩ => ⟨b, vs', e, hb _ _ h, Caps.mono hb hs⟩

mutual
theorem Rep.mono {g g' : Gh} {w w' : World} (hg : Gr g w g' w') : ∀ {d : D} {v : Value}, Rep g w d v → Rep g' w' d v
  | .pd _, _, h => by simp only [Rep] at h ⊢; exact h.mono hg.ex
  | .nils, _, h => by simp only [Rep] at h ⊢; exact h
  | .own _ _ _ _, _, h => by simp only [Rep] at h ⊢; exact ⟨h.1.mono hg.ex, hg.tk _ _ h.2.1, h.2.2⟩
  | .ptr _ _, _, h => by simp only [Rep] at h ⊢; obtain ⟨b, hb, e⟩ := h; exact ⟨b, hg.bx _ _ hb, e⟩
  | .eptr _, _, h => by
    simp only [Rep] at h ⊢
    obtain ⟨b, off, vs, e, hp, hc⟩ := h
    exact ⟨b, off, vs, e, hp.mono hg.ex, fun i u hu => ⟨(hg.ex _ _ (hc i u hu).2).2.trans (hc i u hu).1, (hg.ex _ _ (hc i u hu).2).1⟩⟩
  | .fn _ _, _, h => by simp only [Rep] at h ⊢; obtain ⟨cv, e, hc⟩ := h; exact ⟨cv, e, hc.mono hg.bx⟩
  | .mp _, _, h => by simp only [Rep] at h ⊢; obtain ⟨b, hb, e⟩ := h; exact ⟨b, hg.bx _ _ hb, e⟩
  | .agg _, _, h => by simp only [Rep] at h ⊢; obtain ⟨vs, e, hs⟩ := h; exact ⟨vs, e, Reps.mono hg hs⟩
  | .tup _, _, h => by simp only [Rep] at h ⊢; obtain ⟨vs, e, hs⟩ := h; exact ⟨vs, e, Reps.mono hg hs⟩
  | .any, _, _ => by simp only [Rep]
theorem Reps.mono {g g' : Gh} {w w' : World} (hg : Gr g w g' w') : ∀ {ds : List D} {vs : List Value}, Reps g w ds vs → Reps g' w' ds vs
  | [], _, h => by simp only [Reps] at h ⊢; exact h
  | _ :: _, _, h => by simp only [Reps] at h ⊢; obtain ⟨v, vs', e, hv, hs⟩ := h; exact ⟨v, vs', e, Rep.mono hg hv, Reps.mono hg hs⟩
end

theorem Reps.length {g : Gh} {w : World} : ∀ {ds : List D} {vs : List Value}, Reps g w ds vs → vs.length = ds.length
  | [], _, h => by simp only [Reps] at h; simp [h]
  | _ :: _, _, h => by simp only [Reps] at h; obtain ⟨v, vs', rfl, _, hs⟩ := h; simp [Reps.length hs]

theorem Reps.get {g : Gh} {w : World} : ∀ {ds : List D} {vs : List Value} (_ : Reps g w ds vs) (i : Nat) (d : D), ds[i]? = some d → ∃ v, vs[i]? = some v ∧ Rep g w d v
  | [], _, _, _, _, hd => by simp at hd
  | e :: ds, _, h, i, d, hd => by
    simp only [Reps] at h
    obtain ⟨v, vs', rfl, hv, hs⟩ := h
    cases i with
    | zero => simp at hd; subst hd; exact ⟨v, by simp, hv⟩
    | succ i => simpa using Reps.get hs i d (by simpa using hd)

theorem Reps.take {g : Gh} {w : World} : ∀ {ds : List D} {vs : List Value} (_ : Reps g w ds vs) (i : Nat), Reps g w (ds.take i) (vs.take i)
  | _, _, _, 0 => by simp [Reps]
  | [], _, h, i + 1 => by simp only [Reps] at h; simp [h, Reps]
  | e :: ds, _, h, i + 1 => by
    simp only [Reps] at h
    obtain ⟨v, vs', rfl, hv, hs⟩ := h
    simp only [List.take_succ_cons, Reps]
    exact ⟨v, _, rfl, hv, Reps.take hs i⟩

theorem Reps.drop {g : Gh} {w : World} : ∀ {ds : List D} {vs : List Value} (_ : Reps g w ds vs) (i : Nat), Reps g w (ds.drop i) (vs.drop i)
  | _, _, h, 0 => by simpa using h
  | [], _, h, i + 1 => by simp only [Reps] at h; simp [h, Reps]
  | e :: ds, _, h, i + 1 => by
    simp only [Reps] at h
    obtain ⟨v, vs', rfl, hv, hs⟩ := h
    simpa using Reps.drop hs i

theorem Reps.append {g : Gh} {w : World} : ∀ {ds es : List D} {vs us : List Value}, Reps g w ds vs → Reps g w es us → Reps g w (ds ++ es) (vs ++ us)
  | [], _, _, _, h, k => by simp only [Reps] at h; simpa [h] using k
  | e :: ds, _, _, _, h, k => by
    simp only [Reps] at h
    obtain ⟨v, vs', rfl, hv, hs⟩ := h
    simp only [List.cons_append, Reps]
    exact ⟨v, _, rfl, hv, Reps.append hs k⟩

/-- Plain data among abstract values. -/
theorem Reps.of_pd {g : Gh} {w : World} : ∀ {cs : List PD} {vs : List Value}, PReps g.Fz w vs cs → Reps g w (cs.map .pd) vs
  | [], _, h => by cases h; simp [Reps]
  | c :: cs, _, h => by
    cases h with
    | cons v _ vs _ h hs =>
      simp only [List.map_cons, Reps]
      exact ⟨v, vs, rfl, by simp only [Rep]; exact h, Reps.of_pd hs⟩

theorem Reps.to_pd {g : Gh} {w : World} : ∀ {cs : List PD} {vs : List Value}, Reps g w (cs.map .pd) vs → PReps g.Fz w vs cs
  | [], _, h => by simp only [List.map_nil, Reps] at h; subst h; exact .nil
  | c :: cs, _, h => by
    simp only [List.map_cons, Reps] at h
    obtain ⟨v, vs', rfl, hv, hs⟩ := h
    simp only [Rep] at hv
    exact .cons _ _ _ _ hv (Reps.to_pd hs)

end Go.Proofs.YtbpgebfejebmlaaGreatDoor
