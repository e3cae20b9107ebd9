/- What can be read as data, as plain data of the layer. -/
import Derived.Test.YtbpgebfejebmlaaGreatDoorT0
import Derived.ChangeArms
namespace Go.Proofs.YtbpgebfejebmlaaGreatDoor
open Go Go.RowKit
set_option linter.unusedSimpArgs false
set_option linter.unusedVariables false

/-- A cell's shape. -/
inductive Sh where
  | int (k : IntKind)
  | str
  | bool
  | slice (s : List Sh)

mutual
inductive HasSh : Sh → PD → Prop
  | int (k : IntKind) (n : Int) (h : (Lit.int k n).wf = true) : HasSh (.int k) (.raw (.int k n))
  | str (s : ByteArray) (h : s.size ≤ maxLen) : HasSh .str (.raw (.string s))
  | bool (b : Bool) : HasSh .bool (.raw (.bool b))
  | slice (s : List Sh) (els : List (List PD)) (hm : els.length ≤ maxLen) (h : ∀ r ∈ els, HasShs s r) : HasSh (.slice s) (.slice els)
inductive HasShs : List Sh → List PD → Prop
  | nil : HasShs [] []
  | cons (s : Sh) (d : PD) (ss : List Sh) (ds : List PD) (h : HasSh s d) (hs : HasShs ss ds) : HasShs (s :: ss) (d :: ds)
end

theorem HasShs.append : ∀ {s1 s2 : List Sh} {d1 d2 : List PD}, HasShs s1 d1 → HasShs s2 d2 → HasShs (s1 ++ s2) (d1 ++ d2)
  | [], _, _, _, h, k => by cases h; exact k
  | _ :: _, _, _, _, h, k => by
    cases h with
    | cons s d ss ds h hs => exact .cons _ _ _ _ h (hs.append k)

mutual
/-- The shapes of a type's cells. -/
def shp (P : Program) : Nat → TypeId → Option (List Sh)
  | 0, _ => none
  | n + 1, t => match P.underlying t with
    | some (.int k) => some [.int k]
    | some .string => some [.str]
    | some .bool => some [.bool]
    | some (.slice e) => match shp P n e with
      | some s => if P.cellsOf e = s.length ∧ 0 < s.length then some [.slice s] else none
      | none => none
    | some (.struct fs) => match shpF P n fs.toList 0 with
      | some s => if s.length = P.cellsOf t then some s else none
      | none => none
    | _ => none
def shpF (P : Program) : Nat → List Field → Nat → Option (List Sh)
  | _, [], _ => some []
  | 0, _ :: _, _ => none
  | n + 1, f :: fs, off => if f.offset ≠ off then none else match shp P n f.type with
    | some s => if P.cellsOf f.type = s.length then (shpF P n fs (off + s.length)).map (s ++ ·) else none
    | none => none
end

theorem list_of {α : Type} [Inhabited α] {Q : Nat → α → Prop} : ∀ (n : Nat), (∀ j, j < n → ∃ d, Q j d) → ∃ l : List α, l.length = n ∧ ∀ j, j < n → Q j (l.getD j default)
  | 0, _ => ⟨[], rfl, fun j hj => by omega⟩
  | n + 1, h => by
    obtain ⟨l, h1, h2⟩ := list_of n (fun j hj => h j (by omega))
    obtain ⟨d, hd⟩ := h n (by omega)
    refine ⟨l ++ [d], by simp [h1], fun j hj => ?_⟩
    by_cases hjn : j < n
    · have := h2 j hjn
      rw [List.getD_eq_getElem?_getD, List.getElem?_append_left (by omega), ← List.getD_eq_getElem?_getD]
      exact this
    · have e : j = n := by omega
      subst e
      rw [List.getD_eq_getElem?_getD, List.getElem?_append_right (by omega), h1, Nat.sub_self]
      exact hd

section
variable {H : Type} {enc : TypeId × Value → H} {P : Program} {w : World} {spare : Nat → Bool} {held : Bool} {Fz : Nat → Nat → Prop}

theorem readF (hF : ∀ b o v, w.cell? ⟨b, o, none⟩ = some v → Fz b o) (n0 : Nat) (ih : ∀ n, n ≤ n0 → ∀ (t : TypeId) (s : List Sh) (fuel : Nat) (cs : List Value) (x : DataW H × List MemPlace), shp P n t = some s → DataW.trod enc P w 0 spare held fuel t cs = some x → ∃ ds, PReps Fz w cs ds ∧ HasShs s ds) (cs : List Value) :
    ∀ (n : Nat), n ≤ n0 + 1 → ∀ (fs : List Field) (off : Nat) (s : List Sh), shpF P n fs off = some s →
      (∀ f ∈ fs, ∃ fuel x, DataW.trod enc P w 0 spare held fuel f.type ((cs.drop f.offset).take (P.cellsOf f.type)) = some x) → off + s.length ≤ cs.length →
      ∃ ds, PReps Fz w ((cs.drop off).take s.length) ds ∧ HasShs s ds
  | _, _, [], off, s, h, _, _ => by
    have : s = [] := by
      unfold shpF at h
      simpa using h.symm
    subst this
    exact ⟨[], by simpa using PReps.nil, .nil⟩
  | 0, _, f :: fs, off, s, h, _, _ => by unfold shpF at h; cases h
  | n + 1, hn, f :: fs, off, s, h, hf, hl => by
    unfold shpF at h
    split at h
    · cases h
    · rename_i ho
      simp only [ne_eq, Decidable.not_not] at ho
      split at h
      · rename_i s1 h1
        split at h
        · rename_i hc
          obtain ⟨s2, h2, rfl⟩ := Option.map_eq_some_iff.1 h
          obtain ⟨fuel, x, hx⟩ := hf f List.mem_cons_self
          rw [ho, hc] at hx
          obtain ⟨d1, p1, q1⟩ := ih n (by omega) f.type s1 fuel _ x h1 hx
          rw [List.length_append] at hl
          obtain ⟨d2, p2, q2⟩ := readF hF n0 ih cs n (by omega) fs (off + s1.length) s2 h2 (fun g hg => hf g (List.mem_cons_of_mem _ hg)) (by omega)
          refine ⟨d1 ++ d2, ?_, q1.append q2⟩
          have e : (cs.drop off).take (s1 ++ s2).length = (cs.drop off).take s1.length ++ (cs.drop (off + s1.length)).take s2.length := by
            rw [List.length_append, List.take_add, List.drop_drop]
          rw [e]
          exact p1.append p2
        · cases h
      · cases h

theorem read (hF : ∀ b o v, w.cell? ⟨b, o, none⟩ = some v → Fz b o) : ∀ (n0 n : Nat), n ≤ n0 → ∀ (t : TypeId) (s : List Sh) (fuel : Nat) (cs : List Value) (x : DataW H × List MemPlace), shp P n t = some s → DataW.trod enc P w 0 spare held fuel t cs = some x → ∃ ds, PReps Fz w cs ds ∧ HasShs s ds
  | 0, n, hn, t, s, fuel, cs, x, h, hx => by
    have : n = 0 := by omega
    subst this
    unfold shp at h
    cases h
  | n0 + 1, 0, hn, t, s, fuel, cs, x, h, hx => by unfold shp at h; cases h
  | n0 + 1, n + 1, hn, t, s, fuel, cs, x, h, hx => by
    have ih := read hF n0
    unfold shp at h
    split at h
    · rename_i k hu
      cases h
      obtain ⟨m, rfl, _, hw⟩ := DataW.trod_int hu hx
      exact ⟨[.raw (.int k m)], .cons _ _ _ _ (.raw _ rfl) .nil, .cons _ _ _ _ (.int k m hw) .nil⟩
    · rename_i hu
      cases h
      obtain ⟨m, rfl, _, hw⟩ := DataW.trod_string hu hx
      exact ⟨[.raw (.string m)], .cons _ _ _ _ (.raw _ rfl) .nil, .cons _ _ _ _ (.str m hw) .nil⟩
    · rename_i hu
      cases h
      obtain ⟨m, rfl, _⟩ := DataW.trod_bool hu hx
      exact ⟨[.raw (.bool m)], .cons _ _ _ _ (.raw _ rfl) .nil, .cons _ _ _ _ (.bool m) .nil⟩
    · rename_i e hu
      split at h
      · rename_i s1 h1
        split at h
        · rename_i hc
          cases h
          rcases DataW.trod_slice hu hx with ⟨rfl, _⟩ | ⟨a, len, cap, elems, rest, m, _, rfl, _, _, hl, hm, hlen, hel, _, _⟩
          · exact ⟨[.slice []], .cons _ _ _ _ (.empty _ _) .nil, .cons _ _ _ _ (.slice _ _ (by simp) (by simp)) .nil⟩
          · have each : ∀ j, j < len → ∃ d, PReps Fz w ((w.cells? 0 (a.add (j * P.cellsOf e)) (P.cellsOf e)).getD []) d ∧ HasShs s1 d := by
              intro j hj
              have hj' := hel j hj
              rw [List.getElem?_eq_getElem (by omega)] at hj'
              obtain ⟨cj, e1, e2⟩ := Option.bind_eq_some_iff.1 hj'
              rw [e1]
              exact ih n (by omega) e s1 m cj _ h1 e2
            obtain ⟨els, hels, hall⟩ := list_of len each
            rcases Nat.eq_zero_or_pos len with h0 | hpos
            · subst h0
              have : els = [] := List.eq_nil_of_length_eq_zero hels
              subst this
              exact ⟨[.slice []], .cons _ _ _ _ (.empty _ _) .nil, .cons _ _ _ _ (.slice _ _ (by simp) (by simp)) .nil⟩
            · have hcell : ∀ j i u, j < len → ((w.cells? 0 (a.add (j * P.cellsOf e)) (P.cellsOf e)).getD [])[i]? = some u → w.cell? ((a.add (j * P.cellsOf e)).add i) = some u := by
                intro j i u hj hu'
                have hj' := hel j hj
                rw [List.getElem?_eq_getElem (by omega)] at hj'
                obtain ⟨cj, e1, e2⟩ := Option.bind_eq_some_iff.1 hj'
                rw [e1] at hu'
                simp only [Option.getD_some] at hu'
                unfold World.cells? at e1
                simp only [Nat.zero_le, if_true] at e1
                have hi : i < P.cellsOf e := by
                  have h3 := (List.getElem?_eq_some_iff.1 hu').1
                  have h4 := mapM_some_length e1
                  simp at h4
                  omega
                have := mapM_some_get e1 i i (by simp [hi])
                rw [hu'] at this
                exact this
              have hvl : ∀ j, j < len → ((w.cells? 0 (a.add (j * P.cellsOf e)) (P.cellsOf e)).getD []).length = P.cellsOf e := by
                intro j hj
                have hj' := hel j hj
                rw [List.getElem?_eq_getElem (by omega)] at hj'
                obtain ⟨cj, e1, e2⟩ := Option.bind_eq_some_iff.1 hj'
                rw [e1]
                simp only [Option.getD_some]
                unfold World.cells? at e1
                simp only [Nat.zero_le, if_true] at e1
                have h4 := mapM_some_length e1
                simpa using h4
              have hspot : ∃ b off, a = ⟨b, off, none⟩ := by
                have h1 := hvl 0 hpos
                have h2 := hcell 0 0 _ hpos (List.getElem?_eq_getElem (by omega))
                simp only [Nat.zero_mul, Addr.add, if_true] at h2
                unfold World.cell? at h2
                split at h2
                · split at h2
                  · cases h2
                  · rename_i hs
                    obtain ⟨b, off, sp⟩ := a
                    simp only [Option.not_isSome_iff_eq_none] at hs
                    subst hs
                    exact ⟨b, off, rfl⟩
                · cases h2
              obtain ⟨b, off, rfl⟩ := hspot
              refine ⟨[.slice els], .cons _ _ _ _ (.slice b off len cap (P.cellsOf e) els (fun j => (w.cells? 0 ((⟨b, off, none⟩ : Addr).add (j * P.cellsOf e)) (P.cellsOf e)).getD []) hels hpos hl (by omega) hvl (fun j i u hj hu' => ?_) (fun j hj => ?_)) .nil, .cons _ _ _ _ (.slice _ _ (by omega) (fun r hr => ?_)) .nil⟩
              · have h5 := hcell j i u hj hu'
                rw [Addr.add_mid, Addr.add_mid] at h5
                exact ⟨h5, hF _ _ _ h5⟩
              · exact (hall j hj).1
              · obtain ⟨j, hj, rfl⟩ := List.getElem_of_mem hr
                have := (hall j (by omega)).2
                rwa [List.getD_eq_getElem?_getD, List.getElem?_eq_getElem hj] at this
        · cases h
      · cases h
    · rename_i fs hu
      split at h
      · rename_i s1 h1
        split at h
        · rename_i hc
          cases h
          obtain ⟨xs, m, _, _, hl, hxl, hall⟩ := DataW.trod_struct hu hx
          obtain ⟨ds, h2, h3⟩ := readF hF n0 ih cs n (by omega) fs.toList 0 s h1 (fun f hf => by
            obtain ⟨i, hi, rfl⟩ := List.getElem_of_mem hf
            have h4 := hall i _ (by rw [← Array.getElem?_toList]; exact List.getElem?_eq_getElem hi)
            rw [List.getElem?_eq_getElem (by rw [hxl]; simpa using hi)] at h4
            exact ⟨m, _, h4⟩) (by omega)
          refine ⟨ds, ?_, h3⟩
          rw [List.drop_zero, List.take_of_length_le (by omega)] at h2
          exact h2
        · cases h
      · cases h
    · cases h
end

end Go.Proofs.YtbpgebfejebmlaaGreatDoor
