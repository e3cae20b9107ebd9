/- The abstract layer, part 4: rows of the function's own: made, and appended to. -/
import Derived.Test.YtbpgebfejebmlaaGreatDoorA3
import Derived.Great.BuildSlice
namespace Go.Proofs.YtbpgebfejebmlaaGreatDoor
open Go Go.RowKit
set_option linter.unusedSimpArgs false
set_option linter.unusedVariables false

/-- Cell i of row j, where rows of sz cells lie side by side. -/
theorem flat_idx {α : Type} (sz : Nat) : ∀ (l : List (List α)) (j i : Nat), (∀ r ∈ l, r.length = sz) → i < sz → l.flatten[j * sz + i]? = (l[j]?).bind (·[i]?)
  | [], j, i, _, _ => by simp
  | r :: l, 0, i, h, hi => by
    have := h r List.mem_cons_self
    simp only [List.flatten_cons, Nat.zero_mul, Nat.zero_add, List.getElem?_cons_zero, Option.bind_some]
    rw [List.getElem?_append_left (by omega)]
  | r :: l, j + 1, i, h, hi => by
    have h0 := h r List.mem_cons_self
    simp only [List.flatten_cons, List.getElem?_cons_succ]
    rw [List.getElem?_append_right (by rw [h0, Nat.add_mul]; omega), ← flat_idx sz l j i (fun r hr => h r (List.mem_cons_of_mem _ hr)) hi]
    congr 1
    rw [h0, Nat.add_mul]
    omega

theorem flat_len {α : Type} (sz : Nat) : ∀ (l : List (List α)), (∀ r ∈ l, r.length = sz) → l.flatten.length = l.length * sz
  | [], _ => by simp
  | r :: l, h => by
    simp only [List.flatten_cons, List.length_append, List.length_cons, h r List.mem_cons_self, flat_len sz l (fun r hr => h r (List.mem_cons_of_mem _ hr)), Nat.add_mul]
    omega

/-- Rows of values that stand for rows of plain data. -/
def RowsR (Fz : Nat → Nat → Prop) (w : World) : List (List Value) → List (List PD) → Prop
  | [], ds => ds = []
  | v :: vs, ds => ∃ d ds', ds = d :: ds' ∧ PReps Fz w v d ∧ RowsR Fz w vs ds'

theorem RowsR.length {Fz : Nat → Nat → Prop} {w : World} : ∀ {vs : List (List Value)} {ds : List (List PD)}, RowsR Fz w vs ds → vs.length = ds.length
  | [], _, h => by simp [RowsR] at h; simp [h]
  | _ :: _, _, ⟨d, ds', rfl, _, h⟩ => by simp [RowsR.length h]

theorem RowsR.get {Fz : Nat → Nat → Prop} {w : World} : ∀ {vs : List (List Value)} {ds : List (List PD)} (_ : RowsR Fz w vs ds) (j : Nat), j < vs.length → PReps Fz w (vs.getD j []) (ds.getD j [])
  | [], _, _, _, hj => by simp at hj
  | v :: vs, _, ⟨d, ds', rfl, h, hs⟩, j, hj => by
    cases j with
    | zero => simpa using h
    | succ j => simpa using RowsR.get hs j (by simpa using hj)

theorem RowsR.append {Fz : Nat → Nat → Prop} {w : World} : ∀ {vs us : List (List Value)} {ds es : List (List PD)}, RowsR Fz w vs ds → RowsR Fz w us es → RowsR Fz w (vs ++ us) (ds ++ es)
  | [], _, _, _, h, k => by simp [RowsR] at h; simpa [h] using k
  | v :: vs, _, _, _, ⟨d, ds', rfl, h, hs⟩, k => by
    simp only [List.cons_append, RowsR]
    exact ⟨d, _, rfl, h, RowsR.append hs k⟩

theorem RowsR.mono {Fz Fz' : Nat → Nat → Prop} {w w' : World} (hx : Ex Fz w Fz' w') : ∀ {vs : List (List Value)} {ds : List (List PD)}, RowsR Fz w vs ds → RowsR Fz' w' vs ds
  | [], _, h => h
  | _ :: _, _, ⟨d, ds', e, h, hs⟩ => ⟨d, ds', e, h.mono hx, RowsR.mono hx hs⟩

theorem RowsR.sizes {Fz : Nat → Nat → Prop} {w : World} {sz : Nat} : ∀ {vs : List (List Value)} {ds : List (List PD)}, RowsR Fz w vs ds → (∀ r ∈ ds, r.length = sz) → ∀ r ∈ vs, r.length = sz
  | [], _, _, _, r, hr => by simp at hr
  | v :: vs, _, ⟨d, ds', rfl, h, hs⟩, hl, r, hr => by
    rcases List.mem_cons.1 hr with rfl | hr
    · rw [h.length]; exact hl d List.mem_cons_self
    · exact RowsR.sizes hs (fun r hr => hl r (List.mem_cons_of_mem _ hr)) r hr

theorem RowsR.ones {Fz : Nat → Nat → Prop} {w : World} : ∀ {vs : List (List Value)} {ds : List (List PD)}, RowsR Fz w vs ds → ∀ u ∈ vs.flatten, u.oneCell' = true
  | [], _, _, u, hu => by simp at hu
  | v :: vs, _, ⟨d, ds', rfl, h, hs⟩, u, hu => by
    rw [List.flatten_cons, List.mem_append] at hu
    rcases hu with hu | hu
    · exact h.ones u hu
    · exact RowsR.ones hs u hu

/-- What a slice's cells hold, row by row. -/
theorem PRep.rows {Fz : Nat → Nat → Prop} {w : World} {v : Value} {els : List (List PD)} (h : PRep Fz w v (.slice els)) {sz : Nat} (hl : ∀ r ∈ els, r.length = sz) :
    ∃ a cap vss, v = .slice a els.length cap ∧ els.length ≤ cap ∧ els.length ≤ maxLen ∧ RowsR Fz w vss els ∧ (0 < els.length → ∃ b off, a = some ⟨b, off, none⟩ ∧ ∀ j u, vss.flatten[j]? = some u → w.cell? ⟨b, off + j, none⟩ = some u ∧ Fz b (off + j)) := by
  cases h with
  | empty a cap => exact ⟨a, cap, [], rfl, by simp, by simp, by simp [RowsR], by simp⟩
  | slice b off n cap sz' els vals hn hpos hcap hmax hlen hc hr =>
    subst hn
    have hsz : sz' = sz := by
      have h0 := hr 0 hpos
      have h1 := hl (els.getD 0 []) (by
        rw [List.getD_eq_getElem?_getD, List.getElem?_eq_getElem hpos]; exact List.getElem_mem _)
      rw [← h1, ← h0.length, hlen 0 hpos]
    subst hsz
    have key : ∀ (k : Nat) (es : List (List PD)), (∀ j, j < es.length → PReps Fz w (vals (k + j)) (es.getD j [])) → RowsR Fz w ((List.range' k es.length).map vals) es := by
      intro k es
      induction es generalizing k with
      | nil => intro _; simp [RowsR]
      | cons d es ih =>
        intro h
        simp only [List.length_cons, List.range'_succ, List.map_cons, RowsR]
        exact ⟨d, es, rfl, by simpa using h 0 (by simp), ih (k + 1) (fun j hj => by have := h (j + 1) (by simpa using hj); simpa [Nat.add_assoc, Nat.add_comm 1 j] using this)⟩
    refine ⟨some ⟨b, off, none⟩, cap, (List.range' 0 els.length).map vals, rfl, hcap, hmax, key 0 els (fun j hj => by simpa using hr j hj), fun _ => ⟨b, off, rfl, fun j u hu => ?_⟩⟩
    have hlens : ∀ r ∈ (List.range' 0 els.length).map vals, r.length = sz' := by
      intro r hr'
      obtain ⟨j, hj, rfl⟩ := List.mem_map.1 hr'
      rw [List.mem_range'] at hj
      obtain ⟨i, hi, rfl⟩ := hj
      exact hlen _ (by omega)
    have hlt : j < els.length * sz' := by
      have := (List.getElem?_eq_some_iff.1 hu).1
      rw [flat_len sz' _ hlens] at this
      simpa using this
    have hs0 : 0 < sz' := by
      rcases Nat.eq_zero_or_pos sz' with h | h
      · subst h; simp at hlt
      · exact h
    have e : j = j / sz' * sz' + j % sz' := by rw [Nat.mul_comm]; exact (Nat.div_add_mod j sz').symm
    have hd : j / sz' < els.length := (Nat.div_lt_iff_lt_mul hs0).2 hlt
    rw [e, flat_idx sz' _ (j / sz') (j % sz') hlens (Nat.mod_lt _ hs0)] at hu
    simp only [List.getElem?_map] at hu
    rw [List.getElem?_range' (by simpa using hd)] at hu
    simp only [Option.map_some, Option.bind_some, Nat.zero_add, Nat.one_mul] at hu
    have := hc (j / sz') (j % sz') u hd hu
    rw [Nat.add_assoc, ← e] at this
    exact this

/-- Rows that lie side by side in frozen cells: a slice. -/
theorem PRep.of_rows {Fz : Nat → Nat → Prop} {w : World} {els : List (List PD)} {vss : List (List Value)} {sz b cap : Nat} (hr : RowsR Fz w vss els) (hl : ∀ r ∈ els, r.length = sz) (hcap : els.length ≤ cap) (hmax : els.length ≤ maxLen)
    (hc : ∀ j u, vss.flatten[j]? = some u → w.cell? ⟨b, j, none⟩ = some u ∧ Fz b j) : PRep Fz w (.slice (some ⟨b, 0, none⟩) els.length cap) (.slice els) := by
  rcases Nat.eq_zero_or_pos els.length with h0 | hpos
  · have : els = [] := List.eq_nil_of_length_eq_zero h0
    subst this
    exact .empty _ _
  · have hvl := hr.length
    have hvs := RowsR.sizes hr hl
    refine .slice b 0 els.length cap sz els (fun j => vss.getD j []) rfl hpos hcap hmax ?_ ?_ ?_
    · intro j hj
      rw [List.getD_eq_getElem?_getD, List.getElem?_eq_getElem (by omega)]
      exact hvs _ (List.getElem_mem _)
    · intro j i u hj hu
      rw [List.getD_eq_getElem?_getD, List.getElem?_eq_getElem (show j < vss.length by omega)] at hu
      simp only [Option.getD_some] at hu
      have hi : i < sz := by
        have := (List.getElem?_eq_some_iff.1 hu).1
        rw [hvs _ (List.getElem_mem _)] at this
        exact this
      have := hc (j * sz + i) u (by rw [flat_idx sz vss j i hvs hi, List.getElem?_eq_getElem (show j < vss.length by omega)]; exact hu)
      rwa [Nat.zero_add]
    · intro j hj
      exact hr.get j (by omega)

abbrev Gh.withOwn (g : Gh) (t : Nat) (v : Value) (e : TypeId) (k : Nat) : Gh :=
  { g with tk := fun m => if m = t then some (v, e) else g.tk m, Fz := fun b o => g.Fz b o ∨ (v.ownBlock = some b ∧ o < k) }

variable {C : Ctx} {st : St} {g : Gh} {a : Act} {w : World}

/-- Behind a step that makes, or lengthens, a row of the function's own. -/
theorem SR.owned (h : SR C st g a w) (t : Nat) (ht : g.tk t = none) {w' : World} {row : Option Nat} (hg : w.grownBy w' row)
    (O : Nat → Prop) (hxO : C.X st.hs O w) (hO1 : ∀ k, row = some k → O k) (hO2 : ∀ k, g.has C.w0.heap.size k → O k)
    (hrow : ∀ k, row = some k → (C.w0.heap.size ≤ k ∨ C.S k) ∧ (∀ n, g.bx n ≠ some k) ∧ (∀ t v e, g.tk t = some (v, e) → v.ownBlock ≠ some k) ∧ (∀ D ∈ g.df, D ≠ k) ∧ ∃ cs t f, w.heap[k]? = some (.cells cs t f))
    (e : TypeId) (i : TypeInfo) (hi : C.P.info? e = some i) (hpos : 0 < i.size) (v' : Value) (n : Nat) (xs : List Value) (hown : w'.ownsRow 0 e i.size v' n xs)
    (hblk : ∀ b, v'.ownBlock = some b → row = some b ∨ w.heap.size ≤ b)
    (hex : ∀ b o, g.Fz b o → row = some b → w'.cell? ⟨b, o, none⟩ = w.cell? ⟨b, o, none⟩ ∧ (v'.ownBlock = some b → o < n * i.size)) :
    SR C st (g.withOwn t v' e (n * i.size)) a w' ∧ Gr g w (g.withOwn t v' e (n * i.size)) w' := by
  have m := h.mem
  have hx : Ex g.Fz w (g.withOwn t v' e (n * i.size)).Fz w' := fun b o hf => ⟨.inl hf, by
    by_cases hb : row = some b
    · exact (hex b o hf hb).1
    · exact World.cell?_of_block (hg.block b (m.fzlt b o hf) (fun e => hb e.symm))⟩
  have htk : ∀ s x, g.tk s = some x → (if s = t then some (v', e) else g.tk s) = some x := fun s x hs => by
    rw [if_neg]
    · exact hs
    · rintro rfl; rw [ht] at hs; cases hs
  have hgr : Gr g w (g.withOwn t v' e (n * i.size)) w' := ⟨fun _ _ h => h, htk, hx⟩
  have hblt : ∀ b, v'.ownBlock = some b → b < w'.heap.size ∧ (C.w0.heap.size ≤ b ∨ C.S b) := fun b hb => ⟨(hown.lt b hb).2, by
    rcases hblk b hb with hr | hr
    · exact (hrow b hr).1
    · exact .inl (Nat.le_trans m.hsz hr)⟩
  have hnobx : ∀ b, v'.ownBlock = some b → ∀ k, g.bx k ≠ some b := fun b hb k hk => by
    rcases hblk b hb with hr | hr
    · exact (hrow b hr).2.1 k hk
    · have := (m.bxok k b hk).1; omega
  have hnotk : ∀ b, v'.ownBlock = some b → ∀ s u f, g.tk s = some (u, f) → u.ownBlock ≠ some b := fun b hb s u f hs hu => by
    rcases hblk b hb with hr | hr
    · exact (hrow b hr).2.2.1 s u f hs hu
    · obtain ⟨_, _, _, _, _, h3, _⟩ := m.tks s u f hs
      have := (h3.lt b hu).2; omega
  refine ⟨h.gr hgr rfl rfl rfl (C.Xok _ _ _ _ _ _ hxO (KeepD.of_grown hg) hO1 (fun k hk => by
    have hnew : v'.ownBlock = some k → O k ∨ w.heap.size ≤ k := fun hv => by
      rcases hblk k hv with hr | hr
      · exact .inl (hO1 k hr)
      · exact .inr hr
    rcases hk with hk | ⟨s, u, f, h1, h2⟩ | hk | ⟨h1, o, hf | ⟨hf, _⟩⟩
    · exact .inl (hO2 k (.inl hk))
    · by_cases hst : s = t
      · simp only [hst, if_true, Option.some.injEq, Prod.mk.injEq] at h1
        obtain ⟨rfl, rfl⟩ := h1
        exact hnew h2
      · simp only [hst, if_false] at h1
        exact .inl (hO2 k (.inr (.inl ⟨s, u, f, h1, h2⟩)))
    · exact .inl (hO2 k (.inr (.inr (.inl hk))))
    · exact .inl (hO2 k (.inr (.inr (.inr ⟨h1, o, hf⟩))))
    · exact hnew hf)) ?_, hgr⟩
  exact {
    os := hg.os.trans m.os
    tape := hg.tape.trans m.tape
    output := hg.output.trans m.output
    hsz := Nat.le_trans m.hsz hg.size
    old := fun k hk hs hd => (hg.block k (Nat.lt_of_lt_of_le hk m.hsz) (fun e => by
      rcases (hrow k e.symm).1 with h | h
      · omega
      · exact hs h)).trans (m.old k hk hs hd)
    keep := m.keep.trans hx
    newfz := fun b o hf hlt => by
      rcases hf with hf | ⟨hf, _⟩
      · exact m.newfz b o hf hlt
      · rcases (hblt b hf).2 with h | h
        · omega
        · exact .inr h
    fzlt := fun b o hf => by
      rcases hf with hf | ⟨hf, _⟩
      · exact Nat.lt_of_lt_of_le (m.fzlt b o hf) hg.size
      · exact (hblt b hf).1
    bxs := fun k ds hk => by
      obtain ⟨b, cs, t', h1, h2, h3⟩ := m.bxs k ds hk
      exact ⟨b, cs, t', h1, (hg.block b (m.bxok k b h1).1 (fun e => (hrow b e.symm).2.1 k h1)).trans h2, h3.mono hgr⟩
    mps := fun k es hk => by
      obtain ⟨b, en, c, h1, h2, h3⟩ := m.mps k es hk
      exact ⟨b, en, c, h1, (hg.block b (m.bxok k b h1).1 (fun e => (hrow b e.symm).2.1 k h1)).trans h2, h3⟩
    bxok := fun k b hk => ⟨Nat.lt_of_lt_of_le (m.bxok k b hk).1 hg.size, (m.bxok k b hk).2.1, fun o hf => by
      rcases hf with hf | ⟨hf, _⟩
      · exact (m.bxok k b hk).2.2 o hf
      · exact hnobx b hf k hk⟩
    bxinj := m.bxinj
    tks := fun s u f hs => by
      by_cases hst : s = t
      · simp only [hst, if_true, Option.some.injEq, Prod.mk.injEq] at hs
        obtain ⟨rfl, rfl⟩ := hs
        refine ⟨i, n, xs, hi, hpos, hown, fun b hb => ⟨(hblt b hb).2, fun o hf => ?_⟩⟩
        rcases hf with hf | ⟨_, hf⟩
        · rcases hblk b hb with hr | hr
          · exact (hex b o hf hr).2 hb
          · have := m.fzlt b o hf; omega
        · exact hf
      · simp only [hst, if_false] at hs
        obtain ⟨i', n', xs', h1, h2, h3, h4⟩ := m.tks s u f hs
        refine ⟨i', n', xs', h1, h2, h3.kept hg ?_, fun b hb => ⟨(h4 b hb).1, fun o hf => ?_⟩⟩
        · cases hu : u.ownBlock with
          | none => exact .inl rfl
          | some k => exact .inr fun e' => (hrow k e'.symm).2.2.1 s u f hs hu
        · rcases hf with hf | ⟨hf, _⟩
          · exact (h4 b hb).2 o hf
          · exact absurd hb (hnotk b hf s u f hs)
    tkinj := fun s r u x f f' b hs hr hu hx' => by
      by_cases h1 : s = t <;> by_cases h2 : r = t
      · exact h1.trans h2.symm
      · simp only [h1, if_true, Option.some.injEq, Prod.mk.injEq] at hs
        simp only [h2, if_false] at hr
        obtain ⟨rfl, rfl⟩ := hs
        exact absurd hx' (hnotk b hu r x f' hr)
      · simp only [h2, if_true, Option.some.injEq, Prod.mk.injEq] at hr
        simp only [h1, if_false] at hs
        obtain ⟨rfl, rfl⟩ := hr
        exact absurd hu (hnotk b hx' s u f hs)
      · simp only [h1, if_false] at hs
        simp only [h2, if_false] at hr
        exact m.tkinj s r u x f f' b hs hr hu hx'
    bxtk := fun k s b u f hk hs => by
      by_cases h1 : s = t
      · simp only [h1, if_true, Option.some.injEq, Prod.mk.injEq] at hs
        obtain ⟨rfl, rfl⟩ := hs
        exact fun hb => hnobx b hb k hk
      · simp only [h1, if_false] at hs
        exact m.bxtk k s b u f hk hs
    dfs := fun D hD => ⟨(m.dfs D hD).1, (hg.block D (Array.getElem?_eq_some_iff.1 (m.dfs D hD).2).1 (fun e => (hrow D e.symm).2.2.2.1 D hD rfl)).trans (m.dfs D hD).2⟩
    dnd := m.dnd
    bxdf := m.bxdf
    bxdm := m.bxdm }

end Go.Proofs.YtbpgebfejebmlaaGreatDoor
