/- The abstract layer, part 3: names given up; new variables, new rows, stores, and what a call leaves. -/
import Derived.Test.YtbpgebfejebmlaaGreatDoorA2
namespace Go.Proofs.YtbpgebfejebmlaaGreatDoor
open Go Go.RowKit
set_option linter.unusedSimpArgs false
set_option linter.unusedVariables false

def St.drop (n : Nat) (st : St) : St where
  fr := st.fr.map fun p => (p.1, p.2.drop n)
  bs := (st.bs.filter fun p => p.1 != n).map fun p => (p.1, D.drops n p.2)
  ms := st.ms.filter fun p => p.1 != n
  hs := st.hs

def St.purge (t : Nat) (st : St) : St where
  fr := st.fr.map fun p => (p.1, p.2.purge t)
  bs := st.bs.map fun p => (p.1, D.purges t p.2)
  ms := st.ms
  hs := st.hs

abbrev Gh.noBx (g : Gh) (n : Nat) : Gh := { g with bx := fun m => if m = n then none else g.bx m }
abbrev Gh.noTk (g : Gh) (n : Nat) : Gh := { g with tk := fun m => if m = n then none else g.tk m }
abbrev Gh.withBx (g : Gh) (n b : Nat) : Gh := { g with bx := fun m => if m = n then some b else g.bx m }
abbrev Gh.withFz (g : Gh) (k : Nat) (Fz' : Nat → Nat → Prop) : Gh := { g with Fz := fun b o => g.Fz b o ∨ (k ≤ b ∧ Fz' b o) }

variable {C : Ctx} {st : St} {g : Gh} {a : Act} {w : World}

/-- A variable's name is given up. -/
theorem SR.drop (h : SR C st g a w) (n : Nat) (hnm : C.nm n = none) : SR C (st.drop n) (g.noBx n) a w := by
  have hb : ∀ m b, m ≠ n → g.bx m = some b → (if m = n then none else g.bx m) = some b := fun m b hm e => by rw [if_neg hm]; exact e
  have hb' : ∀ m b, (if m = n then none else g.bx m) = some b → m ≠ n ∧ g.bx m = some b := fun m b e => by
    by_cases hm : m = n
    · rw [if_pos hm] at e; cases e
    · rw [if_neg hm] at e; exact ⟨hm, e⟩
  have hx : C.X st.hs ((g.noBx n).has C.w0.heap.size) w := C.Xok _ _ _ (fun _ => False) _ _ h.x (KeepD.refl _ w) (fun _ e => e.elim) (fun k hk => .inl (by
    rcases hk with ⟨m, h1, h2⟩ | hk
    · exact .inl ⟨m, h1, (hb' m k h2).2⟩
    · exact .inr hk))
  refine ⟨h.defers, h.size, ?_, ?_, hx, fun m b hm => hb m b (fun e => by rw [e, hnm] at hm; cases hm) (h.fix m b hm)⟩
  · intro i d hd
    rw [St.drop, lk_map] at hd
    obtain ⟨d0, h0, rfl⟩ := Option.map_eq_some_iff.1 hd
    exact ⟨(h.rep i d0 h0).1, Rep.dropped (g' := g.noBx n) hb (fun _ _ h => h) (Ex.refl _ _) (h.rep i d0 h0).2⟩
  · have m := h.mem
    exact { m with
      bxs := fun k ds hk => by
        simp only [St.drop] at hk
        rw [lk_map, lk_filter (fun j => j != n)] at hk
        obtain ⟨d0, h0, rfl⟩ := Option.map_eq_some_iff.1 hk
        split at h0
        · rename_i hne
          obtain ⟨b, cs, t, h1, h2, h3⟩ := m.bxs k d0 h0
          exact ⟨b, cs, t, hb k b (by simpa using hne) h1, h2, Reps.dropped (g' := g.noBx n) hb (fun _ _ h => h) (Ex.refl _ _) h3⟩
        · cases h0
      mps := fun k es hk => by
        simp only [St.drop] at hk
        rw [lk_filter (fun j => j != n)] at hk
        split at hk
        · rename_i hne
          obtain ⟨b, en, c, h1, h2, h3⟩ := m.mps k es hk
          exact ⟨b, en, c, hb k b (by simpa using hne) h1, h2, h3⟩
        · cases hk
      bxok := fun k b hk => m.bxok k b (hb' k b hk).2
      bxdm := fun k b hk => m.bxdm k b (hb' k b hk).2
      bxdf := fun k D hD hk => m.bxdf k D hD (hb' k D hk).2
      bxinj := fun k j b hk hj => m.bxinj k j b (hb' k b hk).2 (hb' j b hj).2
      bxtk := fun k t b v e hk ht => m.bxtk k t b v e (hb' k b hk).2 ht }

theorem hasPurge {g : Gh} {n k0 k : Nat} (hk : (g.noTk n).has k0 k) : g.has k0 k := by
  rcases hk with hk | ⟨t, v, e, h1, h2⟩ | hk
  · exact .inl hk
  · by_cases hm : t = n
    · simp only [hm, if_true] at h1; cases h1
    · simp only [hm, if_false] at h1
      exact .inr (.inl ⟨t, v, e, h1, h2⟩)
  · exact .inr (.inr hk)

/-- A slice's room is given up. -/
theorem SR.purge (h : SR C st g a w) (n : Nat) : SR C (st.purge n) (g.noTk n) a w := by
  have hb : ∀ m x, m ≠ n → g.tk m = some x → (if m = n then none else g.tk m) = some x := fun m b hm e => by rw [if_neg hm]; exact e
  have hb' : ∀ m x, (if m = n then none else g.tk m) = some x → m ≠ n ∧ g.tk m = some x := fun m b e => by
    by_cases hm : m = n
    · rw [if_pos hm] at e; cases e
    · rw [if_neg hm] at e; exact ⟨hm, e⟩
  have hx : C.X st.hs ((g.noTk n).has C.w0.heap.size) w := C.Xok _ _ _ (fun _ => False) _ _ h.x (KeepD.refl _ w) (fun _ e => e.elim) (fun k hk => .inl (by
    rcases hk with hk | ⟨t, v, e, h1, h2⟩ | hk
    · exact .inl hk
    · exact .inr (.inl ⟨t, v, e, (hb' t _ h1).2, h2⟩)
    · exact .inr (.inr hk)))
  refine ⟨h.defers, h.size, ?_, ?_, hx, h.fix⟩
  · intro i d hd
    rw [St.purge, lk_map] at hd
    obtain ⟨d0, h0, rfl⟩ := Option.map_eq_some_iff.1 hd
    exact ⟨(h.rep i d0 h0).1, Rep.purged (g := g) (g' := g.noTk n) (fun _ _ h => h) hb (Ex.refl _ _) (h.rep i d0 h0).2⟩
  · have m := h.mem
    exact { m with
      bxs := fun k ds hk => by
        simp only [St.purge] at hk
        rw [lk_map] at hk
        obtain ⟨d0, h0, rfl⟩ := Option.map_eq_some_iff.1 hk
        obtain ⟨b, cs, t, h1, h2, h3⟩ := m.bxs k d0 h0
        exact ⟨b, cs, t, h1, h2, Reps.purged (g := g) (g' := g.noTk n) (fun _ _ h => h) hb (Ex.refl _ _) h3⟩
      tks := fun t v e ht => m.tks t v e (hb' _ _ ht).2
      tkinj := fun t s v u e f b ht hs => m.tkinj t s v u e f b (hb' _ _ ht).2 (hb' _ _ hs).2
      bxtk := fun k t b v e hk ht => m.bxtk k t b v e hk (hb' _ _ ht).2 }

/-- A new world, in which all blocks that there were are as they were (but perhaps one, which holds nothing frozen, is no variable that is told of, and no slice's room). -/
theorem Mem.grow {bs : List (Nat × List D)} {ms : List (Nat × List (Value × Value))} (m : Mem C bs ms g w) {w' : World} {row : Option Nat} (hg : w.grownBy w' row)
    (hrow : ∀ k, row = some k → (C.w0.heap.size ≤ k ∨ C.S k) ∧ (∀ o, ¬ g.Fz k o) ∧ (∀ n ds, lk bs n = some ds → g.bx n ≠ some k) ∧ (∀ n es, lk ms n = some es → g.bx n ≠ some k) ∧ (∀ t v e, g.tk t = some (v, e) → v.ownBlock ≠ some k) ∧ (∀ D ∈ g.df, D ≠ k)) :
    Mem C bs ms g w' ∧ Gr g w g w' := by
  have hex : Ex g.Fz w g.Fz w' := fun b o hf => ⟨hf, World.cell?_of_block (hg.block b (m.fzlt b o hf) (fun e => (hrow b e.symm).2.1 o hf))⟩
  have hgr : Gr g w g w' := ⟨fun _ _ h => h, fun _ _ h => h, hex⟩
  refine ⟨?_, hgr⟩
  exact {
    os := hg.os.trans m.os
    tape := hg.tape.trans m.tape
    output := hg.output.trans m.output
    hsz := Nat.le_trans m.hsz hg.size
    old := fun k hk hs hd => (hg.block k (Nat.lt_of_lt_of_le hk m.hsz) (fun e => by
      rcases (hrow k e.symm).1 with h | h
      · omega
      · exact hs h)).trans (m.old k hk hs hd)
    keep := m.keep.trans hex
    newfz := m.newfz
    fzlt := fun b o hf => Nat.lt_of_lt_of_le (m.fzlt b o hf) hg.size
    bxs := fun n ds hn => by
      obtain ⟨b, cs, t, h1, h2, h3⟩ := m.bxs n ds hn
      exact ⟨b, cs, t, h1, (hg.block b (m.bxok n b h1).1 (fun e => (hrow b e.symm).2.2.1 n ds hn h1)).trans h2, h3.mono hgr⟩
    mps := fun n es hn => by
      obtain ⟨b, en, c, h1, h2, h3⟩ := m.mps n es hn
      exact ⟨b, en, c, h1, (hg.block b (m.bxok n b h1).1 (fun e => (hrow b e.symm).2.2.2.1 n es hn h1)).trans h2, h3⟩
    bxok := fun n b hb => ⟨Nat.lt_of_lt_of_le (m.bxok n b hb).1 hg.size, (m.bxok n b hb).2⟩
    bxinj := m.bxinj
    tks := fun t v e ht => by
      obtain ⟨i, n, xs, h1, h2, h3, h4⟩ := m.tks t v e ht
      refine ⟨i, n, xs, h1, h2, h3.kept hg ?_, h4⟩
      cases hv : v.ownBlock with
      | none => exact .inl rfl
      | some k =>
        refine .inr fun e' => ?_
        exact (hrow k e'.symm).2.2.2.2.1 t v e ht hv
    tkinj := m.tkinj
    bxtk := m.bxtk
    dfs := fun D hD => ⟨(m.dfs D hD).1, (hg.block D (Array.getElem?_eq_some_iff.1 (m.dfs D hD).2).1 (fun e => (hrow D e.symm).2.2.2.2.2 D hD rfl)).trans (m.dfs D hD).2⟩
    dnd := m.dnd
    bxdf := m.bxdf
    bxdm := m.bxdm }

theorem SR.gr {st' : St} {g' : Gh} {w' : World} (h : SR C st g a w) (hg : Gr g w g' w') (hdf : g'.df = g.df) (hf : st'.fr = st.fr) (hh : st'.hs = st.hs) (hx : C.X st.hs (g'.has C.w0.heap.size) w') (hm : Mem C st'.bs st'.ms g' w') : SR C st' g' a w' :=
  ⟨by rw [hdf]; exact h.defers, h.size, fun i d hd => by rw [hf] at hd; exact ⟨(h.rep i d hd).1, (h.rep i d hd).2.mono hg⟩, hm, by rw [hh]; exact hx, fun n b hn => hg.bx n b (h.fix n b hn)⟩

/-- A new variable, by a name that is free. -/
theorem SR.newbox (h : SR C st g a w) (n : Nat) (hn : g.bx n = none) (cs : Array Value) (t : TypeId) (ds : List D) (hd : Reps g w ds cs.toList) :
    SR C { st with bs := (n, ds) :: st.bs } (g.withBx n w.heap.size) a (w.alloc (.cells cs t)) ∧
    Gr g w (g.withBx n w.heap.size) (w.alloc (.cells cs t)) := by
  have m := h.mem
  obtain ⟨m1, hg1⟩ := m.grow (World.grownBy_alloc w (.cells cs t) none) (fun k e => by cases e)
  have hbx : ∀ k b, g.bx k = some b → (if k = n then some w.heap.size else g.bx k) = some b := fun k b e => by
    rw [if_neg]
    · exact e
    · rintro rfl; rw [hn] at e; cases e
  have hbx' : ∀ k b, (if k = n then some w.heap.size else g.bx k) = some b → (k = n ∧ b = w.heap.size) ∨ (k ≠ n ∧ g.bx k = some b) := fun k b e => by
    by_cases hk : k = n
    · rw [if_pos hk] at e; exact .inl ⟨hk, (Option.some.inj e).symm⟩
    · rw [if_neg hk] at e; exact .inr ⟨hk, e⟩
  have hgr : Gr g w (g.withBx n w.heap.size) (w.alloc (.cells cs t)) := ⟨hbx, fun _ _ h => h, hg1.ex⟩
  have hgr1 : Gr g (w.alloc (.cells cs t)) (g.withBx n w.heap.size) (w.alloc (.cells cs t)) := ⟨hbx, fun _ _ h => h, Ex.refl _ _⟩
  refine ⟨h.gr hgr rfl rfl rfl (C.Xok _ _ _ _ _ _ h.x (KeepD.of_grown (World.grownBy_alloc w (.cells cs t) none)) (fun k e => by cases e) (fun k hk => by
    rcases hk with ⟨m', h1, h2⟩ | hk
    · rcases hbx' m' k h2 with ⟨_, rfl⟩ | ⟨_, h2⟩
      · exact .inr (Nat.le_refl _)
      · exact .inl (.inl ⟨m', h1, h2⟩)
    · exact .inl (.inr hk))) ?_, hgr⟩
  have hnofz : ∀ o, ¬ g.Fz w.heap.size o := fun o hf => Nat.lt_irrefl _ (m.fzlt _ _ hf)
  exact { m1 with
    keep := m1.keep
    bxs := fun k es hk => by
      simp only [lk] at hk
      by_cases hkn : k = n
      · simp only [hkn, if_true, Option.some.injEq] at hk
        subst hk
        exact ⟨w.heap.size, cs, t, by simp [hkn], Go.heap_alloc_new w _, hd.mono hgr⟩
      · simp only [hkn, if_false] at hk
        obtain ⟨b, cs', t', h1, h2, h3⟩ := m1.bxs k es hk
        exact ⟨b, cs', t', hbx k b h1, h2, h3.mono hgr1⟩
    mps := fun k es hk => by
      obtain ⟨b, en, c, h1, h2, h3⟩ := m1.mps k es hk
      exact ⟨b, en, c, hbx k b h1, h2, h3⟩
    bxok := fun k b hk => by
      rcases hbx' k b hk with ⟨_, rfl⟩ | ⟨_, hk⟩
      · exact ⟨by simp, .inl m.hsz, hnofz⟩
      · exact m1.bxok k b hk
    bxdf := fun k D hD hk => by
      rcases hbx' k D hk with ⟨_, rfl⟩ | ⟨_, hk⟩
      · exact Nat.lt_irrefl _ (Array.getElem?_eq_some_iff.1 (m.dfs _ hD).2).1
      · exact m.bxdf k D hD hk
    bxinj := fun k j b hk hj => by
      rcases hbx' k b hk with ⟨e1, e2⟩ | ⟨_, hk1⟩
      · rcases hbx' j _ hj with ⟨e3, _⟩ | ⟨_, hj1⟩
        · exact e1.trans e3.symm
        · exact absurd (e2 ▸ (m.bxok j _ hj1).1) (Nat.lt_irrefl _)
      · rcases hbx' j b hj with ⟨_, e4⟩ | ⟨_, hj1⟩
        · exact absurd (e4 ▸ (m.bxok k _ hk1).1) (Nat.lt_irrefl _)
        · exact m.bxinj k j b hk1 hj1
    bxtk := fun k t' b v e hk ht => by
      rcases hbx' k b hk with ⟨rfl, rfl⟩ | ⟨_, hk⟩
      · obtain ⟨i, nn, xs, _, _, h3, _⟩ := m.tks t' v e ht
        intro hv
        have := (h3.lt _ hv).2
        omega
      · exact m.bxtk k t' b v e hk ht
    bxdm := fun k b hk => by
      rcases hbx' k b hk with ⟨_, rfl⟩ | ⟨_, hk⟩
      · intro hd
        have := (C.dmok _ hd).1
        have := m.hsz
        omega
      · exact m.bxdm k b hk }

/-- A variable's cells are written. -/
theorem SR.setbox (h : SR C st g a w) (n b : Nat) (ds : List D) (hl : lk st.bs n = some ds) (hb : g.bx n = some b) (cs : Array Value) (t : TypeId) (hcs : w.heap[b]? = some (.cells cs t (0, 0))) (hro : n < 1000000)
    (cs' : Array Value) (ds' : List D) (hd : Reps g w ds' cs'.toList) : SR C { st with bs := (n, ds') :: st.bs } g a (w.setRow b cs') := by
  have m := h.mem
  have hwr : C.w0.heap.size ≤ b ∨ C.S b := by
    rcases (m.bxok n b hb).2.1 with h | h | h
    · exact .inl h
    · exact .inr h
    · omega
  have hg : w.grownBy (w.setRow b cs') (some b) := ⟨rfl, rfl, rfl, by simp [World.setRow], fun k _ hk => setRow_other w b k _ (fun e => hk (by rw [e]))⟩
  have m0 : Mem C (st.bs.filter fun p => p.1 != n) (st.ms.filter fun p => p.1 != n) g w := { m with
    bxs := fun k es hk => by
      rw [lk_filter (fun j => j != n)] at hk
      split at hk
      · exact m.bxs k es hk
      · cases hk
    mps := fun k es hk => by
      rw [lk_filter (fun j => j != n)] at hk
      split at hk
      · exact m.mps k es hk
      · cases hk }
  obtain ⟨m1, hgr⟩ := m0.grow hg (fun k e => by
    cases e
    refine ⟨hwr, (m.bxok n b hb).2.2, ?_, ?_, fun t v e ht => m.bxtk n t b v e hb ht, fun D hD e => by subst e; rw [(m.dfs D hD).2] at hcs; cases hcs⟩
    · intro k es hk he
      rw [lk_filter (fun j => j != n), m.bxinj k n b he hb] at hk
      simp at hk
    · intro k es hk he
      rw [lk_filter (fun j => j != n), m.bxinj k n b he hb] at hk
      simp at hk)
  refine h.gr hgr rfl rfl rfl (C.Xok _ _ _ _ _ _ h.x (KeepD.of_grown hg) (fun k e => by cases e; exact .inl ⟨n, .inl hro, hb⟩) (fun _ h => .inl h)) ?_
  have hnew : (w.setRow b cs').heap[b]? = some (.cells cs' t (0, 0)) := setRow_heap w b cs cs' t (0, 0) hcs
  exact { m1 with
    bxs := fun k es hk => by
      simp only [lk] at hk
      by_cases hkn : k = n
      · simp only [hkn, if_true, Option.some.injEq] at hk
        subst hk
        exact ⟨b, cs', t, by rw [hkn]; exact hb, hnew, hd.mono hgr⟩
      · simp only [hkn, if_false] at hk
        exact m1.bxs k es (by rw [lk_filter (fun j => j != n)]; simp [hkn, hk])
    mps := fun k es hk => by
      by_cases hkn : k = n
      · subst hkn
        obtain ⟨b', en, c, h1, h2, _⟩ := m.mps k es hk
        rw [hb] at h1
        cases h1
        rw [hcs] at h2
        cases h2
      · exact m1.mps k es (by rw [lk_filter (fun j => j != n)]; simp [hkn, hk]) }

/-- Behind a call that leaves all old blocks as they were. -/
theorem SR.called (h : SR C st g a w) {w' : World} (hb : Below w.heap.size w w') (Fz' : Nat → Nat → Prop) (hf : Ex g.Fz w Fz' w') (hlt : ∀ b o, Fz' b o → b < w'.heap.size) :
    SR C st (g.withFz w.heap.size Fz') a w' ∧ Gr g w (g.withFz w.heap.size Fz') w' := by
  have m := h.mem
  have hg : w.grownBy w' none := ⟨hb.os, hb.tape, hb.output, hb.size, fun k hk _ => hb.block k hk⟩
  obtain ⟨m1, hg1⟩ := m.grow hg (fun k e => by cases e)
  have hgr : Gr g w (g.withFz w.heap.size Fz') w' := ⟨fun _ _ h => h, fun _ _ h => h, fun b o hf => ⟨.inl hf, (hg1.ex b o hf).2⟩⟩
  have hgr1 : Gr g w' (g.withFz w.heap.size Fz') w' := ⟨fun _ _ h => h, fun _ _ h => h, fun b o hf => ⟨.inl hf, rfl⟩⟩
  refine ⟨h.gr hgr rfl rfl rfl (C.Xok _ _ _ _ _ _ h.x (KeepD.of_grown hg) (fun k e => by cases e) (fun k hk => by
    rcases hk with hk | hk | hk | ⟨h1, o, hf | ⟨h2, _⟩⟩
    · exact .inl (.inl hk)
    · exact .inl (.inr (.inl hk))
    · exact .inl (.inr (.inr (.inl hk)))
    · exact .inl (.inr (.inr (.inr ⟨h1, o, hf⟩)))
    · exact .inr h2)) ?_, hgr⟩
  exact { m1 with
    keep := m1.keep.trans hgr1.ex
    newfz := fun b o hf hlt => by
      rcases hf with hf | ⟨hf, _⟩
      · exact m.newfz b o hf hlt
      · have := m.hsz; omega
    fzlt := fun b o hf => by
      rcases hf with hf | ⟨_, hf⟩
      · exact m1.fzlt b o hf
      · exact hlt b o hf
    bxs := fun n ds hn => by
      obtain ⟨b, cs, t, h1, h2, h3⟩ := m1.bxs n ds hn
      exact ⟨b, cs, t, h1, h2, h3.mono hgr1⟩
    bxok := fun n b hb => ⟨(m1.bxok n b hb).1, (m1.bxok n b hb).2.1, fun o hf => by
      rcases hf with hf | ⟨hf, _⟩
      · exact (m1.bxok n b hb).2.2 o hf
      · have := (m.bxok n b hb).1; omega⟩
    tks := fun t v e ht => by
      obtain ⟨i, n, xs, h1, h2, h3, h4⟩ := m1.tks t v e ht
      refine ⟨i, n, xs, h1, h2, h3, fun b hv => ⟨(h4 b hv).1, fun o hf => ?_⟩⟩
      rcases hf with hf | ⟨hf, _⟩
      · exact (h4 b hv).2 o hf
      · obtain ⟨i0, n0, xs0, _, _, h30, _⟩ := m.tks t v e ht
        have := (h30.lt b hv).2
        omega }

end Go.Proofs.YtbpgebfejebmlaaGreatDoor
