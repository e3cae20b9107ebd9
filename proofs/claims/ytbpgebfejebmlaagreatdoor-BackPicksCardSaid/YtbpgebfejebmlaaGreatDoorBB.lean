/- The abstract layer, part 16a: worlds within worlds: a round, or a call that writes variables, in a context of its own. -/
import Derived.Test.YtbpgebfejebmlaaGreatDoorB7
import Derived.RangeFuncOwn
import Derived.RangeFuncLeaves
import Derived.RangeFuncRecord
import Derived.RangeFuncSeq
namespace Go.Proofs.YtbpgebfejebmlaaGreatDoor
open Go Go.RowKit
set_option linter.unusedSimpArgs false
set_option linter.unusedVariables false

theorem Mem.has_lt {C : Ctx} {bs : List (Nat × List D)} {ms : List (Nat × List (Value × Value))} {g : Gh} {w : World} (m : Mem C bs ms g w) {k0 k : Nat} (h : g.has k0 k) : k < w.heap.size := by
  rcases h with ⟨n, _, h⟩ | ⟨t, v, e, h1, h2⟩ | h | ⟨_, o, h⟩
  · exact (m.bxok n k h).1
  · obtain ⟨_, _, _, _, _, h3, _⟩ := m.tks t v e h1
    exact (h3.lt k h2).2
  · exact (Array.getElem?_eq_some_iff.1 (m.dfs k h).2).1
  · exact m.fzlt k o h

theorem ownsRow_block {w w' : World} {e : TypeId} {size : Nat} {v : Value} {n : Nat} {xs : List Value} (h : w.ownsRow 0 e size v n xs) (hb : ∀ b, v.ownBlock = some b → b < w.heap.size → w'.heap[b]? = w.heap[b]?) : w'.ownsRow 0 e size v n xs := by
  refine ⟨h.1, ?_⟩
  rcases h.2 with hn | ⟨gb, cap, cur, rfl, h0, hgg, rest⟩
  · exact .inl hn
  · exact .inr ⟨gb, cap, cur, rfl, h0, (hb gb rfl (Array.getElem?_eq_some_iff.1 hgg).1).trans hgg, rest⟩

/-- Some blocks are turned, none that is told of. -/
theorem Mem.keepD {C : Ctx} {bs : List (Nat × List D)} {ms : List (Nat × List (Value × Value))} {g : Gh} {w : World} (m : Mem C bs ms g w) {w' : World} {R : Nat → Prop} (hk : KeepD R w w')
    (hR : ∀ k, k < w.heap.size → R k → (C.w0.heap.size ≤ k ∨ C.S k ∨ C.Dm k) ∧ (∀ n, g.bx n ≠ some k) ∧ (∀ t v e, g.tk t = some (v, e) → v.ownBlock ≠ some k) ∧ (∀ D ∈ g.df, D ≠ k) ∧ (∀ o, ¬ g.Fz k o)) :
    Mem C bs ms g w' ∧ Gr g w g w' := by
  have hex : Ex g.Fz w g.Fz w' := fun b o hf => ⟨hf, World.cell?_of_block (hk.block b (m.fzlt b o hf) (fun e => (hR b (m.fzlt b o hf) e).2.2.2.2 o hf))⟩
  have hgr : Gr g w g w' := ⟨fun _ _ h => h, fun _ _ h => h, hex⟩
  have hbx : ∀ n b, g.bx n = some b → w'.heap[b]? = w.heap[b]? := fun n b h => hk.block b (m.bxok n b h).1 (fun e => (hR b (m.bxok n b h).1 e).2.1 n h)
  refine ⟨?_, hgr⟩
  exact {
    os := hk.os.trans m.os
    tape := hk.tape.trans m.tape
    output := hk.output.trans m.output
    hsz := Nat.le_trans m.hsz hk.size
    old := fun k h1 hs hd => (hk.block k (Nat.lt_of_lt_of_le h1 m.hsz) (fun e => by
      rcases (hR k (Nat.lt_of_lt_of_le h1 m.hsz) e).1 with h | h | h
      · omega
      · exact hs h
      · exact hd h)).trans (m.old k h1 hs hd)
    keep := m.keep.trans hex
    newfz := m.newfz
    fzlt := fun b o hf => Nat.lt_of_lt_of_le (m.fzlt b o hf) hk.size
    bxs := fun n ds hn => by
      obtain ⟨b, cs, t, h1, h2, h3⟩ := m.bxs n ds hn
      exact ⟨b, cs, t, h1, (hbx n b h1).trans h2, h3.mono hgr⟩
    mps := fun n es hn => by
      obtain ⟨b, en, c, h1, h2, h3⟩ := m.mps n es hn
      exact ⟨b, en, c, h1, (hbx n b h1).trans h2, h3⟩
    bxok := fun n b hb => ⟨Nat.lt_of_lt_of_le (m.bxok n b hb).1 hk.size, (m.bxok n b hb).2⟩
    bxinj := m.bxinj
    tks := fun t v e ht => by
      obtain ⟨i, n, xs, h1, h2, h3, h4⟩ := m.tks t v e ht
      exact ⟨i, n, xs, h1, h2, ownsRow_block h3 (fun b hb hlt => hk.block b hlt (fun hr => (hR b hlt hr).2.2.1 t v e ht hb)), h4⟩
    tkinj := m.tkinj
    bxtk := m.bxtk
    dfs := fun D hD => by
      have hlt := (Array.getElem?_eq_some_iff.1 (m.dfs D hD).2).1
      exact ⟨(m.dfs D hD).1, (hk.block D hlt (fun e => (hR D hlt e).2.2.2.1 D hD rfl)).trans (m.dfs D hD).2⟩
    dnd := m.dnd
    bxdf := m.bxdf
    bxdm := m.bxdm }

/-- The blocks that one within may write. -/
def Gh.S (g : Gh) (b : Nat) : Prop := (∃ n, n < 1000000 ∧ g.bx n = some b) ∨ (∃ t v e, g.tk t = some (v, e) ∧ v.ownBlock = some b)

/-- Which slots one within may write. -/
def NestOK (g : Gh) (N : Nat) (wr : Nat → Bool) : Prop := (∀ i, wr i = true → i < N ∧ g.bx i = none) ∧ ∀ n, 200000 ≤ n → n < 400000 → g.bx n = none

/-- The context of one within. -/
def Ctx.nest (P : Program) (w : World) (g : Gh) (N : Nat) (wr : Nat → Bool) (hwr : NestOK g N wr) : Ctx :=
  ⟨P, w, g.Fz, g.S, N, wr, g.bx, fun h _ _ => h = .no, fun _ => False, hwr.1, hwr.2, fun _ h => h.elim, fun _ _ _ _ _ _ h _ _ _ => h⟩

theorem Mem.into {C : Ctx} {bs : List (Nat × List D)} {ms : List (Nat × List (Value × Value))} {g : Gh} {w : World} (m : Mem C bs ms g w) (N : Nat) (wr : Nat → Bool) (hwr : NestOK g N wr) :
    Mem (.nest C.P w g N wr hwr) bs ms { g with df := [] } w where
  os := rfl
  tape := rfl
  output := rfl
  hsz := Nat.le_refl _
  old := fun _ _ _ _ => rfl
  keep := Ex.refl _ _
  newfz := fun _ _ h _ => .inl h
  fzlt := m.fzlt
  bxs := fun n ds hn => by
    obtain ⟨b, cs, t, h1, h2, h3⟩ := m.bxs n ds hn
    exact ⟨b, cs, t, h1, h2, Reps.mono (g := g) (g' := { g with df := [] }) ⟨fun _ _ h => h, fun _ _ h => h, Ex.refl _ _⟩ h3⟩
  mps := m.mps
  bxok := fun n b hb => ⟨(m.bxok n b hb).1, by
    by_cases h : n < 1000000
    · exact .inr (.inl (.inl ⟨n, h, hb⟩))
    · exact .inr (.inr (by omega)), (m.bxok n b hb).2.2⟩
  bxinj := m.bxinj
  tks := fun t v e ht => by
    obtain ⟨i, n, xs, h1, h2, h3, h4⟩ := m.tks t v e ht
    exact ⟨i, n, xs, h1, h2, h3, fun b hb => ⟨.inr (.inr ⟨t, v, e, ht, hb⟩), (h4 b hb).2⟩⟩
  tkinj := m.tkinj
  bxtk := m.bxtk
  dfs := fun D hD => by cases hD
  dnd := List.nodup_nil
  bxdf := fun n D hD => by cases hD
  bxdm := fun _ _ _ h => h

/-- What is left of the ghost behind one within. -/
abbrev Gh.back (g g3 : Gh) : Gh := ⟨g.bx, g3.tk, g3.Fz, g.df⟩

theorem Mem.outof {C : Ctx} {bs0 bs bs4 : List (Nat × List D)} {ms0 ms : List (Nat × List (Value × Value))} {g g3 : Gh} {w w3 : World} {N : Nat} {wr : Nat → Bool} {hwr : NestOK g N wr}
    (m : Mem C bs0 ms0 g w) (m3 : Mem (.nest C.P w g N wr hwr) bs ms g3 w3) (hpin : ∀ n b, g.bx n = some b → g3.bx n = some b)
    (hbs : ∀ n ds, lk bs4 n = some ds → ∃ b cs t, g.bx n = some b ∧ w3.heap[b]? = some (.cells cs t (0, 0)) ∧ Reps (g.back g3) w3 ds cs.toList) : Mem C bs4 [] (g.back g3) w3 := by
  have hS : ∀ b, g.S b → C.w0.heap.size ≤ b ∨ C.S b := fun b hb => by
    rcases hb with ⟨n, h1, h2⟩ | ⟨t, v, e, h1, h2⟩
    · rcases (m.bxok n b h2).2.1 with h | h | h
      · exact .inl h
      · exact .inr h
      · omega
    · obtain ⟨_, _, _, _, _, _, h4⟩ := m.tks t v e h1
      exact (h4 b h2).1
  have hSdf : ∀ D ∈ g.df, ¬ g.S D := fun D hD hs => by
    rcases hs with ⟨n, h1, h2⟩ | ⟨t, v, e, h1, h2⟩
    · exact m.bxdf n D hD h2
    · obtain ⟨i, n, xs, _, _, h3, _⟩ := m.tks t v e h1
      rcases h3.2 with ⟨h4, _⟩ | ⟨gb, cap, cur, h4, _, hgg, _⟩
      · rw [h4] at h2; cases h2
      · rw [h4] at h2; cases h2
        rw [(m.dfs _ hD).2] at hgg; cases hgg
  exact {
    os := m3.os.trans m.os
    tape := m3.tape.trans m.tape
    output := m3.output.trans m.output
    hsz := Nat.le_trans m.hsz m3.hsz
    old := fun k h1 hs hd => (m3.old k (Nat.lt_of_lt_of_le h1 m.hsz) (fun h => by
      rcases hS k h with h | h
      · omega
      · exact hs h) (fun h => h)).trans (m.old k h1 hs hd)
    keep := m.keep.trans m3.keep
    newfz := fun b o hf hlt => by
      rcases m3.newfz b o hf (Nat.lt_of_lt_of_le hlt m.hsz) with h | h
      · exact m.newfz b o h hlt
      · rcases hS b h with h | h
        · omega
        · exact .inr h
    fzlt := m3.fzlt
    bxs := hbs
    mps := fun n es h => by simp [lk] at h
    bxok := fun n b hb => ⟨(m3.bxok n b (hpin n b hb)).1, (m.bxok n b hb).2.1, (m3.bxok n b (hpin n b hb)).2.2⟩
    bxinj := m.bxinj
    tks := fun t v e ht => by
      obtain ⟨i, n, xs, h1, h2, h3, h4⟩ := m3.tks t v e ht
      refine ⟨i, n, xs, h1, h2, h3, fun b hb => ⟨?_, (h4 b hb).2⟩⟩
      rcases (h4 b hb).1 with h | h
      · exact .inl (Nat.le_trans m.hsz h)
      · exact hS b h
    tkinj := m3.tkinj
    bxtk := fun n t b v e hb ht => m3.bxtk n t b v e (hpin n b hb) ht
    dfs := fun D hD => ⟨(m.dfs D hD).1, (m3.old D (Array.getElem?_eq_some_iff.1 (m.dfs D hD).2).1 (hSdf D hD) (fun h => h)).trans (m.dfs D hD).2⟩
    dnd := m.dnd
    bxdf := m.bxdf
    bxdm := m.bxdm }

mutual
/-- Names that are not kept become unknown; so does the room behind slices of one's own, if it is not kept. -/
def D.cut (ns : List Nat) (tk : Bool) : D → D
  | .ptr n o => if ns.contains n then .ptr n o else .any
  | .fn f caps => if caps.all (fun c => ns.contains c.1) then .fn f caps else .any
  | .mp _ => .any
  | .agg ds => .agg (D.cuts ns tk ds)
  | .tup ds => .tup (D.cuts ns tk ds)
  | .own e sz els t => if tk then .own e sz els t else .pd (.slice els)
  | .pd x => .pd x
  | .nils => .nils
  | .eptr cs => .eptr cs
  | .any => .any
def D.cuts (ns : List Nat) (tk : Bool) : List D → List D
  | [] => []
  | d :: ds => D.cut ns tk d :: D.cuts ns tk ds
end

theorem Caps.cut {g g' : Gh} {ns : List Nat} (hb : ∀ n b, n ∈ ns → g.bx n = some b → g'.bx n = some b) : ∀ {cs : List (Nat × Nat)} {vs : List Value}, cs.all (fun c => ns.contains c.1) = true → Caps g cs vs → Caps g' cs vs
  | [], _, _, h => h
  | c :: cs, _, hn, ⟨b, vs', e, h, hs⟩ => by
    simp only [List.all_cons, Bool.and_eq_true, List.contains_iff_mem] at hn
    exact ⟨b, vs', e, hb _ _ hn.1 h, Caps.cut hb hn.2 hs⟩

section
variable {g g' : Gh} {w w' : World} {ns : List Nat} {tk : Bool}
mutual
theorem Rep.cut (hb : ∀ n b, n ∈ ns → g.bx n = some b → g'.bx n = some b) (ht : tk = true → ∀ t x, g.tk t = some x → g'.tk t = some x) (hx : Ex g.Fz w g'.Fz w') : ∀ {d : D} {v : Value}, Rep g w d v → Rep g' w' (d.cut ns tk) v
  | .pd _, _, h => by simp only [Rep, D.cut] at h ⊢; exact h.mono hx
  | .nils, _, h => by simp only [Rep, D.cut] at h ⊢; exact h
  | .own .., _, h => by
    simp only [Rep, D.cut] at h ⊢
    split
    · rename_i htk
      simp only [Rep]
      exact ⟨h.1.mono hx, ht htk _ _ h.2.1, h.2.2⟩
    · simp only [Rep]; exact h.1.mono hx
  | .ptr n o, _, h => by
    simp only [Rep, D.cut] at h ⊢
    split
    · rename_i hm
      simp only [Rep]; obtain ⟨b, hb', e⟩ := h; exact ⟨b, hb _ _ (List.contains_iff_mem.1 hm) hb', e⟩
    · simp only [Rep]
  | .eptr _, _, h => by
    simp only [Rep, D.cut] at h ⊢
    obtain ⟨b, off, vs, e, hp, hc⟩ := h
    exact ⟨b, off, vs, e, hp.mono hx, fun i u hu => ⟨(hx _ _ (hc i u hu).2).2.trans (hc i u hu).1, (hx _ _ (hc i u hu).2).1⟩⟩
  | .fn f caps, _, h => by
    simp only [Rep, D.cut] at h ⊢
    split
    · rename_i hcs
      simp only [Rep]; obtain ⟨cv, e, hc⟩ := h; exact ⟨cv, e, hc.cut hb hcs⟩
    · simp only [Rep]
  | .mp _, _, h => by simp only [D.cut, Rep]
  | .agg _, _, h => by simp only [Rep, D.cut] at h ⊢; obtain ⟨vs, e, hs⟩ := h; exact ⟨vs, e, Reps.cut hb ht hx hs⟩
  | .tup _, _, h => by simp only [Rep, D.cut] at h ⊢; obtain ⟨vs, e, hs⟩ := h; exact ⟨vs, e, Reps.cut hb ht hx hs⟩
  | .any, _, _ => by simp only [D.cut, Rep]
theorem Reps.cut (hb : ∀ n b, n ∈ ns → g.bx n = some b → g'.bx n = some b) (ht : tk = true → ∀ t x, g.tk t = some x → g'.tk t = some x) (hx : Ex g.Fz w g'.Fz w') : ∀ {ds : List D} {vs : List Value}, Reps g w ds vs → Reps g' w' (D.cuts ns tk ds) vs
  | [], _, h => by simpa only [D.cuts, Reps] using h
  | _ :: _, _, h => by simp only [Reps, D.cuts] at h ⊢; obtain ⟨v, vs', e, hv, hs⟩ := h; exact ⟨v, vs', e, Rep.cut hb ht hx hv, Reps.cut hb ht hx hs⟩
end
end

/-- What is told of the variables that are kept. -/
def bsOf (tk : Bool) (bs : List (Nat × List D)) (ns : List Nat) : List Nat → List (Nat × List D)
  | [] => []
  | n :: r => match lk bs n with
    | some ds => (n, D.cuts ns tk ds) :: bsOf tk bs ns r
    | none => bsOf tk bs ns r

theorem bsOf_lk {tk : Bool} {bs : List (Nat × List D)} {ns : List Nat} : ∀ {l : List Nat} {n : Nat} {ds : List D}, lk (bsOf tk bs ns l) n = some ds → ∃ ds0, n ∈ l ∧ lk bs n = some ds0 ∧ ds = D.cuts ns tk ds0
  | [], _, _, h => by simp [bsOf, lk] at h
  | m :: r, n, ds, h => by
    simp only [bsOf] at h
    split at h
    · rename_i ds0 h0
      simp only [lk] at h
      split at h
      · rename_i e
        subst e
        cases h
        exact ⟨ds0, by simp, h0, rfl⟩
      · obtain ⟨d', h1, h2, h3⟩ := bsOf_lk h
        exact ⟨d', List.mem_cons_of_mem _ h1, h2, h3⟩
    · obtain ⟨d', h1, h2, h3⟩ := bsOf_lk h
      exact ⟨d', List.mem_cons_of_mem _ h1, h2, h3⟩

/-- What is told of the slots. -/
def cutFr (ns : List Nat) (fr : List (Nat × D)) : List (Nat × D) := fr.map fun p => (p.1, D.cut ns false p.2)

/-- The ghost of the variables that are kept, without rows of one's own. -/
abbrev Gh.cut (g : Gh) (ns : List Nat) : Gh := ⟨fun n => if n ∈ ns then g.bx n else none, fun _ => none, g.Fz, g.df⟩

theorem Mem.cut {C : Ctx} {bs : List (Nat × List D)} {ms : List (Nat × List (Value × Value))} {g : Gh} {w : World} (m : Mem C bs ms g w) (ns : List Nat) : Mem C (bsOf false bs ns ns) [] (g.cut ns) w := by
  have hb : ∀ n b, (if n ∈ ns then g.bx n else none) = some b → n ∈ ns ∧ g.bx n = some b := fun n b h => by
    by_cases hn : n ∈ ns
    · rw [if_pos hn] at h; exact ⟨hn, h⟩
    · rw [if_neg hn] at h; cases h
  have hb' : ∀ n b, n ∈ ns → g.bx n = some b → (if n ∈ ns then g.bx n else none) = some b := fun n b hn h => by rw [if_pos hn]; exact h
  exact {
    os := m.os
    tape := m.tape
    output := m.output
    hsz := m.hsz
    old := m.old
    keep := m.keep
    newfz := m.newfz
    fzlt := m.fzlt
    bxs := fun n ds hn => by
      obtain ⟨ds0, h1, h2, rfl⟩ := bsOf_lk hn
      obtain ⟨b, cs, t, h3, h4, h5⟩ := m.bxs n ds0 h2
      exact ⟨b, cs, t, hb' n b h1 h3, h4, Reps.cut (g := g) (g' := g.cut ns) hb' (fun e => by cases e) (Ex.refl _ _) h5⟩
    mps := fun n es h => by simp [lk] at h
    bxok := fun n b h => m.bxok n b (hb n b h).2
    bxinj := fun n k b h h' => m.bxinj n k b (hb n b h).2 (hb k b h').2
    tks := fun t v e h => by cases h
    tkinj := fun t s v u e f b h => by cases h
    bxtk := fun n t b v e _ h => by cases h
    dfs := m.dfs
    dnd := m.dnd
    bxdf := fun n D hD h => m.bxdf n D hD (hb n D h).2
    bxdm := fun n b h => m.bxdm n b (hb n b h).2 }

end Go.Proofs.YtbpgebfejebmlaaGreatDoor
