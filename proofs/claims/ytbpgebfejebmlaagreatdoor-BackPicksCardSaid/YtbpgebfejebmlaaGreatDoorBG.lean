/- The abstract layer, part 18c: calls of functions that write variables, or make new ones. -/
import Derived.Test.YtbpgebfejebmlaaGreatDoorBF
namespace Go.Proofs.YtbpgebfejebmlaaGreatDoor
open Go Go.RowKit
set_option linter.unusedSimpArgs false
set_option linter.unusedVariables false

/-- The callee's names, back. -/
def backN (pin : Bool) (ren back : List (Nat × Nat)) : List (Nat × Nat) := back ++ (if pin then ren.map fun p => (p.2, p.1) else [])

def lostN (pin : Bool) (ren back : List (Nat × Nat)) (n : Nat) : Bool := back.any (fun p => p.2 == n) || (!pin && ren.any (fun p => p.1 == n))
def lostT (tn tback : List (Nat × Nat)) (t : Nat) : Bool := tback.any (fun p => p.2 == t) || tn.any (fun p => p.1 == t)
def wrN (ren : List (Nat × Nat)) (n : Nat) : Bool := ren.any fun p => p.1 == n && decide (p.2 < 1000000)

/-- The caller's state behind the call. -/
def St.merge (st : St) (pin : Bool) (ren tn back tback : List (Nat × Nat)) (bs' : List (Nat × List D)) : St where
  fr := st.fr.map fun p => (p.1, D.sel (fun n => !lostN pin ren back n) (fun t => !lostT tn tback t) p.2)
  bs := renBs true (backN pin ren back) tback bs' (backN pin ren back) ++
    (st.bs.filter fun p => !lostN pin ren back p.1 && !wrN ren p.1).map fun p => (p.1, D.sels (fun n => !lostN pin ren back n) (fun t => !lostT tn tback t) p.2)
  ms := st.ms.filter fun p => !lostN pin ren back p.1 && !ren.any (fun q => q.1 == p.1)
  hs := st.hs

def fullOK (pin : Bool) (bs : List (Nat × List D)) (ren tn back tback : List (Nat × Nat)) : Bool :=
  decide ((ren.map (·.1)).Nodup) && decide ((ren.map (·.2)).Nodup) && decide ((tn.map (·.1)).Nodup) && decide ((tn.map (·.2)).Nodup) &&
  decide ((back.map (·.1)).Nodup) && decide ((back.map (·.2)).Nodup) && decide ((tback.map (·.1)).Nodup) && decide ((tback.map (·.2)).Nodup) &&
  ren.all (fun p => decide (500000 ≤ p.2) && (decide (1000000 ≤ p.2) || decide (p.1 < 1000000)) && (lk bs p.1).isSome && (pin || (decide (200000 ≤ p.1) && decide (p.1 < 400000))) && !back.any (fun q => q.2 == p.1)) &&
  back.all (fun p => decide (p.1 < 500000) && decide (200000 ≤ p.2) && decide (p.2 < 400000))

theorem lkr_none {ren : List (Nat × Nat)} {m : Nat} (h : lkr ren m = none) : ren.any (fun p => p.2 == m) = false := by
  induction ren with
  | nil => rfl
  | cons p r ih =>
    obtain ⟨a, b⟩ := p
    simp only [lkr] at h
    split at h
    · cases h
    · rename_i hne
      simp only [List.any_cons, ih h, Bool.or_false, beq_eq_false_iff_ne]
      exact fun e => hne e.symm

theorem lkr_some {ren : List (Nat × Nat)} {m : Nat} (h : ren.any (fun p => p.2 == m) = true) : ∃ n, lkr ren m = some n := by
  cases hl : lkr ren m with
  | none => rw [lkr_none hl] at h; cases h
  | some n => exact ⟨n, rfl⟩

theorem mem_lk {ren : List (Nat × Nat)} (hn : (ren.map (·.1)).Nodup) {n m : Nat} (h : (n, m) ∈ ren) : lk ren n = some m := by
  induction ren with
  | nil => cases h
  | cons p r ih =>
    obtain ⟨a, b⟩ := p
    simp only [List.map_cons, List.nodup_cons] at hn
    simp only [lk]
    rcases List.mem_cons.1 h with h' | h'
    · cases h'; simp
    · have hne : ¬ n = a := fun e => hn.1 (List.mem_map.2 ⟨(n, m), h', e⟩)
      rw [if_neg hne]
      exact ih hn.2 h'

theorem mem_snd {ren : List (Nat × Nat)} (hn : (ren.map (·.2)).Nodup) {n m k : Nat} (h : (n, m) ∈ ren) (h' : (k, m) ∈ ren) : n = k := by
  have h1 := mem_lkr hn h
  have h2 := mem_lkr hn h'
  rw [h1] at h2; cases h2; rfl

theorem lk_append {α : Type} : ∀ (l r : List (Nat × α)) (i : Nat), lk (l ++ r) i = (lk l i).or (lk r i)
  | [], r, i => by simp [lk]
  | (j, d) :: l, r, i => by
    simp only [List.cons_append, lk]
    split
    · rfl
    · exact lk_append l r i

theorem any_mem {ren : List (Nat × Nat)} {n : Nat} : ren.any (fun p => p.1 == n) = true ↔ ∃ m, (n, m) ∈ ren := by
  simp only [List.any_eq_true, beq_iff_eq]
  exact ⟨fun ⟨p, h1, h2⟩ => ⟨p.2, by rw [← h2]; exact h1⟩, fun ⟨m, h⟩ => ⟨_, h, rfl⟩⟩

/-- The ghost as the callee sees it. -/
def Gh.seen (g : Gh) (ren tn : List (Nat × Nat)) : Gh := ⟨fun m => (lkr ren m).bind g.bx, fun s => (lkr tn s).bind g.tk, g.Fz, []⟩

/-- The ghost behind the call. -/
def Gh.merged (g g' : Gh) (pin : Bool) (ren tn back tback : List (Nat × Nat)) : Gh :=
  ⟨fun n => match lkr back n with
    | some m => g'.bx m
    | none => if (!pin && ren.any (fun p => p.1 == n)) = true then none else g.bx n,
   fun t => match lkr tback t with
    | some s => g'.tk s
    | none => if tn.any (fun p => p.1 == t) = true then none else g.tk t, g'.Fz, g.df⟩

structure FullOK (pin : Bool) (bs : List (Nat × List D)) (ren tn back tback : List (Nat × Nat)) : Prop where
  r1 : (ren.map (·.1)).Nodup
  r2 : (ren.map (·.2)).Nodup
  t1 : (tn.map (·.1)).Nodup
  t2 : (tn.map (·.2)).Nodup
  b1 : (back.map (·.1)).Nodup
  b2 : (back.map (·.2)).Nodup
  u1 : (tback.map (·.1)).Nodup
  u2 : (tback.map (·.2)).Nodup
  rn : ∀ n m, (n, m) ∈ ren → 500000 ≤ m ∧ (1000000 ≤ m ∨ n < 1000000) ∧ (lk bs n).isSome = true ∧ (pin = true ∨ (200000 ≤ n ∧ n < 400000)) ∧ back.any (fun q => q.2 == n) = false
  bk : ∀ m n, (m, n) ∈ back → m < 500000 ∧ 200000 ≤ n ∧ n < 400000

theorem fullOK_spec {pin : Bool} {bs : List (Nat × List D)} {ren tn back tback : List (Nat × Nat)} (h : fullOK pin bs ren tn back tback = true) : FullOK pin bs ren tn back tback := by
  unfold fullOK at h
  rw [Bool.and_eq_true, Bool.and_eq_true, Bool.and_eq_true, Bool.and_eq_true, Bool.and_eq_true, Bool.and_eq_true, Bool.and_eq_true, Bool.and_eq_true, Bool.and_eq_true] at h
  obtain ⟨⟨⟨⟨⟨⟨⟨⟨⟨h1, h2⟩, h3⟩, h4⟩, h5⟩, h6⟩, h7⟩, h8⟩, h9⟩, h10⟩ := h
  refine ⟨of_decide_eq_true h1, of_decide_eq_true h2, of_decide_eq_true h3, of_decide_eq_true h4, of_decide_eq_true h5, of_decide_eq_true h6, of_decide_eq_true h7, of_decide_eq_true h8, fun n m hm => ?_, fun m n hm => ?_⟩
  · have := List.all_eq_true.1 h9 _ hm
    simp only [Bool.and_eq_true, Bool.or_eq_true, decide_eq_true_eq, Bool.not_eq_true'] at this
    obtain ⟨⟨⟨⟨k1, k2⟩, k3⟩, k4⟩, k5⟩ := this
    exact ⟨k1, k2, k3, k4, k5⟩
  · have := List.all_eq_true.1 h10 _ hm
    simp only [Bool.and_eq_true, decide_eq_true_eq] at this
    exact ⟨this.1.1, this.1.2, this.2⟩

section
variable {C : Ctx} {st : St} {g : Gh} {a : Act} {w : World} {ren tn back tback : List (Nat × Nat)} {pin : Bool}

theorem seen_bx {m b : Nat} (h : (g.seen ren tn).bx m = some b) : ∃ n, (n, m) ∈ ren ∧ g.bx n = some b := by
  obtain ⟨n, h2, h3⟩ := Option.bind_eq_some_iff.1 h
  exact ⟨n, lkr_mem h2, h3⟩

theorem seen_tk {s : Nat} {x : Value × TypeId} (h : (g.seen ren tn).tk s = some x) : ∃ t, (t, s) ∈ tn ∧ g.tk t = some x := by
  obtain ⟨n, h2, h3⟩ := Option.bind_eq_some_iff.1 h
  exact ⟨n, lkr_mem h2, h3⟩

theorem seen_mem (m : Mem C st.bs st.ms g w) (ok : FullOK pin st.bs ren tn back tback) (kn : Bool) (N : Nat) : Mem (.call C.P w (g.seen ren tn) N pin) (renBs kn ren tn st.bs ren) [] (g.seen ren tn) w where
  os := rfl
  tape := rfl
  output := rfl
  hsz := Nat.le_refl _
  old := fun _ _ _ _ => rfl
  keep := Ex.refl _ _
  newfz := fun _ _ h _ => .inl h
  fzlt := m.fzlt
  bxs := fun k ds hk => by
    obtain ⟨n, ds0, h1, h2, rfl⟩ := renBs_lk hk
    obtain ⟨b, cs, t, h3, h4, h5⟩ := m.bxs n ds0 h2
    refine ⟨b, cs, t, ?_, h4, Reps.ren (g := g) (g' := g.seen ren tn) (fun n k b h1 h2 => ?_) (fun t s x h1 h2 => ?_) (Ex.refl _ _) h5⟩
    · simp [Gh.seen, mem_lkr ok.r2 h1, h3]
    · simp [Gh.seen, mem_lkr ok.r2 (lk_mem h1), h2]
    · simp [Gh.seen, mem_lkr ok.t2 (lk_mem h1), h2]
  mps := fun n ds h => by simp [lk] at h
  bxok := fun k b hk => by
    obtain ⟨n, h1, h2⟩ := seen_bx hk
    refine ⟨(m.bxok n b h2).1, ?_, (m.bxok n b h2).2.2⟩
    by_cases hk' : k < 1000000
    · exact .inr (.inl (.inl ⟨k, hk', hk⟩))
    · exact .inr (.inr (by omega))
  bxinj := fun k j b hk hj => by
    obtain ⟨n, h1, h2⟩ := seen_bx hk
    obtain ⟨n', h3, h4⟩ := seen_bx hj
    have := m.bxinj n n' b h2 h4
    subst this
    exact mem_fst ok.r1 h1 h3
  tks := fun t v e h => by
    obtain ⟨n, h1, h2⟩ := seen_tk h
    obtain ⟨i, k, xs, k1, k2, k3, k4⟩ := m.tks n v e h2
    exact ⟨i, k, xs, k1, k2, k3, fun b hb => ⟨.inr (.inr ⟨t, v, e, h, hb⟩), (k4 b hb).2⟩⟩
  tkinj := fun t s v u e f b ht hs hv hu => by
    obtain ⟨n, h1, h2⟩ := seen_tk ht
    obtain ⟨n', h3, h4⟩ := seen_tk hs
    have := m.tkinj n n' v u e f b h2 h4 hv hu
    subst this
    exact mem_fst ok.t1 h1 h3
  bxtk := fun n t b v e hn ht => by
    obtain ⟨n', h1, h2⟩ := seen_bx hn
    obtain ⟨t', h3, h4⟩ := seen_tk ht
    exact m.bxtk n' t' b v e h2 h4
  dfs := fun D hD => by cases hD
  dnd := List.nodup_nil
  bxdf := fun n D hD => by cases hD
  bxdm := fun n b _ h => h

/-- The caller's state, merged with what the callee left. -/
theorem SR.merge (hs : SR C st g a w) (ok : FullOK pin st.bs ren tn back tback) {w' : World} {bs' : List (Nat × List D)} {g' : Gh} (m' : Mem (.call C.P w (g.seen ren tn) 0 pin) bs' [] g' w')
    (hpin : pin = true → ∀ n b, (g.seen ren tn).bx n = some b → g'.bx n = some b) :
    SR C (st.merge pin ren tn back tback bs') (g.merged g' pin ren tn back tback) a w' ∧ ∀ d v, Rep g' w' d v → Rep (g.merged g' pin ren tn back tback) w' (d.ren true (backN pin ren back) tback) v := by
  have m := hs.mem
  obtain ⟨SB, hSB⟩ : ∃ SB : Nat → Prop, SB = fun b => (∃ n k, (n, k) ∈ ren ∧ k < 1000000 ∧ g.bx n = some b) ∨ (∃ t s v e, (t, s) ∈ tn ∧ g.tk t = some (v, e) ∧ v.ownBlock = some b) := ⟨_, rfl⟩
  have hS : ∀ b, (g.seen ren tn).S b → SB b := fun b hb => by
    rw [hSB]
    rcases hb with ⟨k, h1, h2⟩ | ⟨t, v, e, h1, h2⟩
    · obtain ⟨n, h3, h4⟩ := seen_bx h2
      exact .inl ⟨n, k, h3, h1, h4⟩
    · obtain ⟨t', h3, h4⟩ := seen_tk h1
      exact .inr ⟨t', t, v, e, h3, h4, h2⟩
  have hSw : ∀ b, SB b → (C.w0.heap.size ≤ b ∨ C.S b) ∧ g.has C.w0.heap.size b := fun b hb => by
    rw [hSB] at hb
    rcases hb with ⟨n, k, h1, h2, h3⟩ | ⟨t, s, v, e, h1, h2, h3⟩
    · have hn : n < 1000000 := by rcases (ok.rn n k h1).2.1 with h | h <;> omega
      refine ⟨?_, .inl ⟨n, .inl hn, h3⟩⟩
      rcases (m.bxok n b h3).2.1 with h | h | h
      · exact .inl h
      · exact .inr h
      · omega
    · obtain ⟨_, _, _, _, _, _, h4⟩ := m.tks t v e h2
      exact ⟨(h4 b h3).1, .inr (.inl ⟨t, v, e, h2, h3⟩)⟩
  -- a block that was handed to nobody
  have hold : ∀ b, b < w.heap.size → ¬ SB b → w'.heap[b]? = w.heap[b]? := fun b hb hn => m'.old b hb (fun h => hn (hS b h)) (fun h => h)
  have holdfz : ∀ b o, b < w.heap.size → ¬ SB b → g'.Fz b o → g.Fz b o := fun b o hb hn hf => by
    rcases m'.newfz b o hf hb with h | h
    · exact h
    · exact absurd (hS b h) hn
  have hcbx : ∀ k b, k < 1000000 → g'.bx k = some b → w.heap.size ≤ b ∨ SB b := fun k b hk hb => by
    rcases (m'.bxok k b hb).2.1 with h | h | h
    · exact .inl h
    · exact .inr (hS b h)
    · omega
  have hctk : ∀ t v e b, g'.tk t = some (v, e) → v.ownBlock = some b → w.heap.size ≤ b ∨ SB b := fun t v e b ht hv => by
    obtain ⟨_, _, _, _, _, _, h4⟩ := m'.tks t v e ht
    rcases (h4 b hv).1 with h | h
    · exact .inl h
    · exact .inr (hS b h)
  obtain ⟨gN, hgN⟩ : ∃ gN, gN = g.merged g' pin ren tn back tback := ⟨_, rfl⟩
  have hFz : gN.Fz = g'.Fz := by rw [hgN]; rfl
  have hdf : gN.df = g.df := by rw [hgN]; rfl
  -- names
  have hbx : ∀ n b, gN.bx n = some b → (∃ k, (k, n) ∈ back ∧ g'.bx k = some b ∧ k < 500000) ∨ (lostN pin ren back n = false ∧ g.bx n = some b ∧ ((∃ k, (n, k) ∈ ren ∧ 500000 ≤ k ∧ k < 1000000 ∧ g'.bx k = some b) ∨ ¬ SB b)) := by
    intro n b h
    rw [hgN] at h
    simp only [Gh.merged] at h
    split at h
    · rename_i k hk
      exact .inl ⟨k, lkr_mem hk, h, (ok.bk k n (lkr_mem hk)).1⟩
    · rename_i hk
      split at h
      · cases h
      · rename_i hl
        have hl' : (!pin && ren.any (fun p => p.1 == n)) = false := Bool.eq_false_iff.2 hl
        refine .inr ⟨by rw [lostN, lkr_none hk, hl']; rfl, h, ?_⟩
        by_cases hn : ∃ k, (n, k) ∈ ren ∧ k < 1000000
        · obtain ⟨k, hk1, hk2⟩ := hn
          have hp : pin = true := by
            rw [any_mem.2 ⟨k, hk1⟩] at hl'
            cases pin
            · simp at hl'
            · rfl
          refine .inl ⟨k, hk1, (ok.rn n k hk1).1, hk2, hpin hp k b ?_⟩
          simp [Gh.seen, mem_lkr ok.r2 hk1, h]
        · refine .inr fun hsb => ?_
          rw [hSB] at hsb
          rcases hsb with ⟨n', k, h1, h2, h3⟩ | ⟨t, s, v, e, h1, h2, h3⟩
          · rw [m.bxinj _ _ _ h3 h] at h1
            exact hn ⟨k, h1, h2⟩
          · exact m.bxtk n t b v e h h2 h3
  have hbxkeep : ∀ n b, lostN pin ren back n = false → g.bx n = some b → gN.bx n = some b := by
    intro n b hl h
    simp only [lostN, Bool.or_eq_false_iff] at hl
    rw [hgN]
    simp only [Gh.merged]
    split
    · rename_i k hk
      have := List.any_eq_false.1 hl.1 _ (lkr_mem hk)
      simp at this
    · rw [hl.2]; simpa using h
  have hbxnew : ∀ k n b, (k, n) ∈ back → g'.bx k = some b → gN.bx n = some b := by
    intro k n b hk h
    rw [hgN]
    simp only [Gh.merged, mem_lkr ok.b2 hk]
    exact h
  -- rows of one's own
  have htk : ∀ t v e, gN.tk t = some (v, e) → (∃ s, (s, t) ∈ tback ∧ g'.tk s = some (v, e)) ∨ (g.tk t = some (v, e) ∧ ∀ b, v.ownBlock = some b → ¬ SB b) := by
    intro t v e h
    rw [hgN] at h
    simp only [Gh.merged] at h
    split at h
    · rename_i s hs'
      exact .inl ⟨s, lkr_mem hs', h⟩
    · split at h
      · cases h
      · rename_i hl
        refine .inr ⟨h, fun b hb hsb => ?_⟩
        rw [hSB] at hsb
        rcases hsb with ⟨n', k, h1, h2, h3⟩ | ⟨t', s, u, f, h1, h2, h3⟩
        · exact m.bxtk n' t b v e h3 h hb
        · rw [m.tkinj _ _ _ _ _ _ b h2 h h3 hb] at h1
          exact hl (any_mem.2 ⟨s, h1⟩)
  have htkkeep : ∀ t x, lostT tn tback t = false → g.tk t = some x → gN.tk t = some x := by
    intro t x hl h
    simp only [lostT, Bool.or_eq_false_iff] at hl
    rw [hgN]
    simp only [Gh.merged]
    split
    · rename_i s hs'
      have := List.any_eq_false.1 hl.1 _ (lkr_mem hs')
      simp at this
    · rw [hl.2]; simpa using h
  have htknew : ∀ s t x, (s, t) ∈ tback → g'.tk s = some x → gN.tk t = some x := by
    intro s t x hk h
    rw [hgN]
    simp only [Gh.merged, mem_lkr ok.u2 hk]
    exact h
  have hex : Ex g.Fz w gN.Fz w' := by rw [hFz]; exact m'.keep
  -- back from the callee's names
  have hback : ∀ k n b, lk (backN pin ren back) k = some n → g'.bx k = some b → gN.bx n = some b := by
    intro k n b hk h
    rcases List.mem_append.1 (lk_mem hk) with h1 | h1
    · exact hbxnew k n b h1 h
    · split at h1
      · rename_i hp
        obtain ⟨⟨n', k'⟩, h2, h3⟩ := List.mem_map.1 h1
        have e1 : k' = k := congrArg Prod.fst h3
        have e2 : n' = n := congrArg Prod.snd h3
        rw [e1, e2] at h2
        obtain ⟨q1, q2, q3, q4, q5⟩ := ok.rn n k h2
        obtain ⟨ds, hds⟩ := Option.isSome_iff_exists.1 q3
        obtain ⟨b0, _, _, hb0, _⟩ := m.bxs n ds hds
        have e1 : (g.seen ren tn).bx k = some b0 := by simp [Gh.seen, mem_lkr ok.r2 h2, hb0]
        have e2 := hpin hp k b0 e1
        rw [h] at e2
        cases e2
        refine hbxkeep n b ?_ hb0
        rw [lostN, q5, hp]; rfl
      · cases h1
  have hrepb : ∀ d v, Rep g' w' d v → Rep gN w' (d.ren true (backN pin ren back) tback) v := fun d v h =>
    Rep.ren (g := g') (g' := gN) hback (fun t s x h1 h2 => htknew t s x (lk_mem h1) h2) (by rw [hFz]; exact Ex.refl _ _) h
  have hrepsb : ∀ ds vs, Reps g' w' ds vs → Reps gN w' (D.rens true (backN pin ren back) tback ds) vs := fun d v h =>
    Reps.ren (g := g') (g' := gN) hback (fun t s x h1 h2 => htknew t s x (lk_mem h1) h2) (by rw [hFz]; exact Ex.refl _ _) h
  have hk1 : ∀ n b, (!lostN pin ren back n) = true → g.bx n = some b → gN.bx n = some b := fun n b h => hbxkeep n b (by simpa using h)
  have hk2 : ∀ t x, (!lostT tn tback t) = true → g.tk t = some x → gN.tk t = some x := fun n b h => htkkeep n b (by simpa using h)
  have hSdf : ∀ D ∈ g.df, ¬ SB D := fun D hD hsb => by
    rw [hSB] at hsb
    rcases hsb with ⟨n', k, h1, h2, h3⟩ | ⟨t', s, u, f, h1, h2, h3⟩
    · exact m.bxdf n' D hD h3
    · obtain ⟨i, n, xs, _, _, h5, _⟩ := m.tks t' u f h2
      rcases h5.2 with ⟨h4, _⟩ | ⟨gb, cap, cur, h4, _, hgg, _⟩
      · rw [h4] at h3; cases h3
      · rw [h4] at h3; cases h3
        rw [(m.dfs _ hD).2] at hgg; cases hgg
  have hdlt : ∀ D ∈ g.df, D < w.heap.size := fun D hD => (Array.getElem?_eq_some_iff.1 (m.dfs D hD).2).1
  have hmem : Mem C (st.merge pin ren tn back tback bs').bs (st.merge pin ren tn back tback bs').ms gN w' := {
    os := m'.os.trans m.os
    tape := m'.tape.trans m.tape
    output := m'.output.trans m.output
    hsz := Nat.le_trans m.hsz m'.hsz
    old := fun k h1 hns hd => (hold k (Nat.lt_of_lt_of_le h1 m.hsz) (fun h => by
      rcases (hSw k h).1 with h | h
      · omega
      · exact hns h)).trans (m.old k h1 hns hd)
    keep := m.keep.trans hex
    newfz := fun b o hf hlt => by
      rw [hFz] at hf
      rcases m'.newfz b o hf (Nat.lt_of_lt_of_le hlt m.hsz) with h | h
      · exact m.newfz b o h hlt
      · rcases (hSw b (hS b h)).1 with h | h
        · omega
        · exact .inr h
    fzlt := fun b o hf => m'.fzlt b o (by rw [← hFz]; exact hf)
    bxs := fun n ds hn => by
      simp only [St.merge] at hn
      rw [lk_append] at hn
      rcases Option.or_eq_some_iff.1 hn with hn | ⟨_, hn⟩
      · obtain ⟨k, ds0, h1, h2, rfl⟩ := renBs_lk hn
        obtain ⟨b, cs, t, h3, h4, h5⟩ := m'.bxs k ds0 h2
        refine ⟨b, cs, t, ?_, h4, hrepsb _ _ h5⟩
        rcases List.mem_append.1 h1 with h6 | h6
        · exact hbxnew k n b h6 h3
        · split at h6
          · rename_i hp
            obtain ⟨⟨n', k'⟩, h7, h8⟩ := List.mem_map.1 h6
            have e1 : k' = k := congrArg Prod.fst h8
            have e2 : n' = n := congrArg Prod.snd h8
            rw [e1, e2] at h7
            obtain ⟨q1, q2, q3, q4, q5⟩ := ok.rn n k h7
            obtain ⟨ds', hds⟩ := Option.isSome_iff_exists.1 q3
            obtain ⟨b0, _, _, hb0, _⟩ := m.bxs n ds' hds
            have e1 : (g.seen ren tn).bx k = some b0 := by simp [Gh.seen, mem_lkr ok.r2 h7, hb0]
            have e2 := hpin hp k b0 e1
            rw [h3] at e2
            cases e2
            refine hbxkeep n b ?_ hb0
            rw [lostN, q5, hp]; rfl
          · cases h6
      · rw [lk_map, lk_filter (fun j => !lostN pin ren back j && !wrN ren j)] at hn
        obtain ⟨ds0, h0, rfl⟩ := Option.map_eq_some_iff.1 hn
        split at h0
        · rename_i hl
          simp only [Bool.and_eq_true, Bool.not_eq_true'] at hl
          obtain ⟨b, cs, t, h3, h4, h5⟩ := m.bxs n ds0 h0
          have hnb : ¬ SB b := fun hsb => by
            rw [hSB] at hsb
            rcases hsb with ⟨n', k, h6, h7, h8⟩ | ⟨t', s, u, f, h6, h7, h8⟩
            · rw [m.bxinj _ _ _ h8 h3] at h6
              have := List.any_eq_false.1 hl.2 _ h6
              simp [h7] at this
            · exact m.bxtk n t' b u f h3 h7 h8
          exact ⟨b, cs, t, hbxkeep n b hl.1 h3, (hold b (m.bxok n b h3).1 hnb).trans h4, Reps.sel (g := g) (g' := gN) hk1 hk2 hex h5⟩
        · cases h0
    mps := fun n es hn => by
      simp only [St.merge] at hn
      rw [lk_filter (fun j => !lostN pin ren back j && !ren.any (fun q => q.1 == j))] at hn
      split at hn
      · rename_i hl
        simp only [Bool.and_eq_true, Bool.not_eq_true'] at hl
        obtain ⟨b, en, c, h3, h4, h5⟩ := m.mps n es hn
        have hnb : ¬ SB b := fun hsb => by
          rw [hSB] at hsb
          rcases hsb with ⟨n', k, h6, h7, h8⟩ | ⟨t', s, u, f, h6, h7, h8⟩
          · rw [m.bxinj _ _ _ h8 h3] at h6
            rw [any_mem.2 ⟨k, h6⟩] at hl
            cases hl.2
          · exact m.bxtk n t' b u f h3 h7 h8
        exact ⟨b, en, c, hbxkeep n b hl.1 h3, (hold b (m.bxok n b h3).1 hnb).trans h4, h5⟩
      · cases hn
    bxok := fun n b hb => by
      rcases hbx n b hb with ⟨k, h1, h2, h3⟩ | ⟨_, h2, ⟨k, h3, h4, h5, h6⟩ | h3⟩
      · refine ⟨(m'.bxok k b h2).1, ?_, fun o hf => (m'.bxok k b h2).2.2 o (by rw [← hFz]; exact hf)⟩
        rcases hcbx k b (by omega) h2 with h | h
        · exact .inl (Nat.le_trans m.hsz h)
        · rcases (hSw b h).1 with h | h
          · exact .inl h
          · exact .inr (.inl h)
      · exact ⟨(m'.bxok k b h6).1, (m.bxok n b h2).2.1, fun o hf => (m'.bxok k b h6).2.2 o (by rw [← hFz]; exact hf)⟩
      · exact ⟨Nat.lt_of_lt_of_le (m.bxok n b h2).1 m'.hsz, (m.bxok n b h2).2.1, fun o hf => (m.bxok n b h2).2.2 o (holdfz b o (m.bxok n b h2).1 h3 (by rw [← hFz]; exact hf))⟩
    bxinj := fun n j b hn hj => by
      rcases hbx n b hn with ⟨k, h1, h2, h3⟩ | ⟨_, h2, h3⟩ <;> rcases hbx j b hj with ⟨k', h1', h2', h3'⟩ | ⟨_, h2', h3'⟩
      · have := m'.bxinj _ _ _ h2 h2'
        subst this
        exact mem_fst ok.b1 h1 h1'
      · rcases h3' with ⟨k', _, h5, _, h6⟩ | h5
        · have := m'.bxinj _ _ _ h2 h6; omega
        · rcases hcbx k b (by omega) h2 with h | h
          · have := (m.bxok j b h2').1; omega
          · exact absurd h h5
      · rcases h3 with ⟨k, _, h5, _, h6⟩ | h5
        · have := m'.bxinj _ _ _ h2' h6; omega
        · rcases hcbx k' b (by omega) h2' with h | h
          · have := (m.bxok n b h2).1; omega
          · exact absurd h h5
      · exact m.bxinj _ _ _ h2 h2'
    tks := fun t v e ht => by
      rcases htk t v e ht with ⟨s, h1, h2⟩ | ⟨h1, h2⟩
      · obtain ⟨i, n, xs, k1, k2, k3, k4⟩ := m'.tks s v e h2
        refine ⟨i, n, xs, k1, k2, k3, fun b hb => ⟨?_, fun o hf => (k4 b hb).2 o (by rw [← hFz]; exact hf)⟩⟩
        rcases hctk s v e b h2 hb with h | h
        · exact .inl (Nat.le_trans m.hsz h)
        · exact (hSw b h).1
      · obtain ⟨i, n, xs, k1, k2, k3, k4⟩ := m.tks t v e h1
        exact ⟨i, n, xs, k1, k2, ownsRow_block k3 (fun b hb hlt => hold b hlt (h2 b hb)), fun b hb => ⟨(k4 b hb).1, fun o hf => (k4 b hb).2 o (holdfz b o (k3.lt b hb).2 (h2 b hb) (by rw [← hFz]; exact hf))⟩⟩
    tkinj := fun t s v u e f b ht hs' hv hu => by
      rcases htk t v e ht with ⟨k, h1, h2⟩ | ⟨h1, h2⟩ <;> rcases htk s u f hs' with ⟨k', h1', h2'⟩ | ⟨h1', h2'⟩
      · have := m'.tkinj _ _ _ _ _ _ b h2 h2' hv hu
        subst this
        exact mem_fst ok.u1 h1 h1'
      · rcases hctk k v e b h2 hv with h | h
        · obtain ⟨_, _, _, _, _, k3, _⟩ := m.tks s u f h1'
          have := (k3.lt b hu).2; omega
        · exact absurd h (h2' b hu)
      · rcases hctk k' u f b h2' hu with h | h
        · obtain ⟨_, _, _, _, _, k3, _⟩ := m.tks t v e h1
          have := (k3.lt b hv).2; omega
        · exact absurd h (h2 b hv)
      · exact m.tkinj _ _ _ _ _ _ b h1 h1' hv hu
    bxtk := fun n t b v e hn ht hv => by
      rcases hbx n b hn with ⟨k, h1, h2, h3⟩ | ⟨_, h2, h3⟩ <;> rcases htk t v e ht with ⟨s, h1', h2'⟩ | ⟨h1', h2'⟩
      · exact m'.bxtk k s b v e h2 h2' hv
      · rcases hcbx k b (by omega) h2 with h | h
        · obtain ⟨_, _, _, _, _, k3, _⟩ := m.tks t v e h1'
          have := (k3.lt b hv).2; omega
        · exact h2' b hv h
      · rcases h3 with ⟨k, _, _, _, h6⟩ | h5
        · exact m'.bxtk k s b v e h6 h2' hv
        · rcases hctk s v e b h2' hv with h | h
          · have := (m.bxok n b h2).1; omega
          · exact h5 h
      · exact m.bxtk n t b v e h2 h1' hv
    dfs := fun D hD => by
      rw [hdf] at hD
      exact ⟨(m.dfs D hD).1, (hold D (hdlt D hD) (hSdf D hD)).trans (m.dfs D hD).2⟩
    dnd := by rw [hdf]; exact m.dnd
    bxdf := fun n D hD hb => by
      rw [hdf] at hD
      rcases hbx n D hb with ⟨k, h1, h2, h3⟩ | ⟨_, h2, h3⟩
      · rcases hcbx k D (by omega) h2 with h | h
        · have := hdlt D hD; omega
        · exact hSdf D hD h
      · exact m.bxdf n D hD h2
    bxdm := fun n b hb hd => by
      rcases hbx n b hb with ⟨k, h1, h2, h3⟩ | ⟨_, h2, h3⟩
      · obtain ⟨d1, d2, _⟩ := C.dmok b hd
        rcases hcbx k b (by omega) h2 with h | h
        · have := m.hsz; omega
        · rcases (hSw b h).1 with h | h
          · omega
          · exact d2 h
      · exact m.bxdm n b h2 hd }
  have hX : C.X st.hs (gN.has C.w0.heap.size) w' := C.Xok _ _ _ SB _ _ hs.x ⟨m'.os, m'.tape, m'.output, m'.hsz, hold⟩ (fun k hk => (hSw k hk).2) (fun k hk => by
    rcases hk with ⟨n, h1, h2⟩ | ⟨t, v, e, h1, h2⟩ | hk | ⟨h1, o, ho⟩
    · rcases hbx n k h2 with ⟨j, h3, h4, h5⟩ | ⟨_, h4, _⟩
      · rcases hcbx j k (by omega) h4 with h | h
        · exact .inr h
        · exact .inl (hSw k h).2
      · exact .inl (.inl ⟨n, h1, h4⟩)
    · rcases htk t v e h1 with ⟨s, h3, h4⟩ | ⟨h4, _⟩
      · rcases hctk s v e k h4 h2 with h | h
        · exact .inr h
        · exact .inl (hSw k h).2
      · exact .inl (.inr (.inl ⟨t, v, e, h4, h2⟩))
    · rw [hdf] at hk
      exact .inl (.inr (.inr (.inl hk)))
    · rcases Nat.lt_or_ge k w.heap.size with hlt | hge
      · rw [hFz] at ho
        rcases m'.newfz k o ho hlt with h | h
        · exact .inl (.inr (.inr (.inr ⟨h1, o, h⟩)))
        · exact .inl (hSw k (hS k h)).2
      · exact .inr hge)
  rw [← hgN]
  refine ⟨⟨by rw [hdf]; exact hs.defers, hs.size, fun i d hd => ?_, hmem, hX, fun n b hn => ?_⟩, hrepb⟩
  · simp only [St.merge] at hd
    rw [lk_map] at hd
    obtain ⟨d0, h0, rfl⟩ := Option.map_eq_some_iff.1 hd
    obtain ⟨h3, h4⟩ := hs.rep i d0 h0
    exact ⟨h3, Rep.sel (g := g) (g' := gN) hk1 hk2 hex h4⟩
  · refine hbxkeep n b ?_ (hs.fix n b hn)
    have hnr : ¬ (200000 ≤ n ∧ n < 400000) := fun h => by rw [C.nmok n h.1 h.2] at hn; cases hn
    have h1 : back.any (fun p => p.2 == n) = false := List.any_eq_false.2 fun p hp => by
      have := (ok.bk p.1 p.2 hp).2
      simp only [beq_iff_eq]
      intro e
      exact hnr (e ▸ this)
    rw [lostN, h1, Bool.false_or]
    cases pin with
    | true => rfl
    | false =>
      simp only [Bool.not_false, Bool.true_and]
      refine List.any_eq_false.2 fun p hp => ?_
      have := (ok.rn p.1 p.2 hp).2.2.2.1
      simp only [beq_iff_eq]
      intro e
      rcases this with h | h
      · cases h
      · exact hnr (e ▸ h)

/-- A call of such a function. -/
theorem Full.callW {P : Program} {f : FuncId} {args as' : List D} {bs0 : List (Nat × List D)} {pin : Bool} {R : D → List (Nat × List D) → Prop} (he : Enters P f) (h : Full P f as' bs0 pin R) (st : St) (kn : Bool) (ren tn back tback : List (Nat × Nat))
    (hok : fullOK pin st.bs ren tn back tback = true) (ha : D.rens kn ren tn args = as') (hb : renBs kn ren tn st.bs ren = bs0) {K : D → St → Prop}
    (hk : ∀ d bs', R d bs' → K (d.ren true (backN pin ren back) tback) (st.merge pin ren tn back tback bs')) : CallW P f args st K := by
  refine ⟨he, fun C g a w vs hP hs hr => ?_⟩
  subst hP ha hb
  have ok := fullOK_spec hok
  refine (h (g.seen ren tn) w vs rfl (fun n b hn => ?_) (fun N => seen_mem hs.mem ok kn N) (Reps.ren (g := g) (g' := g.seen ren tn) (fun n k b h1 h2 => ?_) (fun t s x h1 h2 => ?_) (Ex.refl _ _) hr)).mono ?_
  · obtain ⟨n', h1, _⟩ := seen_bx hn
    exact (ok.rn n' n h1).1
  · simp [Gh.seen, mem_lkr ok.r2 (lk_mem h1), h2]
  · simp [Gh.seen, mem_lkr ok.t2 (lk_mem h1), h2]
  · rintro e w' ⟨v, d, bs', g', rfl, hR, m', _, hpin, hrep⟩
    obtain ⟨h1, h2⟩ := hs.merge ok m' hpin
    exact ⟨v, _, _, _, rfl, hk d bs' hR, h1, h2 d v hrep⟩
end

end Go.Proofs.YtbpgebfejebmlaaGreatDoor
