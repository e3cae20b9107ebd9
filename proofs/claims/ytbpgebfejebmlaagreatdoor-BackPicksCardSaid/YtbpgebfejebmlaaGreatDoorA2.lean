/- The abstract layer, part 2: abstract states, how they stand for machine states, and what the steps on memory do to them. -/
import Derived.Test.YtbpgebfejebmlaaGreatDoorA1
namespace Go.Proofs.YtbpgebfejebmlaaGreatDoor
open Go Go.RowKit
set_option linter.unusedSimpArgs false
set_option linter.unusedVariables false

def lk {α : Type} : List (Nat × α) → Nat → Option α
  | [], _ => none
  | (j, d) :: r, i => if i = j then some d else lk r i

/-- What an iterator has handed on by now, and whether it was told to stop. -/
inductive Hist where
  | no
  | it (l : Nat) (xs : List (List Value)) (i : Nat) (stop : Bool)

structure St where
  fr : List (Nat × D)
  bs : List (Nat × List D)
  ms : List (Nat × List (Value × Value))
  hs : Hist

mutual
def D.drop (n : Nat) : D → D
  | .ptr m o => if m = n then .any else .ptr m o
  | .fn f caps => if caps.any (·.1 == n) then .any else .fn f caps
  | .mp m => if m = n then .any else .mp m
  | .agg ds => .agg (D.drops n ds)
  | .tup ds => .tup (D.drops n ds)
  | .pd x => .pd x
  | .nils => .nils
  | .own e sz els t => .own e sz els t
  | .eptr cs => .eptr cs
  | .any => .any
def D.drops (n : Nat) : List D → List D
  | [] => []
  | d :: ds => D.drop n d :: D.drops n ds
end

mutual
def D.purge (t : Nat) : D → D
  | .own e sz els s => if s = t then .pd (.slice els) else .own e sz els s
  | .agg ds => .agg (D.purges t ds)
  | .tup ds => .tup (D.purges t ds)
  | .pd x => .pd x
  | .nils => .nils
  | .ptr m o => .ptr m o
  | .fn f caps => .fn f caps
  | .mp m => .mp m
  | .eptr cs => .eptr cs
  | .any => .any
def D.purges (t : Nat) : List D → List D
  | [] => []
  | d :: ds => D.purge t d :: D.purges t ds
end

/-- May it lie in one cell? -/
def D.sc : D → Bool
  | .agg _ | .tup _ | .any => false
  | _ => true

theorem Rep.one {g : Gh} {w : World} {d : D} {v : Value} (h : Rep g w d v) (hs : d.sc = true) : v.oneCell' = true := by
  cases d <;> simp only [Rep] at h <;> simp [D.sc] at hs
  · exact h.one
  · subst h; rfl
  · exact h.1.one
  · obtain ⟨b, _, rfl⟩ := h; rfl
  · obtain ⟨b, o, vs, rfl, _⟩ := h; rfl
  · obtain ⟨cv, rfl, _⟩ := h; rfl
  · obtain ⟨b, _, rfl⟩ := h; rfl

theorem Reps.ones {g : Gh} {w : World} : ∀ {ds : List D} {vs : List Value}, Reps g w ds vs → ds.all D.sc = true → ∀ u ∈ vs, u.oneCell' = true
  | [], _, h, _ => by simp only [Reps] at h; subst h; simp
  | d :: ds, _, h, hs => by
    simp only [Reps] at h
    obtain ⟨v, vs', rfl, hv, hr⟩ := h
    simp only [List.all_cons, Bool.and_eq_true] at hs
    intro u hu
    rcases List.mem_cons.1 hu with rfl | hu
    · exact hv.one hs.1
    · exact Reps.ones hr hs.2 u hu

section
variable {g g' : Gh} {w w' : World} {n : Nat}

theorem Caps.dropped (hb : ∀ m b, m ≠ n → g.bx m = some b → g'.bx m = some b) : ∀ {cs : List (Nat × Nat)} {vs : List Value}, cs.any (·.1 == n) = false → Caps g cs vs → Caps g' cs vs
  | [], _, _, h => h
  | c :: cs, _, hn, ⟨b, vs', e, h, hs⟩ => by
    simp only [List.any_cons, Bool.or_eq_false_iff, beq_eq_false_iff_ne] at hn
    exact ⟨b, vs', e, hb _ _ hn.1 h, Caps.dropped hb hn.2 hs⟩

mutual
theorem Rep.dropped (hb : ∀ m b, m ≠ n → g.bx m = some b → g'.bx m = some b) (ht : ∀ t x, g.tk t = some x → g'.tk t = some x) (hx : Ex g.Fz w g'.Fz w') :
    ∀ {d : D} {v : Value}, Rep g w d v → Rep g' w' (d.drop n) v
  | .pd _, _, h => by simp only [Rep, D.drop] at h ⊢; exact h.mono hx
  | .nils, _, h => by simp only [Rep, D.drop] at h ⊢; exact h
  | .own _ _ _ _, _, h => by simp only [Rep, D.drop] at h ⊢; exact ⟨h.1.mono hx, ht _ _ h.2.1, h.2.2⟩
  | .ptr m _, _, h => by
    simp only [Rep, D.drop] at h ⊢
    split
    · simp only [Rep]
    · rename_i hm
      simp only [Rep]; obtain ⟨b, hb', e⟩ := h; exact ⟨b, hb _ _ hm hb', e⟩
  | .eptr _, _, h => by
    simp only [Rep, D.drop] at h ⊢
    obtain ⟨b, off, vs, e, hp, hc⟩ := h
    exact ⟨b, off, vs, e, hp.mono hx, fun i u hu => ⟨(hx _ _ (hc i u hu).2).2.trans (hc i u hu).1, (hx _ _ (hc i u hu).2).1⟩⟩
  | .fn _ caps, _, h => by
    simp only [Rep, D.drop] at h ⊢
    split
    · simp only [Rep]
    · rename_i hm
      simp only [Rep]; obtain ⟨cv, e, hc⟩ := h; exact ⟨cv, e, hc.dropped hb (by simpa only [Bool.not_eq_true] using hm)⟩
  | .mp m, _, h => by
    simp only [Rep, D.drop] at h ⊢
    split
    · simp only [Rep]
    · rename_i hm
      simp only [Rep]; obtain ⟨b, hb', e⟩ := h; exact ⟨b, hb _ _ hm hb', e⟩
  | .agg _, _, h => by simp only [Rep, D.drop] at h ⊢; obtain ⟨vs, e, hs⟩ := h; exact ⟨vs, e, Reps.dropped hb ht hx hs⟩
  | .tup _, _, h => by simp only [Rep, D.drop] at h ⊢; obtain ⟨vs, e, hs⟩ := h; exact ⟨vs, e, Reps.dropped hb ht hx hs⟩
  | .any, _, _ => by simp only [D.drop, Rep]
theorem Reps.dropped (hb : ∀ m b, m ≠ n → g.bx m = some b → g'.bx m = some b) (ht : ∀ t x, g.tk t = some x → g'.tk t = some x) (hx : Ex g.Fz w g'.Fz w') :
    ∀ {ds : List D} {vs : List Value}, Reps g w ds vs → Reps g' w' (D.drops n ds) vs
  | [], _, h => by simp only [Reps, D.drops] at h ⊢; exact h
  | _ :: _, _, h => by simp only [Reps, D.drops] at h ⊢; obtain ⟨v, vs', e, hv, hs⟩ := h; exact ⟨v, vs', e, Rep.dropped hb ht hx hv, Reps.dropped hb ht hx hs⟩
end

mutual
theorem Rep.purged (hb : ∀ m b, g.bx m = some b → g'.bx m = some b) (ht : ∀ t x, t ≠ n → g.tk t = some x → g'.tk t = some x) (hx : Ex g.Fz w g'.Fz w') :
    ∀ {d : D} {v : Value}, Rep g w d v → Rep g' w' (d.purge n) v
  | .pd _, _, h => by simp only [Rep, D.purge] at h ⊢; exact h.mono hx
  | .nils, _, h => by simp only [Rep, D.purge] at h ⊢; exact h
  | .own _ _ _ s, _, h => by
    simp only [Rep, D.purge] at h ⊢
    split
    · simp only [Rep]; exact h.1.mono hx
    · rename_i hs; simp only [Rep]; exact ⟨h.1.mono hx, ht _ _ hs h.2.1, h.2.2⟩
  | .ptr m _, _, h => by simp only [Rep, D.purge] at h ⊢; obtain ⟨b, hb', e⟩ := h; exact ⟨b, hb _ _ hb', e⟩
  | .eptr _, _, h => by
    simp only [Rep, D.purge] at h ⊢
    obtain ⟨b, off, vs, e, hp, hc⟩ := h
    exact ⟨b, off, vs, e, hp.mono hx, fun i u hu => ⟨(hx _ _ (hc i u hu).2).2.trans (hc i u hu).1, (hx _ _ (hc i u hu).2).1⟩⟩
  | .fn _ caps, _, h => by simp only [Rep, D.purge] at h ⊢; obtain ⟨cv, e, hc⟩ := h; exact ⟨cv, e, hc.mono hb⟩
  | .mp m, _, h => by simp only [Rep, D.purge] at h ⊢; obtain ⟨b, hb', e⟩ := h; exact ⟨b, hb _ _ hb', e⟩
  | .agg _, _, h => by simp only [Rep, D.purge] at h ⊢; obtain ⟨vs, e, hs⟩ := h; exact ⟨vs, e, Reps.purged hb ht hx hs⟩
  | .tup _, _, h => by simp only [Rep, D.purge] at h ⊢; obtain ⟨vs, e, hs⟩ := h; exact ⟨vs, e, Reps.purged hb ht hx hs⟩
  | .any, _, _ => by simp only [D.purge, Rep]
theorem Reps.purged (hb : ∀ m b, g.bx m = some b → g'.bx m = some b) (ht : ∀ t x, t ≠ n → g.tk t = some x → g'.tk t = some x) (hx : Ex g.Fz w g'.Fz w') :
    ∀ {ds : List D} {vs : List Value}, Reps g w ds vs → Reps g' w' (D.purges n ds) vs
  | [], _, h => by simp only [Reps, D.purges] at h ⊢; exact h
  | _ :: _, _, h => by simp only [Reps, D.purges] at h ⊢; obtain ⟨v, vs', e, hv, hs⟩ := h; exact ⟨v, vs', e, Rep.purged hb ht hx hv, Reps.purged hb ht hx hs⟩
end
end

/-- What a step leaves: all but some blocks. -/
structure KeepD (Dm : Nat → Prop) (w w' : World) : Prop where
  os : w'.os = w.os
  tape : w'.tape = w.tape
  output : w'.output = w.output
  size : w.heap.size ≤ w'.heap.size
  block : ∀ k, k < w.heap.size → ¬ Dm k → w'.heap[k]? = w.heap[k]?

theorem KeepD.refl (R : Nat → Prop) (w : World) : KeepD R w w := ⟨rfl, rfl, rfl, Nat.le_refl _, fun _ _ _ => rfl⟩
theorem KeepD.trans {R : Nat → Prop} {w1 w2 w3 : World} (h : KeepD R w1 w2) (k : KeepD R w2 w3) : KeepD R w1 w3 :=
  ⟨k.os.trans h.os, k.tape.trans h.tape, k.output.trans h.output, Nat.le_trans h.size k.size, fun b hb hr => (k.block b (Nat.lt_of_lt_of_le hb h.size) hr).trans (h.block b hb hr)⟩
theorem KeepD.mono {R R' : Nat → Prop} {w w' : World} (h : KeepD R w w') (hr : ∀ k, k < w.heap.size → R k → R' k) : KeepD R' w w' :=
  ⟨h.os, h.tape, h.output, h.size, fun b hb hn => h.block b hb (fun hk => hn (hr b hb hk))⟩
theorem KeepD.of_grown {w w' : World} {row : Option Nat} (h : w.grownBy w' row) : KeepD (fun k => row = some k) w w' :=
  ⟨h.os, h.tape, h.output, h.size, fun b hb hn => h.block b hb (fun e => hn e.symm)⟩

/-- The blocks that a state tells of: variables, rows of one's own, marks, what was frozen since. -/
def Gh.has (g : Gh) (k0 : Nat) (b : Nat) : Prop :=
  (∃ n, (n < 1000000 ∨ k0 ≤ b) ∧ g.bx n = some b) ∨ (∃ t v e, g.tk t = some (v, e) ∧ v.ownBlock = some b) ∨ b ∈ g.df ∨ (k0 ≤ b ∧ ∃ o, g.Fz b o)

/-- What stays the same in a function's run: the program; the world and what was frozen in it as the call began; the old blocks that may be written; how many temporaries there are; the variables whose names last; of an iterator: what holds between two rounds, and the blocks that a round may write. -/
structure Ctx where
  P : Program
  w0 : World
  Fz0 : Nat → Nat → Prop
  S : Nat → Prop
  N : Nat
  wr : Nat → Bool
  nm : Nat → Option Nat
  X : Hist → (Nat → Prop) → World → Prop
  Dm : Nat → Prop
  wrok : ∀ i, wr i = true → i < N ∧ nm i = none
  nmok : ∀ n, 200000 ≤ n → n < 400000 → nm n = none
  dmok : ∀ k, Dm k → k < w0.heap.size ∧ ¬ S k ∧ ∀ o, ¬ Fz0 k o
  Xok : ∀ h O O' R w w', X h O w → KeepD R w w' → (∀ k, R k → O k) → (∀ k, O' k → O k ∨ w.heap.size ≤ k) → X h O' w'

/-- Of a function that is no iterator. -/
abbrev Ctx.fn (P : Program) (w0 : World) (Fz0 : Nat → Nat → Prop) (S : Nat → Prop) (N : Nat) : Ctx := ⟨P, w0, Fz0, S, N, fun i => decide (i < N), fun _ => none, fun h _ _ => h = .no, fun _ => False, fun i h => ⟨of_decide_eq_true h, rfl⟩, fun _ _ _ => rfl, fun _ h => h.elim, fun _ _ _ _ _ _ h _ _ _ => h⟩

def markOf (D : Nat) : Deferred := { target := .collected D, args := #[] }

structure Mem (C : Ctx) (bs : List (Nat × List D)) (ms : List (Nat × List (Value × Value))) (g : Gh) (w : World) : Prop where
  os : w.os = C.w0.os
  tape : w.tape = C.w0.tape
  output : w.output = C.w0.output
  hsz : C.w0.heap.size ≤ w.heap.size
  old : ∀ k, k < C.w0.heap.size → ¬ C.S k → ¬ C.Dm k → w.heap[k]? = C.w0.heap[k]?
  keep : Ex C.Fz0 C.w0 g.Fz w
  newfz : ∀ b o, g.Fz b o → b < C.w0.heap.size → C.Fz0 b o ∨ C.S b
  fzlt : ∀ b o, g.Fz b o → b < w.heap.size
  bxs : ∀ n ds, lk bs n = some ds → ∃ b cs t, g.bx n = some b ∧ w.heap[b]? = some (.cells cs t (0, 0)) ∧ Reps g w ds cs.toList
  mps : ∀ n es, lk ms n = some es → ∃ b ents clock, g.bx n = some b ∧ w.heap[b]? = some (.map ents clock) ∧ ents.toList.map (fun e => (e.key, e.val)) = es
  bxok : ∀ n b, g.bx n = some b → b < w.heap.size ∧ (C.w0.heap.size ≤ b ∨ C.S b ∨ 1000000 ≤ n) ∧ ∀ o, ¬ g.Fz b o
  bxinj : ∀ n m b, g.bx n = some b → g.bx m = some b → n = m
  tks : ∀ t v e, g.tk t = some (v, e) → ∃ i n xs, C.P.info? e = some i ∧ 0 < i.size ∧ w.ownsRow 0 e i.size v n xs ∧ ∀ b, v.ownBlock = some b → (C.w0.heap.size ≤ b ∨ C.S b) ∧ ∀ o, g.Fz b o → o < n * i.size
  tkinj : ∀ t s v u e f b, g.tk t = some (v, e) → g.tk s = some (u, f) → v.ownBlock = some b → u.ownBlock = some b → t = s
  bxtk : ∀ n t b v e, g.bx n = some b → g.tk t = some (v, e) → v.ownBlock ≠ some b
  dfs : ∀ D ∈ g.df, C.w0.heap.size ≤ D ∧ w.heap[D]? = some (.deferred (some []))
  dnd : g.df.Nodup
  bxdf : ∀ n D, D ∈ g.df → g.bx n ≠ some D
  bxdm : ∀ n b, g.bx n = some b → ¬ C.Dm b

structure SR (C : Ctx) (st : St) (g : Gh) (a : Act) (w : World) : Prop where
  defers : a.defers = g.df.map markOf
  size : a.tmps.size = C.N
  rep : ∀ i d, lk st.fr i = some d → i < C.N ∧ Rep g w d (a.tmps.getD i undef)
  mem : Mem C st.bs st.ms g w
  x : C.X st.hs (g.has C.w0.heap.size) w
  fix : ∀ n b, C.nm n = some b → g.bx n = some b

theorem lk_map {α β : Type} (f : α → β) : ∀ (l : List (Nat × α)) (i : Nat), lk (l.map fun p => (p.1, f p.2)) i = (lk l i).map f
  | [], _ => rfl
  | (j, d) :: r, i => by
    simp only [List.map_cons, lk]
    split
    · rfl
    · exact lk_map f r i

theorem lk_filter {α : Type} (p : Nat → Bool) : ∀ (l : List (Nat × α)) (i : Nat), lk (l.filter fun q => p q.1) i = if p i then lk l i else none
  | [], i => by simp [lk]
  | (j, d) :: r, i => by
    by_cases hj : p j = true
    · rw [List.filter_cons_of_pos (by simpa using hj)]
      simp only [lk]
      by_cases hi : i = j
      · subst hi; simp [hj]
      · simp only [hi, if_false]; exact lk_filter p r i
    · rw [List.filter_cons_of_neg (by simpa using hj)]
      rw [lk_filter p r i]
      by_cases hi : i = j
      · subst hi; simp [hj]
      · simp only [lk, hi, if_false]

def St.put (st : St) (i : Nat) (d : D) : St := { st with fr := (i, d) :: st.fr }

theorem SR.put {C : Ctx} {st : St} {g : Gh} {a : Act} {w : World} (h : SR C st g a w) {i : Nat} (hw : C.wr i = true) {d : D} {v : Value} (hd : Rep g w d v) : SR C (st.put i d) g (a.put (some i) v) w where
  defers := h.defers
  size := by simp [Act.put, h.size]
  rep := by
    intro j e hj
    simp only [St.put, lk] at hj
    by_cases hji : j = i
    · subst hji
      simp only [if_true, Option.some.injEq] at hj
      subst hj
      have hi := (C.wrok _ hw).1
      refine ⟨hi, ?_⟩
      simp only [Act.put]
      rw [Array.getD_eq_getD_getElem?, Array.getElem?_setIfInBounds]
      simpa [h.size, hi] using hd
    · simp only [hji, if_false] at hj
      obtain ⟨h1, h2⟩ := h.rep j e hj
      refine ⟨h1, ?_⟩
      simp only [Act.put]
      rw [Array.getD_eq_getD_getElem?, Array.getElem?_setIfInBounds_ne (Ne.symm hji), ← Array.getD_eq_getD_getElem?]
      exact h2
  mem := h.mem
  x := h.x
  fix := h.fix

/-- Less may be known. -/
theorem SR.less {C : Ctx} {st st' : St} {g : Gh} {a : Act} {w : World} (h : SR C st g a w) (hf : ∀ i d, lk st'.fr i = some d → lk st.fr i = some d ∨ d = .any ∧ i < C.N)
    (hb : ∀ n ds, lk st'.bs n = some ds → lk st.bs n = some ds) (hm : ∀ n es, lk st'.ms n = some es → lk st.ms n = some es) (hh : st'.hs = st.hs) : SR C st' g a w where
  defers := h.defers
  size := h.size
  rep := fun i d hd => by
    rcases hf i d hd with h1 | ⟨rfl, h1⟩
    · exact h.rep i d h1
    · exact ⟨h1, by simp only [Rep]⟩
  mem := { h.mem with bxs := fun n ds hn => h.mem.bxs n ds (hb n ds hn), mps := fun n es hn => h.mem.mps n es (hm n es hn) }
  x := by rw [hh]; exact h.x
  fix := h.fix

theorem cell_of_heap {w w' : World} (h : w'.heap = w.heap) (a : Addr) : w'.cell? a = w.cell? a := by simp [World.cell?, h]

theorem ownsRow_heap {w w' : World} (h : w'.heap = w.heap) {base : Nat} {e : TypeId} {size : Nat} {v : Value} {n : Nat} {xs : List Value} (ho : w.ownsRow base e size v n xs) : w'.ownsRow base e size v n xs := by
  unfold World.ownsRow at ho ⊢
  rw [h]; exact ho

/-- A draw turns nothing. -/
theorem Mem.same {C : Ctx} {bs : List (Nat × List D)} {ms : List (Nat × List (Value × Value))} {g : Gh} {w w' : World} (h : Mem C bs ms g w) (hh : w'.heap = w.heap) (ho : w'.os = w.os) (ht : w'.tape = w.tape) (hu : w'.output = w.output) : Mem C bs ms g w' where
  os := ho.trans h.os
  tape := ht.trans h.tape
  output := hu.trans h.output
  hsz := by rw [hh]; exact h.hsz
  old := fun k hk hs hd => by rw [hh]; exact h.old k hk hs hd
  keep := fun b o hf => ⟨(h.keep b o hf).1, (cell_of_heap hh _).trans (h.keep b o hf).2⟩
  newfz := h.newfz
  fzlt := fun b o hf => by rw [hh]; exact h.fzlt b o hf
  bxs := fun n ds hn => by
    obtain ⟨b, cs, t, h1, h2, h3⟩ := h.bxs n ds hn
    exact ⟨b, cs, t, h1, by rw [hh]; exact h2, h3.mono ⟨fun _ _ h => h, fun _ _ h => h, fun b o hf => ⟨hf, cell_of_heap hh _⟩⟩⟩
  mps := fun n es hn => by
    obtain ⟨b, en, c, h1, h2, h3⟩ := h.mps n es hn
    exact ⟨b, en, c, h1, by rw [hh]; exact h2, h3⟩
  bxok := fun n b hb => by rw [hh]; exact h.bxok n b hb
  bxinj := h.bxinj
  tks := fun t v e ht => by
    obtain ⟨i, n, xs, h1, h2, h3, h4⟩ := h.tks t v e ht
    exact ⟨i, n, xs, h1, h2, ownsRow_heap hh h3, h4⟩
  tkinj := h.tkinj
  bxtk := h.bxtk
  dfs := fun D hD => by rw [hh]; exact h.dfs D hD
  dnd := h.dnd
  bxdf := h.bxdf
  bxdm := h.bxdm

theorem SR.same {C : Ctx} {st : St} {g : Gh} {a : Act} {w w' : World} (h : SR C st g a w) (hh : w'.heap = w.heap) (ho : w'.os = w.os) (ht : w'.tape = w.tape) (hu : w'.output = w.output) : SR C st g a w' where
  defers := h.defers
  size := h.size
  rep := fun i d hd => ⟨(h.rep i d hd).1, (h.rep i d hd).2.mono ⟨fun _ _ h => h, fun _ _ h => h, fun b o hf => ⟨hf, cell_of_heap hh _⟩⟩⟩
  mem := h.mem.same hh ho ht hu
  x := C.Xok st.hs _ _ (fun _ => False) w w' h.x ⟨ho, ht, hu, by rw [hh]; exact Nat.le_refl _, fun k _ _ => by rw [hh]⟩ (fun _ e => e.elim) (fun _ h => .inl h)
  fix := h.fix

end Go.Proofs.YtbpgebfejebmlaaGreatDoor
