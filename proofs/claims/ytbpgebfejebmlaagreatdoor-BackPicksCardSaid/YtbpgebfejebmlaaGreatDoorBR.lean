/- The abstract layer, part 17a: ranging over a function: what an iterator is to do, and the statement. -/
import Derived.Test.YtbpgebfejebmlaaGreatDoorB8
namespace Go.Proofs.YtbpgebfejebmlaaGreatDoor
open Go Go.RowKit
set_option linter.unusedSimpArgs false
set_option linter.unusedVariables false

/-- An iterator that hands on the elements of xs, one behind the other, until it is told to stop. -/
structure IterW (P : Program) (f : FuncId) (caps : List (Nat × Nat)) (st : St) (xs : List Value) : Prop where
  enters : ∀ (vs : Array Value) (w : World), (callFunc f vs).run P w = .ok (.enter f vs) w
  run : ∀ (C : Ctx) (g : Gh) (a : Act) (w : World) (cv : List Value) (W : World), C.P = P → SR C st g a w → Caps g caps cv → KeepD (fun _ => False) w W →
    ∀ (l : Nat) (X : Nat → Bool → (Nat → Prop) → World → Prop) (Dm : Nat → Prop) (H0 : Nat → Prop),
      (∀ k, Dm k → k < W.heap.size ∧ (∀ o, ¬ g.Fz k o) ∧ ∀ c ∈ caps, g.bx c.1 ≠ some k) →
      (∀ i s H R w1 w2, X i s H w1 → KeepD R w1 w2 → (∀ k, R k → ¬ H k ∧ (W.heap.size ≤ k ∨ ∃ c ∈ caps, g.bx c.1 = some k)) → X i s H w2) →
      (∀ i s H w1, X i s H w1 → ∀ k, H k → k < w1.heap.size) →
      (∀ i v H w1 n, xs[i]? = some v → X i false H w1 → YieldAt (FW none) n P l #[v] w1 fun e w2 => ∃ b H', e = .returned (.bool b) ∧ X (i + 1) (!b) H' w2 ∧ (∀ k, H' k → H k ∨ w1.heap.size ≤ k) ∧ KeepD (fun k => Dm k ∨ (W.heap.size ≤ k ∧ H k)) w1 w2) →
      X 0 false H0 W → (∀ k, H0 k → ∀ c ∈ caps, g.bx c.1 ≠ some k) →
      Calls P f (Value.func (.yield l) #[] #[] :: cv).toArray W fun e w2 => ∃ v i s H, e = .returned v ∧ X i s H w2 ∧ (s = false → i = xs.length)

theorem Mem.mark {C : Ctx} {bs : List (Nat × List D)} {ms : List (Nat × List (Value × Value))} {g : Gh} {w : World} (m : Mem C bs ms g w) {D : Nat} (hD : w.heap[D]? = some (.deferred (some []))) (h0 : C.w0.heap.size ≤ D) (hn : D ∉ g.df) (hb : ∀ n, g.bx n ≠ some D) :
    Mem C bs ms { g with df := D :: g.df } w :=
  { m with
    bxs := fun n ds hn => by
      obtain ⟨b, cs, t, h1, h2, h3⟩ := m.bxs n ds hn
      exact ⟨b, cs, t, h1, h2, Reps.mono (g := g) (g' := { g with df := D :: g.df }) ⟨fun _ _ h => h, fun _ _ h => h, Ex.refl _ _⟩ h3⟩
    dfs := fun D' h => by
      rcases List.mem_cons.1 h with rfl | h
      · exact ⟨h0, hD⟩
      · exact m.dfs D' h
    dnd := List.nodup_cons.2 ⟨hn, m.dnd⟩
    bxdf := fun n D' h => by
      rcases List.mem_cons.1 h with rfl | h
      · exact hb n
      · exact m.bxdf n D' h }

/-- Of a function whose rounds may be met. -/
def Ctx.plain (C : Ctx) : Prop := (∀ h O O' w w', C.X h O w → C.X h O' w') ∧ ∀ n, C.nm n = none

theorem plain_fn (P : Program) (w0 : World) (Fz0 : Nat → Nat → Prop) (S : Nat → Prop) (N : Nat) : (Ctx.fn P w0 Fz0 S N).plain := ⟨fun _ _ _ _ _ h => h, fun _ => rfl⟩

/-- The state behind the statement. -/
def St.after (st : St) (ns : List Nat) (bs : List (Nat × List D)) : St := ⟨cutFr ns st.fr, bs, [], st.hs⟩

/-- How a round may be left. -/
def roundK (J : List (Nat × List D) → Prop) (K : Exit → St → Prop) (st : St) (ns : List Nat) : Exit → St → Prop
  | .normal, s => J (bsOf true s.bs ns ns)
  | .ret, s => K .ret (st.after ns (bsOf true s.bs ns ns))
  | .exit id, s => K (.exit id) (st.after ns (bsOf true s.bs ns ns))
  | _, _ => False

/-- The slots that a round may write. -/
def rwr (N : Nat) (ns : List Nat) (i : Nat) : Bool := decide (i < N) && !ns.contains i

theorem rwr_ok {N : Nat} {ns : List Nat} {g g' : Gh} (h : g'.bx = (g.cut ns).bx) (hn : ∀ n ∈ ns, n < 200000) : NestOK g' N (rwr N ns) := by
  refine ⟨fun i hi => ?_, fun n h1 h2 => ?_⟩
  · simp only [rwr, Bool.and_eq_true, decide_eq_true_eq, Bool.not_eq_true', List.contains_eq_mem, decide_eq_false_iff_not] at hi
    exact ⟨hi.1, by rw [h]; simp [hi.2]⟩
  · have : n ∉ ns := fun hm => by have := hn n hm; omega
    rw [h]; simp [this]

structure RInf where
  C : Ctx
  st : St
  g : Gh
  a : Act
  w : World
  K : Exit → St → Prop
  ns : List Nat
  p : Nat
  body : Code
  fn : FuncId
  J : Nat → List (Nat × List D) → Prop

def RInf.loop (r : RInf) (s : LoopState) (jump : Option Code) : Loop :=
  { state := s, pending := jump, fn := r.fn, tmps := r.a.tmps, params := #[r.p], assign := .skip, body := r.body, defers := r.w.heap.size }

/-- What holds between two rounds. -/
structure LoopG (r : RInf) (H : Nat → Prop) (w1 : World) (g' : Gh) (bs' : List (Nat × List D)) (s : LoopState) (jump : Option Code) : Prop where
  mem : Mem r.C bs' [] g' w1
  bx : g'.bx = (r.g.cut r.ns).bx
  df : g'.df = r.w.heap.size :: r.g.df
  ex : Ex r.g.Fz r.w g'.Fz w1
  fz : ∀ b o, g'.Fz b o → b < r.w.heap.size + 2 → r.g.Fz b o
  tk : ∀ t v e b, g'.tk t = some (v, e) → v.ownBlock = some b → r.w.heap.size + 2 ≤ b
  recd : w1.heap[r.w.heap.size + 1]? = some (.loop (r.loop s jump))
  held : H = fun k => g'.has r.C.w0.heap.size k ∨ k = r.w.heap.size + 1
  size : r.w.heap.size + 2 ≤ w1.heap.size

def LoopX (r : RInf) (i : Nat) (s : Bool) (H : Nat → Prop) (w1 : World) : Prop :=
  ∃ g' bs' jump, LoopG r H w1 g' bs' (if s then .done else .ready) jump ∧ (s = false → jump = none ∧ r.J i bs') ∧
    (s = true → (jump = some .ret ∧ r.K .ret (r.st.after r.ns bs')) ∨ ∃ id, jump = some (.exit id) ∧ r.K (.exit id) (r.st.after r.ns bs'))

section
variable {r : RInf} (hs : SR r.C r.st r.g r.a r.w)
include hs

theorem LoopG.bxlt {H : Nat → Prop} {w1 : World} {g' : Gh} {bs' : List (Nat × List D)} {s : LoopState} {jump : Option Code} (h : LoopG r H w1 g' bs' s jump) {n b : Nat} (hb : g'.bx n = some b) : n ∈ r.ns ∧ r.g.bx n = some b ∧ b < r.w.heap.size := by
  rw [h.bx] at hb
  simp only [Gh.cut] at hb
  split at hb
  · rename_i hn
    exact ⟨hn, hb, (hs.mem.bxok n b hb).1⟩
  · cases hb

theorem LoopG.keep {H : Nat → Prop} {w1 w2 : World} {g' : Gh} {bs' : List (Nat × List D)} {s : LoopState} {jump : Option Code} (h : LoopG r H w1 g' bs' s jump) {caps : List (Nat × Nat)}
    (hfree : ∀ c ∈ caps, c.1 ∉ r.ns ∧ c.1 < 1000000) {R : Nat → Prop} (hk : KeepD R w1 w2) (hR : ∀ k, R k → ¬ H k ∧ (r.w.heap.size + 2 ≤ k ∨ ∃ c ∈ caps, r.g.bx c.1 = some k)) : LoopG r H w2 g' bs' s jump := by
  have hH : ∀ k, R k → ¬ g'.has r.C.w0.heap.size k ∧ k ≠ r.w.heap.size + 1 := fun k e => by
    have := (hR k e).1
    rw [h.held] at this
    exact ⟨fun h => this (.inl h), fun h => this (.inr h)⟩
  obtain ⟨m1, g1⟩ := h.mem.keepD hk (fun k hlt e => by
    obtain ⟨h1, h2⟩ := hH k e
    have h3 := (hR k e).2
    have hw0 := hs.mem.hsz
    refine ⟨?_, ?_, fun t v e ht hv => h1 (.inr (.inl ⟨t, v, e, ht, hv⟩)), fun D hD e => h1 (.inr (.inr (.inl (e ▸ hD)))), fun o ho => ?_⟩
    · rcases h3 with h3 | ⟨c, hc, hb⟩
      · exact .inl (by omega)
      · rcases (hs.mem.bxok _ _ hb).2.1 with h | h | h
        · exact .inl h
        · exact .inr (.inl h)
        · have := (hfree c hc).2; omega
    · intro n hn
      obtain ⟨e1, e2, e3⟩ := h.bxlt hs hn
      rcases h3 with h3 | ⟨c, hc, hb⟩
      · omega
      · have := hs.mem.bxinj _ _ _ hb e2
        exact (hfree c hc).1 (this ▸ e1)
    · rcases h3 with h3 | ⟨c, hc, hb⟩
      · exact h1 (.inr (.inr (.inr ⟨by omega, o, ho⟩)))
      · have hlt := (hs.mem.bxok _ _ hb).1
        exact (hs.mem.bxok _ _ hb).2.2 o (h.fz k o ho (by omega)))
  exact ⟨m1, h.bx, h.df, h.ex.trans g1.ex, h.fz, h.tk, (hk.block _ (by have := h.size; omega) (fun e => (hH _ e).2 rfl)).trans h.recd, h.held, Nat.le_trans h.size hk.size⟩

/-- The record is turned. -/
theorem LoopG.turn {H : Nat → Prop} {w1 : World} {g' : Gh} {bs' : List (Nat × List D)} {s : LoopState} {jump : Option Code} (h : LoopG r H w1 g' bs' s jump) (s2 : LoopState) (jump2 : Option Code) :
    LoopG r H (w1.putObj (r.w.heap.size + 1) (.loop (r.loop s2 jump2))) g' bs' s2 jump2 := by
  have hlt : r.w.heap.size + 1 < w1.heap.size := by have := h.size; omega
  have hk : KeepD (fun k => k = r.w.heap.size + 1) w1 (w1.putObj (r.w.heap.size + 1) (.loop (r.loop s2 jump2))) :=
    ⟨rfl, rfl, rfl, by simp, fun k _ hn => World.putObj_heap_other hn⟩
  have hw0 := hs.mem.hsz
  obtain ⟨m1, g1⟩ := h.mem.keepD hk (fun k _ e => by
    subst e
    refine ⟨.inl (by omega), fun n hn => ?_, fun t v e ht hv => ?_, fun D hD e => ?_, fun o ho => ?_⟩
    · have := (h.bxlt hs hn).2.2; omega
    · have := h.tk t v e _ ht hv; omega
    · rw [h.df] at hD
      rcases List.mem_cons.1 hD with h1 | h1
      · omega
      · have := (Array.getElem?_eq_some_iff.1 (hs.mem.dfs D h1).2).1; omega
    · have := hs.mem.fzlt _ o (h.fz _ o ho (by omega)); omega)
  exact ⟨m1, h.bx, h.df, h.ex.trans g1.ex, h.fz, h.tk, World.putObj_heap_same hlt, h.held, by simpa using h.size⟩

/-- One round. -/
theorem loop_round {i : Nat} {v : Value} {H : Nat → Prop} {w1 : World} {n : Nat} (hq : r.p < r.C.N) (hns : ∀ n ∈ r.ns, (r.g.bx n).isSome = true ∧ n < 200000)
    (hbody : ∀ bs, r.J i bs → ∀ (w2 : World) (g2 : Gh) (hwr : NestOK g2 r.C.N (rwr r.C.N r.ns)) (a2 : Act),
      SR (.nest r.C.P w2 g2 r.C.N (rwr r.C.N r.ns) hwr) ⟨(r.p, cD v) :: cutFr r.ns r.st.fr, bs, [], .no⟩ { g2 with df := [] } a2 w2 →
      r.body.wpIn (FW (some (r.w.heap.size + 1))) n r.C.P (Post (.nest r.C.P w2 g2 r.C.N (rwr r.C.N r.ns) hwr) (roundK (r.J (i + 1)) r.K r.st r.ns)) a2 w2)
    (hx : LoopX r i false H w1) : YieldAt (FW none) n r.C.P (r.w.heap.size + 1) #[v] w1 fun e w2 => ∃ b H', e = .returned (.bool b) ∧ LoopX r (i + 1) (!b) H' w2 ∧ (∀ k, H' k → H k ∨ w1.heap.size ≤ k) ∧
      KeepD (fun k => (k = r.w.heap.size + 1 ∨ ∃ n ∈ r.ns, r.g.bx n = some k) ∨ (r.w.heap.size + 2 ≤ k ∧ H k)) w1 w2 := by
  obtain ⟨g', bs', jump, hg, hf, -⟩ := hx
  obtain ⟨rfl, hJ⟩ := hf rfl
  simp only [Bool.false_eq_true, if_false] at hg
  refine ⟨_, _, _, _, run_yield hg.recd (by simp [RInf.loop]), ?_⟩
  refine roundIn_of_wpIn trivial (wpIn_skip ⟨_, run_beginRound hg.recd rfl, ?_⟩)
  have h2 := hg.turn hs .busy none
  obtain ⟨w2, hw2⟩ : ∃ w2, w2 = w1.putObj (r.w.heap.size + 1) (.loop (r.loop .busy none)) := ⟨_, rfl⟩
  have hsz2 : w2.heap.size = w1.heap.size := by rw [hw2]; simp
  have hoth : ∀ k, k ≠ r.w.heap.size + 1 → w2.heap[k]? = w1.heap[k]? := fun k hk => by rw [hw2]; exact World.putObj_heap_other hk
  rw [show ({ r.loop .ready none with state := LoopState.busy } : Loop) = r.loop .busy none from rfl, ← hw2]
  rw [← hw2] at h2
  have hwr := rwr_ok (N := r.C.N) (ns := r.ns) (g := r.g) (g' := g') h2.bx (fun n hn => (hns n hn).2)
  have hSR : SR (.nest r.C.P w2 g' r.C.N (rwr r.C.N r.ns) hwr) ⟨(r.p, cD v) :: cutFr r.ns r.st.fr, bs', [], .no⟩ { g' with df := [] }
      { tmps := ((r.loop .ready none).params.zip #[v]).foldl (fun tmps (t, a) => tmps.setIfInBounds t a) (r.loop .ready none).tmps, defers := [] } w2 := by
    have ht : ((r.loop .ready none).params.zip #[v]).foldl (fun tmps (t, a) => tmps.setIfInBounds t a) (r.loop .ready none).tmps = r.a.tmps.setIfInBounds r.p v := by
      simp [RInf.loop]
    rw [ht]
    refine ⟨rfl, by rw [Array.size_setIfInBounds]; exact hs.size, fun j d hj => ?_, h2.mem.into _ _ _, rfl, fun n b h => h⟩
    simp only [lk] at hj
    split at hj
    · rename_i e
      subst e
      cases hj
      refine ⟨hq, ?_⟩
      rw [Array.getD_eq_getD_getElem?, Array.getElem?_setIfInBounds]
      have : r.p < r.a.tmps.size := by rw [hs.size]; exact hq
      simpa [this] using cD_rep _ _ v
    · rename_i hne
      unfold cutFr at hj
      rw [lk_map] at hj
      obtain ⟨d0, h0, rfl⟩ := Option.map_eq_some_iff.1 hj
      obtain ⟨h3, h4⟩ := hs.rep j d0 h0
      refine ⟨h3, ?_⟩
      rw [Array.getD_eq_getD_getElem?, Array.getElem?_setIfInBounds_ne (Ne.symm hne), ← Array.getD_eq_getD_getElem?]
      exact Rep.cut (g := r.g) (g' := { g' with df := [] }) (fun n b hn hb => by
        show g'.bx n = some b
        rw [h2.bx]; simp [hn, hb]) (fun e => by cases e) h2.ex h4
  refine wpIn_mono (hbody bs' hJ w2 g' hwr _ hSR) ?_
  -- what the round leaves
  have key : ∀ (st3 : St) (g3 : Gh) (a3 : Act) (w3 : World) (s3 : LoopState) (jump : Option Code), SR (.nest r.C.P w2 g' r.C.N (rwr r.C.N r.ns) hwr) st3 g3 a3 w3 →
      ∃ H', LoopG r H' (w3.putObj (r.w.heap.size + 1) (.loop (r.loop s3 jump))) (g'.back g3) (bsOf true st3.bs r.ns r.ns) s3 jump ∧ w3.heap[r.w.heap.size + 1]? = some (.loop (r.loop .busy none)) ∧ (∀ k, H' k → H k ∨ w1.heap.size ≤ k) ∧
        KeepD (fun k => (k = r.w.heap.size + 1 ∨ ∃ n ∈ r.ns, r.g.bx n = some k) ∨ (r.w.heap.size + 2 ≤ k ∧ H k)) w1 (w3.putObj (r.w.heap.size + 1) (.loop (r.loop s3 jump))) := by
    intro st3 g3 a3 w3 s3 jump h3
    have m3 := h3.mem
    have hpin : ∀ n b, g'.bx n = some b → g3.bx n = some b := h3.fix
    have hin : ∀ n b, n ∈ r.ns → g3.bx n = some b → g'.bx n = some b := fun n b hn hb => by
      obtain ⟨b0, hb0⟩ := Option.isSome_iff_exists.1 (hns n hn).1
      have h5 : g'.bx n = some b0 := by rw [h2.bx]; simp [hn, hb0]
      have h6 := hpin n b0 h5
      rw [hb] at h6
      rw [h5, h6]
    have m4 : Mem r.C (bsOf true st3.bs r.ns r.ns) [] (g'.back g3) w3 := Mem.outof h2.mem m3 hpin fun n ds hn => by
      obtain ⟨ds0, h5, h6, rfl⟩ := bsOf_lk hn
      obtain ⟨b, cs, t, h7, h8, h9⟩ := m3.bxs n ds0 h6
      exact ⟨b, cs, t, hin n b h5 h7, h8, Reps.cut (g := g3) (g' := g'.back g3) (fun n b hn hb => hin n b hn hb) (fun _ t x h => h) (Ex.refl _ _) h9⟩
    have hsz := h2.size
    have htk : ∀ t v e b, g3.tk t = some (v, e) → v.ownBlock = some b → w2.heap.size ≤ b ∨ ∃ t v e, g'.tk t = some (v, e) ∧ v.ownBlock = some b := fun t v e b ht hv => by
      obtain ⟨_, _, _, _, _, _, h4⟩ := m3.tks t v e ht
      rcases (h4 b hv).1 with h | ⟨n, _, h⟩ | h
      · exact .inl h
      · exact absurd hv (m3.bxtk n t b v e (hpin n b h) ht)
      · exact .inr h
    have htk2 : ∀ t v e b, g3.tk t = some (v, e) → v.ownBlock = some b → r.w.heap.size + 2 ≤ b := fun t v e b ht hv => by
      rcases htk t v e b ht hv with h | ⟨t', v', e', h1, h2'⟩
      · omega
      · exact h2.tk t' v' e' b h1 h2'
    have hfz0 : ∀ b o, g3.Fz b o → b < w2.heap.size → g'.Fz b o ∨ ∃ t v e, g'.tk t = some (v, e) ∧ v.ownBlock = some b := fun b o hf hlt => by
      rcases m3.newfz b o hf hlt with h | ⟨n, _, h⟩ | h
      · exact .inl h
      · exact absurd hf ((m3.bxok n b (hpin n b h)).2.2 o)
      · exact .inr h
    have hfz : ∀ b o, g3.Fz b o → b < r.w.heap.size + 2 → r.g.Fz b o := fun b o hf hlt => by
      rcases hfz0 b o hf (by omega) with h | ⟨t', v', e', h1, h2'⟩
      · exact h2.fz b o h hlt
      · have := h2.tk t' v' e' b h1 h2'; omega
    have hrec : w3.heap[r.w.heap.size + 1]? = some (.loop (r.loop .busy none)) := by
      refine (m3.old _ (show r.w.heap.size + 1 < w2.heap.size by omega) ?_ (fun h => h)).trans h2.recd
      rintro (⟨n, _, h⟩ | ⟨t, v, e, h1, h2'⟩)
      · have := (h2.bxlt hs h).2.2; omega
      · have := h2.tk t v e _ h1 h2'; omega
    have hg4 : LoopG r (fun k => (g'.back g3).has r.C.w0.heap.size k ∨ k = r.w.heap.size + 1) w3 (g'.back g3) (bsOf true st3.bs r.ns r.ns) .busy none :=
      ⟨m4, h2.bx, h2.df, h2.ex.trans m3.keep, hfz, htk2, hrec, rfl, by have := m3.hsz; exact Nat.le_trans hsz this⟩
    refine ⟨_, hg4.turn hs s3 jump, hrec, ?_, ?_⟩
    · intro k hk
      rw [hg.held]
      rcases hk with hk | hk
      · rcases hk with hk | ⟨t, v, e, h1, h2'⟩ | hk | ⟨h1, o, ho⟩
        · exact .inl (.inl (.inl hk))
        · rcases htk t v e k h1 h2' with h | h
          · exact .inr (by omega)
          · exact .inl (.inl (.inr (.inl h)))
        · exact .inl (.inl (.inr (.inr (.inl hk))))
        · rcases Nat.lt_or_ge k w2.heap.size with hlt | hge
          · rcases hfz0 k o ho hlt with h | h
            · exact .inl (.inl (.inr (.inr (.inr ⟨h1, o, h⟩))))
            · exact .inl (.inl (.inr (.inl h)))
          · exact .inr (by omega)
      · exact .inl (.inr hk)
    · have e2 : w2.os = w1.os ∧ w2.tape = w1.tape ∧ w2.output = w1.output := by rw [hw2]; exact ⟨rfl, rfl, rfl⟩
      refine ⟨m3.os.trans e2.1, m3.tape.trans e2.2.1, m3.output.trans e2.2.2, by
        have h5 : w2.heap.size ≤ w3.heap.size := m3.hsz
        simp only [World.putObj_size]; omega, fun k hlt hn => ?_⟩
      have hkl : k ≠ r.w.heap.size + 1 := fun e => hn (.inl (.inl e))
      rw [World.putObj_heap_other hkl]
      refine (m3.old k (show k < w2.heap.size by omega) ?_ (fun h => h)).trans (hoth k hkl)
      rintro (⟨n, _, h⟩ | ⟨t, v, e, h1, h2'⟩)
      · obtain ⟨e1, e2, _⟩ := h2.bxlt hs h
        exact hn (.inl (.inr ⟨n, e1, e2⟩))
      · exact hn (.inr ⟨h2.tk t v e k h1 h2', by rw [hg.held]; exact .inl (.inr (.inl ⟨t, v, e, h1, h2'⟩))⟩)
  intro e a3 w3 hpost
  cases e <;> simp only [Post] at hpost
  case normal =>
    obtain ⟨st3, g3, h3, hk⟩ := hpost
    obtain ⟨H', h4, hrec, h5, h6⟩ := key st3 g3 a3 w3 .ready none h3
    exact ⟨_, _, run_endRound none hrec, true, H', rfl, ⟨_, _, none, h4, fun _ => ⟨rfl, hk⟩, fun e => by cases e⟩, h5, h6⟩
  case ret =>
    obtain ⟨st3, g3, h3, hk⟩ := hpost
    obtain ⟨H', h4, hrec, h5, h6⟩ := key st3 g3 a3 w3 .done (some .ret) h3
    exact ⟨_, _, run_endRound (some .ret) hrec, false, H', rfl, ⟨_, _, some .ret, h4, (fun e => by cases e), fun _ => .inl ⟨rfl, hk⟩⟩, h5, h6⟩
  case exit id =>
    obtain ⟨st3, g3, h3, hk⟩ := hpost
    obtain ⟨H', h4, hrec, h5, h6⟩ := key st3 g3 a3 w3 .done (some (.exit id)) h3
    exact ⟨_, _, run_endRound (some (.exit id)) hrec, false, H', rfl, ⟨_, _, some (.exit id), h4, (fun e => by cases e), fun _ => .inr ⟨id, rfl, hk⟩⟩, h5, h6⟩
  case goto t =>
    obtain ⟨st3, g3, h3, hk⟩ := hpost
    exact hk.elim
end

/-- The statement. -/
theorem range_in {C : Ctx} {st : St} {g : Gh} {a : Act} {w : World} {K : Exit → St → Prop} (hs : SR C st g a w) (hpl : C.plain) {x : Operand} {p : Nat} {ns : List Nat} {body : Code} {fu : Nat} (hq : p < C.N)
    {f : FuncId} {caps : List (Nat × Nat)} (hev : st.ev x = .fn f caps) (hfree : ∀ c ∈ caps, c.1 ∉ ns ∧ c.1 < 1000000) (hns : ∀ n ∈ ns, (lk st.bs n).isSome = true ∧ n < 200000) {xs : List Value} {J : Nat → List (Nat × List D) → Prop}
    (hit : IterW C.P f caps st xs) (h0 : J 0 (bsOf false st.bs ns ns))
    (hbody : ∀ i v bs, xs[i]? = some v → J i bs → ∀ (w2 : World) (g2 : Gh) (hwr : NestOK g2 C.N (rwr C.N ns)) (a2 : Act) (n l : Nat),
      SR (.nest C.P w2 g2 C.N (rwr C.N ns) hwr) ⟨(p, cD v) :: cutFr ns st.fr, bs, [], .no⟩ { g2 with df := [] } a2 w2 →
      body.wpIn (FW (some l)) n C.P (Post (.nest C.P w2 g2 C.N (rwr C.N ns) hwr) (roundK (J (i + 1)) K st ns)) a2 w2)
    (hend : ∀ bs, J xs.length bs → K .normal (st.after ns bs)) : (Code.rangeFunc x #[p] .skip body).wpIn (FW none) fu C.P (Post C K) a w := by
  refine wpIn_rangeFunc fun fn _ => ?_
  have hx := hs.ev x
  rw [hev] at hx
  simp only [Rep] at hx
  obtain ⟨cv, ex, hcs⟩ := hx
  obtain ⟨r, hr⟩ : ∃ r : RInf, r = ⟨C, st, g, a, w, K, ns, p, body, fn, J⟩ := ⟨_, rfl⟩
  obtain ⟨W, hW⟩ : ∃ W : World, W = (w.alloc (.deferred (some []))).alloc (.loop (r.loop .ready none)) := ⟨_, rfl⟩
  have hWs : W.heap.size = w.heap.size + 2 := by rw [hW]; simp
  have hWk : KeepD (fun _ => False) w W := by
    rw [hW]
    refine ⟨rfl, rfl, rfl, by simp; omega, fun k hk _ => ?_⟩
    rw [(World.grownBy_alloc (w.alloc (.deferred (some []))) (.loop (r.loop .ready none)) none).block k (by simp; omega) (fun e => by cases e)]
    exact (World.grownBy_alloc w (.deferred (some [])) none).block k hk (fun e => by cases e)
  have hWl : W.heap[w.heap.size + 1]? = some (.loop (r.loop .ready none)) := by
    have := World.alloc_heap_new (w.alloc (.deferred (some []))) (.loop (r.loop .ready none))
    rw [World.size_alloc] at this
    rw [hW]; exact this
  have hWd : W.heap[w.heap.size]? = some (.deferred (some [])) := by
    rw [hW, (World.grownBy_alloc (w.alloc (.deferred (some []))) (.loop (r.loop .ready none)) none).block w.heap.size (by simp) (fun e => by cases e)]
    exact World.alloc_heap_new w _
  have henter : (Instr.enterLoop fn a.tmps #[p] .skip body (FW none).round).run C.P w = .ok (w.heap.size + 1, [markOf w.heap.size]) W := by
    rw [hW, hr]
    exact run_enterLoop_outer fn a.tmps #[p] .skip body
  refine ⟨w.heap.size + 1, [markOf w.heap.size], W, ⟨.fn (.func f) cv.toArray, #[.func (.yield (w.heap.size + 1)) #[] #[]]⟩, W, f, (Value.func (.yield (w.heap.size + 1)) #[] #[] :: cv).toArray, W, henter, ?_, fun _ _ => trivial, ?_, fun h => by simp [Fence.wide] at h, ?_⟩
  · have e1 : (#[Operand.const (Value.func (.yield (w.heap.size + 1)) #[] #[])].map a.eval) = #[Value.func (.yield (w.heap.size + 1)) #[] #[]] := by simp [Act.eval]
    simp only [resolve, rangeCall, e1, ex, Deferred.ofValue, Sem.run_pure, Array.empty_append]
  · have := hit.enters (Value.func (.yield (w.heap.size + 1)) #[] #[] :: cv).toArray W
    simpa [invoke, List.append_toArray] using this
  have hsr : SR r.C r.st r.g r.a r.w := by rw [hr]; exact hs
  have hm := hs.mem
  have hcut : ∀ n b, (g.cut ns).bx n = some b → n ∈ ns ∧ g.bx n = some b ∧ b < w.heap.size := fun n b h => by
    simp only [Gh.cut] at h
    split at h
    · rename_i hn; exact ⟨hn, h, (hm.bxok n b h).1⟩
    · cases h
  have hD : w.heap.size ∉ g.df := fun h => Nat.lt_irrefl _ (Array.getElem?_eq_some_iff.1 (hm.dfs _ h).2).1
  obtain ⟨m1, g1⟩ := (hm.cut ns).keepD hWk (fun _ _ e => e.elim)
  have m2 := m1.mark hWd hm.hsz hD (fun n h => by have := (hcut n _ h).2.2; omega)
  have hbxc : ∀ k, (∃ n ∈ ns, g.bx n = some k) → ∀ c ∈ caps, g.bx c.1 ≠ some k := fun k ⟨n, hn, hb⟩ c hc h => (hfree c hc).1 (by rw [hm.bxinj _ _ _ h hb]; exact hn)
  refine calls_in ((hit.run C g a w cv W rfl hs hcs hWk (w.heap.size + 1) (LoopX r) (fun k => k = w.heap.size + 1 ∨ ∃ n ∈ ns, g.bx n = some k)
    (fun k => ({ g.cut ns with df := w.heap.size :: g.df } : Gh).has C.w0.heap.size k ∨ k = w.heap.size + 1) ?_ ?_ ?_ ?_ ?_ ?_).mono ?_)
  · intro k hk
    rcases hk with rfl | ⟨n, hn, hb⟩
    · refine ⟨by omega, fun o ho => by have := hm.fzlt _ o ho; omega, fun c hc h => by have := (hm.bxok _ _ h).1; omega⟩
    · exact ⟨by have := (hm.bxok _ _ hb).1; omega, (hm.bxok _ _ hb).2.2, hbxc k ⟨n, hn, hb⟩⟩
  · rintro i s H R w1 w2 ⟨g', bs', jump, h1, h2, h3⟩ hk hR
    exact ⟨g', bs', jump, h1.keep hsr (caps := caps) (by rw [hr]; exact hfree) hk (fun k e => by rw [hr, ← hWs]; exact hR k e), h2, h3⟩
  · rintro i s H w1 ⟨g', bs', jump, h1, h2, h3⟩ k hk
    rw [h1.held] at hk
    rcases hk with hk | rfl
    · exact h1.mem.has_lt hk
    · exact (Array.getElem?_eq_some_iff.1 h1.recd).1
  · intro i v H w1 n hv hx
    have := loop_round hsr (i := i) (v := v) (H := H) (w1 := w1) (n := n) (by rw [hr]; exact hq) (fun m hm' => by
      rw [hr] at hm' ⊢
      obtain ⟨ds, hds⟩ := Option.isSome_iff_exists.1 (hns m hm').1
      obtain ⟨b, _, _, hb, _⟩ := hm.bxs m ds hds
      exact ⟨Option.isSome_iff_exists.2 ⟨b, hb⟩, (hns m hm').2⟩) (by
      rw [hr]
      intro bs hJ w2 g2 hwr a2 hs2
      exact hbody i v bs hv hJ w2 g2 hwr a2 n _ hs2) hx
    rw [hWs]
    rw [hr] at this ⊢
    exact this
  · refine ⟨{ g.cut ns with df := w.heap.size :: g.df }, bsOf false st.bs ns ns, none, ⟨?_, ?_, ?_, ?_, ?_, ?_, ?_, ?_, ?_⟩, fun _ => ⟨rfl, by rw [hr]; exact h0⟩, fun e => by cases e⟩
    · rw [hr]; exact m2
    · rw [hr]
    · rw [hr]
    · rw [hr]; exact g1.ex
    · rw [hr]; exact fun b o h _ => h
    · intro t v e b h; cases h
    · rw [hr] at hWl ⊢; exact hWl
    · rw [hr]
    · rw [hr]; exact Nat.le_of_eq hWs.symm
  · intro k hk c hc h
    have hlt := (hm.bxok _ _ h).1
    rcases hk with hk | hk
    · rcases hk with ⟨n, _, h2⟩ | ⟨t, v, e, h1, _⟩ | hk | ⟨_, o, ho⟩
      · obtain ⟨e1, e2, _⟩ := hcut n k h2
        exact hbxc k ⟨n, e1, e2⟩ c hc h
      · cases h1
      · rcases List.mem_cons.1 hk with rfl | hk
        · omega
        · exact hm.bxdf _ _ hk h
      · exact (hm.bxok _ _ h).2.2 o ho
    · omega
  · rintro e w3 ⟨v, i, s, H, rfl, ⟨g', bs', jump, h1, h2, h3⟩, hi⟩
    have h4 := h1.turn hsr .exhausted jump
    refine ⟨jump, _, run_endLoop (r := r.loop (if s then .done else .ready) jump) (by have := h1.recd; rw [hr] at this ⊢; exact this) (by cases s <;> simp [RInf.loop]), ?_⟩
    have hfin : SR C (st.after ns bs') g' { a with defers := [markOf w.heap.size] ++ a.defers } (w3.putObj (w.heap.size + 1) (.loop (r.loop .exhausted jump))) := by
      rw [hr] at h4 h1 ⊢
      refine ⟨?_, hs.size, fun j d hj => ?_, h4.mem, ?_, fun n b hn => ?_⟩
      · rw [h1.df, hs.defers]; rfl
      · simp only [St.after, cutFr] at hj
        rw [lk_map] at hj
        obtain ⟨d0, h0, rfl⟩ := Option.map_eq_some_iff.1 hj
        obtain ⟨h5, h6⟩ := hs.rep j d0 h0
        exact ⟨h5, Rep.cut (g := g) (g' := g') (fun n b hn hb => by
          rw [h1.bx]; simp [hn, hb]) (fun e => by cases e) h4.ex h6⟩
      · exact hpl.1 _ _ _ _ _ hs.x
      · rw [hpl.2 n] at hn; cases hn
    cases s with
    | false =>
      obtain ⟨rfl, hJ⟩ := h2 rfl
      have hfin' : SR C (st.after ns bs') g' { a with defers := [markOf w.heap.size] ++ a.defers } (w3.putObj (w.heap.size + 1) (.loop (r.loop .exhausted none))) := hfin
      rw [hi rfl] at hJ
      exact ⟨_, g', hfin', hend bs' (by rw [hr] at hJ; exact hJ)⟩
    | true =>
      rcases h3 rfl with ⟨rfl, hK⟩ | ⟨id, rfl, hK⟩
      · exact wpIn_ret ⟨_, g', hfin, by rw [hr] at hK; exact hK⟩
      · exact wpIn_exit ⟨_, g', hfin, by rw [hr] at hK; exact hK⟩

end Go.Proofs.YtbpgebfejebmlaaGreatDoor
