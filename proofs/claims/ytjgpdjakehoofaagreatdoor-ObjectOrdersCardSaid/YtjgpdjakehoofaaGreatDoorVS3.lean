/- Texts of the prover's, joined: BR BS B9 BA C1 BF BG. -/
import Derived.Test.YtjgpdjakehoofaaGreatDoorVS2

namespace Go.Proofs.YtjgpdjakehoofaaGreatDoor
open Go Go.RowKit
set_option linter.unusedSimpArgs false
set_option linter.unusedVariables false
set_option maxRecDepth 100000

structure IterW (P : Program) (f : FuncId) (caps : List (Nat × Nat)) (st : St) (xs : List Value) : Prop where
 enters : ∀ (vs : Array Value) (w : World), (callFunc f vs).run P w = .ok (.enter f vs) w
 run : ∀ (C : Ctx) (g : Gh) (a : Act) (w : World) (cv : List Value) (W : World), C.P = P → SR C st g a w → Caps g caps cv → KeepD (fun _ => False) w W →
  ∀ (l : Nat) (X : Nat → Bool → (Nat → Prop) → World → Prop) (Dm : Nat → Prop) (H0 : Nat → Prop),
    (∀ k, Dm k → k < W.heap.size ∧ (∀ o, ¬ g.Fz k o) ∧ ∀ c ∈ caps, g.bx c.1 ≠ some k) →
    (∀ i s H R w1 w2, X i s H w1 → KeepD R w1 w2 → (∀ k, R k → ¬ H k ∧ (W.heap.size ≤ k ∨ ∃ c ∈ caps, g.bx c.1 = some k)) → X i s H w2) →
    (∀ i s H w1, X i s H w1 → ∀ k, H k → k < w1.heap.size) →
    (∀ i v H w1 n, xs[i]? = some v → X i false H w1 → YieldAt (FW none) n P l #[v] w1 fun e w2 => ∃ b H', e = .returned (.bool b) ∧ X (i + 1) (!b) H' w2 ∧ (∀ k, H' k → H k ∨ w1.heap.size ≤ k) ∧ KeepD (fun k => Dm k ∨ (W.heap.size ≤ k ∧ H k)) w1 w2) →
    X 0 false H0 W → (∀ k, H0 k → ∀ c ∈ caps, g.bx c.1 ≠ some k) →
    Calls P f (Value.func (.yield l) #[] #[] :: cv).toArray W fun e w2 => ∃ v i s H, e = .returned v ∧ X i s H w2 ∧ (s = false → i = xs.length)

theorem Mem.mark {C : Ctx} {bs : List (Nat × List D)} {ms : List (Nat × MO)} {g : Gh} {w : World} (m : Mem C bs ms g w) {D : Nat} (hD : w.heap[D]? = some (.deferred (some []))) (h0 : C.w0.heap.size ≤ D) (hn : D ∉ g.df) (hb : ∀ n, g.bx n ≠ some D) :
 Mem C bs ms { g with df := D :: g.df } w :=
 { m with
   bxs := fun n ds hn => by
    obtain ⟨b, cs, t, h1, h2, h3⟩ := m.bxs n ds hn
    exact ⟨b, cs, t, h1, h2, Reps.mono (g := g) (g' := { g with df := D :: g.df }) ⟨fun _ _ h => h, fun _ _ h => h, Ex.refl _ _⟩ h3⟩
   dfs := fun D' h => by
    rcases List.mem_cons.1 h with rfl | h
    ·exact ⟨h0, hD⟩
    ·exact m.dfs D' h
   dnd := List.nodup_cons.2 ⟨hn, m.dnd⟩
   bxdf := fun n D' h => by
    rcases List.mem_cons.1 h with rfl | h
    ·exact hb n
    ·exact m.bxdf n D' h }

def Ctx.plain (C : Ctx) : Prop := (∀ h O O' w w', C.X h O w → C.X h O' w') ∧ ∀ n, C.nm n = none

theorem plain_alone (P : Program) (w0 : World) (Fz0 : Nat → Nat → Prop) (N : Nat) : (Ctx.alone P w0 Fz0 N).plain := ⟨fun _ _ _ _ _ h => h, fun _ => rfl⟩
theorem plain_fn (P : Program) (w0 : World) (Fz0 : Nat → Nat → Prop) (S : Nat → Prop) (N : Nat) : (Ctx.fn P w0 Fz0 S N).plain := ⟨fun _ _ _ _ _ h => h, fun _ => rfl⟩

def St.after (st : St) (ns : List Nat) (bs : List (Nat × List D)) : St := ⟨cutFr ns st.fr, bs, [], st.hs⟩

def roundK (J : List (Nat × List D) → Prop) (K : Exit → St → Prop) (st : St) (ns : List Nat) : Exit → St → Prop
 | .normal, s => J (bsOf true s.bs ns ns)
 | .ret, s => K .ret (st.after ns (bsOf true s.bs ns ns))
 | .exit id, s => K (.exit id) (st.after ns (bsOf true s.bs ns ns))
 | _, _ => False

def rwr (N : Nat) (ns : List Nat) (i : Nat) : Bool := decide (i < N) && !ns.contains i

theorem rwr_ok {N : Nat} {ns : List Nat} {g g' : Gh} (h : g'.bx = (g.cut ns).bx) (hn : ∀ n ∈ ns, n < 200000) : NestOK g' N (rwr N ns) := by
 refine ⟨fun i hi => ?_, fun n h1 h2 => ?_⟩
 ·simp only [rwr, Bool.and_eq_true, decide_eq_true_eq, Bool.not_eq_true', List.contains_eq_mem, decide_eq_false_iff_not] at hi
  exact ⟨hi.1, by rw [h]; simp [hi.2]⟩
 ·have : n ∉ ns := fun hm => by have := hn n hm; omega
  rw [h]; simp [this]

def asgTmps (t : Array Value) (p : Nat) : Option Nat → Array Value
 | none => t
 | some d => t.setIfInBounds d (t.getD p undef)

def roundFr (p : Nat) (d : D) (r : List (Nat × D)) : Option Nat → List (Nat × D)
 | none => (p, d) :: r
 | some j => (j, d) :: (p, d) :: r

theorem roundFr_none {p : Nat} {d : D} {r : List (Nat × D)} : roundFr p d r none = (p, d) :: r := rfl
theorem roundFr_some {p j : Nat} {d : D} {r : List (Nat × D)} : roundFr p d r (some j) = (j, d) :: (p, d) :: r := rfl

def compA : Code → Nat → Option (Option Nat)
 | .skip, _ => some none
 | .region _ ops false, p => match ops.toList with
   | [o] => match o.guard, o.dst, o.op with
     | none, some d, .assign (.tmp q) => if q = p then some (some d) else none
     | _, _, _ => none
   | _ => none
 | _, _ => none

theorem asg_in {asg : Code} {p : Nat} {dq : Option Nat} (h : compA asg p = some dq) {ro : Option Nat} {n : Nat} {P : Program} {Q : Exit → Act → World → Prop} {a : Act} {w : World}
 (hq : Q .normal { a with tmps := asgTmps a.tmps p dq } w) : asg.wpIn (FW ro) n P Q a w := by
 cases asg with
 | skip => simp only [compA, Option.some.injEq] at h; subst h; exact wpIn_skip hq
 | region id ops b =>
   cases b with
   | true => simp [compA] at h
   | false =>
     simp only [compA] at h
     split at h
     ·rename_i o hops
      split at h
      ·rename_i d q hg hd ho
       split at h
       ·rename_i hqp
        subst hqp
        cases h
        obtain rfl : ops = #[o] := by rw [← Array.toArray_toList (xs := ops), hops]
        refine wpIn_region ?_
        show wpOpsIn (FW ro) n P #[o] Q [0] a w
        unfold wpOpsIn
        simp only [List.getElem?_toArray, List.getElem?_cons_zero]
        have hw : Region.wanted o (yielded #[o] a.tmps) = true := by simp [Region.wanted, hg]
        rw [if_pos hw]
        refine oper_in (fun c e => by rw [ho] at e; cases e) ?_
        have hrun : (execOp a.eval o).run P w = .ok (.value (a.tmps.getD q undef)) w := by
         unfold execOp
         simp only [ho, Act.eval, Sem.run_pure]
        unfold Oper.wp
        rw [hrun]
        show wpOpsIn (FW ro) n P #[o] Q [] (a.put o.dst (a.tmps.getD q undef)) w
        unfold wpOpsIn
        rw [hd]
        exact hq
       ·cases h
      ·cases h
     ·cases h
 | _ => simp [compA] at h

def compB (P : Program) : Code → Nat → Option (Nat × TypeId × Nat × List D)
 | .region _ ops false, p => match ops.toList with
   | [o1, o2] => match o1.guard, o1.dst, o1.op, o2.guard, o2.dst, o2.op with
     | none, some d, .alloc e, none, none, .store e' (.tmp d') (.tmp q) =>
       if d' = d ∧ q = p ∧ e' = e ∧ d ≠ p then match P.info? e with
        | some i => match i.zero with
          | some z => if z.cells.size = i.size then some (d, e, i.size, z.cells.toList.map cD0) else none
          | none => none
        | none => none
       else none
     | _, _, _, _, _, _ => none
   | _ => none
 | _, _ => none

theorem compB_inv {P : Program} {asg : Code} {p d : Nat} {e : TypeId} {sz : Nat} {zs : List D} (h : compB P asg p = some (d, e, sz, zs)) :
 ∃ id o1 o2 i z, asg = .region id #[o1, o2] false ∧ o1.guard = none ∧ o1.dst = some d ∧ o1.op = .alloc e ∧ o2.guard = none ∧ o2.dst = none ∧ o2.op = .store e (.tmp d) (.tmp p) ∧ d ≠ p ∧
   P.info? e = some i ∧ i.zero = some z ∧ z.cells.size = i.size ∧ sz = i.size ∧ zs = z.cells.toList.map cD0 := by
 cases asg with
 | region id ops b =>
   cases b with
   | true => simp [compB] at h
   | false =>
     simp only [compB] at h
     split at h
     ·rename_i o1 o2 hops
      split at h
      ·rename_i d' e1 e2 d2 q g1 d1 p1 g2 x2 p2
       split at h
       ·rename_i hc
        obtain ⟨rfl, rfl, rfl, hne⟩ := hc
        split at h
        ·rename_i i hi
         split at h
         ·rename_i z hz
          split at h
          ·rename_i hsz
           cases h
           exact ⟨id, o1, o2, i, z, by rw [show ops = #[o1, o2] by rw [← Array.toArray_toList (xs := ops), hops]], g1, d1, p1, g2, x2, p2, hne, hi, hz, hsz, rfl, rfl⟩
          ·cases h
         ·cases h
        ·cases h
       ·cases h
      ·cases h
     ·cases h
 | _ => simp [compB] at h

theorem run_allocE {P : Program} {o : Oper} {e : TypeId} {i : TypeInfo} {z : Value} (ho : o.op = .alloc e) (hi : P.info? e = some i) (hz : i.zero = some z) (a : Act) (w : World) :
 (execOp a.eval o).run P w = .ok (.value (.pointer (some ⟨w.heap.size, 0, none⟩))) (w.alloc (.cells z.cells e)) := by
 unfold execOp
 simp only [ho, Instr.alloc, zeroValue, typeInfo, Sem.run_bind, run_program, Result.andThen_ok, hi, hz, Sem.run_pure, newVar_run]

theorem run_storeE {P : Program} {o : Oper} {e : TypeId} {i : TypeInfo} {x y : Operand} (ho : o.op = .store e x y) (hi : P.info? e = some i) (a : Act) (w : World) (b : Nat) (cs : Array Value) (t : TypeId) (hv : a.eval x = .pointer (some ⟨b, 0, none⟩))
 (hb : w.heap[b]? = some (.cells cs t)) (hcs : cs.size = i.size) (hlen : (a.eval y).cells.size = i.size) (h1 : ∀ u ∈ (a.eval y).cells.toList, u.oneCell' = true) :
 (execOp a.eval o).run P w = .ok .skip (w.setRow b (a.eval y).cells) := by
 have hrun := run_storeCells_at (P := P) b 0 t (a.eval y).cells.toList 0 cs w hb (by rw [Array.length_toList]; omega) h1
 have he : (cs.toList.take (0 + 0) ++ (a.eval y).cells.toList ++ cs.toList.drop (0 + 0 + (a.eval y).cells.toList.length)).toArray = (a.eval y).cells := by
  rw [List.drop_eq_nil_of_le (by simp; omega)]
  simp
 rw [he] at hrun
 unfold execOp
 simp only [ho, hv, Instr.storeAt, Instr.sureAddr, storeVar, sizeOf, typeInfo, Sem.run_bind, run_program, Result.andThen_ok, hi, Sem.run_pure, hlen, ne_eq, not_true_eq_false, if_false, hrun, Sem.run_ite]

theorem put_alloc_row (w : World) (k : Nat) (hk : k < w.heap.size) (x o : Obj) (cs : Array Value) : ((w.alloc o).setRow w.heap.size cs).putObj k x = ((w.putObj k x).alloc o).setRow (w.putObj k x).heap.size cs := by
 have hs : (w.putObj k x).heap.size = w.heap.size := by simp
 rw [hs]
 simp only [World.putObj, World.setRow, World.alloc]
 congr 1
 refine Array.ext_getElem? fun j => ?_
 simp only [Array.getElem?_setIfInBounds, Array.getElem?_modify, Array.getElem?_push, Array.size_setIfInBounds, Array.size_modify, Array.size_push]
 by_cases h1 : k = j
 ·subst h1
  simp [hk, Nat.ne_of_gt hk, Nat.ne_of_lt hk, Nat.lt_succ_of_lt hk]
 ·simp [h1]

structure RInf where
 C : Ctx
 st : St
 g : Gh
 a : Act
 w : World
 K : Exit → St → Prop
 ns : List Nat
 p : Nat
 asg : Code
 dq : Option Nat
 body : Code
 fn : FuncId
 J : Nat → List (Nat × List D) → Prop

def RInf.loop (r : RInf) (s : LoopState) (jump : Option Code) : Loop :=
 { state := s, pending := jump, fn := r.fn, tmps := r.a.tmps, params := #[r.p], assign := r.asg, body := r.body, defers := r.w.heap.size }

structure LoopG (r : RInf) (H : Nat → Prop) (w1 : World) (g' : Gh) (bs' : List (Nat × List D)) (s : LoopState) (jump : Option Code) : Prop where
 mem : Mem r.C bs' [] g' w1
 bx : g'.bx = (r.g.cut r.ns).bx
 df : g'.df = r.w.heap.size :: r.g.df
 ex : Ex r.g.Fz r.w g'.Fz w1
 fz : ∀ b o, g'.Fz b o → b < r.w.heap.size + 2 → r.g.Fz b o
 tk : ∀ t v e b, g'.tk t = some (v, e) → v.ownBlock = some b → r.w.heap.size + 2 ≤ b
 recd : w1.heap[r.w.heap.size + 1]? = some (.loop (r.loop s jump))
 held : H = fun k => g'.has r.C.w0.heap.size k ∨ k = r.w.heap.size + 1
 size : r.w.heap.size + 2 ≤ w1.heap.size

def LoopX (r : RInf) (i : Nat) (s : Bool) (H : Nat → Prop) (w1 : World) : Prop :=
 ∃ g' bs' jump, LoopG r H w1 g' bs' (if s then .done else .ready) jump ∧ (s = false → jump = none ∧ r.J i bs') ∧
   (s = true → (jump = some .ret ∧ r.K .ret (r.st.after r.ns bs')) ∨ ∃ id, jump = some (.exit id) ∧ r.K (.exit id) (r.st.after r.ns bs'))

section
variable {r : RInf} (hs : SR r.C r.st r.g r.a r.w)
include hs

theorem LoopG.bxlt {H : Nat → Prop} {w1 : World} {g' : Gh} {bs' : List (Nat × List D)} {s : LoopState} {jump : Option Code} (h : LoopG r H w1 g' bs' s jump) {n b : Nat} (hb : g'.bx n = some b) : n ∈ r.ns ∧ r.g.bx n = some b ∧ b < r.w.heap.size := by
 rw [h.bx] at hb
 simp only [Gh.cut] at hb
 split at hb
 ·rename_i hn
  exact ⟨hn, hb, (hs.mem.bxok n b hb).1⟩
 ·cases hb

theorem LoopG.keep {H : Nat → Prop} {w1 w2 : World} {g' : Gh} {bs' : List (Nat × List D)} {s : LoopState} {jump : Option Code} (h : LoopG r H w1 g' bs' s jump) {caps : List (Nat × Nat)}
 (hfree : ∀ c ∈ caps, c.1 ∉ r.ns ∧ c.1 < 1000000) {R : Nat → Prop} (hk : KeepD R w1 w2) (hR : ∀ k, R k → ¬ H k ∧ (r.w.heap.size + 2 ≤ k ∨ ∃ c ∈ caps, r.g.bx c.1 = some k)) : LoopG r H w2 g' bs' s jump := by
 have hH : ∀ k, R k → ¬ g'.has r.C.w0.heap.size k ∧ k ≠ r.w.heap.size + 1 := fun k e => by
  have := (hR k e).1
  rw [h.held] at this
  exact ⟨fun h => this (.inl h), fun h => this (.inr h)⟩
 obtain ⟨m1, g1⟩ := h.mem.keepD hk (fun k hlt e => by
  obtain ⟨h1, h2⟩ := hH k e
  have h3 := (hR k e).2
  have hw0 := hs.mem.hsz
  refine ⟨?_, ?_, fun t v e ht hv => h1 (.inr (.inl ⟨t, v, e, ht, hv⟩)), fun D hD e => h1 (.inr (.inr (.inl (e ▸ hD)))), fun o ho => ?_⟩
  ·rcases h3 with h3 | ⟨c, hc, hb⟩
   ·exact .inl (by omega)
   ·rcases (hs.mem.bxok _ _ hb).2.1 with h | h | h
    ·exact .inl h
    ·exact .inr (.inl h)
    ·have := (hfree c hc).2; omega
  ·intro n hn
   obtain ⟨e1, e2, e3⟩ := h.bxlt hs hn
   rcases h3 with h3 | ⟨c, hc, hb⟩
   ·omega
   ·have := hs.mem.bxinj _ _ _ hb e2
    exact (hfree c hc).1 (this ▸ e1)
  ·rcases h3 with h3 | ⟨c, hc, hb⟩
   ·exact h1 (.inr (.inr (.inr ⟨by omega, o, ho⟩)))
   ·have hlt := (hs.mem.bxok _ _ hb).1
    exact (hs.mem.bxok _ _ hb).2.2 o (h.fz k o ho (by omega)))
 exact ⟨m1, h.bx, h.df, h.ex.trans g1.ex, h.fz, h.tk, (hk.block _ (by have := h.size; omega) (fun e => (hH _ e).2 rfl)).trans h.recd, h.held, Nat.le_trans h.size hk.size⟩

theorem LoopG.turn {H : Nat → Prop} {w1 : World} {g' : Gh} {bs' : List (Nat × List D)} {s : LoopState} {jump : Option Code} (h : LoopG r H w1 g' bs' s jump) (s2 : LoopState) (jump2 : Option Code) :
 LoopG r H (w1.putObj (r.w.heap.size + 1) (.loop (r.loop s2 jump2))) g' bs' s2 jump2 := by
 have hlt : r.w.heap.size + 1 < w1.heap.size := by have := h.size; omega
 have hk : KeepD (fun k => k = r.w.heap.size + 1) w1 (w1.putObj (r.w.heap.size + 1) (.loop (r.loop s2 jump2))) :=
  ⟨rfl, rfl, rfl, by simp, fun k _ hn => World.putObj_heap_other hn⟩
 have hw0 := hs.mem.hsz
 obtain ⟨m1, g1⟩ := h.mem.keepD hk (fun k _ e => by
  subst e
  refine ⟨.inl (by omega), fun n hn => ?_, fun t v e ht hv => ?_, fun D hD e => ?_, fun o ho => ?_⟩
  ·have := (h.bxlt hs hn).2.2; omega
  ·have := h.tk t v e _ ht hv; omega
  ·rw [h.df] at hD
   rcases List.mem_cons.1 hD with h1 | h1
   ·omega
   ·have := (Array.getElem?_eq_some_iff.1 (hs.mem.dfs D h1).2).1; omega
  ·have := hs.mem.fzlt _ o (h.fz _ o ho (by omega)); omega)
 exact ⟨m1, h.bx, h.df, h.ex.trans g1.ex, h.fz, h.tk, World.putObj_heap_same hlt, h.held, by simpa using h.size⟩

theorem loop_roundG {i : Nat} {v : Value} {H : Nat → Prop} {w1 : World} {n : Nat} (hq : r.p < r.C.N) (hns : ∀ n ∈ r.ns, (r.g.bx n).isSome = true ∧ n < 200000)
 (hround : ∀ bs, r.J i bs → ∀ (w2 : World) (g2 : Gh) (hwr : NestOK g2 r.C.N (rwr r.C.N r.ns)), w2 = w1.putObj (r.w.heap.size + 1) (.loop (r.loop .busy none)) → w1.heap[r.w.heap.size + 1]? = some (.loop (r.loop .ready none)) →
  SR (.nest r.C.P w2 g2 r.C.N (rwr r.C.N r.ns) hwr) ⟨roundFr r.p (cD v) (cutFr r.ns r.st.fr) none, bs, [], .no⟩ { g2 with df := [] } { tmps := r.a.tmps.setIfInBounds r.p v, defers := [] } w2 →
  ∀ Q : Exit → Act → World → Prop, (∀ a2 wB, r.body.wpIn (FW (some (r.w.heap.size + 1))) n r.C.P (Post (.nest r.C.P w2 g2 r.C.N (rwr r.C.N r.ns) hwr) (roundK (r.J (i + 1)) r.K r.st r.ns)) a2 wB → r.body.wpIn (FW (some (r.w.heap.size + 1))) n r.C.P Q a2 wB) →
  r.asg.wpIn (FW (some (r.w.heap.size + 1))) n r.C.P (Exit.then (fun a₁ w₁ => ∃ w₂, (Instr.beginRound (r.w.heap.size + 1)).run r.C.P w₁ = .ok () w₂ ∧ r.body.wpIn (FW (some (r.w.heap.size + 1))) n r.C.P Q a₁ w₂) (fun _ _ _ => False)) { tmps := r.a.tmps.setIfInBounds r.p v, defers := [] } w1)
 (hx : LoopX r i false H w1) : YieldAt (FW none) n r.C.P (r.w.heap.size + 1) #[v] w1 fun e w2 => ∃ b H', e = .returned (.bool b) ∧ LoopX r (i + 1) (!b) H' w2 ∧ (∀ k, H' k → H k ∨ w1.heap.size ≤ k) ∧
  KeepD (fun k => (k = r.w.heap.size + 1 ∨ ∃ n ∈ r.ns, r.g.bx n = some k) ∨ (r.w.heap.size + 2 ≤ k ∧ H k)) w1 w2 := by
 obtain ⟨g', bs', jump, hg, hf, -⟩ := hx
 obtain ⟨rfl, hJ⟩ := hf rfl
 simp only [Bool.false_eq_true, if_false] at hg
 refine ⟨_, _, _, _, run_yield hg.recd (by simp [RInf.loop]), ?_⟩
 refine roundIn_of_wpIn trivial ?_
 have h2 := hg.turn hs .busy none
 obtain ⟨w2, hw2⟩ : ∃ w2, w2 = w1.putObj (r.w.heap.size + 1) (.loop (r.loop .busy none)) := ⟨_, rfl⟩
 have hsz2 : w2.heap.size = w1.heap.size := by rw [hw2]; simp
 have hoth : ∀ k, k ≠ r.w.heap.size + 1 → w2.heap[k]? = w1.heap[k]? := fun k hk => by rw [hw2]; exact World.putObj_heap_other hk
 rw [← hw2] at h2
 have hwr := rwr_ok (N := r.C.N) (ns := r.ns) (g := r.g) (g' := g') h2.bx (fun n hn => (hns n hn).2)
 have ht : ((r.loop .ready none).params.zip #[v]).foldl (fun tmps (t, a) => tmps.setIfInBounds t a) (r.loop .ready none).tmps = r.a.tmps.setIfInBounds r.p v := by
  simp [RInf.loop]
 have hSR : SR (.nest r.C.P w2 g' r.C.N (rwr r.C.N r.ns) hwr) ⟨roundFr r.p (cD v) (cutFr r.ns r.st.fr) none, bs', [], .no⟩ { g' with df := [] }
  { tmps := r.a.tmps.setIfInBounds r.p v, defers := [] } w2 := by
  have hps : r.p < r.a.tmps.size := by rw [hs.size]; exact hq
  refine ⟨rfl, (show _ = r.C.N by simp [hs.size]), fun j d hj => ?_, h2.mem.into _ _ _, rfl, fun n b h => h⟩
  rw [roundFr_none] at hj
  simp only [lk] at hj
  split at hj
  ·rename_i e
   subst e
   cases hj
   refine ⟨hq, ?_⟩
   rw [Array.getD_eq_getD_getElem?, Array.getElem?_setIfInBounds]
   have : r.p < r.a.tmps.size := by rw [hs.size]; exact hq
   simpa [this] using cD_rep _ _ v
  ·rename_i hne
   unfold cutFr at hj
   rw [lk_map] at hj
   obtain ⟨d0, h0, rfl⟩ := Option.map_eq_some_iff.1 hj
   obtain ⟨h3, h4⟩ := hs.rep j d0 h0
   refine ⟨h3, ?_⟩
   rw [Array.getD_eq_getD_getElem?, Array.getElem?_setIfInBounds_ne (Ne.symm hne), ← Array.getD_eq_getD_getElem?]
   exact Rep.cut (g := r.g) (g' := { g' with df := [] }) (fun n b hn hb => by
    show g'.bx n = some b
    rw [h2.bx]; simp [hn, hb]) (fun e => by cases e) h2.ex h4
 show r.asg.wpIn _ n r.C.P _ { tmps := ((r.loop .ready none).params.zip #[v]).foldl (fun tmps (t, a) => tmps.setIfInBounds t a) (r.loop .ready none).tmps, defers := [] } w1
 rw [ht]
 refine hround bs' hJ w2 g' hwr hw2 hg.recd hSR _ (fun a2 wB hb => wpIn_mono hb ?_)
 -- what the round leaves
 have key : ∀ (st3 : St) (g3 : Gh) (a3 : Act) (w3 : World) (s3 : LoopState) (jump : Option Code), SR (.nest r.C.P w2 g' r.C.N (rwr r.C.N r.ns) hwr) st3 g3 a3 w3 →
  ∃ H', LoopG r H' (w3.putObj (r.w.heap.size + 1) (.loop (r.loop s3 jump))) (g'.back g3) (bsOf true st3.bs r.ns r.ns) s3 jump ∧ w3.heap[r.w.heap.size + 1]? = some (.loop (r.loop .busy none)) ∧ (∀ k, H' k → H k ∨ w1.heap.size ≤ k) ∧
    KeepD (fun k => (k = r.w.heap.size + 1 ∨ ∃ n ∈ r.ns, r.g.bx n = some k) ∨ (r.w.heap.size + 2 ≤ k ∧ H k)) w1 (w3.putObj (r.w.heap.size + 1) (.loop (r.loop s3 jump))) := by
  intro st3 g3 a3 w3 s3 jump h3
  have m3 := h3.mem
  have hpin : ∀ n b, g'.bx n = some b → g3.bx n = some b := h3.fix
  have hin : ∀ n b, n ∈ r.ns → g3.bx n = some b → g'.bx n = some b := fun n b hn hb => by
   obtain ⟨b0, hb0⟩ := Option.isSome_iff_exists.1 (hns n hn).1
   have h5 : g'.bx n = some b0 := by rw [h2.bx]; simp [hn, hb0]
   have h6 := hpin n b0 h5
   rw [hb] at h6
   rw [h5, h6]
  have m4 : Mem r.C (bsOf true st3.bs r.ns r.ns) [] (g'.back g3) w3 := Mem.outof h2.mem m3 hpin fun n ds hn => by
   obtain ⟨ds0, h5, h6, rfl⟩ := bsOf_lk hn
   obtain ⟨b, cs, t, h7, h8, h9⟩ := m3.bxs n ds0 h6
   exact ⟨b, cs, t, hin n b h5 h7, h8, Reps.cut (g := g3) (g' := g'.back g3) (fun n b hn hb => hin n b hn hb) (fun _ t x h => h) (Ex.refl _ _) h9⟩
  have hsz := h2.size
  have htk : ∀ t v e b, g3.tk t = some (v, e) → v.ownBlock = some b → w2.heap.size ≤ b ∨ ∃ t v e, g'.tk t = some (v, e) ∧ v.ownBlock = some b := fun t v e b ht hv => by
   obtain ⟨_, _, _, _, _, _, h4⟩ := m3.tks t v e ht
   rcases (h4 b hv).1 with h | ⟨n, _, h⟩ | h
   ·exact .inl h
   ·exact absurd hv (m3.bxtk n t b v e (hpin n b h) ht)
   ·exact .inr h
  have htk2 : ∀ t v e b, g3.tk t = some (v, e) → v.ownBlock = some b → r.w.heap.size + 2 ≤ b := fun t v e b ht hv => by
   rcases htk t v e b ht hv with h | ⟨t', v', e', h1, h2'⟩
   ·omega
   ·exact h2.tk t' v' e' b h1 h2'
  have hfz0 : ∀ b o, g3.Fz b o → b < w2.heap.size → g'.Fz b o ∨ ∃ t v e, g'.tk t = some (v, e) ∧ v.ownBlock = some b := fun b o hf hlt => by
   rcases m3.newfz b o hf hlt with h | ⟨n, _, h⟩ | h
   ·exact .inl h
   ·exact absurd hf ((m3.bxok n b (hpin n b h)).2.2 o)
   ·exact .inr h
  have hfz : ∀ b o, g3.Fz b o → b < r.w.heap.size + 2 → r.g.Fz b o := fun b o hf hlt => by
   rcases hfz0 b o hf (by omega) with h | ⟨t', v', e', h1, h2'⟩
   ·exact h2.fz b o h hlt
   ·have := h2.tk t' v' e' b h1 h2'; omega
  have hrec : w3.heap[r.w.heap.size + 1]? = some (.loop (r.loop .busy none)) := by
   refine (m3.old _ (show r.w.heap.size + 1 < w2.heap.size by omega) ?_ (fun h => h)).trans h2.recd
   rintro (⟨n, _, h⟩ | ⟨t, v, e, h1, h2'⟩)
   ·have := (h2.bxlt hs h).2.2; omega
   ·have := h2.tk t v e _ h1 h2'; omega
  have hg4 : LoopG r (fun k => (g'.back g3).has r.C.w0.heap.size k ∨ k = r.w.heap.size + 1) w3 (g'.back g3) (bsOf true st3.bs r.ns r.ns) .busy none :=
   ⟨m4, h2.bx, h2.df, h2.ex.trans m3.keep, hfz, htk2, hrec, rfl, by have := m3.hsz; exact Nat.le_trans hsz this⟩
  refine ⟨_, hg4.turn hs s3 jump, hrec, ?_, ?_⟩
  ·intro k hk
   rw [hg.held]
   rcases hk with hk | hk
   ·rcases hk with hk | ⟨t, v, e, h1, h2'⟩ | hk | ⟨h1, o, ho⟩
    ·exact .inl (.inl (.inl hk))
    ·rcases htk t v e k h1 h2' with h | h
     ·exact .inr (by omega)
     ·exact .inl (.inl (.inr (.inl h)))
    ·exact .inl (.inl (.inr (.inr (.inl hk))))
    ·rcases Nat.lt_or_ge k w2.heap.size with hlt | hge
     ·rcases hfz0 k o ho hlt with h | h
      ·exact .inl (.inl (.inr (.inr (.inr ⟨h1, o, h⟩))))
      ·exact .inl (.inl (.inr (.inl h)))
     ·exact .inr (by omega)
   ·exact .inl (.inr hk)
  ·have e2 : w2.os = w1.os ∧ w2.tape = w1.tape ∧ w2.output = w1.output := by rw [hw2]; exact ⟨rfl, rfl, rfl⟩
   refine ⟨m3.os.trans e2.1, m3.tape.trans e2.2.1, m3.output.trans e2.2.2, by
    have h5 : w2.heap.size ≤ w3.heap.size := m3.hsz
    simp only [World.putObj_size]; omega, fun k hlt hn => ?_⟩
   have hkl : k ≠ r.w.heap.size + 1 := fun e => hn (.inl (.inl e))
   rw [World.putObj_heap_other hkl]
   refine (m3.old k (show k < w2.heap.size by omega) ?_ (fun h => h)).trans (hoth k hkl)
   rintro (⟨n, _, h⟩ | ⟨t, v, e, h1, h2'⟩)
   ·obtain ⟨e1, e2, _⟩ := h2.bxlt hs h
    exact hn (.inl (.inr ⟨n, e1, e2⟩))
   ·exact hn (.inr ⟨h2.tk t v e k h1 h2', by rw [hg.held]; exact .inl (.inr (.inl ⟨t, v, e, h1, h2'⟩))⟩)
 intro e a3 w3 hpost
 cases e <;> simp only [Post] at hpost
 case normal =>
  obtain ⟨st3, g3, h3, hk⟩ := hpost
  obtain ⟨H', h4, hrec, h5, h6⟩ := key st3 g3 a3 w3 .ready none h3
  exact ⟨_, _, run_endRound none hrec, true, H', rfl, ⟨_, _, none, h4, fun _ => ⟨rfl, hk⟩, fun e => by cases e⟩, h5, h6⟩
 case ret =>
  obtain ⟨st3, g3, h3, hk⟩ := hpost
  obtain ⟨H', h4, hrec, h5, h6⟩ := key st3 g3 a3 w3 .done (some .ret) h3
  exact ⟨_, _, run_endRound (some .ret) hrec, false, H', rfl, ⟨_, _, some .ret, h4, (fun e => by cases e), fun _ => .inl ⟨rfl, hk⟩⟩, h5, h6⟩
 case exit id =>
  obtain ⟨st3, g3, h3, hk⟩ := hpost
  obtain ⟨H', h4, hrec, h5, h6⟩ := key st3 g3 a3 w3 .done (some (.exit id)) h3
  exact ⟨_, _, run_endRound (some (.exit id)) hrec, false, H', rfl, ⟨_, _, some (.exit id), h4, (fun e => by cases e), fun _ => .inr ⟨id, rfl, hk⟩⟩, h5, h6⟩
 case goto t =>
  obtain ⟨st3, g3, h3, hk⟩ := hpost
  exact hk.elim
theorem loop_round {i : Nat} {v : Value} {H : Nat → Prop} {w1 : World} {n : Nat} (hq : r.p < r.C.N) (hdq : ∀ d, r.dq = some d → rwr r.C.N r.ns d = true) (hasg : compA r.asg r.p = some r.dq) (hns : ∀ n ∈ r.ns, (r.g.bx n).isSome = true ∧ n < 200000)
 (hbody : ∀ bs, r.J i bs → ∀ (w2 : World) (g2 : Gh) (hwr : NestOK g2 r.C.N (rwr r.C.N r.ns)) (a2 : Act),
  SR (.nest r.C.P w2 g2 r.C.N (rwr r.C.N r.ns) hwr) ⟨roundFr r.p (cD v) (cutFr r.ns r.st.fr) r.dq, bs, [], .no⟩ { g2 with df := [] } a2 w2 →
  r.body.wpIn (FW (some (r.w.heap.size + 1))) n r.C.P (Post (.nest r.C.P w2 g2 r.C.N (rwr r.C.N r.ns) hwr) (roundK (r.J (i + 1)) r.K r.st r.ns)) a2 w2)
 (hx : LoopX r i false H w1) : YieldAt (FW none) n r.C.P (r.w.heap.size + 1) #[v] w1 fun e w2 => ∃ b H', e = .returned (.bool b) ∧ LoopX r (i + 1) (!b) H' w2 ∧ (∀ k, H' k → H k ∨ w1.heap.size ≤ k) ∧
  KeepD (fun k => (k = r.w.heap.size + 1 ∨ ∃ n ∈ r.ns, r.g.bx n = some k) ∨ (r.w.heap.size + 2 ≤ k ∧ H k)) w1 w2 := by
 refine loop_roundG hs hq hns (fun bs hJ w2 g2 hwr hw2 hrec hSR Q hQ => asg_in (ro := some (r.w.heap.size + 1)) hasg ⟨_, run_beginRound hrec rfl, hQ _ _ ?_⟩) hx
 rw [show ({ r.loop .ready none with state := LoopState.busy } : Loop) = r.loop .busy none from rfl, ← hw2]
 refine hbody bs hJ w2 g2 hwr _ ?_
 cases hd : r.dq with
 | none => exact hSR
 | some d =>
   have h1 := hSR.put (i := d) (d := cD v) (v := (r.a.tmps.setIfInBounds r.p v).getD r.p undef) (hdq d hd) (by
    have := (hSR.rep r.p (cD v) (by rw [roundFr_none]; simp [lk])).2
    exact this)
   exact h1

def boxSt (p d : Nat) (v : D) (fr : List (Nat × D)) (zs : List D) (bs : List (Nat × List D)) : St :=
 St.put { (⟨roundFr p v fr none, bs, [], .no⟩ : St).drop d with bs := (d, zs) :: ((⟨roundFr p v fr none, bs, [], .no⟩ : St).drop d).bs } d (.ptr d 0)

theorem loop_roundB {i : Nat} {v : Value} {H : Nat → Prop} {w1 : World} {n : Nat} (hq : r.p < r.C.N) {d : Nat} {e : TypeId} {sz : Nat} {zs : List D} (hasg : compB r.C.P r.asg r.p = some (d, e, sz, zs)) (hd : rwr r.C.N r.ns d = true) (hns : ∀ n ∈ r.ns, (r.g.bx n).isSome = true ∧ n < 200000)
 (hbody : ∀ bs, r.J i bs → ∃ dd s2, (AOp.store sz (.tmp d) (.tmp r.p)).ex none (boxSt r.p d (cD v) (cutFr r.ns r.st.fr) zs bs) = some (dd, s2) ∧
  ∀ (w2 : World) (g2 : Gh) (hwr : NestOK g2 r.C.N (rwr r.C.N r.ns)) (a2 : Act) (g3 : Gh) (w3 : World), SR (.nest r.C.P w2 g2 r.C.N (rwr r.C.N r.ns) hwr) s2 g3 a2 w3 →
    r.body.wpIn (FW (some (r.w.heap.size + 1))) n r.C.P (Post (.nest r.C.P w2 g2 r.C.N (rwr r.C.N r.ns) hwr) (roundK (r.J (i + 1)) r.K r.st r.ns)) a2 w3)
 (hx : LoopX r i false H w1) : YieldAt (FW none) n r.C.P (r.w.heap.size + 1) #[v] w1 fun e w2 => ∃ b H', e = .returned (.bool b) ∧ LoopX r (i + 1) (!b) H' w2 ∧ (∀ k, H' k → H k ∨ w1.heap.size ≤ k) ∧
  KeepD (fun k => (k = r.w.heap.size + 1 ∨ ∃ n ∈ r.ns, r.g.bx n = some k) ∨ (r.w.heap.size + 2 ≤ k ∧ H k)) w1 w2 := by
 refine loop_roundG hs hq hns (fun bs hJ w2 g2 hwr hw2 hrec hSR Q hQ => ?_) hx
 obtain ⟨dd, s2, hex, hbd⟩ := hbody bs hJ
 obtain ⟨id, o1, o2, ti, z, hasg', g1, d1, p1, g2', d2, p2, hne, hi, hz, hzs, rfl, rfl⟩ := compB_inv hasg
 have hlt := (Array.getElem?_eq_some_iff.1 hrec).1
 have hsz2 : w2.heap.size = w1.heap.size := by rw [hw2]; simp
 -- the variable, abstractly
 obtain ⟨_, nx, w', g', hr1, hsr1, _, hcase⟩ := snd_alloc (C := .nest r.C.P w2 g2 r.C.N (rwr r.C.N r.ns) hwr) p1 hi hz (fun d' e' => by rw [d1] at e'; cases e'; exact hd) _ _ _ _ _ _ hSR (by rw [d1]; rfl)
 have hr1' : (execOp (Act.eval { tmps := r.a.tmps.setIfInBounds r.p v, defers := [] }) o1).run r.C.P w2 = .ok nx w' := hr1
 rw [run_allocE p1 hi hz] at hr1'
 cases hr1'
 obtain ⟨u, hu, hrep⟩ | ⟨hu, _⟩ := hcase
 rotate_left
 ·cases hu
 cases hu
 have hsr2 := hsr1.put (i := d) hd hrep
 have hyc0 := hsr2.ev (.tmp r.p)
 obtain ⟨_, nx2, w'', g'', hr2, hsr3, _, _⟩ := snd_store (C := .nest r.C.P w2 g2 r.C.N (rwr r.C.N r.ns) hwr) p2 hi (fun d' e' => by rw [d2] at e'; cases e') _ _ _ _ _ _ hsr2 (by rw [d2]; exact hex)
 -- what the variable is to hold
 obtain ⟨a1, ha1⟩ : ∃ a1 : Act, a1 = (Act.put { tmps := r.a.tmps.setIfInBounds r.p v, defers := [] } (some d) (.pointer (some ⟨w2.heap.size, 0, none⟩))) := ⟨_, rfl⟩
 have hconds : (a1.eval (.tmp r.p)).cells.size = ti.size ∧ ∀ u ∈ (a1.eval (.tmp r.p)).cells.toList, u.oneCell' = true := by
  simp only [AOp.ex] at hex
  split at hex
  ·rename_i n0 off0 hev
   obtain ⟨ds0, hds0, h4⟩ := Option.bind_eq_some_iff.1 hex
   split at h4
   ·rename_i hc
    have hyc := hyc0.cells hc.2.2.1
    rw [ha1]
    exact ⟨by rw [← Array.length_toList, hyc.length]; exact hc.1, hyc.ones hc.2.2.1⟩
   ·cases h4
  ·cases hex
 have hptr : a1.eval (.tmp d) = .pointer (some ⟨w2.heap.size, 0, none⟩) := by
  rw [ha1]
  have hdN : d < r.C.N := by simp only [rwr, Bool.and_eq_true, decide_eq_true_eq] at hd; exact hd.1
  have : d < r.a.tmps.size := by rw [hs.size]; exact hdN
  simp [Act.eval, Act.put, Array.getD_eq_getD_getElem?, this]
 have hst : ∀ w : World, w.heap.size = w2.heap.size → (execOp a1.eval o2).run r.C.P (w.alloc (.cells z.cells e)) = .ok .skip ((w.alloc (.cells z.cells e)).setRow w.heap.size (a1.eval (.tmp r.p)).cells) := fun w hw => by
  refine run_storeE p2 hi a1 _ w.heap.size z.cells e (by rw [hptr, hw]) ?_ hzs hconds.1 hconds.2
  exact World.alloc_heap_new w _
 rw [← ha1] at hsr3 hr2
 have hr2' : (execOp a1.eval o2).run r.C.P (w2.alloc (.cells z.cells e)) = .ok nx2 w'' := hr2
 rw [hst w2 rfl] at hr2'
 cases hr2'
 -- the round's way
 rw [hasg']
 refine wpIn_region ?_
 show wpOpsIn (FW (some (r.w.heap.size + 1))) n r.C.P #[o1, o2] _ [0, 1] _ w1
 unfold wpOpsIn
 simp only [List.getElem?_toArray, List.getElem?_cons_zero]
 rw [if_pos (show Region.wanted o1 (yielded #[o1, o2] (r.a.tmps.setIfInBounds r.p v)) = true by simp [Region.wanted, g1])]
 refine oper_in (fun c e => by rw [p1] at e; cases e) ?_
 unfold Oper.wp
 rw [run_allocE p1 hi hz]
 show wpOpsIn (FW (some (r.w.heap.size + 1))) n r.C.P #[o1, o2] _ [1] (Act.put _ o1.dst _) _
 rw [d1, ← hsz2, ← ha1]
 unfold wpOpsIn
 simp only [List.getElem?_toArray, List.getElem?_cons_succ, List.getElem?_cons_zero]
 rw [if_pos (show Region.wanted o2 (yielded #[o1, o2] a1.tmps) = true by simp [Region.wanted, g2'])]
 refine oper_in (fun c e => by rw [p2] at e; cases e) ?_
 unfold Oper.wp
 rw [hst w1 hsz2.symm]
 rw [Oper.upon_skip, d2]
 show wpOpsIn (FW (some (r.w.heap.size + 1))) n r.C.P #[o1, o2] _ [] a1 _
 unfold wpOpsIn
 refine ⟨_, run_beginRound (r := r.loop .ready none) ?_ rfl, hQ _ _ ?_⟩
 ·rw [setRow_other _ _ _ _ (by omega)]
  rw [(World.grownBy_alloc w1 (.cells z.cells e) none).block _ hlt (fun e => by cases e)]
  exact hrec
 ·rw [show ({ r.loop .ready none with state := LoopState.busy } : Loop) = r.loop .busy none from rfl, put_alloc_row w1 _ hlt, ← hw2]
  exact hbd w2 g2 hwr a1 g'' _ hsr3

end

theorem range_in {C : Ctx} {st : St} {g : Gh} {a : Act} {w : World} {K : Exit → St → Prop} (hs : SR C st g a w) (hpl : C.plain) {x : Operand} {p : Nat} {ns : List Nat} {asg : Code} {dq : Option Nat} (hdq : ∀ d, dq = some d → rwr C.N ns d = true) (hasg : compA asg p = some dq) {body : Code} {fu : Nat} (hq : p < C.N)
 {f : FuncId} {caps : List (Nat × Nat)} (hev : st.ev x = .fn f caps) (hfree : ∀ c ∈ caps, c.1 ∉ ns ∧ c.1 < 1000000) (hns : ∀ n ∈ ns, (lk st.bs n).isSome = true ∧ n < 200000) {xs : List Value} {J : Nat → List (Nat × List D) → Prop}
 (hit : IterW C.P f caps st xs) (h0 : J 0 (bsOf false st.bs ns ns))
 (hbody : ∀ i v bs, xs[i]? = some v → J i bs → ∀ (w2 : World) (g2 : Gh) (hwr : NestOK g2 C.N (rwr C.N ns)) (a2 : Act) (n l : Nat),
  SR (.nest C.P w2 g2 C.N (rwr C.N ns) hwr) ⟨roundFr p (cD v) (cutFr ns st.fr) dq, bs, [], .no⟩ { g2 with df := [] } a2 w2 →
  body.wpIn (FW (some l)) n C.P (Post (.nest C.P w2 g2 C.N (rwr C.N ns) hwr) (roundK (J (i + 1)) K st ns)) a2 w2)
 (hend : ∀ bs, J xs.length bs → K .normal (st.after ns bs)) : (Code.rangeFunc x #[p] asg body).wpIn (FW none) fu C.P (Post C K) a w := by
 refine wpIn_rangeFunc fun fn _ => ?_
 have hx := hs.ev x
 rw [hev] at hx
 simp only [Rep] at hx
 obtain ⟨cv, ex, hcs⟩ := hx
 obtain ⟨r, hr⟩ : ∃ r : RInf, r = ⟨C, st, g, a, w, K, ns, p, asg, dq, body, fn, J⟩ := ⟨_, rfl⟩
 obtain ⟨W, hW⟩ : ∃ W : World, W = (w.alloc (.deferred (some []))).alloc (.loop (r.loop .ready none)) := ⟨_, rfl⟩
 have hWs : W.heap.size = w.heap.size + 2 := by rw [hW]; simp
 have hWk : KeepD (fun _ => False) w W := by
  rw [hW]
  refine ⟨rfl, rfl, rfl, by simp; omega, fun k hk _ => ?_⟩
  rw [(World.grownBy_alloc (w.alloc (.deferred (some []))) (.loop (r.loop .ready none)) none).block k (by simp; omega) (fun e => by cases e)]
  exact (World.grownBy_alloc w (.deferred (some [])) none).block k hk (fun e => by cases e)
 have hWl : W.heap[w.heap.size + 1]? = some (.loop (r.loop .ready none)) := by
  have := World.alloc_heap_new (w.alloc (.deferred (some []))) (.loop (r.loop .ready none))
  rw [World.size_alloc] at this
  rw [hW]; exact this
 have hWd : W.heap[w.heap.size]? = some (.deferred (some [])) := by
  rw [hW, (World.grownBy_alloc (w.alloc (.deferred (some []))) (.loop (r.loop .ready none)) none).block w.heap.size (by simp) (fun e => by cases e)]
  exact World.alloc_heap_new w _
 have henter : (Instr.enterLoop fn a.tmps #[p] asg body (FW none).round).run C.P w = .ok (w.heap.size + 1, [markOf w.heap.size]) W := by
  rw [hW, hr]
  exact run_enterLoop_outer fn a.tmps #[p] asg body
 refine ⟨w.heap.size + 1, [markOf w.heap.size], W, ⟨.fn (.func f) cv.toArray, #[.func (.yield (w.heap.size + 1)) #[] #[]]⟩, W, f, (Value.func (.yield (w.heap.size + 1)) #[] #[] :: cv).toArray, W, henter, ?_, fun _ _ => trivial, ?_, fun h => by simp [Fence.wide] at h, ?_⟩
 ·have e1 : (#[Operand.const (Value.func (.yield (w.heap.size + 1)) #[] #[])].map a.eval) = #[Value.func (.yield (w.heap.size + 1)) #[] #[]] := by simp [Act.eval]
  simp only [resolve, rangeCall, e1, ex, Deferred.ofValue, Sem.run_pure, Array.empty_append]
 ·have := hit.enters (Value.func (.yield (w.heap.size + 1)) #[] #[] :: cv).toArray W
  simpa [invoke, List.append_toArray] using this
 have hsr : SR r.C r.st r.g r.a r.w := by rw [hr]; exact hs
 have hm := hs.mem
 have hcut : ∀ n b, (g.cut ns).bx n = some b → n ∈ ns ∧ g.bx n = some b ∧ b < w.heap.size := fun n b h => by
  simp only [Gh.cut] at h
  split at h
  ·rename_i hn; exact ⟨hn, h, (hm.bxok n b h).1⟩
  ·cases h
 have hD : w.heap.size ∉ g.df := fun h => Nat.lt_irrefl _ (Array.getElem?_eq_some_iff.1 (hm.dfs _ h).2).1
 obtain ⟨m1, g1⟩ := (hm.cut ns).keepD hWk (fun _ _ e => e.elim)
 have m2 := m1.mark hWd hm.hsz hD (fun n h => by have := (hcut n _ h).2.2; omega)
 have hbxc : ∀ k, (∃ n ∈ ns, g.bx n = some k) → ∀ c ∈ caps, g.bx c.1 ≠ some k := fun k ⟨n, hn, hb⟩ c hc h => (hfree c hc).1 (by rw [hm.bxinj _ _ _ h hb]; exact hn)
 refine calls_in ((hit.run C g a w cv W rfl hs hcs hWk (w.heap.size + 1) (LoopX r) (fun k => k = w.heap.size + 1 ∨ ∃ n ∈ ns, g.bx n = some k)
  (fun k => ({ g.cut ns with df := w.heap.size :: g.df } : Gh).has C.w0.heap.size k ∨ k = w.heap.size + 1) ?_ ?_ ?_ ?_ ?_ ?_).mono ?_)
 ·intro k hk
  rcases hk with rfl | ⟨n, hn, hb⟩
  ·refine ⟨by omega, fun o ho => by have := hm.fzlt _ o ho; omega, fun c hc h => by have := (hm.bxok _ _ h).1; omega⟩
  ·exact ⟨by have := (hm.bxok _ _ hb).1; omega, (hm.bxok _ _ hb).2.2, hbxc k ⟨n, hn, hb⟩⟩
 ·rintro i s H R w1 w2 ⟨g', bs', jump, h1, h2, h3⟩ hk hR
  exact ⟨g', bs', jump, h1.keep hsr (caps := caps) (by rw [hr]; exact hfree) hk (fun k e => by rw [hr, ← hWs]; exact hR k e), h2, h3⟩
 ·rintro i s H w1 ⟨g', bs', jump, h1, h2, h3⟩ k hk
  rw [h1.held] at hk
  rcases hk with hk | rfl
  ·exact h1.mem.has_lt hk
  ·exact (Array.getElem?_eq_some_iff.1 h1.recd).1
 ·intro i v H w1 n hv hx
  have := loop_round hsr (i := i) (v := v) (H := H) (w1 := w1) (n := n) (by rw [hr]; exact hq) (by rw [hr]; exact hdq) (by rw [hr]; exact hasg) (fun m hm' => by
   rw [hr] at hm' ⊢
   obtain ⟨ds, hds⟩ := Option.isSome_iff_exists.1 (hns m hm').1
   obtain ⟨b, _, _, hb, _⟩ := hm.bxs m ds hds
   exact ⟨Option.isSome_iff_exists.2 ⟨b, hb⟩, (hns m hm').2⟩) (by
   rw [hr]
   intro bs hJ w2 g2 hwr a2 hs2
   exact hbody i v bs hv hJ w2 g2 hwr a2 n _ hs2) hx
  rw [hWs]
  rw [hr] at this ⊢
  exact this
 ·refine ⟨{ g.cut ns with df := w.heap.size :: g.df }, bsOf false st.bs ns ns, none, ⟨?_, ?_, ?_, ?_, ?_, ?_, ?_, ?_, ?_⟩, fun _ => ⟨rfl, by rw [hr]; exact h0⟩, fun e => by cases e⟩
  ·rw [hr]; exact m2
  ·rw [hr]
  ·rw [hr]
  ·rw [hr]; exact g1.ex
  ·rw [hr]; exact fun b o h _ => h
  ·intro t v e b h; cases h
  ·rw [hr] at hWl ⊢; exact hWl
  ·rw [hr]
  ·rw [hr]; exact Nat.le_of_eq hWs.symm
 ·intro k hk c hc h
  have hlt := (hm.bxok _ _ h).1
  rcases hk with hk | hk
  ·rcases hk with ⟨n, _, h2⟩ | ⟨t, v, e, h1, _⟩ | hk | ⟨_, o, ho⟩
   ·obtain ⟨e1, e2, _⟩ := hcut n k h2
    exact hbxc k ⟨n, e1, e2⟩ c hc h
   ·cases h1
   ·rcases List.mem_cons.1 hk with rfl | hk
    ·omega
    ·exact hm.bxdf _ _ hk h
   ·exact (hm.bxok _ _ h).2.2 o ho
  ·omega
 ·rintro e w3 ⟨v, i, s, H, rfl, ⟨g', bs', jump, h1, h2, h3⟩, hi⟩
  have h4 := h1.turn hsr .exhausted jump
  refine ⟨jump, _, run_endLoop (r := r.loop (if s then .done else .ready) jump) (by have := h1.recd; rw [hr] at this ⊢; exact this) (by cases s <;> simp [RInf.loop]), ?_⟩
  have hfin : SR C (st.after ns bs') g' { a with defers := [markOf w.heap.size] ++ a.defers } (w3.putObj (w.heap.size + 1) (.loop (r.loop .exhausted jump))) := by
   rw [hr] at h4 h1 ⊢
   refine ⟨?_, hs.size, fun j d hj => ?_, h4.mem, ?_, fun n b hn => ?_⟩
   ·rw [h1.df, hs.defers]; rfl
   ·simp only [St.after, cutFr] at hj
    rw [lk_map] at hj
    obtain ⟨d0, h0, rfl⟩ := Option.map_eq_some_iff.1 hj
    obtain ⟨h5, h6⟩ := hs.rep j d0 h0
    exact ⟨h5, Rep.cut (g := g) (g' := g') (fun n b hn hb => by
     rw [h1.bx]; simp [hn, hb]) (fun e => by cases e) h4.ex h6⟩
   ·exact hpl.1 _ _ _ _ _ hs.x
   ·rw [hpl.2 n] at hn; cases hn
  cases s with
  | false =>
    obtain ⟨rfl, hJ⟩ := h2 rfl
    have hfin' : SR C (st.after ns bs') g' { a with defers := [markOf w.heap.size] ++ a.defers } (w3.putObj (w.heap.size + 1) (.loop (r.loop .exhausted none))) := hfin
    rw [hi rfl] at hJ
    exact ⟨_, g', hfin', hend bs' (by rw [hr] at hJ; exact hJ)⟩
  | true =>
    rcases h3 rfl with ⟨rfl, hK⟩ | ⟨id, rfl, hK⟩
    ·exact wpIn_ret ⟨_, g', hfin, by rw [hr] at hK; exact hK⟩
    ·exact wpIn_exit ⟨_, g', hfin, by rw [hr] at hK; exact hK⟩

theorem range_inB {C : Ctx} {st : St} {g : Gh} {a : Act} {w : World} {K : Exit → St → Prop} (hs : SR C st g a w) (hpl : C.plain) {x : Operand} {p : Nat} {ns : List Nat} {asg : Code} {d : Nat} {e : TypeId} {sz : Nat} {zs : List D} (hd : rwr C.N ns d = true) (hasg : compB C.P asg p = some (d, e, sz, zs)) {body : Code} {fu : Nat} (hq : p < C.N)
 {f : FuncId} {caps : List (Nat × Nat)} (hev : st.ev x = .fn f caps) (hfree : ∀ c ∈ caps, c.1 ∉ ns ∧ c.1 < 1000000) (hns : ∀ n ∈ ns, (lk st.bs n).isSome = true ∧ n < 200000) {xs : List Value} {J : Nat → List (Nat × List D) → Prop}
 (hit : IterW C.P f caps st xs) (h0 : J 0 (bsOf false st.bs ns ns))
 (hbody : ∀ i v bs, xs[i]? = some v → J i bs → ∃ dd s2, (AOp.store sz (.tmp d) (.tmp p)).ex none (boxSt p d (cD v) (cutFr ns st.fr) zs bs) = some (dd, s2) ∧ ∀ (w2 : World) (g2 : Gh) (hwr : NestOK g2 C.N (rwr C.N ns)) (a2 : Act) (n l : Nat) (g3 : Gh) (w3 : World),
  SR (.nest C.P w2 g2 C.N (rwr C.N ns) hwr) s2 g3 a2 w3 → body.wpIn (FW (some l)) n C.P (Post (.nest C.P w2 g2 C.N (rwr C.N ns) hwr) (roundK (J (i + 1)) K st ns)) a2 w3)
 (hend : ∀ bs, J xs.length bs → K .normal (st.after ns bs)) : (Code.rangeFunc x #[p] asg body).wpIn (FW none) fu C.P (Post C K) a w := by
 refine wpIn_rangeFunc fun fn _ => ?_
 have hx := hs.ev x
 rw [hev] at hx
 simp only [Rep] at hx
 obtain ⟨cv, ex, hcs⟩ := hx
 obtain ⟨r, hr⟩ : ∃ r : RInf, r = ⟨C, st, g, a, w, K, ns, p, asg, none, body, fn, J⟩ := ⟨_, rfl⟩
 obtain ⟨W, hW⟩ : ∃ W : World, W = (w.alloc (.deferred (some []))).alloc (.loop (r.loop .ready none)) := ⟨_, rfl⟩
 have hWs : W.heap.size = w.heap.size + 2 := by rw [hW]; simp
 have hWk : KeepD (fun _ => False) w W := by
  rw [hW]
  refine ⟨rfl, rfl, rfl, by simp; omega, fun k hk _ => ?_⟩
  rw [(World.grownBy_alloc (w.alloc (.deferred (some []))) (.loop (r.loop .ready none)) none).block k (by simp; omega) (fun e => by cases e)]
  exact (World.grownBy_alloc w (.deferred (some [])) none).block k hk (fun e => by cases e)
 have hWl : W.heap[w.heap.size + 1]? = some (.loop (r.loop .ready none)) := by
  have := World.alloc_heap_new (w.alloc (.deferred (some []))) (.loop (r.loop .ready none))
  rw [World.size_alloc] at this
  rw [hW]; exact this
 have hWd : W.heap[w.heap.size]? = some (.deferred (some [])) := by
  rw [hW, (World.grownBy_alloc (w.alloc (.deferred (some []))) (.loop (r.loop .ready none)) none).block w.heap.size (by simp) (fun e => by cases e)]
  exact World.alloc_heap_new w _
 have henter : (Instr.enterLoop fn a.tmps #[p] asg body (FW none).round).run C.P w = .ok (w.heap.size + 1, [markOf w.heap.size]) W := by
  rw [hW, hr]
  exact run_enterLoop_outer fn a.tmps #[p] asg body
 refine ⟨w.heap.size + 1, [markOf w.heap.size], W, ⟨.fn (.func f) cv.toArray, #[.func (.yield (w.heap.size + 1)) #[] #[]]⟩, W, f, (Value.func (.yield (w.heap.size + 1)) #[] #[] :: cv).toArray, W, henter, ?_, fun _ _ => trivial, ?_, fun h => by simp [Fence.wide] at h, ?_⟩
 ·have e1 : (#[Operand.const (Value.func (.yield (w.heap.size + 1)) #[] #[])].map a.eval) = #[Value.func (.yield (w.heap.size + 1)) #[] #[]] := by simp [Act.eval]
  simp only [resolve, rangeCall, e1, ex, Deferred.ofValue, Sem.run_pure, Array.empty_append]
 ·have := hit.enters (Value.func (.yield (w.heap.size + 1)) #[] #[] :: cv).toArray W
  simpa [invoke, List.append_toArray] using this
 have hsr : SR r.C r.st r.g r.a r.w := by rw [hr]; exact hs
 have hm := hs.mem
 have hcut : ∀ n b, (g.cut ns).bx n = some b → n ∈ ns ∧ g.bx n = some b ∧ b < w.heap.size := fun n b h => by
  simp only [Gh.cut] at h
  split at h
  ·rename_i hn; exact ⟨hn, h, (hm.bxok n b h).1⟩
  ·cases h
 have hD : w.heap.size ∉ g.df := fun h => Nat.lt_irrefl _ (Array.getElem?_eq_some_iff.1 (hm.dfs _ h).2).1
 obtain ⟨m1, g1⟩ := (hm.cut ns).keepD hWk (fun _ _ e => e.elim)
 have m2 := m1.mark hWd hm.hsz hD (fun n h => by have := (hcut n _ h).2.2; omega)
 have hbxc : ∀ k, (∃ n ∈ ns, g.bx n = some k) → ∀ c ∈ caps, g.bx c.1 ≠ some k := fun k ⟨n, hn, hb⟩ c hc h => (hfree c hc).1 (by rw [hm.bxinj _ _ _ h hb]; exact hn)
 refine calls_in ((hit.run C g a w cv W rfl hs hcs hWk (w.heap.size + 1) (LoopX r) (fun k => k = w.heap.size + 1 ∨ ∃ n ∈ ns, g.bx n = some k)
  (fun k => ({ g.cut ns with df := w.heap.size :: g.df } : Gh).has C.w0.heap.size k ∨ k = w.heap.size + 1) ?_ ?_ ?_ ?_ ?_ ?_).mono ?_)
 ·intro k hk
  rcases hk with rfl | ⟨n, hn, hb⟩
  ·refine ⟨by omega, fun o ho => by have := hm.fzlt _ o ho; omega, fun c hc h => by have := (hm.bxok _ _ h).1; omega⟩
  ·exact ⟨by have := (hm.bxok _ _ hb).1; omega, (hm.bxok _ _ hb).2.2, hbxc k ⟨n, hn, hb⟩⟩
 ·rintro i s H R w1 w2 ⟨g', bs', jump, h1, h2, h3⟩ hk hR
  exact ⟨g', bs', jump, h1.keep hsr (caps := caps) (by rw [hr]; exact hfree) hk (fun k e => by rw [hr, ← hWs]; exact hR k e), h2, h3⟩
 ·rintro i s H w1 ⟨g', bs', jump, h1, h2, h3⟩ k hk
  rw [h1.held] at hk
  rcases hk with hk | rfl
  ·exact h1.mem.has_lt hk
  ·exact (Array.getElem?_eq_some_iff.1 h1.recd).1
 ·intro i v H w1 n hv hx
  have := loop_roundB hsr (i := i) (v := v) (H := H) (w1 := w1) (n := n) (d := d) (e := e) (sz := sz) (zs := zs) (by rw [hr]; exact hq) (by rw [hr]; exact hasg) (by rw [hr]; exact hd) (fun m hm' => by
   rw [hr] at hm' ⊢
   obtain ⟨ds, hds⟩ := Option.isSome_iff_exists.1 (hns m hm').1
   obtain ⟨b, _, _, hb, _⟩ := hm.bxs m ds hds
   exact ⟨Option.isSome_iff_exists.2 ⟨b, hb⟩, (hns m hm').2⟩) (by
   rw [hr]
   intro bs hJ
   obtain ⟨dd, s2, h1, h2⟩ := hbody i v bs hv hJ
   exact ⟨dd, s2, h1, fun w2 g2 hwr a2 g3 w3 hs3 => h2 w2 g2 hwr a2 n _ g3 w3 hs3⟩) hx
  rw [hWs]
  rw [hr] at this ⊢
  exact this
 ·refine ⟨{ g.cut ns with df := w.heap.size :: g.df }, bsOf false st.bs ns ns, none, ⟨?_, ?_, ?_, ?_, ?_, ?_, ?_, ?_, ?_⟩, fun _ => ⟨rfl, by rw [hr]; exact h0⟩, fun e => by cases e⟩
  ·rw [hr]; exact m2
  ·rw [hr]
  ·rw [hr]
  ·rw [hr]; exact g1.ex
  ·rw [hr]; exact fun b o h _ => h
  ·intro t v e b h; cases h
  ·rw [hr] at hWl ⊢; exact hWl
  ·rw [hr]
  ·rw [hr]; exact Nat.le_of_eq hWs.symm
 ·intro k hk c hc h
  have hlt := (hm.bxok _ _ h).1
  rcases hk with hk | hk
  ·rcases hk with ⟨n, _, h2⟩ | ⟨t, v, e, h1, _⟩ | hk | ⟨_, o, ho⟩
   ·obtain ⟨e1, e2, _⟩ := hcut n k h2
    exact hbxc k ⟨n, e1, e2⟩ c hc h
   ·cases h1
   ·rcases List.mem_cons.1 hk with rfl | hk
    ·omega
    ·exact hm.bxdf _ _ hk h
   ·exact (hm.bxok _ _ h).2.2 o ho
  ·omega
 ·rintro e w3 ⟨v, i, s, H, rfl, ⟨g', bs', jump, h1, h2, h3⟩, hi⟩
  have h4 := h1.turn hsr .exhausted jump
  refine ⟨jump, _, run_endLoop (r := r.loop (if s then .done else .ready) jump) (by have := h1.recd; rw [hr] at this ⊢; exact this) (by cases s <;> simp [RInf.loop]), ?_⟩
  have hfin : SR C (st.after ns bs') g' { a with defers := [markOf w.heap.size] ++ a.defers } (w3.putObj (w.heap.size + 1) (.loop (r.loop .exhausted jump))) := by
   rw [hr] at h4 h1 ⊢
   refine ⟨?_, hs.size, fun j d hj => ?_, h4.mem, ?_, fun n b hn => ?_⟩
   ·rw [h1.df, hs.defers]; rfl
   ·simp only [St.after, cutFr] at hj
    rw [lk_map] at hj
    obtain ⟨d0, h0, rfl⟩ := Option.map_eq_some_iff.1 hj
    obtain ⟨h5, h6⟩ := hs.rep j d0 h0
    exact ⟨h5, Rep.cut (g := g) (g' := g') (fun n b hn hb => by
     rw [h1.bx]; simp [hn, hb]) (fun e => by cases e) h4.ex h6⟩
   ·exact hpl.1 _ _ _ _ _ hs.x
   ·rw [hpl.2 n] at hn; cases hn
  cases s with
  | false =>
    obtain ⟨rfl, hJ⟩ := h2 rfl
    have hfin' : SR C (st.after ns bs') g' { a with defers := [markOf w.heap.size] ++ a.defers } (w3.putObj (w.heap.size + 1) (.loop (r.loop .exhausted none))) := hfin
    rw [hi rfl] at hJ
    exact ⟨_, g', hfin', hend bs' (by rw [hr] at hJ; exact hJ)⟩
  | true =>
    rcases h3 rfl with ⟨rfl, hK⟩ | ⟨id, rfl, hK⟩
    ·exact wpIn_ret ⟨_, g', hfin, by rw [hr] at hK; exact hK⟩
    ·exact wpIn_exit ⟨_, g', hfin, by rw [hr] at hK; exact hK⟩


inductive AC where
 | skip
 | ret
 | exit (id : Nat)
 | seq (x y : AC)
 | cond (c : Operand) (x y : AC)
 | block (id : Nat) (x : AC)
 | loop (x : AC)
 | region (l : List AOper) (kp : Option (List Nat))
 | draw (l : List AOper) (tb : List Nat) (p : Plan) (kp : Option (List Nat))
 | rangeF (ns : List Nat) (p : Nat) (dq : Option Nat) (x : Operand) (body : AC)
 | rangeB (ns : List Nat) (p d : Nat) (e : TypeId) (sz : Nat) (zs : List D) (x : Operand) (body : AC)
 | label (l : Nat)
 | goto (l : Nat)
 | scope (l : Nat) (x r : AC)
 | bad
 deriving Inhabited

def AC.noRange : AC → Bool
 | .seq x y => x.noRange && y.noRange
 | .cond _ x y => x.noRange && y.noRange
 | .block _ x => x.noRange
 | .loop x => x.noRange
 | .rangeF .. => false
 | .rangeB .. => false
 | .scope _ x r => x.noRange && r.noRange
 | _ => true

def AC.lab : AC → Option Nat
 | .seq x y => match x.lab with
   | some l => some l
   | none => y.lab
 | .label l => some l
 | _ => none

def AC.behind : AC → Nat → Option AC
 | .seq x y, l => match x.behind l with
   | some r => some (.seq r y)
   | none => y.behind l
 | .label j, l => if j == l then some .skip else none
 | _, _ => none

def AC.scp (a : AC) : AC := match a.lab with
 | some l => match a.behind l with
   | some r => .scope l a r
   | none => .bad
 | none => .scope 0 a .bad

structure Ann where
 kp : List (Nat × List Nat)
 dr : List (Nat × (List Nat × Plan))
 rf : List (Nat × List Nat)

def St.keep (st : St) : Option (List Nat) → St
 | none => st
 | some l => { st with fr := l.map fun i => (i, st.get i) }

def kpOK (N : Nat) : Option (List Nat) → Bool
 | none => true
 | some l => l.all fun i => decide (i < N)

theorem SR.keep {C : Ctx} {st : St} {g : Gh} {a : Act} {w : World} (h : SR C st g a w) {kp : Option (List Nat)} (hk : kpOK C.N kp = true) : SR C (st.keep kp) g a w := by
 cases kp with
 | none => exact h
 | some l =>
   refine h.less (fun i d hd => ?_) (fun _ _ h => h) (fun _ _ h => h) rfl
   simp only [St.keep] at hd
   have key : ∀ l : List Nat, l.all (fun i => decide (i < C.N)) = true → lk (l.map fun i => (i, st.get i)) i = some d → lk st.fr i = some d ∨ d = .any ∧ i < C.N := by
    intro l
    induction l with
    | nil => intro _ h; simp [lk] at h
    | cons j l ih =>
      intro hl h
      simp only [List.all_cons, Bool.and_eq_true, decide_eq_true_eq] at hl
      simp only [List.map_cons, lk] at h
      split at h
      ·rename_i hij
       subst hij
       cases h
       unfold St.get
       cases hlk : lk st.fr i with
       | none => exact .inr ⟨rfl, hl.1⟩
       | some e => exact .inl rfl
      ·exact ih hl.2 h
   exact key l hk hd

def compC (P : Program) (an : Ann) : Code → Option AC
 | .skip => some .skip
 | .ret => some .ret
 | .exit id => some (.exit id)
 | .seq x y => match compC P an x, compC P an y with
   | some a, some b => some (.seq a b)
   | _, _ => none
 | .cond c x y => match compC P an x, compC P an y with
   | some a, some b => some (.cond c a b)
   | _, _ => none
 | .block id x => (compC P an x).map (.block id)
 | .loop x => (compC P an x).map .loop
 | .region id ops false => match compL P ops (List.range ops.size) with
   | some l => some (.region l (lk an.kp id))
   | none => some .bad
 | .region id ops true => match lk an.dr id, compL P ops (List.range ops.size) with
   | some (tb, p), some l => if tabOK .any ops tb && Region.noSelect ops && planOK ops tb (Array.replicate ops.size false) p && decide (p.size ≤ ops.size) then some (.draw l tb p (lk an.kp id)) else none
   | _, none => some .bad
   | _, _ => none
 | .rangeFunc x ps asg body => match ps.toList, compC P an body with
   | [p], some b => match compA asg p with
     | some dq => if b.noRange then (lk an.rf p).map fun ns => .rangeF ns p dq x b else none
     | none => match compB P asg p with
       | some (d, e, sz, zs) => if b.noRange then (lk an.rf p).map fun ns => .rangeB ns p d e sz zs x b else none
       | none => none
   | _, _ => none
 | .label l => some (.label l)
 | .goto l => some (.goto l)
 | .scope c => (compC P an c).map AC.scp
 | _ => some .bad

def AC.dstOK (N : Nat) (p : Nat → Bool) : AC → Bool
 | .seq x y => x.dstOK N p && y.dstOK N p
 | .cond _ x y => x.dstOK N p && y.dstOK N p
 | .block _ x => x.dstOK N p
 | .loop x => x.dstOK N p
 | .region l kp => l.all (Go.Proofs.YtjgpdjakehoofaaGreatDoor.dstOK p) && kpOK N kp
 | .draw l _ _ kp => l.all (Go.Proofs.YtjgpdjakehoofaaGreatDoor.dstOK p) && kpOK N kp
 | .rangeF ns q dq _ x => x.dstOK N (rwr N ns) && decide (q < N) && (match dq with | some d => rwr N ns d | none => true)
 | .rangeB ns q d _ _ _ _ x => x.dstOK N (rwr N ns) && decide (q < N) && rwr N ns d
 | .scope _ x r => x.dstOK N p && r.dstOK N p
 | _ => true

def roundB (p d sz : Nat) (zs : List D) (v : D) (fr : List (Nat × D)) (bs : List (Nat × List D)) (k : St → Prop) : Prop := match (AOp.store sz (.tmp d) (.tmp p)).ex none (boxSt p d v fr zs bs) with
 | some r => k r.2
 | none => False

def run (P : Program) : AC → St → (Exit → St → Prop) → Prop
 | .skip, st, K => K .normal st
 | .ret, st, K => K .ret st
 | .exit id, st, K => K (.exit id) st
 | .seq x y, st, K => run P x st fun e s => match e with
   | .normal => run P y s K
   | e => K e s
 | .cond c x y, st, K => match st.ev c with
   | .pd (.raw (.bool b)) => (b = true → run P x (st.know c true) K) ∧ (b = false → run P y (st.know c false) K)
   | _ => False
 | .block id x, st, K => run P x st fun e s => match e with
   | .exit j => if j = id then K .normal s else K (.exit j) s
   | e => K e s
 | .loop x, st, K => ∃ I : Nat → St → Prop, (∃ n s, Weak P st s ∧ I n s) ∧ ∀ n s, I n s → run P x s fun e s' => match e with
   | .normal => ∃ m s2, m < n ∧ Weak P s' s2 ∧ I m s2
   | e => K e s'
 | .region l kp, st, K => aops P l st fun s => K .normal (s.keep kp)
 | .draw l tb p kp, st, K => drun P l tb p [] st fun s => K .normal (s.keep kp)
 | .bad, _, _ => False
 | .label _, st, K => K .normal st
 | .goto l, st, K => K (.goto l) st
 | .scope l x r, st, K => run P x st fun e s => match e with
   | .goto j => j = l ∧ run P r s fun e s => match e with
     | .goto _ => False
     | e => K e s
   | e => K e s
 | .rangeF ns p dq x body, st, K => match st.ev x with
   | .fn f caps => caps.all (fun c => !ns.contains c.1 && decide (c.1 < 1000000)) = true ∧ ns.all (fun n => (lk st.bs n).isSome && decide (n < 200000)) = true ∧
     ∃ (xs : List Value) (J : Nat → List (Nat × List D) → Prop), IterW P f caps st xs ∧ J 0 (bsOf false st.bs ns ns) ∧
     (∀ i v bs, xs[i]? = some v → J i bs → run P body ⟨roundFr p (cD v) (cutFr ns st.fr) dq, bs, [], .no⟩ (roundK (J (i + 1)) K st ns)) ∧ ∀ bs, J xs.length bs → K .normal (st.after ns bs)
   | _ => False
 | .rangeB ns p d _ sz zs x body, st, K => match st.ev x with
   | .fn f caps => caps.all (fun c => !ns.contains c.1 && decide (c.1 < 1000000)) = true ∧ ns.all (fun n => (lk st.bs n).isSome && decide (n < 200000)) = true ∧
     ∃ (xs : List Value) (J : Nat → List (Nat × List D) → Prop), IterW P f caps st xs ∧ J 0 (bsOf false st.bs ns ns) ∧
     (∀ i v bs, xs[i]? = some v → J i bs → roundB p d sz zs (cD v) (cutFr ns st.fr) bs fun s2 => ∃ s3, Weak P s2 s3 ∧ run P body s3 (roundK (J (i + 1)) K st ns)) ∧ ∀ bs, J xs.length bs → K .normal (st.after ns bs)
   | _ => False

theorem wpIn_loop_ghost {F : Fence} {n : Nat} {P : Program} {Q : Exit → Act → World → Prop} {a : Act} {w : World} {c : Code} (I : Nat → Act → World → Prop) (n₀ : Nat) (h₀ : I n₀ a w)
 (round : ∀ m a w, I m a w → c.wpIn F n P (Exit.then (fun a' w' => ∃ n', n' < m ∧ I n' a' w') Q) a w) : (Code.loop c).wpIn F n P Q a w := by
 refine wpIn_loop (fun a w => ∃ m, I m a w) (fun a w => leastOf (fun m => I m a w)) ⟨n₀, h₀⟩ ?_
 intro a w hI
 refine wpIn_mono (round _ a w (leastOf_spec hI).1) ?_
 intro e a' w' hq
 cases e with
 | normal =>
   obtain ⟨n', hlt, hI'⟩ := hq
   exact show (∃ m, I m a' w') ∧ leastOf (fun m => I m a' w') < leastOf (fun m => I m a w) from ⟨⟨n', hI'⟩, Nat.lt_of_le_of_lt ((leastOf_spec ⟨n', hI'⟩).2 n' hI') hlt⟩
 | exit id => exact hq
 | goto l => exact hq
 | ret => exact hq
 | panic ch => exact hq
 | outgrown => exact hq

theorem stepR_scope {P : Program} {b : Frame} {a : Act} {k : List Item} {cs : List Frame} {w : World} {c : Code} : step P (lone (b.atR a (.code (.scope c) :: k)) cs w) = .next (lone (b.atR a (.code c :: .inScope c :: k)) cs w) :=
 step_lone_go (by simp [stepG, stepG.exec, Frame.atR])
theorem stepR_inScope {P : Program} {b : Frame} {a : Act} {k : List Item} {cs : List Frame} {w : World} {c : Code} : step P (lone (b.atR a (.inScope c :: k)) cs w) = .next (lone (b.atR a k) cs w) :=
 step_lone_go (by simp [stepG, stepG.exec, Frame.atR])

theorem wpIn_scope1 {F : Fence} {n : Nat} {P : Program} {Q : Exit → Act → World → Prop} {a : Act} {w : World} {c : Code}
 (h : c.wpIn F n P (fun e a w => match e with
  | .goto j => ∃ rest, findLabel c j = some rest ∧ rest.wpIn F n P (Exit.noGoto Q) a w
  | e => Q e a w) a w) : (Code.scope c).wpIn F n P Q a w := by
 intro b k cs hro hb hr
 have h0 : (lone (b.atR a (.code (.scope c) :: k)) cs w).fenced P F := fenced_calm hb hr rfl
 obtain ⟨e, a₁, w₁, hq, harr⟩ := h b (.inScope c :: k) cs hro hb hr
 have hx : ∀ id, exitTo id (.inScope c :: k) = exitTo id k := fun id => by simp [exitTo]
 cases e with
 | normal => exact ⟨.normal, a₁, w₁, hq, .head h0 stepR_scope (StepsIn.trans harr (.one (fenced_calm hb hr rfl) stepR_inScope))⟩
 | exit id =>
   exact ⟨.exit id, a₁, w₁, hq, fun k' hk => .head h0 stepR_scope (harr.1 k' (by rw [hx]; exact hk)),
    fun hr' hk => let ⟨k₁, h1, h2⟩ := harr.2 hr' (by rw [hx]; exact hk); ⟨k₁, h1, .head h0 stepR_scope h2⟩⟩
 | goto l =>
   obtain ⟨rest, hf, hq⟩ := hq
   have hg : gotoIn l (.inScope c :: k) = some (.code rest :: .inScope c :: k) := by simp [gotoIn, hf]
   have hst := harr.1 _ hg
   obtain ⟨e₂, a₂, w₂, hq₂, harr₂⟩ := hq b (.inScope c :: k) cs hro hb hr
   cases e₂ with
   | normal => exact ⟨.normal, a₂, w₂, hq₂, .head h0 stepR_scope (StepsIn.trans hst (StepsIn.trans harr₂ (.one (fenced_calm hb hr rfl) stepR_inScope)))⟩
   | exit id =>
     exact ⟨.exit id, a₂, w₂, hq₂, fun k' hk => .head h0 stepR_scope (StepsIn.trans hst (harr₂.1 k' (by rw [hx]; exact hk))),
      fun hr' hk => let ⟨k₁, h1, h2⟩ := harr₂.2 hr' (by rw [hx]; exact hk); ⟨k₁, h1, .head h0 stepR_scope (StepsIn.trans hst h2)⟩⟩
   | goto l => exact hq₂.elim
   | ret => exact ⟨_, a₂, w₂, hq₂, .of_steps (.head h0 stepR_scope hst) harr₂⟩
   | panic ch => exact ⟨_, a₂, w₂, hq₂, .of_steps (.head h0 stepR_scope hst) harr₂⟩
   | outgrown => exact ⟨_, a₂, w₂, hq₂, .of_steps (.head h0 stepR_scope hst) harr₂⟩
 | ret => exact ⟨_, a₁, w₁, hq, .of_steps (.one h0 stepR_scope) harr⟩
 | panic ch => exact ⟨_, a₁, w₁, hq, .of_steps (.one h0 stepR_scope) harr⟩
 | outgrown => exact ⟨_, a₁, w₁, hq, .of_steps (.one h0 stepR_scope) harr⟩

theorem label_size : ∀ (c : Code) (l : Nat) (rest : Code), findLabel c l = some rest → SizeOf.sizeOf rest ≤ SizeOf.sizeOf c := by
 intro c
 induction c with
 | seq a b iha ihb =>
   intro l rest h
   simp only [findLabel] at h
   split at h
   ·rename_i r hr
    cases h
    have := iha l r hr
    simp only [Code.seq.sizeOf_spec]
    omega
   ·have := ihb l rest h
    simp only [Code.seq.sizeOf_spec]
    omega
 | label j =>
   intro l rest h
   simp only [findLabel] at h
   split at h
   ·cases h
    simp only [Code.label.sizeOf_spec, Code.skip.sizeOf_spec]
    omega
   ·cases h
 | _ => intro l rest h; simp [findLabel] at h

theorem comp_behind {P : Program} {an : Ann} : ∀ (c : Code) (a : AC), compC P an c = some a → ∀ l, match a.behind l with
 | some r => ∃ rest, findLabel c l = some rest ∧ compC P an rest = some r ∧ (∀ N p, a.dstOK N p = true → r.dstOK N p = true)
 | none => findLabel c l = none := by
 intro c
 induction c with
 | seq x y ihx ihy =>
   intro a h l
   simp only [compC] at h
   split at h
   ·rename_i p q hp hq
    cases h
    have h1 := ihx p hp l
    have h2 := ihy q hq l
    simp only [AC.behind]
    cases e1 : p.behind l with
    | some r =>
      rw [e1] at h1
      obtain ⟨rest, h3, h4, h5⟩ := h1
      refine ⟨.seq rest y, by simp only [findLabel, h3], by simp only [compC, h4, hq], fun N p h => ?_⟩
      simp only [AC.dstOK, Bool.and_eq_true] at h ⊢
      exact ⟨h5 N p h.1, h.2⟩
    | none =>
      rw [e1] at h1
      simp only
      cases e2 : q.behind l with
      | some r =>
        rw [e2] at h2
        obtain ⟨rest, h3, h4, h5⟩ := h2
        refine ⟨rest, by simp only [findLabel, show findLabel x l = none from h1, h3], h4, fun N p h => ?_⟩
        simp only [AC.dstOK, Bool.and_eq_true] at h
        exact h5 N p h.2
      | none =>
        rw [e2] at h2
        show findLabel (.seq x y) l = none
        simp only [findLabel, show findLabel x l = none from h1, show findLabel y l = none from h2]
   ·cases h
 | label j =>
   intro a h l
   simp only [compC, Option.some.injEq] at h
   subst h
   simp only [AC.behind]
   by_cases hj : (j == l) = true
   ·rw [if_pos hj]
    exact ⟨.skip, by simp only [findLabel, hj, if_true], rfl, fun _ _ _ => rfl⟩
   ·rw [if_neg hj]
    show findLabel (.label j) l = none
    simp only [findLabel, if_neg hj]
 | region id ops draw =>
   intro a h l
   have e : a.behind l = none := by
    cases draw <;> simp only [compC] at h <;> (repeat' split at h) <;> first | (cases h; rfl) | cases h
   rw [e]
   show findLabel _ l = none
   rfl
 | scope c =>
   intro a h l
   simp only [compC] at h
   obtain ⟨b, _, rfl⟩ := Option.map_eq_some_iff.1 h
   have e : b.scp.behind l = none := by unfold AC.scp; (repeat' split) <;> rfl
   rw [e]
   show findLabel _ l = none
   rfl
 | _ =>
   intro a h l
   have e : a.behind l = none := by
    simp only [compC] at h
    first
     | (cases h; rfl)
     | (obtain ⟨_, _, rfl⟩ := Option.map_eq_some_iff.1 h; rfl)
     | ((repeat' split at h) <;> first | (cases h; rfl) | cases h | (obtain ⟨_, _, rfl⟩ := Option.map_eq_some_iff.1 h; rfl))
   rw [e]
   show findLabel _ l = none
   rfl

theorem nrL {x y : Bool} {q : Prop} (h : (x && y) = true ∨ q) : x = true ∨ q := h.imp_left fun h => (Bool.and_eq_true _ _ ▸ h : x = true ∧ y = true).1
theorem nrR {x y : Bool} {q : Prop} (h : (x && y) = true ∨ q) : y = true ∨ q := h.imp_left fun h => (Bool.and_eq_true _ _ ▸ h : x = true ∧ y = true).2

theorem yok_nest (P : Program) (w : World) (g : Gh) (N : Nat) (wr : Nat → Bool) (hwr : NestOK g N wr) : YOK (.nest P w g N wr hwr) := ⟨fun _ _ _ _ _ _ _ _ h => by cases h⟩

theorem run_inR (an : Ann) : ∀ (c : Code) (C : Ctx) (_ : C.P.follows .mixedOrders = true) (_ : YOK C) (ro : Option Nat) (fu : Nat) (ac : AC) (_ : ac.noRange = true ∨ (ro = none ∧ C.plain)), compC C.P an c = some ac → ac.dstOK C.N C.wr = true → ∀ (st : St) (K : Exit → St → Prop), run C.P ac st K →
 ∀ g a w, SR C st g a w → c.wpIn (FW ro) fu C.P (Post C K) a w
 | .skip, C, hm, hy, ro, fu, ac, hnr, hc, _, st, K, hr, g, a, w, hs => by
   simp only [compC, Option.some.injEq] at hc; subst hc
   exact wpIn_skip ⟨st, g, hs, hr⟩
 | .ret, C, hm, hy, ro, fu, ac, hnr, hc, _, st, K, hr, g, a, w, hs => by
   simp only [compC, Option.some.injEq] at hc; subst hc
   exact wpIn_ret ⟨st, g, hs, hr⟩
 | .exit id, C, hm, hy, ro, fu, ac, hnr, hc, _, st, K, hr, g, a, w, hs => by
   simp only [compC, Option.some.injEq] at hc; subst hc
   exact wpIn_exit ⟨st, g, hs, hr⟩
 | .seq x y, C, hm, hy, ro, fu, ac, hnr, hc, hd, st, K, hr, g, a, w, hs => by
   simp only [compC] at hc
   split at hc
   ·rename_i p q hp hq
    cases hc
    simp only [AC.dstOK, Bool.and_eq_true] at hd
    simp only [run] at hr
    refine wpIn_seq (wpIn_mono (run_inR an x C hm hy ro fu p (nrL hnr) hp hd.1 st _ hr g a w hs) ?_)
    intro e a' w' h
    cases e <;> simp only [Post] at h
    ·obtain ⟨s, g', h1, h2⟩ := h
     exact run_inR an y C hm hy ro fu q (nrR hnr) hq hd.2 s K h2 g' a' w' h1
    all_goals exact h
   ·cases hc
 | .cond c x y, C, hm, hy, ro, fu, ac, hnr, hc, hd, st, K, hr, g, a, w, hs => by
   simp only [compC] at hc
   split at hc
   ·rename_i p q hp hq
    cases hc
    simp only [AC.dstOK, Bool.and_eq_true] at hd
    simp only [run] at hr
    split at hr
    ·rename_i b hb
     have h1 := hs.ev c
     rw [hb] at h1
     exact wpIn_cond_split (raw_inv h1) (fun e => run_inR an x C hm hy ro fu p (nrL hnr) hp hd.1 _ K (hr.1 e) g a w (hs.know (by rw [← e]; exact hb))) (fun e => run_inR an y C hm hy ro fu q (nrR hnr) hq hd.2 _ K (hr.2 e) g a w (hs.know (by rw [← e]; exact hb)))
    ·exact hr.elim
   ·cases hc
 | .block id x, C, hm, hy, ro, fu, ac, hnr, hc, hd, st, K, hr, g, a, w, hs => by
   simp only [compC] at hc
   obtain ⟨p, hp, rfl⟩ := Option.map_eq_some_iff.1 hc
   simp only [AC.dstOK] at hd
   simp only [run] at hr
   refine wpIn_block (wpIn_mono (run_inR an x C hm hy ro fu p hnr hp hd st _ hr g a w hs) ?_)
   intro e a' w' h
   cases e <;> simp only [Post] at h <;> simp only [Exit.inBlock]
   case exit j =>
    obtain ⟨s, g', h1, h2⟩ := h
    by_cases hj : j = id
    ·rw [if_pos hj] at h2 ⊢
     exact ⟨s, g', h1, h2⟩
    ·rw [if_neg hj] at h2 ⊢
     exact ⟨s, g', h1, h2⟩
   all_goals exact h
 | .loop x, C, hm, hy, ro, fu, ac, hnr, hc, hd, st, K, hr, g, a, w, hs => by
   simp only [compC] at hc
   obtain ⟨p, hp, rfl⟩ := Option.map_eq_some_iff.1 hc
   simp only [AC.dstOK] at hd
   simp only [run] at hr
   obtain ⟨I, ⟨n0, s0, hw, h0⟩, hround⟩ := hr
   obtain ⟨g0, hs0⟩ := hw C g a w rfl hs
   refine wpIn_loop_ghost (fun n a w => ∃ s g, SR C s g a w ∧ I n s) n0 ⟨s0, g0, hs0, h0⟩ ?_
   rintro n a' w' ⟨s, g', h1, h2⟩
   refine wpIn_mono (run_inR an x C hm hy ro fu p hnr hp hd s _ (hround n s h2) g' a' w' h1) ?_
   intro e a2 w2 h
   cases e <;> simp only [Post] at h
   ·obtain ⟨s2, g2, h3, m, s3, h4, h5, h6⟩ := h
    obtain ⟨g3, h7⟩ := h5 C g2 a2 w2 rfl h3
    exact ⟨m, h4, s3, g3, h7, h6⟩
   all_goals exact h
 | .region id ops false, C, hm, hy, ro, fu, ac, hnr, hc, hd, st, K, hr, g, a, w, hs => by
   simp only [compC] at hc
   split at hc
   ·rename_i l hl
    cases hc
    simp only [AC.dstOK, Bool.and_eq_true] at hd
    simp only [run] at hr
    exact wpIn_region (aops_in hy ops _ l hl hd.1 st _ g a w hs hr _ fun st' g' a' w' h1 h2 => ⟨_, g', h1.keep hd.2, h2⟩)
   ·cases hc; exact hr.elim
 | .region id ops true, C, hm, hy, ro, fu, ac, hnr, hc, hd, st, K, hr, g, a, w, hs => by
   simp only [compC] at hc
   split at hc
   ·rename_i tb p l hlk hl
    split at hc
    ·rename_i hh
     cases hc
     simp only [Bool.and_eq_true, decide_eq_true_eq] at hh
     simp only [AC.dstOK, Bool.and_eq_true] at hd
     simp only [run] at hr
     exact wpIn_region_draw fun t => wpOps_in (compL_nd hl) post_out _ _ _ (draw_ops hm hl hd.1 hh.1.1.1 hh.1.1.2 (fun st' g' a' w' h1 h2 => ⟨_, g', h1.keep hd.2, h2⟩) (fun _ _ _ h => h) p hh.1.2 hh.2 hs hr t)
    ·cases hc
   ·cases hc; exact hr.elim
   ·cases hc
 | .label l, C, hm, hy, ro, fu, ac, hnr, hc, _, st, K, hr, g, a, w, hs => by
   simp only [compC, Option.some.injEq] at hc; subst hc
   exact wpIn_label ⟨st, g, hs, hr⟩
 | .goto l, C, hm, hy, ro, fu, ac, hnr, hc, _, st, K, hr, g, a, w, hs => by
   simp only [compC, Option.some.injEq] at hc; subst hc
   exact wpIn_goto ⟨st, g, hs, hr⟩
 | .scope x, C, hm, hy, ro, fu, ac, hnr, hc, hd, st, K, hr, g, a, w, hs => by
   simp only [compC] at hc
   obtain ⟨p, hp, rfl⟩ := Option.map_eq_some_iff.1 hc
   have key : ∀ (l : Nat) (r : AC), p.behind l = some r ∨ r = .bad → p.scp = .scope l p r → (Code.scope x).wpIn (FW ro) fu C.P (Post C K) a w := fun l r hb he => by
    rw [he] at hr hd hnr
    simp only [AC.dstOK, Bool.and_eq_true] at hd
    simp only [run] at hr
    refine wpIn_scope1 (wpIn_mono (run_inR an x C hm hy ro fu p (nrL hnr) hp hd.1 st _ hr g a w hs) ?_)
    intro e a' w' h
    cases e <;> simp only [Post] at h
    case goto j =>
     obtain ⟨s, g', h1, rfl, h2⟩ := h
     have hcb := comp_behind x p hp j
     rcases hb with hb | rfl
     ·rw [hb] at hcb
      obtain ⟨rest, h3, h4, _⟩ := hcb
      have hlt := label_size x j rest h3
      refine ⟨rest, h3, wpIn_mono (run_inR an rest C hm hy ro fu r (nrR hnr) h4 hd.2 s _ h2 g' a' w' h1) ?_⟩
      intro e a2 w2 h
      cases e <;> simp only [Post] at h <;> simp only [Exit.noGoto]
      case goto => obtain ⟨_, _, _, h⟩ := h; exact h
      all_goals exact h
     ·exact h2.elim
    all_goals exact h
   unfold AC.scp at key hr
   split at hr
   ·rename_i l hl
    split at hr
    ·rename_i r hb
     exact key l r (.inl hb) (by simp only [hl, hb])
    ·exact hr.elim
   ·rename_i hl
    exact key 0 .bad (.inr rfl) (by simp only [hl])
 | .rangeFunc x ps asg body, C, hm, hy, ro, fu, ac, hnr, hc, hd, st, K, hr, g, a, w, hs => by
   simp only [compC] at hc
   split at hc
   ·rename_i p b hps hb
    split at hc
    rotate_left
    ·split at hc
     rotate_left
     ·cases hc
     rename_i d e sz zs hasg
     split at hc
     ·rename_i hnb
      obtain ⟨ns, hns, rfl⟩ := Option.map_eq_some_iff.1 hc
      simp only [AC.dstOK, Bool.and_eq_true, decide_eq_true_eq] at hd
      rcases hnr with hnr | ⟨rfl, hpl⟩
      ·cases hnr
      ·simp only [run] at hr
       split at hr
       ·rename_i f caps hev
        obtain ⟨h1, h2, xs, J, h3, h4, h5, h6⟩ := hr
        have hps' : ps = #[p] := by rw [← Array.toArray_toList (xs := ps), hps]
        rw [hps']
        refine range_inB hs hpl hd.2 hasg hd.1.2 hev (fun c hc => ?_) (fun n hn => by simpa using List.all_eq_true.1 h2 n hn) h3 h4 (fun i v bs hv hJ => ?_) h6
        ·have := List.all_eq_true.1 h1 c hc
         simpa using this
        ·have h7 := h5 i v bs hv hJ
         unfold roundB at h7
         split at h7
         ·rename_i r hr7
          obtain ⟨s3, hwk, h7⟩ := h7
          exact ⟨r.1, r.2, hr7, fun w2 g2 hwr a2 n l g3 w3 hs3 => by
           obtain ⟨g4, hs4⟩ := hwk (.nest C.P w2 g2 C.N (rwr C.N ns) hwr) g3 a2 w3 rfl hs3
           exact run_inR an body (.nest C.P w2 g2 C.N (rwr C.N ns) hwr) hm (yok_nest _ _ _ _ _ _) (some l) n b (.inl hnb) hb hd.1.1 _ _ h7 g4 a2 w3 hs4⟩
         ·exact h7.elim
       ·exact hr.elim
     ·cases hc
    rename_i dq hasg
    split at hc
    ·rename_i hnb
     obtain ⟨ns, hns, rfl⟩ := Option.map_eq_some_iff.1 hc
     simp only [AC.dstOK, Bool.and_eq_true, decide_eq_true_eq] at hd
     rcases hnr with hnr | ⟨rfl, hpl⟩
     ·cases hnr
     ·simp only [run] at hr
      split at hr
      ·rename_i f caps hev
       obtain ⟨h1, h2, xs, J, h3, h4, h5, h6⟩ := hr
       have hps' : ps = #[p] := by rw [← Array.toArray_toList (xs := ps), hps]
       rw [hps']
       refine range_in hs hpl (fun d e => by have := hd.2; rw [e] at this; simpa using this) hasg hd.1.2 hev (fun c hc => ?_) (fun n hn => by simpa using List.all_eq_true.1 h2 n hn) h3 h4 (fun i v bs hv hJ w2 g2 hwr a2 n l hs2 => ?_) h6
       ·have := List.all_eq_true.1 h1 c hc
        simpa using this
       ·exact run_inR an body (.nest C.P w2 g2 C.N (rwr C.N ns) hwr) hm (yok_nest _ _ _ _ _ _) (some l) n b (.inl hnb) hb hd.1.1 _ _ (h5 i v bs hv hJ) _ a2 w2 hs2
      ·exact hr.elim
    ·cases hc
   ·cases hc
 termination_by c => SizeOf.sizeOf c
 decreasing_by all_goals (simp only [Code.seq.sizeOf_spec, Code.cond.sizeOf_spec, Code.block.sizeOf_spec, Code.loop.sizeOf_spec, Code.scope.sizeOf_spec, Code.rangeFunc.sizeOf_spec]; omega)

theorem run_intoR (C : Ctx) (hm : C.P.follows .mixedOrders = true) (hy : YOK C) (hpl : C.plain) (an : Ann) (fu : Nat) (c : Code) (ac : AC) (hc : compC C.P an c = some ac) (hd : ac.dstOK C.N C.wr = true) (st : St) (K : Exit → St → Prop) (hr : run C.P ac st K)
 (g : Gh) (a : Act) (w : World) (hs : SR C st g a w) : c.wpIn (FW none) fu C.P (Post C K) a w :=
 run_inR an c C hm hy none fu ac (.inr ⟨rfl, hpl⟩) hc hd st K hr g a w hs

theorem yok_alone (P : Program) (w0 : World) (Fz0 : Nat → Nat → Prop) (N : Nat) : YOK (.alone P w0 Fz0 N) := ⟨fun _ _ _ _ _ _ _ _ h => by cases h⟩
theorem yok_fn (P : Program) (w0 : World) (Fz0 : Nat → Nat → Prop) (S : Nat → Prop) (N : Nat) : YOK (.fn P w0 Fz0 S N) := ⟨fun _ _ _ _ _ _ _ _ h => by cases h⟩

def oo (d : Nat) (x : AOp) : AOper := ⟨none, some d, x⟩
def og (s : Nat) (b : Bool) (d : Nat) (x : AOp) : AOper := ⟨some (s, b), some d, x⟩
def tp (i : Nat) : Operand := .tmp i
def ci (n : Int) : Operand := .const (.int .i64 n)
def cq (b : Bool) : Operand := .const (.bool b)

def mq (d i : Nat) : AOper := ⟨none, some d, .mv (.tmp i)⟩
def lq (d i : Nat) : AOper := ⟨none, some d, .load none (.tmp i)⟩
def fi (d k i : Nat) : AOper := ⟨none, some d, .fieldA k (.tmp i)⟩
def sr (l : List AOper) (kp : List Nat) (x : AC) : AC := .seq (.region l (some kp)) x

def AC.regs : AC → List (Option (List Nat) × Option (List Nat × Plan))
 | .seq x y => x.regs ++ y.regs
 | .cond _ x y => x.regs ++ y.regs
 | .block _ x => x.regs
 | .loop x => x.regs
 | .region _ kp => [(kp, none)]
 | .draw _ tb p kp => [(kp, some (tb, p))]
 | .rangeF _ _ _ _ x => x.regs
 | .rangeB _ _ _ _ _ _ _ x => x.regs
 | .scope _ x _ => x.regs
 | _ => []
def AC.rfs : AC → List (Nat × List Nat)
 | .seq x y => x.rfs ++ y.rfs
 | .cond _ x y => x.rfs ++ y.rfs
 | .block _ x => x.rfs
 | .loop x => x.rfs
 | .rangeF ns p _ _ x => (p, ns) :: x.rfs
 | .rangeB ns p _ _ _ _ _ x => (p, ns) :: x.rfs
 | .scope _ x _ => x.rfs
 | _ => []
def ann (ids : List Nat) (a : AC) : Ann := ⟨(ids.zip a.regs).filterMap fun r => r.2.1.map fun k => (r.1, k), (ids.zip a.regs).filterMap fun r => r.2.2.map fun k => (r.1, k), a.rfs⟩
abbrev okd (P : Program) (an : Ann) (a : AC) (f : Func) : Prop := compC P an (f.body.getD .skip) = some a ∧ a.dstOK f.ntmps (fun i => decide (i < f.ntmps)) = true


abbrev gh0 (Fz : Nat → Nat → Prop) : Gh := ⟨fun _ => none, fun _ => none, Fz, []⟩

mutual
def D.pub : D → D
 | .own _ _ els _ => .pd (.slice els)
 | .full _ els => .pd (.slice els)
 | .nils => .pd (.slice [])
 | .agg ds => .agg (D.pubs ds)
 | .tup ds => .tup (D.pubs ds)
 | .pd x => .pd x
 | .ptr n o => .ptr n o
 | .fn f caps => .fn f caps
 | .mp n => .mp n
 | .eptr cs => .eptr cs
 | .oelt _ _ cs => .eptr cs
 | .any => .any
def D.pubs : List D → List D
 | [] => []
 | d :: ds => D.pub d :: D.pubs ds
end

mutual
def D.closed : D → Bool
 | .ptr .. => false
 | .mp _ => false
 | .own .. => false
 | .oelt .. => false
 | .fn _ caps => caps.isEmpty
 | .agg ds => D.closeds ds
 | .tup ds => D.closeds ds
 | _ => true
def D.closeds : List D → Bool
 | [] => true
 | d :: ds => D.closed d && D.closeds ds
end

mutual
theorem Rep.pub {g : Gh} {w : World} : ∀ {d : D} {v : Value}, Rep g w d v → Rep g w d.pub v
 | .own .., _, h => by simp only [Rep, D.pub] at h ⊢; exact h.1
 | .full .., _, h => by simp only [Rep, D.pub] at h ⊢; exact h.1
 | .nils, _, h => by simp only [Rep, D.pub] at h ⊢; subst h; exact .empty _ _
 | .agg _, _, h => by simp only [Rep, D.pub] at h ⊢; obtain ⟨vs, e, hs⟩ := h; exact ⟨vs, e, Reps.pubs hs⟩
 | .tup _, _, h => by simp only [Rep, D.pub] at h ⊢; obtain ⟨vs, e, hs⟩ := h; exact ⟨vs, e, Reps.pubs hs⟩
 | .pd _, _, h => by simpa only [D.pub] using h
 | .ptr .., _, h => by simpa only [D.pub] using h
 | .fn .., _, h => by simpa only [D.pub] using h
 | .mp _, _, h => by simpa only [D.pub] using h
 | .eptr _, _, h => by simpa only [D.pub] using h
 | .oelt _ _ _, _, h => by simp only [Rep, D.pub] at h ⊢; exact h.1
 | .any, _, h => by simpa only [D.pub] using h
theorem Reps.pubs {g : Gh} {w : World} : ∀ {ds : List D} {vs : List Value}, Reps g w ds vs → Reps g w (D.pubs ds) vs
 | [], _, h => by simpa only [D.pubs] using h
 | _ :: _, _, h => by simp only [Reps, D.pubs] at h ⊢; obtain ⟨v, vs', e, hv, hs⟩ := h; exact ⟨v, vs', e, Rep.pub hv, Reps.pubs hs⟩
end

mutual
theorem Rep.close {g g' : Gh} {w w' : World} (hx : Ex g.Fz w g'.Fz w') : ∀ {d : D} {v : Value}, d.closed = true → Rep g w d v → Rep g' w' d v
 | .own .., _, hc, h => by simp only [D.closed, Bool.false_eq_true] at hc
 | .full .., _, hc, h => by simp only [Rep] at h ⊢; exact ⟨h.1.mono hx, h.2⟩
 | .nils, _, hc, h => by simp only [Rep] at h ⊢; exact h
 | .agg _, _, hc, h => by simp only [Rep, D.closed] at h hc ⊢; obtain ⟨vs, e, hs⟩ := h; exact ⟨vs, e, Reps.close hx hc hs⟩
 | .tup _, _, hc, h => by simp only [Rep, D.closed] at h hc ⊢; obtain ⟨vs, e, hs⟩ := h; exact ⟨vs, e, Reps.close hx hc hs⟩
 | .pd _, _, hc, h => by simp only [Rep] at h ⊢; exact h.mono hx
 | .ptr .., _, hc, h => by simp only [D.closed, Bool.false_eq_true] at hc
 | .fn _ caps, _, hc, h => by
   simp only [Rep, D.closed, List.isEmpty_iff] at h hc ⊢
   subst hc
   exact h
 | .mp _, _, hc, h => by simp only [D.closed, Bool.false_eq_true] at hc
 | .oelt .., _, hc, h => by simp only [D.closed, Bool.false_eq_true] at hc
 | .eptr _, _, hc, h => by
   simp only [Rep] at h ⊢
   obtain ⟨b, off, vs, e, hp, hcl⟩ := h
   exact ⟨b, off, vs, e, hp.mono hx, fun i u hu => ⟨(hx _ _ (hcl i u hu).2).2.trans (hcl i u hu).1, (hx _ _ (hcl i u hu).2).1⟩⟩
 | .any, _, _, _ => by simp only [Rep]
theorem Reps.close {g g' : Gh} {w w' : World} (hx : Ex g.Fz w g'.Fz w') : ∀ {ds : List D} {vs : List Value}, D.closeds ds = true → Reps g w ds vs → Reps g' w' ds vs
 | [], _, _, h => by simp only [Reps] at h ⊢; exact h
 | _ :: _, _, hc, h => by
   simp only [D.closeds, Bool.and_eq_true] at hc
   simp only [Reps] at h ⊢; obtain ⟨v, vs', e, hv, hs⟩ := h; exact ⟨v, vs', e, Rep.close hx hc.1 hv, Reps.close hx hc.2 hs⟩
end

def Pure (P : Program) (f : FuncId) (args : List D) (R : D → Prop) : Prop :=
 ∀ (Fz : Nat → Nat → Prop) (w : World) (vs : List Value), (∀ b o, Fz b o → b < w.heap.size) → Reps (gh0 Fz) w args vs →
   Calls P f vs.toArray w fun e w' => ∃ v d Fz', e = .returned v ∧ R d ∧ d.closed = true ∧ Below w.heap.size w w' ∧ Ex Fz w Fz' w' ∧ (∀ b o, Fz' b o → b < w'.heap.size) ∧ (∀ b o, Fz' b o → b < w.heap.size → Fz b o) ∧ Rep (gh0 Fz') w' d v

theorem Pure.mono {P : Program} {f : FuncId} {args : List D} {R R' : D → Prop} (h : Pure P f args R) (hr : ∀ d, R d → R' d) : Pure P f args R' :=
 fun Fz w vs h1 h2 => (h Fz w vs h1 h2).mono fun _ _ ⟨v, d, Fz', h1, h2, h3⟩ => ⟨v, d, Fz', h1, hr d h2, h3⟩

theorem Pure.pureW {P : Program} {f : FuncId} {args as' : List D} {R : D → Prop} (he : Enters P f) (h : Pure P f as' R) (st : St) (ha : D.pubs args = as') (hc : D.closeds as' = true) : PureW P f args st R := by
 refine ⟨he, fun C g a w vs _ hs hr => ?_⟩
 subst ha
 have h1 : Reps (gh0 g.Fz) w (D.pubs args) vs := Reps.close (g := g) (g' := gh0 g.Fz) (Ex.refl _ _) hc hr.pubs
 refine (h g.Fz w vs hs.mem.fzlt h1).mono ?_
 rintro e w' ⟨v, d, Fz', rfl, hd, hcl, hb, hx, hlt, hnew, hrep⟩
 obtain ⟨h2, h3⟩ := hs.called hb Fz' hx hlt
 refine ⟨v, d, _, rfl, hd, h2, Rep.close (g := gh0 Fz') (g' := g.withFz w.heap.size Fz') (fun b o hf => ⟨?_, rfl⟩) hcl hrep, h3.ex, fun n b _ hn => ⟨hn, hb.block b (hs.mem.bxok n b hn).1⟩⟩
 rcases Nat.lt_or_ge b w.heap.size with hlt' | hge
 ·exact .inl (hnew b o hf hlt')
 ·exact .inr ⟨hge, hf⟩

theorem Pure.callW {P : Program} {f : FuncId} {args as' : List D} {R : D → Prop} (he : Enters P f) (h : Pure P f as' R) (st : St) (ha : D.pubs args = as') (hc : D.closeds as' = true) {K : D → St → Prop} (hk : ∀ d, R d → K d st) : CallW P f args st K :=
 (h.pureW he st ha hc).callW hk

def frOf : Nat → List D → List (Nat × D)
 | _, [] => []
 | i, d :: ds => (i, d) :: frOf (i + 1) ds

def St.init (args : List D) : St := ⟨frOf 0 args, [], [], .no⟩

theorem frOf_lk : ∀ (ds : List D) (k i : Nat) (d : D), lk (frOf k ds) i = some d → k ≤ i ∧ ds[i - k]? = some d
 | [], _, _, _, h => by simp [frOf, lk] at h
 | e :: ds, k, i, d, h => by
   simp only [frOf, lk] at h
   split at h
   ·rename_i hik
    subst hik
    simp only [Option.some.injEq] at h
    subst h
    exact ⟨Nat.le_refl _, by simp⟩
   ·obtain ⟨h1, h2⟩ := frOf_lk ds (k + 1) i d h
    refine ⟨by omega, ?_⟩
    obtain ⟨m, hm⟩ : ∃ m, i - k = m + 1 := ⟨i - k - 1, by omega⟩
    rw [hm, List.getElem?_cons_succ, show m = i - (k + 1) by omega]
    exact h2

def resD (P : Program) (st : St) : List ResultVar → Option (List D)
 | [] => some []
 | .tmp t :: rs => (resD P st rs).map (st.get t :: ·)
 | .cell a t :: rs => match aggSize P t with
   | some k => match (AOp.load k (.tmp a)).ex none st, resD P st rs with
     | some (d, _), some ds => some (d :: ds)
     | _, _ => none
   | none => none

inductive AR where
 | tmp (t : Nat)
 | cell (a : Nat) (k : Option Nat)

def resC (P : Program) : List ResultVar → Option (List AR)
 | [] => some []
 | .tmp t :: rs => (resC P rs).map (.tmp t :: ·)
 | .cell a t :: rs => match aggSize P t, resC P rs with
   | some k, some l => some (.cell a k :: l)
   | _, _ => none

def resA (st : St) : List AR → Option (List D)
 | [] => some []
 | .tmp t :: rs => (resA st rs).map (st.get t :: ·)
 | .cell a k :: rs => match (AOp.load k (.tmp a)).ex none st, resA st rs with
   | some (d, _), some ds => some (d :: ds)
   | _, _ => none

theorem resD_of {P : Program} {st : St} : ∀ {rs : List ResultVar} {l : List AR}, resC P rs = some l → resD P st rs = resA st l
 | [], _, h => by simp only [resC, Option.some.injEq] at h; subst h; rfl
 | .tmp t :: rs, _, h => by
   simp only [resC] at h
   obtain ⟨l, h1, rfl⟩ := Option.map_eq_some_iff.1 h
   simp only [resD, resA, resD_of h1]
 | .cell a t :: rs, _, h => by
   simp only [resC] at h
   split at h
   ·rename_i k l h1 h2
    cases h
    simp only [resD, resA, h1, resD_of h2]
   ·cases h

def oneD : List D → D
 | [d] => d
 | ds => .tup ds

theorem load_val {C : Ctx} {st : St} {g : Gh} {a : Act} {w : World} (hs : SR C st g a w) {t : TypeId} {k : Option Nat} (hk : aggSize C.P t = some k) {x : Tmp} {d : D} {st' : St} (h : (AOp.load k (.tmp x)).ex none st = some (d, st')) :
 ∃ v, (do loadVar t (← asAddr (a.tmps.getD x undef)) : Sem Value).run C.P w = .ok v w ∧ Rep g w d v := by
 obtain ⟨o, ho⟩ : ∃ o : Oper, o.op = Op.load t (.tmp x) ∧ o.dst = none := ⟨{ (default : Oper) with op := .load t (.tmp x), dst := none }, rfl, rfl⟩
 have hsnd : Sound C o (.load k (.tmp x)) := by
  cases k with
  | none => exact snd_load_none ho.1 hk
  | some k => exact snd_load_some ho.1 hk
 obtain ⟨h1, _⟩ := hsnd (fun d e => by rw [ho.2] at e; cases e) st g a w d st' hs (by rw [ho.2]; exact h)
 obtain ⟨_, v, h2, h3⟩ := h1 rfl
 have h4 := h2 w (Keep.refl _ _ _)
 refine ⟨v, ?_, h3⟩
 have hx := hs.ev (.tmp x)
 obtain ⟨ad, hp⟩ : ∃ ad, a.tmps.getD x undef = .pointer (some ad) := by
  cases k <;> simp only [AOp.ex] at h
  all_goals
   split at h
   ·rename_i hev
    rw [hev] at hx
    simp only [Rep] at hx
    obtain ⟨b, _, e⟩ := hx
    exact ⟨_, e⟩
   ·rename_i hev
    rw [hev] at hx
    simp only [Rep] at hx
    obtain ⟨b, off, vs, e, _⟩ := hx
    exact ⟨_, e⟩
   ·rename_i hev
    rw [hev] at hx
    simp only [Rep] at hx
    obtain ⟨⟨b, off, vs, e, _⟩, _⟩ := hx
    exact ⟨_, e⟩
   ·cases h
 unfold execOp at h4
 simp only [ho.1, Act.eval, hp, Instr.loadAt, Instr.sureAddr, Sem.run_bind, Sem.run_pure, Result.andThen_ok] at h4
 simp only [hp, asAddr, Sem.run_bind, Sem.run_pure, Result.andThen_ok]
 generalize (loadVar t ad).run C.P w = r at h4
 cases r with
 | ok u w1 => simp only [Result.andThen_ok, Sem.run_pure, Result.ok.injEq, Next.value.injEq] at h4; rw [h4.1, h4.2]
 | halt e w1 => simp [Result.andThen] at h4

def resF (tmps : Array Value) : ResultVar → Sem Value
 | .tmp t => pure (tmps.getD t undef)
 | .cell a t => do loadVar t (← asAddr (tmps.getD a undef))

theorem resD_run {C : Ctx} {st : St} {g : Gh} {a : Act} {w : World} (hs : SR C st g a w) : ∀ (rs : List ResultVar) (ds : List D), resD C.P st rs = some ds →
 ∃ vs, (rs.mapM (resF a.tmps)).run C.P w = .ok vs w ∧ Reps g w ds vs
 | [], ds, h => by
   simp only [resD, Option.some.injEq] at h; subst h
   exact ⟨[], by simp [List.mapM_nil], by simp only [Reps]⟩
 | .tmp t :: rs, ds, h => by
   simp only [resD] at h
   obtain ⟨ds', h1, rfl⟩ := Option.map_eq_some_iff.1 h
   obtain ⟨vs, h2, h3⟩ := resD_run hs rs ds' h1
   refine ⟨a.tmps.getD t undef :: vs, ?_, ?_⟩
   ·rw [List.mapM_cons, Sem.run_bind]
    simp only [resF, Sem.run_pure, Result.andThen_ok, Sem.run_bind, h2]
   ·simp only [Reps]
    exact ⟨_, vs, rfl, hs.ev (.tmp t), h3⟩
 | .cell ad t :: rs, ds, h => by
   simp only [resD] at h
   split at h
   ·rename_i k hk
    split at h
    ·rename_i d st' ds' h1 h2
     cases h
     obtain ⟨v, h3, h4⟩ := load_val hs hk h1
     obtain ⟨vs, h5, h6⟩ := resD_run hs rs ds' h2
     refine ⟨v :: vs, ?_, ?_⟩
     ·rw [List.mapM_cons, Sem.run_bind]
      have : (resF a.tmps (.cell ad t)).run C.P w = .ok v w := h3
      simp only [this, Result.andThen_ok, Sem.run_bind, h5, Sem.run_pure]
     ·simp only [Reps]
      exact ⟨v, vs, rfl, h4, h6⟩
    ·cases h
   ·cases h

theorem results_run {C : Ctx} {st : St} {g : Gh} {a : Act} {w : World} (hs : SR C st g a w) (fn : Func) (ds : List D) (h : resD C.P st fn.results.toList = some ds) :
 ∃ v, (results fn a.tmps).run C.P w = .ok v w ∧ Rep g w (oneD ds) v := by
 obtain ⟨vs, h1, h2⟩ := resD_run hs fn.results.toList ds h
 have hm : (fn.results.mapM (resF a.tmps)).run C.P w = .ok vs.toArray w := by
  rw [Array.mapM_eq_mapM_toList]
  simp only [map_eq_pure_bind, Sem.run_bind, h1, Result.andThen_ok, Sem.run_pure]
 have e : results fn a.tmps = (do let vs ← fn.results.mapM (resF a.tmps); pure (if h : vs.size = 1 then vs[0] else .tuple vs) : Sem Value) := by
  unfold results
  congr 1
 rw [e, Sem.run_bind, hm, Result.andThen_ok, Sem.run_pure]
 refine ⟨_, rfl, ?_⟩
 split
 ·rename_i h1
  obtain ⟨v, rfl⟩ : ∃ v, vs = [v] := by
   match vs, h1 with
   | [v], _ => exact ⟨v, rfl⟩
   | [], h => simp at h
   | _ :: _ :: _, h => simp at h
  obtain ⟨d, rfl⟩ : ∃ d, ds = [d] := by
   have := h2.length
   match ds, this with
   | [d], _ => exact ⟨d, rfl⟩
   | [], h => simp at h
   | _ :: _ :: _, h => simp at h
  simp only [Reps] at h2
  obtain ⟨v', vs', e, h3, _⟩ := h2
  cases e
  exact h3
 ·rename_i h1
  have hl := h2.length
  have : oneD ds = .tup ds := by
   match ds, hl with
   | [d], hl => exact absurd (by simpa using hl) h1
   | [], _ => rfl
   | _ :: _ :: _, _ => rfl
  rw [this]
  simp only [Rep]
  exact ⟨vs, rfl, h2⟩

def retK (P : Program) (fn : Func) (R : D → Prop) : Exit → St → Prop
 | .normal, st => ∃ ds, resD P st fn.results.toList = some ds ∧ (oneD ds).pub.closed = true ∧ R (oneD ds).pub
 | .ret, st => ∃ ds, resD P st fn.results.toList = some ds ∧ (oneD ds).pub.closed = true ∧ R (oneD ds).pub
 | _, _ => False

theorem init_SR {P : Program} {N : Nat} {Fz : Nat → Nat → Prop} {w : World} {args : List D} {vs : List Value} (hN : args.length ≤ N) (hlt : ∀ b o, Fz b o → b < w.heap.size) (hr : Reps (gh0 Fz) w args vs) :
 SR (.fn P w Fz (fun _ => False) N) (St.init args) (gh0 Fz) { tmps := vs.toArray ++ Array.replicate (N - vs.toArray.size) undef, defers := [] } w where
 defers := rfl
 size := by
  have := hr.length
  simp; omega
 rep := fun i d hd => by
  obtain ⟨_, h2⟩ := frOf_lk args 0 i d hd
  simp only [Nat.sub_zero] at h2
  obtain ⟨v, h3, h4⟩ := hr.get i d h2
  have hi := (List.getElem?_eq_some_iff.1 h2).1
  refine ⟨by show i < N; omega, ?_⟩
  have hiv := (List.getElem?_eq_some_iff.1 h3).1
  simp only [Array.getD_eq_getD_getElem?]
  rw [Array.getElem?_append_left (by simpa using hiv), List.getElem?_toArray, h3]
  exact h4
 mem := {
  os := rfl, tape := rfl, output := rfl, hsz := Nat.le_refl _, old := fun _ _ _ _ => rfl, keep := Ex.refl _ _, newfz := fun _ _ h _ => .inl h, fzlt := hlt
  bxs := fun n ds h => by simp [St.init, lk] at h
  mps := fun n ds h => by simp [St.init, lk] at h
  bxok := fun n b h => by cases h
  bxinj := fun n m b h => by cases h
  tks := fun t v e h => by cases h
  tkinj := fun t s v u e f b h => by cases h
  bxtk := fun n t b v e h => by cases h
  dfs := fun D hD => by cases hD
  dnd := List.nodup_nil
  bxdf := fun n D hD => by cases hD
  bxdm := fun n b h => by cases h }
 x := rfl
 fix := fun i v h => by cases h

theorem SR.shut {C : Ctx} {st : St} {g : Gh} {a : Act} {w : World} (h : SR C st g a w) {D : Nat} {rest : List Nat} (hdf : g.df = D :: rest) :
 SR C st { g with df := rest } { a with defers := rest.map markOf } (w.putObj D (.deferred none)) := by
 have m := h.mem
 have hD := (m.dfs D (by rw [hdf]; simp)).2
 have hlt := (Array.getElem?_eq_some_iff.1 hD).1
 have hother : ∀ k, k ≠ D → (w.putObj D (.deferred none)).heap[k]? = w.heap[k]? := fun k hk => World.putObj_heap_other hk
 have hsame : (w.putObj D (.deferred none)).heap[D]? = some (.deferred none) := World.putObj_heap_same hlt
 have hsz : (w.putObj D (.deferred none)).heap.size = w.heap.size := by simp
 have hex : Ex g.Fz w g.Fz (w.putObj D (.deferred none)) := fun b o hf => ⟨hf, by
  by_cases hb : b = D
  ·subst hb
   simp [World.cell?, hsame, hD]
  ·exact World.cell?_of_block (hother b hb)⟩
 have hgr : Gr g w { g with df := rest } (w.putObj D (.deferred none)) := ⟨fun _ _ h => h, fun _ _ h => h, hex⟩
 have hnd := m.dnd
 rw [hdf, List.nodup_cons] at hnd
 have hx : C.X st.hs (Gh.has { g with df := rest } C.w0.heap.size) (w.putObj D (.deferred none)) := C.Xok _ _ _ (fun k => k = D) _ _ h.x ⟨rfl, rfl, rfl, by rw [hsz]; exact Nat.le_refl _, fun k _ hk => hother k hk⟩ (fun k e => by
  subst e; exact .inr (.inr (.inl (by rw [hdf]; simp)))) (fun k hk => .inl (by
   rcases hk with hk | hk | hk | hk
   ·exact .inl hk
   ·exact .inr (.inl hk)
   ·exact .inr (.inr (.inl (by rw [hdf]; exact List.mem_cons_of_mem _ hk)))
   ·exact .inr (.inr (.inr hk))))
 refine ⟨rfl, h.size, fun i d hd => ⟨(h.rep i d hd).1, (h.rep i d hd).2.mono hgr⟩, ?_, hx, h.fix⟩
 exact {
  os := m.os
  tape := m.tape
  output := m.output
  hsz := by rw [hsz]; exact m.hsz
  old := fun k h1 h2 h3 => (hother k (fun e => by
   have := (m.dfs D (by rw [hdf]; simp)).1
   subst e
   exact Nat.lt_irrefl _ (Nat.lt_of_lt_of_le h1 this))).trans (m.old k h1 h2 h3)
  keep := m.keep.trans hex
  newfz := m.newfz
  fzlt := fun b o hf => by rw [hsz]; exact m.fzlt b o hf
  bxs := fun n ds hn => by
   obtain ⟨b, cs, t, h1, h2, h3⟩ := m.bxs n ds hn
   exact ⟨b, cs, t, h1, (hother b (fun e => by subst e; rw [hD] at h2; cases h2)).trans h2, h3.mono hgr⟩
  mps := fun n es hn => by
   obtain ⟨b, en, h1, h2, h3⟩ := m.mps n es hn
   exact ⟨b, en, h1, (hother b (fun e => by subst e; rw [hD] at h2; cases h2; exact MO.no_mark h3)).trans h2, h3⟩
  bxok := fun n b hb => by rw [hsz]; exact m.bxok n b hb
  bxinj := m.bxinj
  tks := fun t v e ht => by
   obtain ⟨i, n, xs, h1, h2, h3, h4⟩ := m.tks t v e ht
   refine ⟨i, n, xs, h1, h2, ⟨h3.1, ?_⟩, h4⟩
   rcases h3.2 with hn | ⟨gb, cap, cur, rfl, hb, hgg, rest⟩
   ·exact .inl hn
   ·exact .inr ⟨gb, cap, cur, rfl, hb, (hother gb (fun e => by subst e; rw [hD] at hgg; cases hgg)).trans hgg, rest⟩
  tkinj := m.tkinj
  bxtk := m.bxtk
  dfs := fun D' hD' => ⟨(m.dfs D' (by rw [hdf]; exact List.mem_cons_of_mem _ hD')).1, (hother D' (fun e => hnd.1 (e ▸ hD'))).trans (m.dfs D' (by rw [hdf]; exact List.mem_cons_of_mem _ hD')).2⟩
  dnd := hnd.2
  bxdf := fun n D' hD' => m.bxdf n D' (by rw [hdf]; exact List.mem_cons_of_mem _ hD')
  bxdm := m.bxdm }

theorem leave_marks {C : Ctx} {n : Nat} {st : St} {fn : Func} {R : Ending → World → Prop} : ∀ (df : List Nat) (g : Gh) (a : Act) (w : World), g.df = df → SR C st g a w →
 (∀ g' a' w', a'.tmps = a.tmps → g'.df = [] → SR C st g' a' w' → ∃ v, (results fn a.tmps).run C.P w' = .ok v w' ∧ R (.returned v) w') →
 LeavesInM (FW none) n C.P fn a.tmps R a.defers .returning w
 | [], g, a, w, hdf, hs, hk => by
   have e : a.defers = [] := by rw [hs.defers, hdf]; rfl
   rw [e]
   exact hk g a w rfl hdf hs
 | D :: rest, g, a, w, hdf, hs, hk => by
   have e : a.defers = markOf D :: rest.map markOf := by rw [hs.defers, hdf]; rfl
   rw [e]
   have h1 := hs.shut hdf
   have hD := (hs.mem.dfs D (by rw [hdf]; simp)).2
   refine ⟨by simp, .inl ⟨D, _, rfl, run_takeDeferred hD, ?_⟩⟩
   have ih := leave_marks (n := n) (fn := fn) (R := R) rest { g with df := rest } { a with defers := rest.map markOf } _ rfl h1 (fun g' a' w' e hdf' hs' => hk g' a' w' e hdf' hs')
   exact ih

theorem pure_of_run {P : Program} (hm : P.follows .mixedOrders = true) (an : Ann) {f : FuncId} {fn : Func} {c : Code} {ac : AC} (hf : P.funcs[f]? = some fn) (hb : fn.body = some c) (hc : compC P an c = some ac)
 (hd : ac.dstOK fn.ntmps (fun i => decide (i < fn.ntmps)) = true) {args : List D} {R : D → Prop} (hN : args.length ≤ fn.ntmps) (hrun : run P ac (St.init args) (retK P fn R)) : Pure P f args R := by
 intro Fz w vs hlt hr
 refine (callsIn_wide (n := 0)).1 (callsIn_of_wp_marks (F := FW none) hf hb trivial (wpIn_mono (run_intoR (.fn P w Fz (fun _ => False) fn.ntmps) hm (yok_fn _ _ _ _ _) (plain_fn _ _ _ _ _) an 0 c ac hc hd _ _ hrun (gh0 Fz) _ w (init_SR hN hlt hr)) ?_) rfl)
 have key : ∀ (a' : Act) (w' : World), (∃ st g, SR (.fn P w Fz (fun _ => False) fn.ntmps) st g a' w' ∧ ∃ ds, resD P st fn.results.toList = some ds ∧ (oneD ds).pub.closed = true ∧ R (oneD ds).pub) →
  LeavesInM (FW none) 0 P fn a'.tmps (fun e w' => ∃ v' d Fz', e = .returned v' ∧ R d ∧ d.closed = true ∧ Below w.heap.size w w' ∧ Ex Fz w Fz' w' ∧ (∀ b o, Fz' b o → b < w'.heap.size) ∧ (∀ b o, Fz' b o → b < w.heap.size → Fz b o) ∧ Rep (gh0 Fz') w' d v') a'.defers .returning w' := by
  rintro a' w' ⟨st, g, hs, ds, h1, h2, h3⟩
  refine leave_marks g.df g a' w' rfl hs fun g' a2 w2 e _ hs' => ?_
  obtain ⟨v, h4, h5⟩ := results_run hs' fn ds h1
  have m := hs'.mem
  rw [e] at h4
  refine ⟨v, h4, v, (oneD ds).pub, g'.Fz, rfl, h3, h2, ⟨m.os, m.tape, m.output, m.hsz, fun k hk => m.old k hk (fun h => h) (fun h => h)⟩, m.keep, m.fzlt, fun b o h1 h2 => (m.newfz b o h1 h2).resolve_right id, ?_⟩
  exact Rep.close (g := g') (g' := gh0 g'.Fz) (Ex.refl _ _) h2 h5.pub
 intro e a' w' h
 cases e <;> simp only [Post] at h
 ·exact key a' w' h
 ·obtain ⟨_, _, _, h⟩ := h; exact h.elim
 ·obtain ⟨_, _, _, h⟩ := h; exact h.elim
 ·exact key a' w' h

def St.inits (args : List D) : St := ⟨frOf 0 args, [], [], .solo⟩

theorem inits_SR {P : Program} {N : Nat} {Fz : Nat → Nat → Prop} {w : World} {args : List D} {vs : List Value} (hN : args.length ≤ N) (hlt : ∀ b o, Fz b o → b < w.heap.size) (hr : Reps (gh0 Fz) w args vs) :
 SR (.alone P w Fz N) (St.inits args) (gh0 Fz) { tmps := vs.toArray ++ Array.replicate (N - vs.toArray.size) undef, defers := [] } w :=
 have h := init_SR (P := P) hN hlt hr
 have m := h.mem
 { defers := h.defers, size := h.size, rep := h.rep, x := rfl, fix := fun i v h => by cases h
   mem := {
    os := rfl, tape := rfl, output := rfl, hsz := Nat.le_refl _, old := fun _ _ _ _ => rfl, keep := Ex.refl _ _, newfz := fun _ _ h _ => .inl h, fzlt := hlt
    bxs := m.bxs, mps := m.mps, bxok := m.bxok, bxinj := m.bxinj, tks := m.tks, tkinj := m.tkinj, bxtk := m.bxtk, dfs := m.dfs, dnd := m.dnd, bxdf := m.bxdf, bxdm := m.bxdm } }

theorem pure_of_run_solo {P : Program} (hm : P.follows .mixedOrders = true) (an : Ann) {f : FuncId} {fn : Func} {c : Code} {ac : AC} (hf : P.funcs[f]? = some fn) (hb : fn.body = some c) (hc : compC P an c = some ac)
 (hd : ac.dstOK fn.ntmps (fun i => decide (i < fn.ntmps)) = true) {args : List D} {R : D → Prop} (hN : args.length ≤ fn.ntmps) (hrun : run P ac (St.inits args) (retK P fn R)) : Pure P f args R := by
 intro Fz w vs hlt hr
 refine (callsIn_wide (n := 0)).1 (callsIn_of_wp_marks (F := FW none) hf hb trivial (wpIn_mono (run_intoR (.alone P w Fz fn.ntmps) hm (yok_alone _ _ _ _) (plain_alone _ _ _ _) an 0 c ac hc hd _ _ hrun (gh0 Fz) _ w (inits_SR hN hlt hr)) ?_) rfl)
 have key : ∀ (a' : Act) (w' : World), (∃ st g, SR (.alone P w Fz fn.ntmps) st g a' w' ∧ ∃ ds, resD P st fn.results.toList = some ds ∧ (oneD ds).pub.closed = true ∧ R (oneD ds).pub) →
  LeavesInM (FW none) 0 P fn a'.tmps (fun e w' => ∃ v' d Fz', e = .returned v' ∧ R d ∧ d.closed = true ∧ Below w.heap.size w w' ∧ Ex Fz w Fz' w' ∧ (∀ b o, Fz' b o → b < w'.heap.size) ∧ (∀ b o, Fz' b o → b < w.heap.size → Fz b o) ∧ Rep (gh0 Fz') w' d v') a'.defers .returning w' := by
  rintro a' w' ⟨st, g, hs, ds, h1, h2, h3⟩
  refine leave_marks g.df g a' w' rfl hs fun g' a2 w2 e _ hs' => ?_
  obtain ⟨v, h4, h5⟩ := results_run hs' fn ds h1
  have m := hs'.mem
  rw [e] at h4
  refine ⟨v, h4, v, (oneD ds).pub, g'.Fz, rfl, h3, h2, ⟨m.os, m.tape, m.output, m.hsz, fun k hk => m.old k hk (fun h => h) (fun h => h)⟩, m.keep, m.fzlt, fun b o h1 h2 => (m.newfz b o h1 h2).resolve_right id, ?_⟩
  exact Rep.close (g := g') (g' := gh0 g'.Fz) (Ex.refl _ _) h2 h5.pub
 intro e a' w' h
 cases e <;> simp only [Post] at h
 ·exact key a' w' h
 ·obtain ⟨_, _, _, h⟩ := h; exact h.elim
 ·obtain ⟨_, _, _, h⟩ := h; exact h.elim
 ·exact key a' w' h


def seeCaps (ren : List (Nat × Nat)) : List (Nat × Nat) → Option (List (Nat × Nat))
 | [] => some []
 | c :: cs => match lk ren c.1, seeCaps ren cs with
   | some m, some r => some ((m, c.2) :: r)
   | _, _ => none

mutual
def D.see (ren : List (Nat × Nat)) : D → D
 | .ptr n o => match lk ren n with
   | some m => .ptr m o
   | none => .any
 | .fn f caps => match seeCaps ren caps with
   | some cs => .fn f cs
   | none => .any
 | .own _ _ els _ => .pd (.slice els)
 | .full _ els => .pd (.slice els)
 | .nils => .pd (.slice [])
 | .agg ds => .agg (D.sees ren ds)
 | .tup ds => .tup (D.sees ren ds)
 | .pd x => .pd x
 | .mp _ => .any
 | .eptr cs => .eptr cs
 | .oelt _ _ cs => .eptr cs
 | .any => .any
def D.sees (ren : List (Nat × Nat)) : List D → List D
 | [] => []
 | d :: ds => D.see ren d :: D.sees ren ds
end

theorem seeCaps_caps {g g0 : Gh} {ren : List (Nat × Nat)} (hr : ∀ n m b, lk ren n = some m → g.bx n = some b → g0.bx m = some b) : ∀ {cs ms : List (Nat × Nat)} {vs : List Value}, seeCaps ren cs = some ms → Caps g cs vs → Caps g0 ms vs
 | [], ms, vs, h, k => by simp only [seeCaps, Option.some.injEq] at h; subst h; exact k
 | c :: cs, ms, vs, h, k => by
   simp only [seeCaps] at h
   split at h
   ·rename_i m r h1 h2
    cases h
    simp only [Caps] at k ⊢
    obtain ⟨b, vs', rfl, hb, hk⟩ := k
    exact ⟨b, vs', rfl, hr _ _ _ h1 hb, seeCaps_caps hr h2 hk⟩
   ·cases h

mutual
theorem Rep.see {g g0 : Gh} {w : World} {ren : List (Nat × Nat)} (hr : ∀ n m b, lk ren n = some m → g.bx n = some b → g0.bx m = some b) (hf : g0.Fz = g.Fz) : ∀ {d : D} {v : Value}, Rep g w d v → Rep g0 w (d.see ren) v
 | .pd _, _, h => by simp only [Rep, D.see] at h ⊢; rw [hf]; exact h
 | .nils, _, h => by simp only [Rep, D.see] at h ⊢; subst h; exact .empty _ _
 | .own .., _, h => by simp only [Rep, D.see] at h ⊢; rw [hf]; exact h.1
 | .full .., _, h => by simp only [Rep, D.see] at h ⊢; rw [hf]; exact h.1
 | .ptr n o, _, h => by
   simp only [Rep, D.see] at h ⊢
   split
   ·rename_i m hm
    simp only [Rep]; obtain ⟨b, hb, e⟩ := h; exact ⟨b, hr _ _ _ hm hb, e⟩
   ·simp only [Rep]
 | .eptr _, _, h => by simp only [Rep, D.see] at h ⊢; rw [hf]; exact h
 | .oelt _ _ _, _, h => by simp only [Rep, D.see] at h ⊢; rw [hf]; exact h.1
 | .fn f caps, _, h => by
   simp only [Rep, D.see] at h ⊢
   split
   ·rename_i cs hcs
    simp only [Rep]; obtain ⟨cv, e, hc⟩ := h; exact ⟨cv, e, seeCaps_caps hr hcs hc⟩
   ·simp only [Rep]
 | .mp _, _, h => by simp only [D.see, Rep]
 | .agg _, _, h => by simp only [Rep, D.see] at h ⊢; obtain ⟨vs, e, hs⟩ := h; exact ⟨vs, e, Reps.see hr hf hs⟩
 | .tup _, _, h => by simp only [Rep, D.see] at h ⊢; obtain ⟨vs, e, hs⟩ := h; exact ⟨vs, e, Reps.see hr hf hs⟩
 | .any, _, _ => by simp only [D.see, Rep]
theorem Reps.see {g g0 : Gh} {w : World} {ren : List (Nat × Nat)} (hr : ∀ n m b, lk ren n = some m → g.bx n = some b → g0.bx m = some b) (hf : g0.Fz = g.Fz) : ∀ {ds : List D} {vs : List Value}, Reps g w ds vs → Reps g0 w (D.sees ren ds) vs
 | [], _, h => by simp only [Reps, D.sees] at h ⊢; exact h
 | _ :: _, _, h => by simp only [Reps, D.sees] at h ⊢; obtain ⟨v, vs', e, hv, hs⟩ := h; exact ⟨v, vs', e, Rep.see hr hf hv, Reps.see hr hf hs⟩
end

def seeBs (ren : List (Nat × Nat)) (bs : List (Nat × List D)) : List (Nat × Nat) → List (Nat × List D)
 | [] => []
 | (n, m) :: r => match lk bs n with
   | some ds => (m, D.sees ren ds) :: seeBs ren bs r
   | none => seeBs ren bs r

theorem seeBs_lk {ren : List (Nat × Nat)} {bs : List (Nat × List D)} : ∀ {l : List (Nat × Nat)} {m : Nat} {ds : List D}, lk (seeBs ren bs l) m = some ds → ∃ n ds0, (n, m) ∈ l ∧ lk bs n = some ds0 ∧ ds = D.sees ren ds0
 | [], _, _, h => by simp [seeBs, lk] at h
 | (n, m') :: r, m, ds, h => by
   simp only [seeBs] at h
   split at h
   ·rename_i ds0 h0
    simp only [lk] at h
    split at h
    ·rename_i e
     subst e
     cases h
     exact ⟨n, ds0, by simp, h0, rfl⟩
    ·obtain ⟨n', d', h1, h2, h3⟩ := seeBs_lk h
     exact ⟨n', d', List.mem_cons_of_mem _ h1, h2, h3⟩
   ·obtain ⟨n', d', h1, h2, h3⟩ := seeBs_lk h
    exact ⟨n', d', List.mem_cons_of_mem _ h1, h2, h3⟩

def lkr : List (Nat × Nat) → Nat → Option Nat
 | [], _ => none
 | (n, m) :: r, k => if k = m then some n else lkr r k

def renOK (ren : List (Nat × Nat)) : Bool := decide ((ren.map (·.1)).Nodup) && decide ((ren.map (·.2)).Nodup) && ren.all fun p => decide (1000000 ≤ p.2)

theorem lk_mem {ren : List (Nat × Nat)} : ∀ {n m : Nat}, lk ren n = some m → (n, m) ∈ ren := by
 induction ren with
 | nil => intro n m h; simp [lk] at h
 | cons p r ih =>
   obtain ⟨a, b⟩ := p
   intro n m h
   simp only [lk] at h
   split at h
   ·rename_i e; subst e; cases h; simp
   ·exact List.mem_cons_of_mem _ (ih h)

theorem lkr_mem {ren : List (Nat × Nat)} : ∀ {n m : Nat}, lkr ren m = some n → (n, m) ∈ ren := by
 induction ren with
 | nil => intro n m h; simp [lkr] at h
 | cons p r ih =>
   obtain ⟨a, b⟩ := p
   intro n m h
   simp only [lkr] at h
   split at h
   ·rename_i e; subst e; cases h; simp
   ·exact List.mem_cons_of_mem _ (ih h)

theorem mem_lkr {ren : List (Nat × Nat)} (hn : (ren.map (·.2)).Nodup) : ∀ {n m : Nat}, (n, m) ∈ ren → lkr ren m = some n := by
 induction ren with
 | nil => intro n m h; cases h
 | cons p r ih =>
   obtain ⟨a, b⟩ := p
   intro n m h
   simp only [List.map_cons, List.nodup_cons] at hn
   simp only [lkr]
   rcases List.mem_cons.1 h with h' | h'
   ·cases h'; simp
   ·have hne : ¬ m = b := fun e => hn.1 (List.mem_map.2 ⟨(n, m), h', e⟩)
    rw [if_neg hne]
    exact ih hn.2 h'

theorem mem_fst {ren : List (Nat × Nat)} (hn : (ren.map (·.1)).Nodup) : ∀ {n m k : Nat}, (n, m) ∈ ren → (n, k) ∈ ren → m = k := by
 induction ren with
 | nil => intro n m k h; cases h
 | cons p r ih =>
   obtain ⟨a, b⟩ := p
   intro n m k h h'
   simp only [List.map_cons, List.nodup_cons] at hn
   rcases List.mem_cons.1 h with h | h <;> rcases List.mem_cons.1 h' with h' | h'
   ·cases h; cases h'; rfl
   ·cases h; exact absurd (List.mem_map.2 ⟨_, h', rfl⟩) hn.1
   ·cases h'; exact absurd (List.mem_map.2 ⟨_, h, rfl⟩) hn.1
   ·exact ih hn.2 h h'

def PureB (P : Program) (f : FuncId) (args : List D) (bs : List (Nat × List D)) (R : D → Prop) : Prop :=
 ∀ (g0 : Gh) (w : World) (vs : List Value), g0.tk = (fun _ => none) → g0.df = [] → (∀ N, Mem (.fn P w g0.Fz (fun _ => False) N) bs [] g0 w) → Reps g0 w args vs →
   Calls P f vs.toArray w fun e w' => ∃ v d Fz', e = .returned v ∧ R d ∧ d.closed = true ∧ Below w.heap.size w w' ∧ Ex g0.Fz w Fz' w' ∧ (∀ b o, Fz' b o → b < w'.heap.size) ∧ (∀ b o, Fz' b o → b < w.heap.size → g0.Fz b o) ∧ Rep (gh0 Fz') w' d v

theorem PureB.mono {P : Program} {f : FuncId} {args : List D} {bs : List (Nat × List D)} {R R' : D → Prop} (h : PureB P f args bs R) (hr : ∀ d, R d → R' d) : PureB P f args bs R' :=
 fun g0 w vs h1 h2 h3 h4 => (h g0 w vs h1 h2 h3 h4).mono fun _ _ ⟨v, d, Fz', h1, h2, h3⟩ => ⟨v, d, Fz', h1, hr d h2, h3⟩

theorem PureB.pureW {P : Program} {f : FuncId} {args args0 : List D} {bs0 : List (Nat × List D)} {R : D → Prop} (he : Enters P f) (h : PureB P f args0 bs0 R) (st : St) (ren : List (Nat × Nat)) (hok : renOK ren = true)
 (ha : D.sees ren args = args0) (hb : seeBs ren st.bs ren = bs0) : PureW P f args st R := by
 refine ⟨he, fun C g a w vs _ hs hr => ?_⟩
 subst ha hb
 simp only [renOK, Bool.and_eq_true, decide_eq_true_eq] at hok
 have m := hs.mem
 obtain ⟨g0, hg0⟩ : ∃ g0 : Gh, g0 = ⟨fun k => (lkr ren k).bind g.bx, fun _ => none, g.Fz, []⟩ := ⟨_, rfl⟩
 have hf : g0.Fz = g.Fz := by rw [hg0]
 have hren : ∀ n k b, lk ren n = some k → g.bx n = some b → g0.bx k = some b := fun n k b h1 h2 => by
  rw [hg0]
  simp [mem_lkr hok.1.2 (lk_mem h1), h2]
 have hinv : ∀ k b, g0.bx k = some b → ∃ n, (n, k) ∈ ren ∧ g.bx n = some b := fun k b h1 => by
  rw [hg0] at h1
  obtain ⟨n, h2, h3⟩ := Option.bind_eq_some_iff.1 h1
  exact ⟨n, lkr_mem h2, h3⟩
 have hmem : ∀ N, Mem (.fn P w g0.Fz (fun _ => False) N) (seeBs ren st.bs ren) [] g0 w := fun N => {
  os := rfl, tape := rfl, output := rfl, hsz := Nat.le_refl _, old := fun _ _ _ _ => rfl, keep := Ex.refl _ _, newfz := fun _ _ h _ => .inl h
  fzlt := fun b o h => m.fzlt b o (by rw [← hf]; exact h)
  bxs := fun k ds hk => by
   obtain ⟨n, ds0, h1, h2, rfl⟩ := seeBs_lk hk
   obtain ⟨b, cs, t, h3, h4, h5⟩ := m.bxs n ds0 h2
   refine ⟨b, cs, t, ?_, h4, h5.see hren hf⟩
   rw [hg0]
   simp [mem_lkr hok.1.2 h1, h3]
  mps := fun n ds h => by simp [lk] at h
  bxok := fun k b hk => by
   obtain ⟨n, h1, h2⟩ := hinv k b hk
   refine ⟨(m.bxok n b h2).1, .inr (.inr (by simpa using List.all_eq_true.1 hok.2 _ h1)), fun o ho => (m.bxok n b h2).2.2 o (by rw [← hf]; exact ho)⟩
  bxinj := fun k j b hk hj => by
   obtain ⟨n, h1, h2⟩ := hinv k b hk
   obtain ⟨n', h3, h4⟩ := hinv j b hj
   have := m.bxinj n n' b h2 h4
   subst this
   exact mem_fst hok.1.1 h1 h3
  tks := fun t v e h => by rw [hg0] at h; cases h
  tkinj := fun t s v u e f b h => by rw [hg0] at h; cases h
  bxtk := fun n t b v e _ h => by rw [hg0] at h; cases h
  dfs := fun D hD => by rw [hg0] at hD; cases hD
  dnd := by rw [hg0]; exact List.nodup_nil
  bxdf := fun n D hD => by rw [hg0] at hD; cases hD
  bxdm := fun n b _ h => h }
 refine (h g0 w vs (by rw [hg0]) (by rw [hg0]) hmem (hr.see hren hf)).mono ?_
 rintro e w' ⟨v, d, Fz', rfl, hd, hcl, hb, hx, hlt, hnew, hrep⟩
 rw [hf] at hx hnew
 obtain ⟨h2, h3⟩ := hs.called hb Fz' hx hlt
 refine ⟨v, d, _, rfl, hd, h2, Rep.close (g := gh0 Fz') (g' := g.withFz w.heap.size Fz') (fun b o hf => ⟨?_, rfl⟩) hcl hrep, h3.ex, fun n b _ hn => ⟨hn, hb.block b (hs.mem.bxok n b hn).1⟩⟩
 rcases Nat.lt_or_ge b w.heap.size with hlt' | hge
 ·exact .inl (hnew b o hf hlt')
 ·exact .inr ⟨hge, hf⟩

theorem PureB.callW {P : Program} {f : FuncId} {args args0 : List D} {bs0 : List (Nat × List D)} {R : D → Prop} (he : Enters P f) (h : PureB P f args0 bs0 R) (st : St) (ren : List (Nat × Nat)) (hok : renOK ren = true)
 (ha : D.sees ren args = args0) (hb : seeBs ren st.bs ren = bs0) {K : D → St → Prop} (hk : ∀ d, R d → K d st) : CallW P f args st K :=
 (h.pureW he st ren hok ha hb).callW hk

theorem pureB_of_run {P : Program} (hm : P.follows .mixedOrders = true) (an : Ann) {f : FuncId} {fn : Func} {c : Code} {ac : AC} (hf : P.funcs[f]? = some fn) (hb : fn.body = some c) (hc : compC P an c = some ac)
 (hd : ac.dstOK fn.ntmps (fun i => decide (i < fn.ntmps)) = true) {args : List D} {bs : List (Nat × List D)} {R : D → Prop} (hN : args.length ≤ fn.ntmps) (hrun : run P ac ⟨frOf 0 args, bs, [], .no⟩ (retK P fn R)) : PureB P f args bs R := by
 intro g0 w vs htk hdf hmem hr
 have hinit : SR (.fn P w g0.Fz (fun _ => False) fn.ntmps) ⟨frOf 0 args, bs, [], .no⟩ g0 { tmps := vs.toArray ++ Array.replicate (fn.ntmps - vs.toArray.size) undef, defers := [] } w := {
  defers := by rw [hdf]; rfl
  size := by
   have := hr.length
   simp; omega
  rep := fun i d hd => by
   obtain ⟨_, h2⟩ := frOf_lk args 0 i d hd
   simp only [Nat.sub_zero] at h2
   obtain ⟨v, h3, h4⟩ := hr.get i d h2
   have hi := (List.getElem?_eq_some_iff.1 h2).1
   refine ⟨by show i < fn.ntmps; omega, ?_⟩
   have hiv := (List.getElem?_eq_some_iff.1 h3).1
   simp only [Array.getD_eq_getD_getElem?]
   rw [Array.getElem?_append_left (by simpa using hiv), List.getElem?_toArray, h3]
   exact h4
  mem := hmem _
  x := rfl
  fix := fun i v h => by cases h }
 refine (callsIn_wide (n := 0)).1 (callsIn_of_wp_marks (F := FW none) hf hb trivial (wpIn_mono (run_intoR (.fn P w g0.Fz (fun _ => False) fn.ntmps) hm (yok_fn _ _ _ _ _) (plain_fn _ _ _ _ _) an 0 c ac hc hd _ _ hrun g0 _ w hinit) ?_) rfl)
 have key : ∀ (a' : Act) (w' : World), (∃ st g, SR (.fn P w g0.Fz (fun _ => False) fn.ntmps) st g a' w' ∧ ∃ ds, resD P st fn.results.toList = some ds ∧ (oneD ds).pub.closed = true ∧ R (oneD ds).pub) →
  LeavesInM (FW none) 0 P fn a'.tmps (fun e w' => ∃ v' d Fz', e = .returned v' ∧ R d ∧ d.closed = true ∧ Below w.heap.size w w' ∧ Ex g0.Fz w Fz' w' ∧ (∀ b o, Fz' b o → b < w'.heap.size) ∧ (∀ b o, Fz' b o → b < w.heap.size → g0.Fz b o) ∧ Rep (gh0 Fz') w' d v') a'.defers .returning w' := by
  rintro a' w' ⟨st, g, hs, ds, h1, h2, h3⟩
  refine leave_marks g.df g a' w' rfl hs fun g' a2 w2 e _ hs' => ?_
  obtain ⟨v, h4, h5⟩ := results_run hs' fn ds h1
  have m := hs'.mem
  rw [e] at h4
  refine ⟨v, h4, v, (oneD ds).pub, g'.Fz, rfl, h3, h2, ⟨m.os, m.tape, m.output, m.hsz, fun k hk => m.old k hk (fun h => h) (fun h => h)⟩, m.keep, m.fzlt, fun b o h1 h2 => (m.newfz b o h1 h2).resolve_right id, ?_⟩
  exact Rep.close (g := g') (g' := gh0 g'.Fz) (Ex.refl _ _) h2 h5.pub
 intro e a' w' h
 cases e <;> simp only [Post] at h
 ·exact key a' w' h
 ·obtain ⟨_, _, _, h⟩ := h; exact h.elim
 ·obtain ⟨_, _, _, h⟩ := h; exact h.elim
 ·exact key a' w' h


structure Gif (c : Bool) (A B : Prop) : Prop where
 yes : c = true → A
 no : c = false → B

structure GifP (p : Prop) (A B : Prop) : Prop where
 yes : p → A
 no : ¬ p → B

theorem gif_true {A B : Prop} : Gif true A B = A := propext ⟨fun h => h.yes rfl, fun h => ⟨fun _ => h, fun e => by cases e⟩⟩
theorem gif_false {A B : Prop} : Gif false A B = B := propext ⟨fun h => h.no rfl, fun h => ⟨(fun e => by cases e), fun _ => h⟩⟩
theorem gif_not {c : Bool} {A B : Prop} : Gif (!c) A B = Gif c B A := by
 cases c <;> simp only [Bool.not_true, Bool.not_false, gif_true, gif_false]
theorem gif_dec {p : Prop} [Decidable p] {A B : Prop} : Gif (decide p) A B = GifP p A B :=
 propext ⟨fun h => ⟨fun hp => h.yes (decide_eq_true hp), fun hp => h.no (decide_eq_false hp)⟩, fun h => ⟨fun hp => h.yes (of_decide_eq_true hp), fun hp => h.no (of_decide_eq_false hp)⟩⟩
theorem gifP_true {A B : Prop} : GifP True A B = A := propext ⟨fun h => h.yes trivial, fun h => ⟨fun _ => h, fun e => (e trivial).elim⟩⟩
theorem gifP_false {A B : Prop} : GifP False A B = B := propext ⟨fun h => h.no id, fun h => ⟨fun e => e.elim, fun _ => h⟩⟩
theorem gifP_not {p : Prop} {A B : Prop} : GifP (¬ p) A B = GifP p B A :=
 propext ⟨fun h => ⟨fun hp => h.no (fun k => k hp), fun hp => h.yes hp⟩, fun h => ⟨fun hp => h.no hp, fun hp => h.yes (Classical.byContradiction hp)⟩⟩
theorem gif_and {c : Bool} {A B : Prop} : ((c = true → A) ∧ (c = false → B)) = Gif c A B := propext ⟨fun h => ⟨h.1, h.2⟩, fun h => ⟨h.yes, h.no⟩⟩

theorem boolm {A B : Bool → Prop} (h : ∀ b, A b = B b) (d : D) : (match d with | .pd (.raw (.bool b)) => A b | _ => False) = (match d with | .pd (.raw (.bool b)) => B b | _ => False) := by rw [show A = B from funext h]

theorem boolt {A B : Bool → Prop} {N : Prop} (h : ∀ b, A b = B b) (d : D) : (match d with | .pd (.raw (.bool b)) => A b | .tup [] => N | _ => False) = (match d with | .pd (.raw (.bool b)) => B b | .tup [] => N | _ => False) := by rw [show A = B from funext h]

inductive Fr where
 | seq (y : AC)
 | block (id : Nat)
 | round (J : St → Prop)
 | scope (l : Nat) (r : AC)
 | once

def contS (P : Program) : List Fr → (Exit → St → Prop) → Exit → St → Prop
 | [], K, e, s => K e s
 | .seq y :: S, K, e, s => match e with
   | .normal => run P y s (contS P S K)
   | e => contS P S K e s
 | .block id :: S, K, e, s => match e with
   | .exit j => if j = id then contS P S K .normal s else contS P S K (.exit j) s
   | e => contS P S K e s
 | .round J :: S, K, e, s => match e with
   | .normal => J s
   | e => contS P S K e s
 | .scope l r :: S, K, e, s => match e with
   | .goto j => j = l ∧ run P r s fun e s => match e with
     | .goto _ => False
     | e => contS P S K e s
   | e => contS P S K e s
 | .once :: S, K, e, s => match e with
   | .goto _ => False
   | e => contS P S K e s

def nextS (P : Program) (kp : Option (List Nat)) (S : List Fr) (K : Exit → St → Prop) (s : St) : Prop := contS P S K .normal (s.keep kp)

section
variable {P : Program} {S : List Fr} {K : Exit → St → Prop} {st s : St} {x y : AC}

theorem run_start : run P x st K = run P x st (contS P [] K) := propext Iff.rfl
theorem run_seq : run P (.seq x y) st (contS P S K) = run P x st (contS P (.seq y :: S) K) := by
 simp only [run]
 congr 1
theorem run_block {id : Nat} : run P (.block id x) st (contS P S K) = run P x st (contS P (.block id :: S) K) := by
 simp only [run]
 congr 1
theorem run_scope {l : Nat} : run P (.scope l x y) st (contS P S K) = run P x st (contS P (.scope l y :: S) K) := by
 simp only [run]
 congr 1
theorem run_label {l : Nat} : run P (.label l) st (contS P S K) = contS P S K .normal st := propext Iff.rfl
theorem run_goto {l : Nat} : run P (.goto l) st (contS P S K) = contS P S K (.goto l) st := propext Iff.rfl
theorem run_skip : run P .skip st (contS P S K) = contS P S K .normal st := propext Iff.rfl
theorem run_ret : run P .ret st (contS P S K) = contS P S K .ret st := propext Iff.rfl
theorem run_exit {id : Nat} : run P (.exit id) st (contS P S K) = contS P S K (.exit id) st := propext Iff.rfl
theorem run_region {l : List AOper} {kp : Option (List Nat)} : run P (.region l kp) st (contS P S K) = aops P l st (nextS P kp S K) := propext Iff.rfl
theorem run_draw {l : List AOper} {tb : List Nat} {p : Plan} {kp : Option (List Nat)} : run P (.draw l tb p kp) st (contS P S K) = drun P l tb p [] st (nextS P kp S K) := propext Iff.rfl
theorem run_cond {c : Operand} : run P (.cond c x y) st (contS P S K) = match st.ev c with
 | .pd (.raw (.bool b)) => Gif b (run P x (st.know c true) (contS P S K)) (run P y (st.know c false) (contS P S K))
 | _ => False := by
 exact boolm (fun _ => gif_and) (st.ev c)
theorem run_rangeF {ns : List Nat} {p : Nat} {dq : Option Nat} {x : Operand} : run P (.rangeF ns p dq x y) st (contS P S K) = match st.ev x with
 | .fn f caps => caps.all (fun c => !ns.contains c.1 && decide (c.1 < 1000000)) = true ∧ ns.all (fun n => (lk st.bs n).isSome && decide (n < 200000)) = true ∧
   ∃ (xs : List Value) (J : Nat → List (Nat × List D) → Prop), IterW P f caps st xs ∧ J 0 (bsOf false st.bs ns ns) ∧
   (∀ i v bs, xs[i]? = some v → J i bs → run P y ⟨roundFr p (cD v) (cutFr ns st.fr) dq, bs, [], .no⟩ (contS P [] (roundK (J (i + 1)) (contS P S K) st ns))) ∧ ∀ bs, J xs.length bs → contS P S K .normal (st.after ns bs)
 | _ => False := propext Iff.rfl
theorem contS_nil {e : Exit} : contS P [] K e s = K e s := propext Iff.rfl
theorem contS_seq : contS P (.seq y :: S) K .normal s = run P y s (contS P S K) := propext Iff.rfl
theorem contS_seq_ret : contS P (.seq y :: S) K .ret s = contS P S K .ret s := propext Iff.rfl
theorem contS_seq_exit {j : Nat} : contS P (.seq y :: S) K (.exit j) s = contS P S K (.exit j) s := propext Iff.rfl
theorem contS_block {id : Nat} : contS P (.block id :: S) K .normal s = contS P S K .normal s := propext Iff.rfl
theorem contS_block_ret {id : Nat} : contS P (.block id :: S) K .ret s = contS P S K .ret s := propext Iff.rfl
theorem contS_block_exit {id j : Nat} : contS P (.block id :: S) K (.exit j) s = if j = id then contS P S K .normal s else contS P S K (.exit j) s := propext Iff.rfl
theorem contS_round {J : St → Prop} : contS P (.round J :: S) K .normal s = J s := propext Iff.rfl
theorem contS_round_ret {J : St → Prop} : contS P (.round J :: S) K .ret s = contS P S K .ret s := propext Iff.rfl
theorem contS_round_exit {J : St → Prop} {j : Nat} : contS P (.round J :: S) K (.exit j) s = contS P S K (.exit j) s := propext Iff.rfl
theorem contS_seq_goto {j : Nat} : contS P (.seq y :: S) K (.goto j) s = contS P S K (.goto j) s := propext Iff.rfl
theorem contS_block_goto {id j : Nat} : contS P (.block id :: S) K (.goto j) s = contS P S K (.goto j) s := propext Iff.rfl
theorem contS_round_goto {J : St → Prop} {j : Nat} : contS P (.round J :: S) K (.goto j) s = contS P S K (.goto j) s := propext Iff.rfl
theorem contS_scope {l : Nat} : contS P (.scope l y :: S) K .normal s = contS P S K .normal s := propext Iff.rfl
theorem contS_scope_ret {l : Nat} : contS P (.scope l y :: S) K .ret s = contS P S K .ret s := propext Iff.rfl
theorem contS_scope_exit {l j : Nat} : contS P (.scope l y :: S) K (.exit j) s = contS P S K (.exit j) s := propext Iff.rfl
theorem contS_scope_goto {l j : Nat} : contS P (.scope l y :: S) K (.goto j) s = (j = l ∧ run P y s (contS P (.once :: S) K)) := propext Iff.rfl
theorem contS_once : contS P (.once :: S) K .normal s = contS P S K .normal s := propext Iff.rfl
theorem contS_once_ret : contS P (.once :: S) K .ret s = contS P S K .ret s := propext Iff.rfl
theorem contS_once_exit {j : Nat} : contS P (.once :: S) K (.exit j) s = contS P S K (.exit j) s := propext Iff.rfl
theorem nextS_eq {kp : Option (List Nat)} : nextS P kp S K s = contS P S K .normal (s.keep kp) := propext Iff.rfl

end

structure AopsK (P : Program) (r : List AOper) (K : St → Prop) (st : St) : Prop where
 out : aops P r st K

def putK (dst : Option Nat) (K : St → Prop) (d : D) (st : St) : Prop := K (st.puto dst d)

section
variable {P : Program} {gd : Option (Nat × Bool)} {dst : Option Nat} {st : St} {K : St → Prop}
theorem aopsK_eq {r : List AOper} : AopsK P r K st = aops P r st K := propext ⟨fun h => h.out, fun h => ⟨h⟩⟩
theorem aopsK_fun {r : List AOper} : (fun st' => aops P r st' K) = AopsK P r K := funext fun _ => aopsK_eq.symm
theorem aops_nil : aops P [] st K = K st := propext Iff.rfl
theorem aops_none {op : AOp} {r : List AOper} : aops P (⟨none, dst, op⟩ :: r) st K = ystep P ⟨none, dst, op⟩ st (AopsK P r K) := by rw [← aopsK_fun]; rfl
theorem aops_yes {s : Nat} {op : AOp} {r : List AOper} : aops P (⟨some (s, true), dst, op⟩ :: r) st K = match st.get s with
 | .pd (.raw (.bool c)) => Gif c (ystep P ⟨some (s, true), dst, op⟩ (st.know (.tmp s) true) (AopsK P r K)) (aops P r ((st.know (.tmp s) false).puto dst (.tup [])) K)
 | .tup [] => aops P r (st.puto dst (.tup [])) K
 | _ => False := by
 rw [← aopsK_fun]
 exact boolt (fun _ => gif_and) (st.get s)
theorem aops_no {s : Nat} {op : AOp} {r : List AOper} : aops P (⟨some (s, false), dst, op⟩ :: r) st K = match st.get s with
 | .pd (.raw (.bool c)) => Gif c (aops P r ((st.know (.tmp s) true).puto dst (.tup [])) K) (ystep P ⟨some (s, false), dst, op⟩ (st.know (.tmp s) false) (AopsK P r K))
 | .tup [] => aops P r (st.puto dst (.tup [])) K
 | _ => False := by
 rw [← aopsK_fun]
 exact boolt (fun _ => propext ⟨fun h => ⟨h.2, h.1⟩, fun h => ⟨h.no, h.yes⟩⟩) (st.get s)
theorem y_callv (x : Operand) (args : List Operand) : ystep P ⟨gd, dst, .callv x args⟩ st K = match st.ev x with
 | .pd (.raw (.func (.yield l) first caps)) => match st.hs, valsD (args.map st.ev) with
   | .it l' xs i false, some vs => l' = l ∧ first = #[] ∧ caps = #[] ∧ xs[i]? = some vs ∧
     K (St.puto { st with hs := .it l xs (i + 1) false } dst (.pd (.raw (.bool true)))) ∧ K (St.puto { st with hs := .it l xs (i + 1) true } dst (.pd (.raw (.bool false))))
   | _, _ => False
 | .fn f caps => CallW P f (args.map st.ev ++ caps.map fun c => .ptr c.1 c.2) st (putK dst K)
 | .pd (.raw (.func (.func f) first caps)) => first = #[] ∧ caps = #[] ∧ CallW P f (args.map st.ev) st (putK dst K)
 | _ => False := by
 simp only [ystep, astep]
 cases st.ev x with
 | pd p =>
   cases p with
   | raw v => cases v <;> first | rfl | (rename_i t _ _; cases t <;> rfl)
   | _ => rfl
 | _ => rfl
theorem putK_eq {d : D} : putK dst K d st = K (st.puto dst d) := propext Iff.rfl
theorem y_mv (x : Operand) : ystep P ⟨gd, dst, .mv x⟩ st K = astep P ⟨gd, dst, .mv x⟩ st K := propext Iff.rfl
theorem y_pick (c x y : Operand) : ystep P ⟨gd, dst, .pick c x y⟩ st K = match st.ev c with
 | .pd (.raw (.bool b)) => Gif b (K ((st.know c true).puto dst (st.ev x))) (K ((st.know c false).puto dst (st.ev y)))
 | _ => False := by
 exact boolm (fun _ => gif_and) (st.ev c)
theorem y_alloc (e : TypeId) (zs : List D) : ystep P ⟨gd, dst, .alloc e zs⟩ st K = astep P ⟨gd, dst, .alloc e zs⟩ st K := propext Iff.rfl
theorem y_box (e : TypeId) (x : Operand) : ystep P ⟨gd, dst, .box e x⟩ st K = astep P ⟨gd, dst, .box e x⟩ st K := propext Iff.rfl
theorem y_build (zs : List D) (parts : List (Nat × Nat × Operand)) : ystep P ⟨gd, dst, .build zs parts⟩ st K = astep P ⟨gd, dst, .build zs parts⟩ st K := propext Iff.rfl
theorem y_bslice (e : TypeId) (sz : Nat) (parts : List Operand) : ystep P ⟨gd, dst, .bslice e sz parts⟩ st K = astep P ⟨gd, dst, .bslice e sz parts⟩ st K := propext Iff.rfl
theorem y_load (k : Option Nat) (x : Operand) : ystep P ⟨gd, dst, .load k x⟩ st K = astep P ⟨gd, dst, .load k x⟩ st K := propext Iff.rfl
theorem y_store (sz : Nat) (x y : Operand) : ystep P ⟨gd, dst, .store sz x y⟩ st K = astep P ⟨gd, dst, .store sz x y⟩ st K := propext Iff.rfl
theorem y_ncheck (x : Operand) : ystep P ⟨gd, dst, .ncheck x⟩ st K = astep P ⟨gd, dst, .ncheck x⟩ st K := propext Iff.rfl
theorem y_bin (op : BinOp) (x y : Operand) : ystep P ⟨gd, dst, .bin op x y⟩ st K = astep P ⟨gd, dst, .bin op x y⟩ st K := propext Iff.rfl
theorem y_binB (neg : Bool) (x y : Operand) : ystep P ⟨gd, dst, .binB neg x y⟩ st K = astep P ⟨gd, dst, .binB neg x y⟩ st K := propext Iff.rfl
theorem y_eqs (neg : Bool) (ks : List LK) (x y : Operand) : ystep P ⟨gd, dst, .eqs neg ks x y⟩ st K = astep P ⟨gd, dst, .eqs neg ks x y⟩ st K := propext Iff.rfl
theorem y_un (op : UnOp) (x : Operand) : ystep P ⟨gd, dst, .un op x⟩ st K = astep P ⟨gd, dst, .un op x⟩ st K := propext Iff.rfl
theorem y_conv (k : IntKind) (x : Operand) : ystep P ⟨gd, dst, .conv k x⟩ st K = astep P ⟨gd, dst, .conv k x⟩ st K := propext Iff.rfl
theorem y_fieldA (off : Nat) (x : Operand) : ystep P ⟨gd, dst, .fieldA off x⟩ st K = astep P ⟨gd, dst, .fieldA off x⟩ st K := propext Iff.rfl
theorem y_field (off : Nat) (k : Option Nat) (x : Operand) : ystep P ⟨gd, dst, .field off k x⟩ st K = astep P ⟨gd, dst, .field off k x⟩ st K := propext Iff.rfl
theorem y_idxA (sz : Nat) (x i : Operand) : ystep P ⟨gd, dst, .idxA sz x i⟩ st K = astep P ⟨gd, dst, .idxA sz x i⟩ st K := propext Iff.rfl
theorem y_idxS (x i : Operand) : ystep P ⟨gd, dst, .idxS x i⟩ st K = astep P ⟨gd, dst, .idxS x i⟩ st K := propext Iff.rfl
theorem y_extract (x : Operand) (j : Nat) : ystep P ⟨gd, dst, .extract x j⟩ st K = astep P ⟨gd, dst, .extract x j⟩ st K := propext Iff.rfl
theorem y_mkfn (f : FuncId) (caps : List Operand) : ystep P ⟨gd, dst, .mkfn f caps⟩ st K = astep P ⟨gd, dst, .mkfn f caps⟩ st K := propext Iff.rfl
theorem y_mkif (t : TypeId) (x : Operand) : ystep P ⟨gd, dst, .mkif t x⟩ st K = astep P ⟨gd, dst, .mkif t x⟩ st K := propext Iff.rfl
theorem y_len (x : Operand) (str : Bool) : ystep P ⟨gd, dst, .len x str⟩ st K = astep P ⟨gd, dst, .len x str⟩ st K := propext Iff.rfl
theorem y_minmax (mx : Bool) (x y : Operand) : ystep P ⟨gd, dst, .minmax mx x y⟩ st K = astep P ⟨gd, dst, .minmax mx x y⟩ st K := propext Iff.rfl
theorem y_slcS (x : Operand) (lo hi : Option Operand) : ystep P ⟨gd, dst, .slcS x lo hi⟩ st K = astep P ⟨gd, dst, .slcS x lo hi⟩ st K := propext Iff.rfl
theorem y_nilS (neg : Bool) (x : Operand) : ystep P ⟨gd, dst, .nilS neg x⟩ st K = astep P ⟨gd, dst, .nilS neg x⟩ st K := propext Iff.rfl
theorem y_slcF (sz : Nat) (x hi mx : Operand) : ystep P ⟨gd, dst, .slcF sz x hi mx⟩ st K = astep P ⟨gd, dst, .slcF sz x hi mx⟩ st K := propext Iff.rfl
theorem y_slcL (sz : Nat) (x : Operand) (lo hi : Option Operand) : ystep P ⟨gd, dst, .slcL sz x lo hi⟩ st K = astep P ⟨gd, dst, .slcL sz x lo hi⟩ st K := propext Iff.rfl
theorem y_append (e : TypeId) (sz bytes : Nat) (x y : Operand) : ystep P ⟨gd, dst, .append e sz bytes x y⟩ st K = astep P ⟨gd, dst, .append e sz bytes x y⟩ st K := propext Iff.rfl
theorem y_mkmap : ystep P ⟨gd, dst, .mkmap⟩ st K = astep P ⟨gd, dst, .mkmap⟩ st K := propext Iff.rfl
theorem y_mget (ks : List LK) (z : Value) (x i : Operand) : ystep P ⟨gd, dst, .mget ks z x i⟩ st K = astep P ⟨gd, dst, .mget ks z x i⟩ st K := propext Iff.rfl
theorem y_mset (ks : List LK) (x i v : Operand) : ystep P ⟨gd, dst, .mset ks x i v⟩ st K = astep P ⟨gd, dst, .mset ks x i v⟩ st K := propext Iff.rfl
theorem y_mentry (ks : List LK) (z : Value) (x i : Operand) : ystep P ⟨gd, dst, .mentry ks z x i⟩ st K = astep P ⟨gd, dst, .mentry ks z x i⟩ st K := propext Iff.rfl
theorem y_mstore (x s v : Operand) : ystep P ⟨gd, dst, .mstore x s v⟩ st K = astep P ⟨gd, dst, .mstore x s v⟩ st K := propext Iff.rfl
theorem y_srange (x : Operand) : ystep P ⟨gd, dst, .srange x⟩ st K = astep P ⟨gd, dst, .srange x⟩ st K := propext Iff.rfl
theorem y_snext (x : Operand) : ystep P ⟨gd, dst, .snext x⟩ st K = astep P ⟨gd, dst, .snext x⟩ st K := propext Iff.rfl
theorem y_isnil (neg : Bool) (x : Operand) : ystep P ⟨gd, dst, .isnil neg x⟩ st K = astep P ⟨gd, dst, .isnil neg x⟩ st K := propext Iff.rfl
theorem y_tassert (t : TypeId) (z : Value) (x : Operand) : ystep P ⟨gd, dst, .tassert t z x⟩ st K = astep P ⟨gd, dst, .tassert t z x⟩ st K := propext Iff.rfl
theorem y_bstr (x : Operand) : ystep P ⟨gd, dst, .bstr x⟩ st K = astep P ⟨gd, dst, .bstr x⟩ st K := propext Iff.rfl
theorem y_call (f : FuncId) (args : List Operand) : ystep P ⟨gd, dst, .call f args⟩ st K = CallW P f (args.map st.ev) st (putK dst K) := propext Iff.rfl
end

section
variable {P : Program} {S : List Fr} {K : Exit → St → Prop} {st s : St} {x y : AC}
def Round (P : Program) (I : Nat → St → Prop) (n : Nat) (s : St) : Prop := ∃ m s2, m < n ∧ Weak P s s2 ∧ I m s2

theorem loopS (I : Nat → St → Prop) (n0 : Nat) (s0 : St) (hw : Weak P st s0) (h0 : I n0 s0) (h : ∀ n s, I n s → run P x s (contS P (.round (Round P I n) :: S) K)) : run P (.loop x) st (contS P S K) := by
 simp only [run]
 refine ⟨I, ⟨n0, s0, hw, h0⟩, fun n s hi => ?_⟩
 exact h n s hi
theorem rangeS {ns : List Nat} {p : Nat} {dq : Option Nat} {c : Operand} {f : FuncId} {caps : List (Nat × Nat)} (xs : List Value) (J : Nat → List (Nat × List D) → Prop) (hev : st.ev c = .fn f caps)
 (hc : caps.all (fun c => !ns.contains c.1 && decide (c.1 < 1000000)) = true) (hn : ns.all (fun n => (lk st.bs n).isSome && decide (n < 200000)) = true) (hit : IterW P f caps st xs) (h0 : J 0 (bsOf false st.bs ns ns))
 (hr : ∀ i v bs, xs[i]? = some v → J i bs → run P y ⟨roundFr p (cD v) (cutFr ns st.fr) dq, bs, [], .no⟩ (contS P [] (roundK (J (i + 1)) (contS P S K) st ns))) (he : ∀ bs, J xs.length bs → contS P S K .normal (st.after ns bs)) :
 run P (.rangeF ns p dq c y) st (contS P S K) := by
 rw [run_rangeF, hev]
 exact ⟨hc, hn, xs, J, hit, h0, hr, he⟩
end

section
variable {P : Program} {K : St → Prop} {KK : Exit → St → Prop} {S : List Fr} {KT : Option Nat → St → Prop} {dst : Option Nat} {fr : List (Nat × D)} {bs : List (Nat × List D)} {ms : List (Nat × MO)} {hs : Hist} {d : D} {i : Nat} {b : Bool}
theorem puto_some : St.puto ⟨fr, bs, ms, hs⟩ (some i) d = ⟨(i, d) :: fr, bs, ms, hs⟩ := rfl
theorem put_mk : St.put ⟨fr, bs, ms, hs⟩ i d = ⟨(i, d) :: fr, bs, ms, hs⟩ := rfl
theorem puto_none : St.puto ⟨fr, bs, ms, hs⟩ none d = ⟨fr, bs, ms, hs⟩ := rfl
theorem know_tmp : St.know ⟨fr, bs, ms, hs⟩ (.tmp i) b = ⟨(i, .pd (.raw (.bool b))) :: fr, bs, ms, hs⟩ := rfl
theorem know_const {v : Value} : St.know ⟨fr, bs, ms, hs⟩ (.const v) b = ⟨fr, bs, ms, hs⟩ := rfl
theorem get_mk : St.get ⟨fr, bs, ms, hs⟩ i = (lk fr i).getD .any := rfl
theorem ev_tmp : St.ev ⟨fr, bs, ms, hs⟩ (.tmp i) = (lk fr i).getD .any := rfl
theorem ev_const {v : Value} : St.ev ⟨fr, bs, ms, hs⟩ (.const v) = cD v := rfl
theorem ev_func {f : FuncId} : St.ev ⟨fr, bs, ms, hs⟩ (.func f) = .fn f [] := rfl
theorem keep_none : St.keep ⟨fr, bs, ms, hs⟩ none = ⟨fr, bs, ms, hs⟩ := rfl
theorem keep_some {l : List Nat} : St.keep ⟨fr, bs, ms, hs⟩ (some l) = ⟨l.map fun i => (i, (lk fr i).getD .any), bs, ms, hs⟩ := rfl
theorem aopsK_mk {r : List AOper} : AopsK P r K ⟨fr, bs, ms, hs⟩ = aops P r ⟨fr, bs, ms, hs⟩ K := aopsK_eq
theorem putK_mk : putK dst K d ⟨fr, bs, ms, hs⟩ = K (St.puto ⟨fr, bs, ms, hs⟩ dst d) := putK_eq
theorem nextS_mk {kp : Option (List Nat)} : nextS P kp S KK ⟨fr, bs, ms, hs⟩ = contS P S KK .normal (St.keep ⟨fr, bs, ms, hs⟩ kp) := nextS_eq
end

def lessL {α : Type} : List (Nat × α) → List (Nat × α) → Prop
 | [], _ => True
 | (i, d) :: r, l => lk l i = some d ∧ lessL r l

theorem lessL_lk {α : Type} : ∀ {r l : List (Nat × α)}, lessL r l → ∀ (i : Nat) (d : α), lk r i = some d → lk l i = some d
 | [], _, _, _, _, h => by simp [lk] at h
 | (j, e) :: r, l, h, i, d, hl => by
   simp only [lk] at hl
   split at hl
   ·rename_i hij
    subst hij
    cases hl
    exact h.1
   ·exact lessL_lk h.2 i d hl

theorem Weak.less {P : Program} {st st' : St} (hf : lessL st'.fr st.fr) (hb : lessL st'.bs st.bs) (hm : lessL st'.ms st.ms) (hh : st'.hs = st.hs) : Weak P st st' :=
 fun _ g _ _ _ h => ⟨g, h.less (fun i d hd => .inl (lessL_lk hf i d hd)) (lessL_lk hb) (lessL_lk hm) hh⟩

theorem SR.tell {C : Ctx} {st : St} {g : Gh} {a : Act} {w : World} (h : SR C st g a w) {i : Nat} (hi : i < C.N) {d : D} (hd : Rep g w d (a.tmps.getD i undef)) : SR C (st.put i d) g a w := by
 refine ⟨h.defers, h.size, fun j e hj => ?_, h.mem, h.x, h.fix⟩
 simp only [St.put, lk] at hj
 split at hj
 ·rename_i hji
  subst hji
  cases hj
  exact ⟨hi, hd⟩
 ·exact h.rep j e hj

theorem grownBy_same (w : World) (row : Option Nat) : w.grownBy w row := ⟨rfl, rfl, rfl, Nat.le_refl _, fun _ _ _ => rfl⟩

theorem Weak.own0 {P : Program} {st : St} (i t : Nat) (e : TypeId) {ti : TypeInfo} (hi : P.info? e = some ti) (hpos : 0 < ti.size) (h : lk st.fr i = some .nils) : Weak P st ((st.purge t).put i (.own e ti.size [] t)) := by
 intro C g a w hP hs
 subst hP
 obtain ⟨hN, hr⟩ := hs.rep i _ h
 simp only [Rep] at hr
 have h1 := hs.purge t
 obtain ⟨h2, _⟩ := SR.owned h1 t (by simp) (grownBy_same w none) _ h1.x (fun k e => by cases e) (fun _ h => h) (fun k e => by cases e) e ti hi hpos (.slice none 0 0) 0 [] (World.ownsRow_nil _ _ _ _) (fun b hb => by cases hb) (fun b o _ hb => by cases hb)
 refine ⟨_, h2.tell hN ?_⟩
 rw [hr]
 simp only [Rep]
 exact ⟨.empty _ _, by simp, by simp⟩

theorem Weak.own1 {P : Program} {st st' : St} (i t : Nat) (e : TypeId) (sz : Nat) (hi : (P.info? e).map (·.size) = some sz) (hpos : 0 < sz) (h : lk st.fr i = some .nils)
 (hf : lessL st'.fr ((st.purge t).put i (.own e sz [] t)).fr) (hb : lessL st'.bs (st.purge t).bs) (hm : lessL st'.ms st.ms) (hh : st'.hs = st.hs) : Weak P st st' := by
 obtain ⟨ti, h1, rfl⟩ := Option.map_eq_some_iff.1 hi
 exact (Weak.own0 i t e h1 hpos h).trans (Weak.less hf hb hm hh)

structure DtK (P : Program) (l : List AOper) (tb : List Nat) (p : Plan) (T : List (Nat × Nat)) (i : Nat) (K : St → Prop) (r : Option Nat) (st : St) : Prop where
 out : drun P l tb p (pendTo T i r) st K

structure DrK (P : Program) (l : List AOper) (tb : List Nat) (p : Plan) (T : List (Nat × Nat)) (K : St → Prop) (t : Option Nat) (st : St) : Prop where
 free : clear T t = true
 out : drun P l tb p T st K

structure DnK (P : Program) (l : List AOper) (tb : List Nat) (p : Plan) (T : List (Nat × Nat)) (dst : Option Nat) (K : St → Prop) (st : St) : Prop where
 out : drun P l tb p T (st.puto dst (.tup [])) K

def putN (dst : Option Nat) (K : Option Nat → St → Prop) (st : St) (d : D) : Prop := K none (st.puto dst d)

section
variable {P : Program} {e : Bool} {gd : Option (Nat × Bool)} {dst : Option Nat} {st : St} {K : St → Prop} {KT : Option Nat → St → Prop} {l : List AOper} {tb : List Nat} {p : Plan} {T : List (Nat × Nat)} {i : Nat}
theorem dtK_eq {r : Option Nat} : DtK P l tb p T i K r st = drun P l tb p (pendTo T i r) st K := propext ⟨fun h => h.out, fun h => ⟨h⟩⟩
theorem drK_eq {t : Option Nat} : DrK P l tb p T K t st = (clear T t = true ∧ drun P l tb p T st K) := propext ⟨fun h => ⟨h.free, h.out⟩, fun h => ⟨h.1, h.2⟩⟩
theorem dnK_eq : DnK P l tb p T dst K st = drun P l tb p T (st.puto dst (.tup [])) K := propext ⟨fun h => h.out, fun h => ⟨h⟩⟩
theorem dnK_fun : (fun st => drun P l tb p T (st.puto dst (.tup [])) K) = DnK P l tb p T dst K := funext fun _ => dnK_eq.symm
theorem dnK_mk {fr : List (Nat × D)} {bs : List (Nat × List D)} {ms : List (Nat × MO)} {hs : Hist} : DnK P l tb p T dst K ⟨fr, bs, ms, hs⟩ = drun P l tb p T (St.puto ⟨fr, bs, ms, hs⟩ dst (.tup [])) K := dnK_eq
theorem dtK_fun : (fun r st' => drun P l tb p (pendTo T i r) st' K) = DtK P l tb p T i K := funext fun _ => funext fun _ => dtK_eq.symm
theorem drK_fun : (fun t st' => clear T t = true ∧ drun P l tb p T st' K) = DrK P l tb p T K := funext fun _ => funext fun _ => drK_eq.symm
theorem putN_eq {d : D} : putN dst KT st d = KT none (st.puto dst d) := propext Iff.rfl
theorem dtK_mk {r : Option Nat} {fr : List (Nat × D)} {bs : List (Nat × List D)} {ms : List (Nat × MO)} {hs : Hist} : DtK P l tb p T i K r ⟨fr, bs, ms, hs⟩ = drun P l tb p (pendTo T i r) ⟨fr, bs, ms, hs⟩ K := dtK_eq
theorem drK_mk {t : Option Nat} {fr : List (Nat × D)} {bs : List (Nat × List D)} {ms : List (Nat × MO)} {hs : Hist} : DrK P l tb p T K t ⟨fr, bs, ms, hs⟩ = (clear T t = true ∧ drun P l tb p T ⟨fr, bs, ms, hs⟩ K) := drK_eq
theorem putN_mk {d : D} {fr : List (Nat × D)} {bs : List (Nat × List D)} {ms : List (Nat × MO)} {hs : Hist} : putN dst KT ⟨fr, bs, ms, hs⟩ d = KT none (St.puto ⟨fr, bs, ms, hs⟩ dst d) := putN_eq
theorem d_done : drun P l tb .done T st K = K st := propext Iff.rfl
theorem d_take : drun P l tb (.take i p) T st K = match l[i]? with
 | some o => guarded o st (fun st => tstep o st (DtK P l tb p T i K)) (DnK P l tb p T o.dst K)
 | none => False := by
 simp only [← dtK_fun, ← dnK_fun]; rfl
theorem d_alts {L : Alts} : drun P l tb (.alts L) T st K = dalts P l tb L T st K := propext Iff.rfl
structure LtK (P : Program) (l : List AOper) (tb : List Nat) (p : Plan) (T : List (Nat × Nat)) (js : List Nat) (K : St → Prop) (st : St) : Prop where
 out : drun P l tb p T (adds (js.map (lateOf l)) st) K
structure LrK (P : Program) (l : List AOper) (ns is : List Nat) (st : St) (t : Nat) (K : St → Prop) (d : D) : Prop where
 still : d.still = true
 out : lateRun P l ns is (st.put t d) K
theorem lrK_eq {ns is : List Nat} {t : Nat} {d : D} : LrK P l ns is st t K d = (d.still = true ∧ lateRun P l ns is (st.put t d) K) := propext ⟨fun h => ⟨h.still, h.out⟩, fun h => ⟨h.1, h.2⟩⟩
theorem lrK_fun {ns is : List Nat} {t : Nat} : (fun d : D => d.still = true ∧ lateRun P l ns is (st.put t d) K) = LrK P l ns is st t K := funext fun _ => lrK_eq.symm
theorem ltK_fun {js : List Nat} : (fun st' => drun P l tb p T (adds (js.map (lateOf l)) st') K) = LtK P l tb p T js K := funext fun _ => propext ⟨fun h => ⟨h⟩, fun h => h.out⟩
theorem ltK_mk {js : List Nat} {fr : List (Nat × D)} {bs : List (Nat × List D)} {ms : List (Nat × MO)} {hs : Hist} : LtK P l tb p T js K ⟨fr, bs, ms, hs⟩ = drun P l tb p T ⟨(js.map (lateOf l)).map (fun p => (p.1, .ptr p.1 0)) ++ fr, js.map (lateOf l) ++ bs, ms, hs⟩ K := propext ⟨fun h => h.out, fun h => ⟨h⟩⟩
theorem lateOf_eq {j : Nat} : lateOf l j = match l[j]? with
 | some ⟨none, some n, .alloc _ zs⟩ => (n, zs)
 | _ => (0, []) := rfl
theorem d_late {js is : List Nat} : drun P l tb (.late js is p) T st K = (lateB l js T st = true ∧ lateRun P l (js.map fun j => (lateOf l j).1) is st (LtK P l tb p T js K)) := by
 rw [← ltK_fun]; exact propext Iff.rfl
theorem lr_nil {ns : List Nat} : lateRun P l ns [] st K = K st := propext Iff.rfl
theorem lr_cons {ns is : List Nat} : lateRun P l ns (i :: is) st K = match l[i]? with
 | some ⟨none, some t, .call f args⟩ => ns.contains t = false ∧ PureW P f (args.map st.ev) st (LrK P l ns is st t K)
 | _ => False := by
 simp only [lateRun, lrK_fun]
 rfl

theorem d_nil : dalts P l tb .nil T st K = True := propext Iff.rfl
theorem d_cons {e : Bool} {L : Alts} : dalts P l tb (.cons i e p L) T st K = ((match l[i]? with
 | some o => guarded o st (fun st => xstep P e o st (DrK P l tb p (T.filter fun q => !waits tb i q.1) K)) (DnK P l tb p (T.filter fun q => !waits tb i q.1) o.dst K)
 | none => False) ∧ dalts P l tb L T st K) := by
 simp only [← drK_fun, ← dnK_fun]; rfl
theorem d_consF {L : Alts} : dalts P l tb (.consF i p L) T st K = ((match l[i]? with
 | some o => fstep P o st (DrK P l tb p (T.filter fun q => !waits tb i q.1) K)
 | none => False) ∧ dalts P l tb L T st K) := by
 simp only [← drK_fun]; rfl
theorem f_callv {x : Operand} {args : List Operand} {KT : Option Nat → St → Prop} : fstep P ⟨none, dst, .callv x args⟩ st KT = match st.ev x with
 | .fn f caps => ∃ t, WriteW P f (args.map st.ev ++ caps.map fun c => .ptr c.1 c.2) st t (putK dst (KT t))
 | _ => False := propext Iff.rfl
theorem f_call {f : FuncId} {args : List Operand} {KT : Option Nat → St → Prop} : fstep P ⟨none, dst, .call f args⟩ st KT = ∃ t, WriteW P f (args.map st.ev) st t (putK dst (KT t)) := propext Iff.rfl
theorem g_none {op : AOp} {yes no : St → Prop} : guarded ⟨none, dst, op⟩ st yes no = yes st := propext Iff.rfl
theorem g_yes {s : Nat} {op : AOp} {yes no : St → Prop} : guarded ⟨some (s, true), dst, op⟩ st yes no = match st.get s with
 | .pd (.raw (.bool c)) => Gif c (yes (st.know (.tmp s) true)) (no (st.know (.tmp s) false))
 | .tup [] => no st
 | _ => False := by
 exact boolt (fun _ => gif_and) (st.get s)
theorem g_no {s : Nat} {op : AOp} {yes no : St → Prop} : guarded ⟨some (s, false), dst, op⟩ st yes no = match st.get s with
 | .pd (.raw (.bool c)) => Gif c (no (st.know (.tmp s) true)) (yes (st.know (.tmp s) false))
 | .tup [] => no st
 | _ => False := by
 exact boolt (fun _ => propext ⟨fun h => ⟨h.2, h.1⟩, fun h => ⟨h.no, h.yes⟩⟩) (st.get s)
def putA (dst : Option Nat) (K : Option Nat → St → Prop) (d : D) (st : St) : Prop := K none (st.puto dst d)
theorem putA_eq {d : D} : putA dst KT d st = KT none (st.puto dst d) := propext Iff.rfl
theorem putA_mk {d : D} {fr : List (Nat × D)} {bs : List (Nat × List D)} {ms : List (Nat × MO)} {hs : Hist} : putA dst KT d ⟨fr, bs, ms, hs⟩ = KT none (St.puto ⟨fr, bs, ms, hs⟩ dst d) := putA_eq
def putU (dst : Option Nat) (K : Option Nat → St → Prop) (st : St) : Prop := K none (st.puto dst .any)
theorem putU_mk {fr : List (Nat × D)} {bs : List (Nat × List D)} {ms : List (Nat × MO)} {hs : Hist} : putU dst KT ⟨fr, bs, ms, hs⟩ = KT none (St.puto ⟨fr, bs, ms, hs⟩ dst .any) := propext Iff.rfl
theorem clear_none : clear T none = true := rfl
theorem clear_some {t : Nat} : clear T (some t) = T.all fun p => p.2 != t := rfl
theorem pendTo_none : pendTo T i none = T := rfl
theorem pendTo_some {n : Nat} : pendTo T i (some n) = (i, n) :: T := rfl
theorem x_call (f : FuncId) (args : List Operand) : xstep P e ⟨gd, dst, .call f args⟩ st KT = PureW P f (args.map st.ev) st (putN dst KT st) := propext Iff.rfl
theorem x_callv (x : Operand) (args : List Operand) : xstep P e ⟨gd, dst, .callv x args⟩ st KT = match st.ev x with
 | .fn f caps => PureW P f (args.map st.ev ++ caps.map fun c => .ptr c.1 c.2) st (putN dst KT st)
 | .pd (.raw (.func (.func f) first caps)) => e = true ∧ first = #[] ∧ caps = #[] ∧ CallW P f (args.map st.ev) st (putA dst KT)
 | _ => False := by
 simp only [xstep]
 cases st.ev x with
 | pd p =>
   cases p with
   | raw v => cases v <;> first | rfl | (rename_i t _ _; cases t <;> rfl)
   | _ => rfl
 | _ => rfl
theorem x_mv (x : Operand) : xstep P e ⟨gd, dst, .mv x⟩ st KT = astep P ⟨gd, dst, .mv x⟩ st (KT none) := propext Iff.rfl
theorem t_mv (x : Operand) : tstep ⟨gd, dst, .mv x⟩ st KT = match (AOp.mv x).ex dst st with
 | some (d, _) => KT none (st.puto dst d)
 | none => False := propext Iff.rfl
theorem x_build (zs : List D) (parts : List (Nat × Nat × Operand)) : xstep P e ⟨gd, dst, .build zs parts⟩ st KT = astep P ⟨gd, dst, .build zs parts⟩ st (KT none) := propext Iff.rfl
theorem t_build (zs : List D) (parts : List (Nat × Nat × Operand)) : tstep ⟨gd, dst, .build zs parts⟩ st KT = match (AOp.build zs parts).ex dst st with
 | some (d, _) => KT none (st.puto dst d)
 | none => False := propext Iff.rfl
theorem x_load (k : Option Nat) (x : Operand) : xstep P e ⟨gd, dst, .load k x⟩ st KT = astep P ⟨gd, dst, .load k x⟩ st (KT none) := propext Iff.rfl
theorem t_load (k : Option Nat) (x : Operand) : tstep ⟨gd, dst, .load k x⟩ st KT = match (AOp.load k x).ex dst st with
 | some (d, _) => KT (match st.ev x with | .ptr n _ => some n | _ => none) (st.puto dst d)
 | none => False := propext Iff.rfl
theorem x_ncheck (x : Operand) : xstep P e ⟨gd, dst, .ncheck x⟩ st KT = astep P ⟨gd, dst, .ncheck x⟩ st (KT none) := propext Iff.rfl
theorem t_ncheck (x : Operand) : tstep ⟨gd, dst, .ncheck x⟩ st KT = match (AOp.ncheck x).ex dst st with
 | some (d, _) => KT none (st.puto dst d)
 | none => False := propext Iff.rfl
theorem x_bin (op : BinOp) (x y : Operand) : xstep P e ⟨gd, dst, .bin op x y⟩ st KT = astep P ⟨gd, dst, .bin op x y⟩ st (KT none) := propext Iff.rfl
theorem t_bin (op : BinOp) (x y : Operand) : tstep ⟨gd, dst, .bin op x y⟩ st KT = match (AOp.bin op x y).ex dst st with
 | some (d, _) => KT none (st.puto dst d)
 | none => False := propext Iff.rfl
theorem x_binB (neg : Bool) (x y : Operand) : xstep P e ⟨gd, dst, .binB neg x y⟩ st KT = astep P ⟨gd, dst, .binB neg x y⟩ st (KT none) := propext Iff.rfl
theorem t_binB (neg : Bool) (x y : Operand) : tstep ⟨gd, dst, .binB neg x y⟩ st KT = match (AOp.binB neg x y).ex dst st with
 | some (d, _) => KT none (st.puto dst d)
 | none => False := propext Iff.rfl
theorem x_eqs (neg : Bool) (ks : List LK) (x y : Operand) : xstep P e ⟨gd, dst, .eqs neg ks x y⟩ st KT = astep P ⟨gd, dst, .eqs neg ks x y⟩ st (KT none) := propext Iff.rfl
theorem t_eqs (neg : Bool) (ks : List LK) (x y : Operand) : tstep ⟨gd, dst, .eqs neg ks x y⟩ st KT = match (AOp.eqs neg ks x y).ex dst st with
 | some (d, _) => KT none (st.puto dst d)
 | none => False := propext Iff.rfl
theorem x_un (op : UnOp) (x : Operand) : xstep P e ⟨gd, dst, .un op x⟩ st KT = astep P ⟨gd, dst, .un op x⟩ st (KT none) := propext Iff.rfl
theorem t_un (op : UnOp) (x : Operand) : tstep ⟨gd, dst, .un op x⟩ st KT = match (AOp.un op x).ex dst st with
 | some (d, _) => KT none (st.puto dst d)
 | none => False := propext Iff.rfl
theorem x_conv (k : IntKind) (x : Operand) : xstep P e ⟨gd, dst, .conv k x⟩ st KT = astep P ⟨gd, dst, .conv k x⟩ st (KT none) := propext Iff.rfl
theorem t_conv (k : IntKind) (x : Operand) : tstep ⟨gd, dst, .conv k x⟩ st KT = match (AOp.conv k x).ex dst st with
 | some (d, _) => KT none (st.puto dst d)
 | none => False := propext Iff.rfl
theorem x_fieldA (off : Nat) (x : Operand) : xstep P e ⟨gd, dst, .fieldA off x⟩ st KT = astep P ⟨gd, dst, .fieldA off x⟩ st (KT none) := propext Iff.rfl
theorem t_fieldA (off : Nat) (x : Operand) : tstep ⟨gd, dst, .fieldA off x⟩ st KT = match (AOp.fieldA off x).ex dst st with
 | some (d, _) => KT none (st.puto dst d)
 | none => False := propext Iff.rfl
theorem x_field (off : Nat) (k : Option Nat) (x : Operand) : xstep P e ⟨gd, dst, .field off k x⟩ st KT = astep P ⟨gd, dst, .field off k x⟩ st (KT none) := propext Iff.rfl
theorem t_field (off : Nat) (k : Option Nat) (x : Operand) : tstep ⟨gd, dst, .field off k x⟩ st KT = match (AOp.field off k x).ex dst st with
 | some (d, _) => KT none (st.puto dst d)
 | none => False := propext Iff.rfl
theorem x_idxA (sz : Nat) (x i : Operand) : xstep P e ⟨gd, dst, .idxA sz x i⟩ st KT = astep P ⟨gd, dst, .idxA sz x i⟩ st (KT none) := propext Iff.rfl
theorem t_idxA (sz : Nat) (x i : Operand) : tstep ⟨gd, dst, .idxA sz x i⟩ st KT = match (AOp.idxA sz x i).ex dst st with
 | some (d, _) => KT none (st.puto dst d)
 | none => False := propext Iff.rfl
theorem x_idxS (x i : Operand) : xstep P e ⟨gd, dst, .idxS x i⟩ st KT = astep P ⟨gd, dst, .idxS x i⟩ st (KT none) := propext Iff.rfl
theorem t_idxS (x i : Operand) : tstep ⟨gd, dst, .idxS x i⟩ st KT = match (AOp.idxS x i).ex dst st with
 | some (d, _) => KT none (st.puto dst d)
 | none => False := propext Iff.rfl
theorem x_extract (x : Operand) (j : Nat) : xstep P e ⟨gd, dst, .extract x j⟩ st KT = astep P ⟨gd, dst, .extract x j⟩ st (KT none) := propext Iff.rfl
theorem t_extract (x : Operand) (j : Nat) : tstep ⟨gd, dst, .extract x j⟩ st KT = match (AOp.extract x j).ex dst st with
 | some (d, _) => KT none (st.puto dst d)
 | none => False := propext Iff.rfl
theorem x_mkfn (f : FuncId) (caps : List Operand) : xstep P e ⟨gd, dst, .mkfn f caps⟩ st KT = astep P ⟨gd, dst, .mkfn f caps⟩ st (KT none) := propext Iff.rfl
theorem t_mkfn (f : FuncId) (caps : List Operand) : tstep ⟨gd, dst, .mkfn f caps⟩ st KT = match (AOp.mkfn f caps).ex dst st with
 | some (d, _) => KT none (st.puto dst d)
 | none => False := propext Iff.rfl
theorem x_mkif (t : TypeId) (x : Operand) : xstep P e ⟨gd, dst, .mkif t x⟩ st KT = astep P ⟨gd, dst, .mkif t x⟩ st (KT none) := propext Iff.rfl
theorem t_mkif (t : TypeId) (x : Operand) : tstep ⟨gd, dst, .mkif t x⟩ st KT = match (AOp.mkif t x).ex dst st with
 | some (d, _) => KT none (st.puto dst d)
 | none => False := propext Iff.rfl
theorem x_len (x : Operand) (str : Bool) : xstep P e ⟨gd, dst, .len x str⟩ st KT = astep P ⟨gd, dst, .len x str⟩ st (KT none) := propext Iff.rfl
theorem t_len (x : Operand) (str : Bool) : tstep ⟨gd, dst, .len x str⟩ st KT = match (AOp.len x str).ex dst st with
 | some (d, _) => KT none (st.puto dst d)
 | none => False := propext Iff.rfl
theorem x_minmax (mx : Bool) (x y : Operand) : xstep P e ⟨gd, dst, .minmax mx x y⟩ st KT = astep P ⟨gd, dst, .minmax mx x y⟩ st (KT none) := propext Iff.rfl
theorem t_minmax (mx : Bool) (x y : Operand) : tstep ⟨gd, dst, .minmax mx x y⟩ st KT = match (AOp.minmax mx x y).ex dst st with
 | some (d, _) => KT none (st.puto dst d)
 | none => False := propext Iff.rfl
theorem x_slcS (x : Operand) (lo hi : Option Operand) : xstep P e ⟨gd, dst, .slcS x lo hi⟩ st KT = astep P ⟨gd, dst, .slcS x lo hi⟩ st (KT none) := propext Iff.rfl
theorem t_slcS (x : Operand) (lo hi : Option Operand) : tstep ⟨gd, dst, .slcS x lo hi⟩ st KT = match (AOp.slcS x lo hi).ex dst st with
 | some (d, _) => KT none (st.puto dst d)
 | none => False := propext Iff.rfl
theorem x_nilS (neg : Bool) (x : Operand) : xstep P e ⟨gd, dst, .nilS neg x⟩ st KT = astep P ⟨gd, dst, .nilS neg x⟩ st (KT none) := propext Iff.rfl
theorem x_slcF (sz : Nat) (x hi mx : Operand) : xstep P e ⟨gd, dst, .slcF sz x hi mx⟩ st KT = astep P ⟨gd, dst, .slcF sz x hi mx⟩ st (KT none) := propext Iff.rfl
theorem t_slcF (sz : Nat) (x hi mx : Operand) : tstep ⟨gd, dst, .slcF sz x hi mx⟩ st KT = match (AOp.slcF sz x hi mx).ex dst st with
 | some (d, _) => KT none (st.puto dst d)
 | none => False := propext Iff.rfl
theorem x_slcL (sz : Nat) (x : Operand) (lo hi : Option Operand) : xstep P e ⟨gd, dst, .slcL sz x lo hi⟩ st KT = astep P ⟨gd, dst, .slcL sz x lo hi⟩ st (KT none) := propext Iff.rfl
theorem t_slcL (sz : Nat) (x : Operand) (lo hi : Option Operand) : tstep ⟨gd, dst, .slcL sz x lo hi⟩ st KT = match (AOp.slcL sz x lo hi).ex dst st with
 | some (d, _) => KT none (st.puto dst d)
 | none => False := propext Iff.rfl
theorem x_pick (c x y : Operand) : xstep P e ⟨gd, dst, .pick c x y⟩ st KT = ystep P ⟨gd, dst, .pick c x y⟩ st (KT none) := propext Iff.rfl
theorem x_alloc (ty : TypeId) (zs : List D) : xstep P e ⟨gd, dst, .alloc ty zs⟩ st KT = astep P ⟨gd, dst, .alloc ty zs⟩ st (KT dst) := propext Iff.rfl
theorem x_box (ty : TypeId) (x : Operand) : xstep P e ⟨gd, dst, .box ty x⟩ st KT = astep P ⟨gd, dst, .box ty x⟩ st (KT dst) := propext Iff.rfl
theorem x_bslice (ty : TypeId) (sz : Nat) (parts : List Operand) : xstep P e ⟨gd, dst, .bslice ty sz parts⟩ st KT = astep P ⟨gd, dst, .bslice ty sz parts⟩ st (KT none) := propext Iff.rfl
theorem x_store (sz : Nat) (x y : Operand) : xstep P e ⟨gd, dst, .store sz x y⟩ st KT = match st.ev x with
 | .oelt t j cs => updP e t j sz cs.length st (st.ev y) (putU dst KT)
 | d => astep P ⟨gd, dst, .store sz x y⟩ st (KT (match d with | .ptr n _ => some n | _ => none)) := by
 simp only [xstep]
 cases h : st.ev x <;> simp only [AOp.touch, h] <;> rfl
theorem x_append (ty : TypeId) (sz bytes : Nat) (x y : Operand) : xstep P e ⟨gd, dst, .append ty sz bytes x y⟩ st KT = astep P ⟨gd, dst, .append ty sz bytes x y⟩ st (KT none) := propext Iff.rfl
theorem x_mkmap : xstep P e ⟨gd, dst, .mkmap⟩ st KT = astep P ⟨gd, dst, .mkmap⟩ st (KT dst) := propext Iff.rfl
theorem x_mget (ks : List LK) (z : Value) (x i : Operand) : xstep P e ⟨gd, dst, .mget ks z x i⟩ st KT = astep P ⟨gd, dst, .mget ks z x i⟩ st (KT none) := propext Iff.rfl
theorem x_mset (ks : List LK) (x i v : Operand) : xstep P e ⟨gd, dst, .mset ks x i v⟩ st KT = astep P ⟨gd, dst, .mset ks x i v⟩ st (KT (match st.ev x with | .mp n => some n | _ => none)) := propext Iff.rfl
theorem x_mentry (ks : List LK) (z : Value) (x i : Operand) : xstep P e ⟨gd, dst, .mentry ks z x i⟩ st KT = astep P ⟨gd, dst, .mentry ks z x i⟩ st (KT (match st.ev x with | .mp n => some n | _ => none)) := propext Iff.rfl
theorem x_mstore (x s v : Operand) : xstep P e ⟨gd, dst, .mstore x s v⟩ st KT = astep P ⟨gd, dst, .mstore x s v⟩ st (KT (match st.ev x with | .mp n => some n | _ => none)) := propext Iff.rfl
theorem x_srange (x : Operand) : xstep P e ⟨gd, dst, .srange x⟩ st KT = astep P ⟨gd, dst, .srange x⟩ st (KT dst) := propext Iff.rfl
theorem x_snext (x : Operand) : xstep P e ⟨gd, dst, .snext x⟩ st KT = astep P ⟨gd, dst, .snext x⟩ st (KT (match st.ev x with | .ptr n _ => some n | _ => none)) := propext Iff.rfl
theorem x_isnil (neg : Bool) (x : Operand) : xstep P e ⟨gd, dst, .isnil neg x⟩ st KT = astep P ⟨gd, dst, .isnil neg x⟩ st (KT none) := propext Iff.rfl
theorem x_tassert (t : TypeId) (z : Value) (x : Operand) : xstep P e ⟨gd, dst, .tassert t z x⟩ st KT = astep P ⟨gd, dst, .tassert t z x⟩ st (KT none) := propext Iff.rfl
theorem x_bstr (x : Operand) : xstep P e ⟨gd, dst, .bstr x⟩ st KT = astep P ⟨gd, dst, .bstr x⟩ st (KT none) := propext Iff.rfl
theorem t_isnil (neg : Bool) (x : Operand) : tstep ⟨gd, dst, .isnil neg x⟩ st KT = match (AOp.isnil neg x).ex dst st with
 | some (d, _) => KT none (st.puto dst d)
 | none => False := propext Iff.rfl
theorem t_tassert (t : TypeId) (z : Value) (x : Operand) : tstep ⟨gd, dst, .tassert t z x⟩ st KT = match (AOp.tassert t z x).ex dst st with
 | some (d, _) => KT none (st.puto dst d)
 | none => False := propext Iff.rfl
theorem t_bstr (x : Operand) : tstep ⟨gd, dst, .bstr x⟩ st KT = match (AOp.bstr x).ex dst st with
 | some (d, _) => KT none (st.puto dst d)
 | none => False := propext Iff.rfl
theorem t_mget (ks : List LK) (z : Value) (x i : Operand) : tstep ⟨gd, dst, .mget ks z x i⟩ st KT = match (AOp.mget ks z x i).ex dst st with
 | some (d, _) => KT (match st.ev x with | .mp n => some n | _ => none) (st.puto dst d)
 | none => False := propext Iff.rfl
theorem t_pick (c x y : Operand) : tstep ⟨gd, dst, .pick c x y⟩ st KT = match st.ev c with
 | .pd (.raw (.bool b)) => Gif b (KT none ((st.know c true).puto dst (st.ev x))) (KT none ((st.know c false).puto dst (st.ev y)))
 | _ => False := by
 exact boolm (fun _ => gif_and) (st.ev c)
end

theorem PureW.mono {P : Program} {f : FuncId} {args : List D} {st : St} {R R' : D → Prop} (h : PureW P f args st R) (hr : ∀ d, R d → R' d) : PureW P f args st R' :=
 ⟨h.1, fun C g a w vs hc hs hv => (h.2 C g a w vs hc hs hv).mono fun _ _ ⟨v, d, g', e, h1, h2⟩ => ⟨v, d, g', e, hr d h1, h2⟩⟩

theorem Pure.callX {P : Program} {f : FuncId} {args as' : List D} {R : D → Prop} (he : Enters P f) (h : Pure P f as' R) (st : St) (ha : D.pubs args = as') (hc : D.closeds as' = true) {K : D → Prop} (hk : ∀ d, R d → K d) : PureW P f args st K :=
 (h.pureW he st ha hc).mono hk

theorem PureB.callX {P : Program} {f : FuncId} {args args0 : List D} {bs0 : List (Nat × List D)} {R : D → Prop} (he : Enters P f) (h : PureB P f args0 bs0 R) (st : St) (ren : List (Nat × Nat)) (hok : renOK ren = true)
 (ha : D.sees ren args = args0) (hb : seeBs ren st.bs ren = bs0) {K : D → Prop} (hk : ∀ d, R d → K d) : PureW P f args st K :=
 (h.pureW he st ren hok ha hb).mono hk


def Ctx.call (P : Program) (w : World) (g : Gh) (N : Nat) (pin : Bool) : Ctx :=
 ⟨P, w, g.Fz, g.S, N, fun i => decide (i < N) && (!pin || decide (i < 100000)), fun n => if pin = true ∧ 500000 ≤ n then g.bx n else none, fun h _ _ => h = .no, fun _ => False,
  fun i h => by
   simp only [Bool.and_eq_true, decide_eq_true_eq, Bool.or_eq_true, Bool.not_eq_true'] at h
   refine ⟨h.1, if_neg fun hp => ?_⟩
   rcases h.2 with h2 | h2
   ·rw [h2] at hp; cases hp.1
   ·omega,
  fun n _ h2 => if_neg fun hp => by omega,
  fun _ h => h.elim, fun _ _ _ _ _ _ h _ _ _ => h, fun _ _ (h : Hist.solo = .no) => by cases h⟩

theorem Mem.toN {P : Program} {w : World} {g0 : Gh} {N : Nat} {pin : Bool} {bs : List (Nat × List D)} {ms : List (Nat × MO)} {g : Gh} {w' : World} (m : Mem (.call P w g0 N pin) bs ms g w') (N' : Nat) : Mem (.call P w g0 N' pin) bs ms g w' where
 os := m.os
 tape := m.tape
 output := m.output
 hsz := m.hsz
 old := m.old
 keep := m.keep
 newfz := m.newfz
 fzlt := m.fzlt
 bxs := m.bxs
 mps := m.mps
 bxok := m.bxok
 bxinj := m.bxinj
 tks := m.tks
 tkinj := m.tkinj
 bxtk := m.bxtk
 dfs := m.dfs
 dnd := m.dnd
 bxdf := m.bxdf
 bxdm := m.bxdm

theorem AC.dstOK_mono {N : Nat} {p q : Nat → Bool} (hpq : ∀ i, p i = true → q i = true) : ∀ {x : AC}, x.dstOK N p = true → x.dstOK N q = true
 | .skip, _ => rfl
 | .ret, _ => rfl
 | .exit _, _ => rfl
 | .seq x y, h => by
   simp only [AC.dstOK, Bool.and_eq_true] at h ⊢
   exact ⟨AC.dstOK_mono hpq h.1, AC.dstOK_mono hpq h.2⟩
 | .cond _ x y, h => by
   simp only [AC.dstOK, Bool.and_eq_true] at h ⊢
   exact ⟨AC.dstOK_mono hpq h.1, AC.dstOK_mono hpq h.2⟩
 | .block _ x, h => by simp only [AC.dstOK] at h ⊢; exact AC.dstOK_mono hpq h
 | .loop x, h => by simp only [AC.dstOK] at h ⊢; exact AC.dstOK_mono hpq h
 | .region l kp, h => by
   simp only [AC.dstOK, Bool.and_eq_true, List.all_eq_true] at h ⊢
   refine ⟨fun o ho => ?_, h.2⟩
   have := h.1 o ho
   unfold Go.Proofs.YtjgpdjakehoofaaGreatDoor.dstOK at this ⊢
   split at this <;> first | exact hpq _ this | rfl
 | .draw l _ _ kp, h => by
   simp only [AC.dstOK, Bool.and_eq_true, List.all_eq_true] at h ⊢
   refine ⟨fun o ho => ?_, h.2⟩
   have := h.1 o ho
   unfold Go.Proofs.YtjgpdjakehoofaaGreatDoor.dstOK at this ⊢
   split at this <;> first | exact hpq _ this | rfl
 | .rangeF .., h => by simp only [AC.dstOK] at h ⊢; exact h
 | .rangeB .., h => by simp only [AC.dstOK] at h ⊢; exact h
 | .label _, _ => rfl
 | .goto _, _ => rfl
 | .scope _ x y, h => by
   simp only [AC.dstOK, Bool.and_eq_true] at h ⊢
   exact ⟨AC.dstOK_mono hpq h.1, AC.dstOK_mono hpq h.2⟩
 | .bad, _ => rfl

mutual
def D.ren (kn : Bool) (ren tn : List (Nat × Nat)) : D → D
 | .ptr n o => match lk ren n with
   | some m => .ptr m o
   | none => .any
 | .fn f caps => match seeCaps ren caps with
   | some cs => .fn f cs
   | none => .any
 | .own e sz els t => match lk tn t with
   | some s => .own e sz els s
   | none => .pd (.slice els)
 | .full sz els => if kn then .full sz els else .pd (.slice els)
 | .nils => if kn then .nils else .pd (.slice [])
 | .mp _ => .any
 | .agg ds => .agg (D.rens kn ren tn ds)
 | .tup ds => .tup (D.rens kn ren tn ds)
 | .pd x => .pd x
 | .eptr cs => .eptr cs
 | .oelt t j cs => match lk tn t with
   | some s => .oelt s j cs
   | none => .eptr cs
 | .any => .any
def D.rens (kn : Bool) (ren tn : List (Nat × Nat)) : List D → List D
 | [] => []
 | d :: ds => D.ren kn ren tn d :: D.rens kn ren tn ds
end

mutual
def D.sel (kn kt : Nat → Bool) : D → D
 | .ptr n o => if kn n then .ptr n o else .any
 | .fn f caps => if caps.all (fun c => kn c.1) then .fn f caps else .any
 | .own e sz els t => if kt t then .own e sz els t else .pd (.slice els)
 | .full sz els => .full sz els
 | .mp n => if kn n then .mp n else .any
 | .agg ds => .agg (D.sels kn kt ds)
 | .tup ds => .tup (D.sels kn kt ds)
 | .pd x => .pd x
 | .nils => .nils
 | .eptr cs => .eptr cs
 | .oelt t j cs => if kt t then .oelt t j cs else .eptr cs
 | .any => .any
def D.sels (kn kt : Nat → Bool) : List D → List D
 | [] => []
 | d :: ds => D.sel kn kt d :: D.sels kn kt ds
end

section
variable {g g' : Gh} {w w' : World}

section
variable {kn : Bool} {ren tn : List (Nat × Nat)}
mutual
theorem Rep.ren (hr : ∀ n m b, lk ren n = some m → g.bx n = some b → g'.bx m = some b) (ht : ∀ t s x, lk tn t = some s → g.tk t = some x → g'.tk s = some x) (hx : Ex g.Fz w g'.Fz w') : ∀ {d : D} {v : Value}, Rep g w d v → Rep g' w' (d.ren kn ren tn) v
 | .pd _, _, h => by simp only [Rep, D.ren] at h ⊢; exact h.mono hx
 | .nils, _, h => by
   simp only [Rep, D.ren] at h ⊢
   subst h
   split
   ·simp only [Rep]
   ·simp only [Rep]; exact .empty _ _
 | .own .., _, h => by
   simp only [Rep, D.ren] at h ⊢
   split
   ·rename_i s hs
    simp only [Rep]; exact ⟨h.1.mono hx, ht _ _ _ hs h.2.1, h.2.2⟩
   ·simp only [Rep]; exact h.1.mono hx
 | .full .., _, h => by
   simp only [Rep, D.ren] at h ⊢
   split
   ·simp only [Rep]; exact ⟨h.1.mono hx, h.2⟩
   ·simp only [Rep]; exact h.1.mono hx
 | .ptr n o, _, h => by
   simp only [Rep, D.ren] at h ⊢
   split
   ·rename_i m hm
    simp only [Rep]; obtain ⟨b, hb, e⟩ := h; exact ⟨b, hr _ _ _ hm hb, e⟩
   ·simp only [Rep]
 | .eptr _, _, h => by
   simp only [Rep, D.ren] at h ⊢
   obtain ⟨b, off, vs, e, hp, hc⟩ := h
   exact ⟨b, off, vs, e, hp.mono hx, fun i u hu => ⟨(hx _ _ (hc i u hu).2).2.trans (hc i u hu).1, (hx _ _ (hc i u hu).2).1⟩⟩
 | .oelt _ _ _, _, h => by
   simp only [Rep, D.ren] at h ⊢
   obtain ⟨⟨b, off, vs, e, hp, hc⟩, b', len, cap, et, h1, h2⟩ := h
   split
   ·rename_i htk
    simp only [Rep]
    exact ⟨⟨b, off, vs, e, hp.mono hx, fun i u hu => ⟨(hx _ _ (hc i u hu).2).2.trans (hc i u hu).1, (hx _ _ (hc i u hu).2).1⟩⟩, b', len, cap, et, ht _ _ _ htk h1, h2⟩
   ·simp only [Rep]
    exact ⟨b, off, vs, e, hp.mono hx, fun i u hu => ⟨(hx _ _ (hc i u hu).2).2.trans (hc i u hu).1, (hx _ _ (hc i u hu).2).1⟩⟩
 | .fn f caps, _, h => by
   simp only [Rep, D.ren] at h ⊢
   split
   ·rename_i cs hcs
    simp only [Rep]; obtain ⟨cv, e, hc⟩ := h; exact ⟨cv, e, seeCaps_caps hr hcs hc⟩
   ·simp only [Rep]
 | .mp _, _, h => by simp only [D.ren, Rep]
 | .agg _, _, h => by simp only [Rep, D.ren] at h ⊢; obtain ⟨vs, e, hs⟩ := h; exact ⟨vs, e, Reps.ren hr ht hx hs⟩
 | .tup _, _, h => by simp only [Rep, D.ren] at h ⊢; obtain ⟨vs, e, hs⟩ := h; exact ⟨vs, e, Reps.ren hr ht hx hs⟩
 | .any, _, _ => by simp only [D.ren, Rep]
theorem Reps.ren (hr : ∀ n m b, lk ren n = some m → g.bx n = some b → g'.bx m = some b) (ht : ∀ t s x, lk tn t = some s → g.tk t = some x → g'.tk s = some x) (hx : Ex g.Fz w g'.Fz w') : ∀ {ds : List D} {vs : List Value}, Reps g w ds vs → Reps g' w' (D.rens kn ren tn ds) vs
 | [], _, h => by simpa only [D.rens, Reps] using h
 | _ :: _, _, h => by simp only [Reps, D.rens] at h ⊢; obtain ⟨v, vs', e, hv, hs⟩ := h; exact ⟨v, vs', e, Rep.ren hr ht hx hv, Reps.ren hr ht hx hs⟩
end
end

theorem Caps.sel {kn : Nat → Bool} (hb : ∀ n b, kn n = true → g.bx n = some b → g'.bx n = some b) : ∀ {cs : List (Nat × Nat)} {vs : List Value}, cs.all (fun c => kn c.1) = true → Caps g cs vs → Caps g' cs vs
 | [], _, _, h => h
 | c :: cs, _, hn, ⟨b, vs', e, h, hs⟩ => by
   simp only [List.all_cons, Bool.and_eq_true] at hn
   exact ⟨b, vs', e, hb _ _ hn.1 h, Caps.sel hb hn.2 hs⟩

section
variable {kn kt : Nat → Bool}
mutual
theorem Rep.sel (hb : ∀ n b, kn n = true → g.bx n = some b → g'.bx n = some b) (ht : ∀ t x, kt t = true → g.tk t = some x → g'.tk t = some x) (hx : Ex g.Fz w g'.Fz w') : ∀ {d : D} {v : Value}, Rep g w d v → Rep g' w' (d.sel kn kt) v
 | .pd _, _, h => by simp only [Rep, D.sel] at h ⊢; exact h.mono hx
 | .nils, _, h => by simp only [Rep, D.sel] at h ⊢; exact h
 | .own .., _, h => by
   simp only [Rep, D.sel] at h ⊢
   split
   ·rename_i hs
    simp only [Rep]; exact ⟨h.1.mono hx, ht _ _ hs h.2.1, h.2.2⟩
   ·simp only [Rep]; exact h.1.mono hx
 | .full .., _, h => by simp only [Rep, D.sel] at h ⊢; exact ⟨h.1.mono hx, h.2⟩
 | .ptr n o, _, h => by
   simp only [Rep, D.sel] at h ⊢
   split
   ·rename_i hm
    simp only [Rep]; obtain ⟨b, hb', e⟩ := h; exact ⟨b, hb _ _ hm hb', e⟩
   ·simp only [Rep]
 | .eptr _, _, h => by
   simp only [Rep, D.sel] at h ⊢
   obtain ⟨b, off, vs, e, hp, hc⟩ := h
   exact ⟨b, off, vs, e, hp.mono hx, fun i u hu => ⟨(hx _ _ (hc i u hu).2).2.trans (hc i u hu).1, (hx _ _ (hc i u hu).2).1⟩⟩
 | .oelt _ _ _, _, h => by
   simp only [Rep, D.sel] at h ⊢
   obtain ⟨⟨b, off, vs, e, hp, hc⟩, b', len, cap, et, h1, h2⟩ := h
   split
   ·rename_i htk
    simp only [Rep]
    exact ⟨⟨b, off, vs, e, hp.mono hx, fun i u hu => ⟨(hx _ _ (hc i u hu).2).2.trans (hc i u hu).1, (hx _ _ (hc i u hu).2).1⟩⟩, b', len, cap, et, ht _ _ htk h1, h2⟩
   ·simp only [Rep]
    exact ⟨b, off, vs, e, hp.mono hx, fun i u hu => ⟨(hx _ _ (hc i u hu).2).2.trans (hc i u hu).1, (hx _ _ (hc i u hu).2).1⟩⟩
 | .fn f caps, _, h => by
   simp only [Rep, D.sel] at h ⊢
   split
   ·rename_i hcs
    simp only [Rep]; obtain ⟨cv, e, hc⟩ := h; exact ⟨cv, e, hc.sel hb hcs⟩
   ·simp only [Rep]
 | .mp n, _, h => by
   simp only [Rep, D.sel] at h ⊢
   split
   ·rename_i hm
    simp only [Rep]; obtain ⟨b, hb', e⟩ := h; exact ⟨b, hb _ _ hm hb', e⟩
   ·simp only [Rep]
 | .agg _, _, h => by simp only [Rep, D.sel] at h ⊢; obtain ⟨vs, e, hs⟩ := h; exact ⟨vs, e, Reps.sel hb ht hx hs⟩
 | .tup _, _, h => by simp only [Rep, D.sel] at h ⊢; obtain ⟨vs, e, hs⟩ := h; exact ⟨vs, e, Reps.sel hb ht hx hs⟩
 | .any, _, _ => by simp only [D.sel, Rep]
theorem Reps.sel (hb : ∀ n b, kn n = true → g.bx n = some b → g'.bx n = some b) (ht : ∀ t x, kt t = true → g.tk t = some x → g'.tk t = some x) (hx : Ex g.Fz w g'.Fz w') : ∀ {ds : List D} {vs : List Value}, Reps g w ds vs → Reps g' w' (D.sels kn kt ds) vs
 | [], _, h => by simpa only [D.sels, Reps] using h
 | _ :: _, _, h => by simp only [Reps, D.sels] at h ⊢; obtain ⟨v, vs', e, hv, hs⟩ := h; exact ⟨v, vs', e, Rep.sel hb ht hx hv, Reps.sel hb ht hx hs⟩
end
end
end

def renBs (kn : Bool) (ren tn : List (Nat × Nat)) (bs : List (Nat × List D)) : List (Nat × Nat) → List (Nat × List D)
 | [] => []
 | (n, m) :: r => match lk bs n with
   | some ds => (m, D.rens kn ren tn ds) :: renBs kn ren tn bs r
   | none => renBs kn ren tn bs r

theorem renBs_lk {kn : Bool} {ren tn : List (Nat × Nat)} {bs : List (Nat × List D)} : ∀ {l : List (Nat × Nat)} {m : Nat} {ds : List D}, lk (renBs kn ren tn bs l) m = some ds → ∃ n ds0, (n, m) ∈ l ∧ lk bs n = some ds0 ∧ ds = D.rens kn ren tn ds0
 | [], _, _, h => by simp [renBs, lk] at h
 | (n, m') :: r, m, ds, h => by
   simp only [renBs] at h
   split at h
   ·rename_i ds0 h0
    simp only [lk] at h
    split at h
    ·rename_i e
     subst e
     cases h
     exact ⟨n, ds0, by simp, h0, rfl⟩
    ·obtain ⟨n', d', h1, h2, h3⟩ := renBs_lk h
     exact ⟨n', d', List.mem_cons_of_mem _ h1, h2, h3⟩
   ·obtain ⟨n', d', h1, h2, h3⟩ := renBs_lk h
    exact ⟨n', d', List.mem_cons_of_mem _ h1, h2, h3⟩

def Full (P : Program) (f : FuncId) (args : List D) (bs : List (Nat × List D)) (pin : Bool) (R : D → List (Nat × List D) → Prop) : Prop :=
 ∀ (g0 : Gh) (w : World) (vs : List Value), g0.df = [] → (∀ n b, g0.bx n = some b → 500000 ≤ n) → (∀ N, Mem (.call P w g0 N pin) bs [] g0 w) → Reps g0 w args vs →
   Calls P f vs.toArray w fun e w' => ∃ v d bs' g', e = .returned v ∧ R d bs' ∧ Mem (.call P w g0 0 pin) bs' [] g' w' ∧ g'.df = [] ∧ (pin = true → ∀ n b, g0.bx n = some b → g'.bx n = some b) ∧ Rep g' w' d v

def fullK (P : Program) (fn : Func) (R : D → List (Nat × List D) → Prop) : Exit → St → Prop
 | .normal, st => ∃ ds bs', resD P st fn.results.toList = some ds ∧ lessL bs' st.bs ∧ R (oneD ds) bs'
 | .ret, st => ∃ ds bs', resD P st fn.results.toList = some ds ∧ lessL bs' st.bs ∧ R (oneD ds) bs'
 | _, _ => False

theorem full_of_run {P : Program} (hm : P.follows .mixedOrders = true) (an : Ann) {f : FuncId} {fn : Func} {c : Code} {ac : AC} (hf : P.funcs[f]? = some fn) (hb : fn.body = some c) (hc : compC P an c = some ac)
 (hd : ac.dstOK fn.ntmps (fun i => decide (i < fn.ntmps)) = true) {args : List D} {bs : List (Nat × List D)} {pin : Bool} {R : D → List (Nat × List D) → Prop} (hN : args.length ≤ fn.ntmps) (hsz : fn.ntmps ≤ 100000)
 (hp : ac.noRange = true ∨ pin = false) (hrun : run P ac ⟨frOf 0 args, bs, [], .no⟩ (fullK P fn R)) : Full P f args bs pin R := by
 intro g0 w vs hdf hnm hmem hr
 have hinit : SR (.call P w g0 fn.ntmps pin) ⟨frOf 0 args, bs, [], .no⟩ g0 { tmps := vs.toArray ++ Array.replicate (fn.ntmps - vs.toArray.size) undef, defers := [] } w := {
  defers := by rw [hdf]; rfl
  size := by
   have := hr.length
   have e : (vs.toArray ++ Array.replicate (fn.ntmps - vs.toArray.size) undef).size = fn.ntmps := by simp; omega
   exact e
  rep := fun i d hd => by
   obtain ⟨_, h2⟩ := frOf_lk args 0 i d hd
   simp only [Nat.sub_zero] at h2
   obtain ⟨v, h3, h4⟩ := hr.get i d h2
   have hi := (List.getElem?_eq_some_iff.1 h2).1
   refine ⟨by show i < fn.ntmps; omega, ?_⟩
   have hiv := (List.getElem?_eq_some_iff.1 h3).1
   simp only [Array.getD_eq_getD_getElem?]
   rw [Array.getElem?_append_left (by simpa using hiv), List.getElem?_toArray, h3]
   exact h4
  mem := hmem _
  x := rfl
  fix := fun n b h => by
   have h' : (if pin = true ∧ 500000 ≤ n then g0.bx n else none) = some b := h
   split at h'
   ·exact h'
   ·cases h' }
 have hdst : ac.dstOK (Ctx.call P w g0 fn.ntmps pin).N (Ctx.call P w g0 fn.ntmps pin).wr = true := AC.dstOK_mono (fun i h => by
  simp only [decide_eq_true_eq] at h
  show (decide (i < fn.ntmps) && (!pin || decide (i < 100000))) = true
  have h2 : i < 100000 := by omega
  simp [h, h2]) hd
 have hnr : ac.noRange = true ∨ (none = (none : Option Nat) ∧ (Ctx.call P w g0 fn.ntmps pin).plain) := hp.imp_right fun e => ⟨rfl, fun _ _ _ _ _ h => h, fun n => by
  show (if pin = true ∧ 500000 ≤ n then g0.bx n else none) = none
  rw [e]; simp⟩
 refine (callsIn_wide (n := 0)).1 (callsIn_of_wp_marks (F := FW none) hf hb trivial (wpIn_mono (run_inR an c (.call P w g0 fn.ntmps pin) hm ⟨fun _ _ _ _ _ _ _ _ h => by cases h⟩ none 0 ac hnr hc hdst _ _ hrun g0 _ w hinit) ?_) rfl)
 have key : ∀ (a' : Act) (w' : World), (∃ st g, SR (.call P w g0 fn.ntmps pin) st g a' w' ∧ ∃ ds bs', resD P st fn.results.toList = some ds ∧ lessL bs' st.bs ∧ R (oneD ds) bs') →
  LeavesInM (FW none) 0 P fn a'.tmps (fun e w' => ∃ v d bs' g', e = .returned v ∧ R d bs' ∧ Mem (.call P w g0 0 pin) bs' [] g' w' ∧ g'.df = [] ∧ (pin = true → ∀ n b, g0.bx n = some b → g'.bx n = some b) ∧ Rep g' w' d v) a'.defers .returning w' := by
  rintro a' w' ⟨st, g, hs, ds, bs', h1, h2, h3⟩
  refine leave_marks (C := .call P w g0 fn.ntmps pin) g.df g a' w' rfl hs fun g' a2 w2 e hdf' hs' => ?_
  obtain ⟨v, h4, h5⟩ := results_run hs' fn ds h1
  rw [e] at h4
  refine ⟨v, h4, v, oneD ds, bs', g', rfl, h3, ?_, hdf', fun hp n b hn => hs'.fix n b ?_, h5⟩
  ·exact Mem.toN { hs'.mem with bxs := fun n es hn => hs'.mem.bxs n es (lessL_lk h2 n es hn), mps := fun n es hn => by simp [lk] at hn } 0
  ·show (if pin = true ∧ 500000 ≤ n then g0.bx n else none) = some b
   rw [if_pos ⟨hp, hnm n b hn⟩]; exact hn
 intro e a' w' h
 cases e <;> simp only [Post] at h
 ·exact key a' w' h
 ·obtain ⟨_, _, _, h⟩ := h; exact h.elim
 ·obtain ⟨_, _, _, h⟩ := h; exact h.elim
 ·exact key a' w' h


def backN (pin : Bool) (ren back : List (Nat × Nat)) : List (Nat × Nat) := back ++ (if pin then ren.map fun p => (p.2, p.1) else [])

def lostN (pin : Bool) (ren back : List (Nat × Nat)) (n : Nat) : Bool := back.any (fun p => p.2 == n) || (!pin && ren.any (fun p => p.1 == n))
def lostT (tn tback : List (Nat × Nat)) (t : Nat) : Bool := tback.any (fun p => p.2 == t) || tn.any (fun p => p.1 == t)
def wrN (ren : List (Nat × Nat)) (n : Nat) : Bool := ren.any fun p => p.1 == n && decide (p.2 < 1000000)

def St.merge (st : St) (pin : Bool) (ren tn back tback : List (Nat × Nat)) (bs' : List (Nat × List D)) : St where
 fr := st.fr.map fun p => (p.1, D.sel (fun n => !lostN pin ren back n) (fun t => !lostT tn tback t) p.2)
 bs := renBs true (backN pin ren back) tback bs' (backN pin ren back) ++
  (st.bs.filter fun p => !lostN pin ren back p.1 && !wrN ren p.1).map fun p => (p.1, D.sels (fun n => !lostN pin ren back n) (fun t => !lostT tn tback t) p.2)
 ms := st.ms.filter fun p => !lostN pin ren back p.1 && !ren.any (fun q => q.1 == p.1)
 hs := st.hs

def fullOK (pin : Bool) (bs : List (Nat × List D)) (ren tn back tback : List (Nat × Nat)) : Bool :=
 decide ((ren.map (·.1)).Nodup) && decide ((ren.map (·.2)).Nodup) && decide ((tn.map (·.1)).Nodup) && decide ((tn.map (·.2)).Nodup) &&
 decide ((back.map (·.1)).Nodup) && decide ((back.map (·.2)).Nodup) && decide ((tback.map (·.1)).Nodup) && decide ((tback.map (·.2)).Nodup) &&
 ren.all (fun p => decide (500000 ≤ p.2) && (decide (1000000 ≤ p.2) || decide (p.1 < 1000000)) && (lk bs p.1).isSome && (pin || (decide (200000 ≤ p.1) && decide (p.1 < 400000))) && !back.any (fun q => q.2 == p.1)) &&
 back.all (fun p => decide (p.1 < 500000) && decide (200000 ≤ p.2) && decide (p.2 < 400000))

theorem lkr_none {ren : List (Nat × Nat)} {m : Nat} (h : lkr ren m = none) : ren.any (fun p => p.2 == m) = false := by
 induction ren with
 | nil => rfl
 | cons p r ih =>
   obtain ⟨a, b⟩ := p
   simp only [lkr] at h
   split at h
   ·cases h
   ·rename_i hne
    simp only [List.any_cons, ih h, Bool.or_false, beq_eq_false_iff_ne]
    exact fun e => hne e.symm

theorem lk_append {α : Type} : ∀ (l r : List (Nat × α)) (i : Nat), lk (l ++ r) i = (lk l i).or (lk r i)
 | [], r, i => by simp [lk]
 | (j, d) :: l, r, i => by
   simp only [List.cons_append, lk]
   split
   ·rfl
   ·exact lk_append l r i

theorem any_mem {ren : List (Nat × Nat)} {n : Nat} : ren.any (fun p => p.1 == n) = true ↔ ∃ m, (n, m) ∈ ren := by
 simp only [List.any_eq_true, beq_iff_eq]
 exact ⟨fun ⟨p, h1, h2⟩ => ⟨p.2, by rw [← h2]; exact h1⟩, fun ⟨m, h⟩ => ⟨_, h, rfl⟩⟩

def Gh.seen (g : Gh) (ren tn : List (Nat × Nat)) : Gh := ⟨fun m => (lkr ren m).bind g.bx, fun s => (lkr tn s).bind g.tk, g.Fz, []⟩

def Gh.merged (g g' : Gh) (pin : Bool) (ren tn back tback : List (Nat × Nat)) : Gh :=
 ⟨fun n => match lkr back n with
  | some m => g'.bx m
  | none => if (!pin && ren.any (fun p => p.1 == n)) = true then none else g.bx n,
  fun t => match lkr tback t with
   | some s => g'.tk s
   | none => if tn.any (fun p => p.1 == t) = true then none else g.tk t, g'.Fz, g.df⟩

structure FullOK (pin : Bool) (bs : List (Nat × List D)) (ren tn back tback : List (Nat × Nat)) : Prop where
 r1 : (ren.map (·.1)).Nodup
 r2 : (ren.map (·.2)).Nodup
 t1 : (tn.map (·.1)).Nodup
 t2 : (tn.map (·.2)).Nodup
 b1 : (back.map (·.1)).Nodup
 b2 : (back.map (·.2)).Nodup
 u1 : (tback.map (·.1)).Nodup
 u2 : (tback.map (·.2)).Nodup
 rn : ∀ n m, (n, m) ∈ ren → 500000 ≤ m ∧ (1000000 ≤ m ∨ n < 1000000) ∧ (lk bs n).isSome = true ∧ (pin = true ∨ (200000 ≤ n ∧ n < 400000)) ∧ back.any (fun q => q.2 == n) = false
 bk : ∀ m n, (m, n) ∈ back → m < 500000 ∧ 200000 ≤ n ∧ n < 400000

theorem fullOK_spec {pin : Bool} {bs : List (Nat × List D)} {ren tn back tback : List (Nat × Nat)} (h : fullOK pin bs ren tn back tback = true) : FullOK pin bs ren tn back tback := by
 unfold fullOK at h
 rw [Bool.and_eq_true, Bool.and_eq_true, Bool.and_eq_true, Bool.and_eq_true, Bool.and_eq_true, Bool.and_eq_true, Bool.and_eq_true, Bool.and_eq_true, Bool.and_eq_true] at h
 obtain ⟨⟨⟨⟨⟨⟨⟨⟨⟨h1, h2⟩, h3⟩, h4⟩, h5⟩, h6⟩, h7⟩, h8⟩, h9⟩, h10⟩ := h
 refine ⟨of_decide_eq_true h1, of_decide_eq_true h2, of_decide_eq_true h3, of_decide_eq_true h4, of_decide_eq_true h5, of_decide_eq_true h6, of_decide_eq_true h7, of_decide_eq_true h8, fun n m hm => ?_, fun m n hm => ?_⟩
 ·have := List.all_eq_true.1 h9 _ hm
  simp only [Bool.and_eq_true, Bool.or_eq_true, decide_eq_true_eq, Bool.not_eq_true'] at this
  obtain ⟨⟨⟨⟨k1, k2⟩, k3⟩, k4⟩, k5⟩ := this
  exact ⟨k1, k2, k3, k4, k5⟩
 ·have := List.all_eq_true.1 h10 _ hm
  simp only [Bool.and_eq_true, decide_eq_true_eq] at this
  exact ⟨this.1.1, this.1.2, this.2⟩

section
variable {C : Ctx} {st : St} {g : Gh} {a : Act} {w : World} {ren tn back tback : List (Nat × Nat)} {pin : Bool}

theorem seen_bx {m b : Nat} (h : (g.seen ren tn).bx m = some b) : ∃ n, (n, m) ∈ ren ∧ g.bx n = some b := by
 obtain ⟨n, h2, h3⟩ := Option.bind_eq_some_iff.1 h
 exact ⟨n, lkr_mem h2, h3⟩

theorem seen_tk {s : Nat} {x : Value × TypeId} (h : (g.seen ren tn).tk s = some x) : ∃ t, (t, s) ∈ tn ∧ g.tk t = some x := by
 obtain ⟨n, h2, h3⟩ := Option.bind_eq_some_iff.1 h
 exact ⟨n, lkr_mem h2, h3⟩

theorem seen_mem {pq : Bool} (m : Mem C st.bs st.ms g w) (ok : FullOK pin st.bs ren tn back tback) (kn : Bool) (N : Nat) : Mem (.call C.P w (g.seen ren tn) N pq) (renBs kn ren tn st.bs ren) [] (g.seen ren tn) w where
 os := rfl
 tape := rfl
 output := rfl
 hsz := Nat.le_refl _
 old := fun _ _ _ _ => rfl
 keep := Ex.refl _ _
 newfz := fun _ _ h _ => .inl h
 fzlt := m.fzlt
 bxs := fun k ds hk => by
  obtain ⟨n, ds0, h1, h2, rfl⟩ := renBs_lk hk
  obtain ⟨b, cs, t, h3, h4, h5⟩ := m.bxs n ds0 h2
  refine ⟨b, cs, t, ?_, h4, Reps.ren (g := g) (g' := g.seen ren tn) (fun n k b h1 h2 => ?_) (fun t s x h1 h2 => ?_) (Ex.refl _ _) h5⟩
  ·simp [Gh.seen, mem_lkr ok.r2 h1, h3]
  ·simp [Gh.seen, mem_lkr ok.r2 (lk_mem h1), h2]
  ·simp [Gh.seen, mem_lkr ok.t2 (lk_mem h1), h2]
 mps := fun n ds h => by simp [lk] at h
 bxok := fun k b hk => by
  obtain ⟨n, h1, h2⟩ := seen_bx hk
  refine ⟨(m.bxok n b h2).1, ?_, (m.bxok n b h2).2.2⟩
  by_cases hk' : k < 1000000
  ·exact .inr (.inl (.inl ⟨k, hk', hk⟩))
  ·exact .inr (.inr (by omega))
 bxinj := fun k j b hk hj => by
  obtain ⟨n, h1, h2⟩ := seen_bx hk
  obtain ⟨n', h3, h4⟩ := seen_bx hj
  have := m.bxinj n n' b h2 h4
  subst this
  exact mem_fst ok.r1 h1 h3
 tks := fun t v e h => by
  obtain ⟨n, h1, h2⟩ := seen_tk h
  obtain ⟨i, k, xs, k1, k2, k3, k4⟩ := m.tks n v e h2
  exact ⟨i, k, xs, k1, k2, k3, fun b hb => ⟨.inr (.inr ⟨t, v, e, h, hb⟩), (k4 b hb).2⟩⟩
 tkinj := fun t s v u e f b ht hs hv hu => by
  obtain ⟨n, h1, h2⟩ := seen_tk ht
  obtain ⟨n', h3, h4⟩ := seen_tk hs
  have := m.tkinj n n' v u e f b h2 h4 hv hu
  subst this
  exact mem_fst ok.t1 h1 h3
 bxtk := fun n t b v e hn ht => by
  obtain ⟨n', h1, h2⟩ := seen_bx hn
  obtain ⟨t', h3, h4⟩ := seen_tk ht
  exact m.bxtk n' t' b v e h2 h4
 dfs := fun D hD => by cases hD
 dnd := List.nodup_nil
 bxdf := fun n D hD => by cases hD
 bxdm := fun n b _ h => h

theorem SR.merge (hs : SR C st g a w) (ok : FullOK pin st.bs ren tn back tback) {w' : World} {bs' : List (Nat × List D)} {g' : Gh} (m' : Mem (.call C.P w (g.seen ren tn) 0 pin) bs' [] g' w')
 (hpin : pin = true → ∀ n b, (g.seen ren tn).bx n = some b → g'.bx n = some b) :
 SR C (st.merge pin ren tn back tback bs') (g.merged g' pin ren tn back tback) a w' ∧ (∀ d v, Rep g' w' d v → Rep (g.merged g' pin ren tn back tback) w' (d.ren true (backN pin ren back) tback) v) ∧
  Ex g.Fz w (g.merged g' pin ren tn back tback).Fz w' ∧ ∀ n b, lostN pin ren back n = false → wrN ren n = false → g.bx n = some b → (g.merged g' pin ren tn back tback).bx n = some b ∧ w'.heap[b]? = w.heap[b]? := by
 have m := hs.mem
 obtain ⟨SB, hSB⟩ : ∃ SB : Nat → Prop, SB = fun b => (∃ n k, (n, k) ∈ ren ∧ k < 1000000 ∧ g.bx n = some b) ∨ (∃ t s v e, (t, s) ∈ tn ∧ g.tk t = some (v, e) ∧ v.ownBlock = some b) := ⟨_, rfl⟩
 have hS : ∀ b, (g.seen ren tn).S b → SB b := fun b hb => by
  rw [hSB]
  rcases hb with ⟨k, h1, h2⟩ | ⟨t, v, e, h1, h2⟩
  ·obtain ⟨n, h3, h4⟩ := seen_bx h2
   exact .inl ⟨n, k, h3, h1, h4⟩
  ·obtain ⟨t', h3, h4⟩ := seen_tk h1
   exact .inr ⟨t', t, v, e, h3, h4, h2⟩
 have hSw : ∀ b, SB b → (C.w0.heap.size ≤ b ∨ C.S b) ∧ g.has C.w0.heap.size b := fun b hb => by
  rw [hSB] at hb
  rcases hb with ⟨n, k, h1, h2, h3⟩ | ⟨t, s, v, e, h1, h2, h3⟩
  ·have hn : n < 1000000 := by rcases (ok.rn n k h1).2.1 with h | h <;> omega
   refine ⟨?_, .inl ⟨n, .inl hn, h3⟩⟩
   rcases (m.bxok n b h3).2.1 with h | h | h
   ·exact .inl h
   ·exact .inr h
   ·omega
  ·obtain ⟨_, _, _, _, _, _, h4⟩ := m.tks t v e h2
   exact ⟨(h4 b h3).1, .inr (.inl ⟨t, v, e, h2, h3⟩)⟩
 -- a block that was handed to nobody
 have hold : ∀ b, b < w.heap.size → ¬ SB b → w'.heap[b]? = w.heap[b]? := fun b hb hn => m'.old b hb (fun h => hn (hS b h)) (fun h => h)
 have holdfz : ∀ b o, b < w.heap.size → ¬ SB b → g'.Fz b o → g.Fz b o := fun b o hb hn hf => by
  rcases m'.newfz b o hf hb with h | h
  ·exact h
  ·exact absurd (hS b h) hn
 have hcbx : ∀ k b, k < 1000000 → g'.bx k = some b → w.heap.size ≤ b ∨ SB b := fun k b hk hb => by
  rcases (m'.bxok k b hb).2.1 with h | h | h
  ·exact .inl h
  ·exact .inr (hS b h)
  ·omega
 have hctk : ∀ t v e b, g'.tk t = some (v, e) → v.ownBlock = some b → w.heap.size ≤ b ∨ SB b := fun t v e b ht hv => by
  obtain ⟨_, _, _, _, _, _, h4⟩ := m'.tks t v e ht
  rcases (h4 b hv).1 with h | h
  ·exact .inl h
  ·exact .inr (hS b h)
 obtain ⟨gN, hgN⟩ : ∃ gN, gN = g.merged g' pin ren tn back tback := ⟨_, rfl⟩
 have hFz : gN.Fz = g'.Fz := by rw [hgN]; rfl
 have hdf : gN.df = g.df := by rw [hgN]; rfl
 -- names
 have hbx : ∀ n b, gN.bx n = some b → (∃ k, (k, n) ∈ back ∧ g'.bx k = some b ∧ k < 500000) ∨ (lostN pin ren back n = false ∧ g.bx n = some b ∧ ((∃ k, (n, k) ∈ ren ∧ 500000 ≤ k ∧ k < 1000000 ∧ g'.bx k = some b) ∨ ¬ SB b)) := by
  intro n b h
  rw [hgN] at h
  simp only [Gh.merged] at h
  split at h
  ·rename_i k hk
   exact .inl ⟨k, lkr_mem hk, h, (ok.bk k n (lkr_mem hk)).1⟩
  ·rename_i hk
   split at h
   ·cases h
   ·rename_i hl
    have hl' : (!pin && ren.any (fun p => p.1 == n)) = false := Bool.eq_false_iff.2 hl
    refine .inr ⟨by rw [lostN, lkr_none hk, hl']; rfl, h, ?_⟩
    by_cases hn : ∃ k, (n, k) ∈ ren ∧ k < 1000000
    ·obtain ⟨k, hk1, hk2⟩ := hn
     have hp : pin = true := by
      rw [any_mem.2 ⟨k, hk1⟩] at hl'
      cases pin
      ·simp at hl'
      ·rfl
     refine .inl ⟨k, hk1, (ok.rn n k hk1).1, hk2, hpin hp k b ?_⟩
     simp [Gh.seen, mem_lkr ok.r2 hk1, h]
    ·refine .inr fun hsb => ?_
     rw [hSB] at hsb
     rcases hsb with ⟨n', k, h1, h2, h3⟩ | ⟨t, s, v, e, h1, h2, h3⟩
     ·rw [m.bxinj _ _ _ h3 h] at h1
      exact hn ⟨k, h1, h2⟩
     ·exact m.bxtk n t b v e h h2 h3
 have hbxkeep : ∀ n b, lostN pin ren back n = false → g.bx n = some b → gN.bx n = some b := by
  intro n b hl h
  simp only [lostN, Bool.or_eq_false_iff] at hl
  rw [hgN]
  simp only [Gh.merged]
  split
  ·rename_i k hk
   have := List.any_eq_false.1 hl.1 _ (lkr_mem hk)
   simp at this
  ·rw [hl.2]; simpa using h
 have hbxnew : ∀ k n b, (k, n) ∈ back → g'.bx k = some b → gN.bx n = some b := by
  intro k n b hk h
  rw [hgN]
  simp only [Gh.merged, mem_lkr ok.b2 hk]
  exact h
 -- rows of one's own
 have htk : ∀ t v e, gN.tk t = some (v, e) → (∃ s, (s, t) ∈ tback ∧ g'.tk s = some (v, e)) ∨ (g.tk t = some (v, e) ∧ ∀ b, v.ownBlock = some b → ¬ SB b) := by
  intro t v e h
  rw [hgN] at h
  simp only [Gh.merged] at h
  split at h
  ·rename_i s hs'
   exact .inl ⟨s, lkr_mem hs', h⟩
  ·split at h
   ·cases h
   ·rename_i hl
    refine .inr ⟨h, fun b hb hsb => ?_⟩
    rw [hSB] at hsb
    rcases hsb with ⟨n', k, h1, h2, h3⟩ | ⟨t', s, u, f, h1, h2, h3⟩
    ·exact m.bxtk n' t b v e h3 h hb
    ·rw [m.tkinj _ _ _ _ _ _ b h2 h h3 hb] at h1
     exact hl (any_mem.2 ⟨s, h1⟩)
 have htkkeep : ∀ t x, lostT tn tback t = false → g.tk t = some x → gN.tk t = some x := by
  intro t x hl h
  simp only [lostT, Bool.or_eq_false_iff] at hl
  rw [hgN]
  simp only [Gh.merged]
  split
  ·rename_i s hs'
   have := List.any_eq_false.1 hl.1 _ (lkr_mem hs')
   simp at this
  ·rw [hl.2]; simpa using h
 have htknew : ∀ s t x, (s, t) ∈ tback → g'.tk s = some x → gN.tk t = some x := by
  intro s t x hk h
  rw [hgN]
  simp only [Gh.merged, mem_lkr ok.u2 hk]
  exact h
 have hex : Ex g.Fz w gN.Fz w' := by rw [hFz]; exact m'.keep
 -- back from the callee's names
 have hback : ∀ k n b, lk (backN pin ren back) k = some n → g'.bx k = some b → gN.bx n = some b := by
  intro k n b hk h
  rcases List.mem_append.1 (lk_mem hk) with h1 | h1
  ·exact hbxnew k n b h1 h
  ·split at h1
   ·rename_i hp
    obtain ⟨⟨n', k'⟩, h2, h3⟩ := List.mem_map.1 h1
    have e1 : k' = k := congrArg Prod.fst h3
    have e2 : n' = n := congrArg Prod.snd h3
    rw [e1, e2] at h2
    obtain ⟨q1, q2, q3, q4, q5⟩ := ok.rn n k h2
    obtain ⟨ds, hds⟩ := Option.isSome_iff_exists.1 q3
    obtain ⟨b0, _, _, hb0, _⟩ := m.bxs n ds hds
    have e1 : (g.seen ren tn).bx k = some b0 := by simp [Gh.seen, mem_lkr ok.r2 h2, hb0]
    have e2 := hpin hp k b0 e1
    rw [h] at e2
    cases e2
    refine hbxkeep n b ?_ hb0
    rw [lostN, q5, hp]; rfl
   ·cases h1
 have hrepb : ∀ d v, Rep g' w' d v → Rep gN w' (d.ren true (backN pin ren back) tback) v := fun d v h =>
  Rep.ren (g := g') (g' := gN) hback (fun t s x h1 h2 => htknew t s x (lk_mem h1) h2) (by rw [hFz]; exact Ex.refl _ _) h
 have hrepsb : ∀ ds vs, Reps g' w' ds vs → Reps gN w' (D.rens true (backN pin ren back) tback ds) vs := fun d v h =>
  Reps.ren (g := g') (g' := gN) hback (fun t s x h1 h2 => htknew t s x (lk_mem h1) h2) (by rw [hFz]; exact Ex.refl _ _) h
 have hk1 : ∀ n b, (!lostN pin ren back n) = true → g.bx n = some b → gN.bx n = some b := fun n b h => hbxkeep n b (by simpa using h)
 have hk2 : ∀ t x, (!lostT tn tback t) = true → g.tk t = some x → gN.tk t = some x := fun n b h => htkkeep n b (by simpa using h)
 have hSdf : ∀ D ∈ g.df, ¬ SB D := fun D hD hsb => by
  rw [hSB] at hsb
  rcases hsb with ⟨n', k, h1, h2, h3⟩ | ⟨t', s, u, f, h1, h2, h3⟩
  ·exact m.bxdf n' D hD h3
  ·obtain ⟨i, n, xs, _, _, h5, _⟩ := m.tks t' u f h2
   rcases h5.2 with ⟨h4, _⟩ | ⟨gb, cap, cur, h4, _, hgg, _⟩
   ·rw [h4] at h3; cases h3
   ·rw [h4] at h3; cases h3
    rw [(m.dfs _ hD).2] at hgg; cases hgg
 have hdlt : ∀ D ∈ g.df, D < w.heap.size := fun D hD => (Array.getElem?_eq_some_iff.1 (m.dfs D hD).2).1
 have hmem : Mem C (st.merge pin ren tn back tback bs').bs (st.merge pin ren tn back tback bs').ms gN w' := {
  os := m'.os.trans m.os
  tape := m'.tape.trans m.tape
  output := m'.output.trans m.output
  hsz := Nat.le_trans m.hsz m'.hsz
  old := fun k h1 hns hd => (hold k (Nat.lt_of_lt_of_le h1 m.hsz) (fun h => by
   rcases (hSw k h).1 with h | h
   ·omega
   ·exact hns h)).trans (m.old k h1 hns hd)
  keep := m.keep.trans hex
  newfz := fun b o hf hlt => by
   rw [hFz] at hf
   rcases m'.newfz b o hf (Nat.lt_of_lt_of_le hlt m.hsz) with h | h
   ·exact m.newfz b o h hlt
   ·rcases (hSw b (hS b h)).1 with h | h
    ·omega
    ·exact .inr h
  fzlt := fun b o hf => m'.fzlt b o (by rw [← hFz]; exact hf)
  bxs := fun n ds hn => by
   simp only [St.merge] at hn
   rw [lk_append] at hn
   rcases Option.or_eq_some_iff.1 hn with hn | ⟨_, hn⟩
   ·obtain ⟨k, ds0, h1, h2, rfl⟩ := renBs_lk hn
    obtain ⟨b, cs, t, h3, h4, h5⟩ := m'.bxs k ds0 h2
    refine ⟨b, cs, t, ?_, h4, hrepsb _ _ h5⟩
    rcases List.mem_append.1 h1 with h6 | h6
    ·exact hbxnew k n b h6 h3
    ·split at h6
     ·rename_i hp
      obtain ⟨⟨n', k'⟩, h7, h8⟩ := List.mem_map.1 h6
      have e1 : k' = k := congrArg Prod.fst h8
      have e2 : n' = n := congrArg Prod.snd h8
      rw [e1, e2] at h7
      obtain ⟨q1, q2, q3, q4, q5⟩ := ok.rn n k h7
      obtain ⟨ds', hds⟩ := Option.isSome_iff_exists.1 q3
      obtain ⟨b0, _, _, hb0, _⟩ := m.bxs n ds' hds
      have e1 : (g.seen ren tn).bx k = some b0 := by simp [Gh.seen, mem_lkr ok.r2 h7, hb0]
      have e2 := hpin hp k b0 e1
      rw [h3] at e2
      cases e2
      refine hbxkeep n b ?_ hb0
      rw [lostN, q5, hp]; rfl
     ·cases h6
   ·rw [lk_map, lk_filter (fun j => !lostN pin ren back j && !wrN ren j)] at hn
    obtain ⟨ds0, h0, rfl⟩ := Option.map_eq_some_iff.1 hn
    split at h0
    ·rename_i hl
     simp only [Bool.and_eq_true, Bool.not_eq_true'] at hl
     obtain ⟨b, cs, t, h3, h4, h5⟩ := m.bxs n ds0 h0
     have hnb : ¬ SB b := fun hsb => by
      rw [hSB] at hsb
      rcases hsb with ⟨n', k, h6, h7, h8⟩ | ⟨t', s, u, f, h6, h7, h8⟩
      ·rw [m.bxinj _ _ _ h8 h3] at h6
       have := List.any_eq_false.1 hl.2 _ h6
       simp [h7] at this
      ·exact m.bxtk n t' b u f h3 h7 h8
     exact ⟨b, cs, t, hbxkeep n b hl.1 h3, (hold b (m.bxok n b h3).1 hnb).trans h4, Reps.sel (g := g) (g' := gN) hk1 hk2 hex h5⟩
    ·cases h0
  mps := fun n es hn => by
   simp only [St.merge] at hn
   rw [lk_filter (fun j => !lostN pin ren back j && !ren.any (fun q => q.1 == j))] at hn
   split at hn
   ·rename_i hl
    simp only [Bool.and_eq_true, Bool.not_eq_true'] at hl
    obtain ⟨b, en, h3, h4, h5⟩ := m.mps n es hn
    have hnb : ¬ SB b := fun hsb => by
     rw [hSB] at hsb
     rcases hsb with ⟨n', k, h6, h7, h8⟩ | ⟨t', s, u, f, h6, h7, h8⟩
     ·rw [m.bxinj _ _ _ h8 h3] at h6
      rw [any_mem.2 ⟨k, h6⟩] at hl
      cases hl.2
     ·exact m.bxtk n t' b u f h3 h7 h8
    exact ⟨b, en, hbxkeep n b hl.1 h3, (hold b (m.bxok n b h3).1 hnb).trans h4, h5⟩
   ·cases hn
  bxok := fun n b hb => by
   rcases hbx n b hb with ⟨k, h1, h2, h3⟩ | ⟨_, h2, ⟨k, h3, h4, h5, h6⟩ | h3⟩
   ·refine ⟨(m'.bxok k b h2).1, ?_, fun o hf => (m'.bxok k b h2).2.2 o (by rw [← hFz]; exact hf)⟩
    rcases hcbx k b (by omega) h2 with h | h
    ·exact .inl (Nat.le_trans m.hsz h)
    ·rcases (hSw b h).1 with h | h
     ·exact .inl h
     ·exact .inr (.inl h)
   ·exact ⟨(m'.bxok k b h6).1, (m.bxok n b h2).2.1, fun o hf => (m'.bxok k b h6).2.2 o (by rw [← hFz]; exact hf)⟩
   ·exact ⟨Nat.lt_of_lt_of_le (m.bxok n b h2).1 m'.hsz, (m.bxok n b h2).2.1, fun o hf => (m.bxok n b h2).2.2 o (holdfz b o (m.bxok n b h2).1 h3 (by rw [← hFz]; exact hf))⟩
  bxinj := fun n j b hn hj => by
   rcases hbx n b hn with ⟨k, h1, h2, h3⟩ | ⟨_, h2, h3⟩ <;> rcases hbx j b hj with ⟨k', h1', h2', h3'⟩ | ⟨_, h2', h3'⟩
   ·have := m'.bxinj _ _ _ h2 h2'
    subst this
    exact mem_fst ok.b1 h1 h1'
   ·rcases h3' with ⟨k', _, h5, _, h6⟩ | h5
    ·have := m'.bxinj _ _ _ h2 h6; omega
    ·rcases hcbx k b (by omega) h2 with h | h
     ·have := (m.bxok j b h2').1; omega
     ·exact absurd h h5
   ·rcases h3 with ⟨k, _, h5, _, h6⟩ | h5
    ·have := m'.bxinj _ _ _ h2' h6; omega
    ·rcases hcbx k' b (by omega) h2' with h | h
     ·have := (m.bxok n b h2).1; omega
     ·exact absurd h h5
   ·exact m.bxinj _ _ _ h2 h2'
  tks := fun t v e ht => by
   rcases htk t v e ht with ⟨s, h1, h2⟩ | ⟨h1, h2⟩
   ·obtain ⟨i, n, xs, k1, k2, k3, k4⟩ := m'.tks s v e h2
    refine ⟨i, n, xs, k1, k2, k3, fun b hb => ⟨?_, fun o hf => (k4 b hb).2 o (by rw [← hFz]; exact hf)⟩⟩
    rcases hctk s v e b h2 hb with h | h
    ·exact .inl (Nat.le_trans m.hsz h)
    ·exact (hSw b h).1
   ·obtain ⟨i, n, xs, k1, k2, k3, k4⟩ := m.tks t v e h1
    exact ⟨i, n, xs, k1, k2, ownsRow_block k3 (fun b hb hlt => hold b hlt (h2 b hb)), fun b hb => ⟨(k4 b hb).1, fun o hf => (k4 b hb).2 o (holdfz b o (k3.lt b hb).2 (h2 b hb) (by rw [← hFz]; exact hf))⟩⟩
  tkinj := fun t s v u e f b ht hs' hv hu => by
   rcases htk t v e ht with ⟨k, h1, h2⟩ | ⟨h1, h2⟩ <;> rcases htk s u f hs' with ⟨k', h1', h2'⟩ | ⟨h1', h2'⟩
   ·have := m'.tkinj _ _ _ _ _ _ b h2 h2' hv hu
    subst this
    exact mem_fst ok.u1 h1 h1'
   ·rcases hctk k v e b h2 hv with h | h
    ·obtain ⟨_, _, _, _, _, k3, _⟩ := m.tks s u f h1'
     have := (k3.lt b hu).2; omega
    ·exact absurd h (h2' b hu)
   ·rcases hctk k' u f b h2' hu with h | h
    ·obtain ⟨_, _, _, _, _, k3, _⟩ := m.tks t v e h1
     have := (k3.lt b hv).2; omega
    ·exact absurd h (h2 b hv)
   ·exact m.tkinj _ _ _ _ _ _ b h1 h1' hv hu
  bxtk := fun n t b v e hn ht hv => by
   rcases hbx n b hn with ⟨k, h1, h2, h3⟩ | ⟨_, h2, h3⟩ <;> rcases htk t v e ht with ⟨s, h1', h2'⟩ | ⟨h1', h2'⟩
   ·exact m'.bxtk k s b v e h2 h2' hv
   ·rcases hcbx k b (by omega) h2 with h | h
    ·obtain ⟨_, _, _, _, _, k3, _⟩ := m.tks t v e h1'
     have := (k3.lt b hv).2; omega
    ·exact h2' b hv h
   ·rcases h3 with ⟨k, _, _, _, h6⟩ | h5
    ·exact m'.bxtk k s b v e h6 h2' hv
    ·rcases hctk s v e b h2' hv with h | h
     ·have := (m.bxok n b h2).1; omega
     ·exact h5 h
   ·exact m.bxtk n t b v e h2 h1' hv
  dfs := fun D hD => by
   rw [hdf] at hD
   exact ⟨(m.dfs D hD).1, (hold D (hdlt D hD) (hSdf D hD)).trans (m.dfs D hD).2⟩
  dnd := by rw [hdf]; exact m.dnd
  bxdf := fun n D hD hb => by
   rw [hdf] at hD
   rcases hbx n D hb with ⟨k, h1, h2, h3⟩ | ⟨_, h2, h3⟩
   ·rcases hcbx k D (by omega) h2 with h | h
    ·have := hdlt D hD; omega
    ·exact hSdf D hD h
   ·exact m.bxdf n D hD h2
  bxdm := fun n b hb hd => by
   rcases hbx n b hb with ⟨k, h1, h2, h3⟩ | ⟨_, h2, h3⟩
   ·obtain ⟨d1, d2, _⟩ := C.dmok b hd
    rcases hcbx k b (by omega) h2 with h | h
    ·have := m.hsz; omega
    ·rcases (hSw b h).1 with h | h
     ·omega
     ·exact d2 h
   ·exact m.bxdm n b h2 hd }
 have hX : C.X st.hs (gN.has C.w0.heap.size) w' := C.Xok _ _ _ SB _ _ hs.x ⟨m'.os, m'.tape, m'.output, m'.hsz, hold⟩ (fun k hk => (hSw k hk).2) (fun k hk => by
  rcases hk with ⟨n, h1, h2⟩ | ⟨t, v, e, h1, h2⟩ | hk | ⟨h1, o, ho⟩
  ·rcases hbx n k h2 with ⟨j, h3, h4, h5⟩ | ⟨_, h4, _⟩
   ·rcases hcbx j k (by omega) h4 with h | h
    ·exact .inr h
    ·exact .inl (hSw k h).2
   ·exact .inl (.inl ⟨n, h1, h4⟩)
  ·rcases htk t v e h1 with ⟨s, h3, h4⟩ | ⟨h4, _⟩
   ·rcases hctk s v e k h4 h2 with h | h
    ·exact .inr h
    ·exact .inl (hSw k h).2
   ·exact .inl (.inr (.inl ⟨t, v, e, h4, h2⟩))
  ·rw [hdf] at hk
   exact .inl (.inr (.inr (.inl hk)))
  ·rcases Nat.lt_or_ge k w.heap.size with hlt | hge
   ·rw [hFz] at ho
    rcases m'.newfz k o ho hlt with h | h
    ·exact .inl (.inr (.inr (.inr ⟨h1, o, h⟩)))
    ·exact .inl (hSw k (hS k h)).2
   ·exact .inr hge)
 rw [← hgN]
 refine ⟨⟨by rw [hdf]; exact hs.defers, hs.size, fun i d hd => ?_, hmem, hX, fun n b hn => ?_⟩, hrepb, hex, fun n b h1 h2 h3 => ⟨hbxkeep n b h1 h3, hold b (m.bxok n b h3).1 fun hsb => ?_⟩⟩
 ·simp only [St.merge] at hd
  rw [lk_map] at hd
  obtain ⟨d0, h0, rfl⟩ := Option.map_eq_some_iff.1 hd
  obtain ⟨h3, h4⟩ := hs.rep i d0 h0
  exact ⟨h3, Rep.sel (g := g) (g' := gN) hk1 hk2 hex h4⟩
 ·refine hbxkeep n b ?_ (hs.fix n b hn)
  have hnr : ¬ (200000 ≤ n ∧ n < 400000) := fun h => by rw [C.nmok n h.1 h.2] at hn; cases hn
  have h1 : back.any (fun p => p.2 == n) = false := List.any_eq_false.2 fun p hp => by
   have := (ok.bk p.1 p.2 hp).2
   simp only [beq_iff_eq]
   intro e
   exact hnr (e ▸ this)
  rw [lostN, h1, Bool.false_or]
  cases pin with
  | true => rfl
  | false =>
    simp only [Bool.not_false, Bool.true_and]
    refine List.any_eq_false.2 fun p hp => ?_
    have := (ok.rn p.1 p.2 hp).2.2.2.1
    simp only [beq_iff_eq]
    intro e
    rcases this with h | h
    ·cases h
    ·exact hnr (e ▸ h)
 ·rw [hSB] at hsb
  rcases hsb with ⟨n', k, h6, h7, h8⟩ | ⟨t', s, u, f, h6, h7, h8⟩
  ·rw [m.bxinj _ _ _ h8 h3] at h6
   have := List.any_eq_false.1 h2 _ h6
   simp [h7] at this
  ·exact m.bxtk n t' b u f h3 h7 h8

theorem Full.callW {P : Program} {f : FuncId} {args as' : List D} {bs0 : List (Nat × List D)} {pin : Bool} {R : D → List (Nat × List D) → Prop} (he : Enters P f) (h : Full P f as' bs0 pin R) (st : St) (kn : Bool) (ren tn back tback : List (Nat × Nat))
 (hok : fullOK pin st.bs ren tn back tback = true) (ha : D.rens kn ren tn args = as') (hb : renBs kn ren tn st.bs ren = bs0) {K : D → St → Prop}
 (hk : ∀ d bs', R d bs' → K (d.ren true (backN pin ren back) tback) (st.merge pin ren tn back tback bs')) : CallW P f args st K := by
 refine ⟨he, fun C g a w vs hP hs hr => ?_⟩
 subst hP ha hb
 have ok := fullOK_spec hok
 refine (h (g.seen ren tn) w vs rfl (fun n b hn => ?_) (fun N => seen_mem hs.mem ok kn N) (Reps.ren (g := g) (g' := g.seen ren tn) (fun n k b h1 h2 => ?_) (fun t s x h1 h2 => ?_) (Ex.refl _ _) hr)).mono ?_
 ·obtain ⟨n', h1, _⟩ := seen_bx hn
  exact (ok.rn n' n h1).1
 ·simp [Gh.seen, mem_lkr ok.r2 (lk_mem h1), h2]
 ·simp [Gh.seen, mem_lkr ok.t2 (lk_mem h1), h2]
 ·rintro e w' ⟨v, d, bs', g', rfl, hR, m', _, hpin, hrep⟩
  obtain ⟨h1, h2, _⟩ := hs.merge ok m' hpin
  exact ⟨v, _, _, _, rfl, hk d bs' hR, h1, h2 d v hrep⟩

end

end Go.Proofs.YtjgpdjakehoofaaGreatDoor


