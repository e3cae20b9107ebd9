/- The abstract layer, part 16: regions whose order is drawn, over abstract states. -/
import Derived.Test.YtbpgebfejebmlaaGreatDoorB6
namespace Go.Proofs.YtbpgebfejebmlaaGreatDoor
open Go Go.RowKit
set_option linter.unusedSimpArgs false
set_option linter.unusedVariables false

mutual
/-- How a drawn region is walked: all done; one is taken first; each of those that may come up. -/
inductive Plan where
  | done
  | take (i : Nat) (p : Plan)
  | alts (l : Alts)
inductive Alts where
  | nil
  | cons (i : Nat) (p : Plan) (l : Alts)
end

instance : Inhabited Plan := ⟨.done⟩

def Alts.ids : Alts → List Nat
  | .nil => []
  | .cons i _ l => i :: l.ids

mutual
/-- Does a plan fit a region? -/
def planOK (ops : Array Oper) (listed : Array Bool) : Plan → Bool
  | .done => Region.ready .any ops listed == []
  | .take i p => Region.free .any ops listed i && (Region.ready .any ops listed).contains i && planOK ops (listed.setIfInBounds i true) p
  | .alts l => Region.ready .any ops listed == l.ids && !(l.ids == []) && altsOK ops listed l
def altsOK (ops : Array Oper) (listed : Array Bool) : Alts → Bool
  | .nil => true
  | .cons i p l => planOK ops (listed.setIfInBounds i true) p && altsOK ops listed l
end

mutual
def Plan.size : Plan → Nat
  | .done => 0
  | .take _ p => p.size + 1
  | .alts l => l.size + 1
def Alts.size : Alts → Nat
  | .nil => 0
  | .cons _ p l => max p.size l.size
end

/-- One operation that may come up among others. -/
def xstep (P : Program) (o : AOper) (st : St) (K : Option Nat → St → Prop) : Prop :=
  match o.op with
  | .call f args => PureW P f (args.map st.ev) st fun d => K none (st.puto o.dst d)
  | .callv x args => match st.ev x with
    | .fn f caps => PureW P f (args.map st.ev ++ caps.map fun c => .ptr c.1 c.2) st fun d => K none (st.puto o.dst d)
    | _ => False
  | op => astep P o st (K (op.touch o.dst st))

/-- One operation that is taken first. -/
def tstep (o : AOper) (st : St) (K : Option Nat → St → Prop) : Prop :=
  match o.op with
  | .pick c x y => match st.ev c with
    | .pd (.raw (.bool b)) => (b = true → K none ((st.know c true).puto o.dst (st.ev x))) ∧ (b = false → K none ((st.know c false).puto o.dst (st.ev y)))
    | _ => False
  | op => if op.quiet then match op.ex o.dst st with
      | some (d, _) => K (op.reads st) (st.puto o.dst d)
      | none => False
    else False

/-- With its guard. -/
def guarded (o : AOper) (st : St) (yes no : St → Prop) : Prop :=
  match o.guard with
  | none => yes st
  | some (s, b) => match st.get s with
    | .pd (.raw (.bool c)) => (c = b → yes (st.know (.tmp s) b)) ∧ (c = (!b) → no (st.know (.tmp s) (!b)))
    | .tup [] => no st
    | _ => False

def clear (T : List (Nat × Nat)) : Option Nat → Bool
  | none => true
  | some t => T.all fun p => p.2 != t

def pendTo (T : List (Nat × Nat)) (i : Nat) : Option Nat → List (Nat × Nat)
  | none => T
  | some n => (i, n) :: T

mutual
def drun (P : Program) (l : List AOper) (tb : List (List Nat)) : Plan → List (Nat × Nat) → St → (St → Prop) → Prop
  | .done, _, st, K => K st
  | .take i p, T, st, K => match l[i]? with
    | some o => guarded o st (fun st => tstep o st fun r st' => drun P l tb p (pendTo T i r) st' K) (fun st => drun P l tb p T (st.puto o.dst (.tup [])) K)
    | none => False
  | .alts L, T, st, K => dalts P l tb L T st K
def dalts (P : Program) (l : List AOper) (tb : List (List Nat)) : Alts → List (Nat × Nat) → St → (St → Prop) → Prop
  | .nil, _, _, _ => True
  | .cons i p r, T, st, K => (match l[i]? with
    | some o => guarded o st (fun st => xstep P o st fun t st' => clear (T.filter fun q => !waits tb i q.1) t = true ∧ drun P l tb p (T.filter fun q => !waits tb i q.1) st' K)
        (fun st => drun P l tb p (T.filter fun q => !waits tb i q.1) (st.puto o.dst (.tup [])) K)
    | none => False) ∧ dalts P l tb r T st K
end

section
variable {C : Ctx} {st st' : St} {g : Gh} {a : Act} {w : World}

/-- What is pending, concretely and abstractly. -/
def TL (Ta : List (Nat × Nat)) (Tc : Pend) (g : Gh) (w : World) : Prop :=
  ∀ p ∈ Tc, ∃ r, (r = none ∨ ∃ n, r = some n ∧ (p.1, n) ∈ Ta) ∧ ∀ w', Keep g r w w' → p.2 w'

theorem TL.here {Ta : List (Nat × Nat)} {Tc : Pend} (h : TL Ta Tc g w) : ∀ p ∈ Tc, p.2 w := fun p hp =>
  let ⟨_, _, h2⟩ := h p hp
  h2 w (Keep.refl _ _ _)

theorem TL.filter {Ta : List (Nat × Nat)} {Tc : Pend} (h : TL Ta Tc g w) (q : Nat → Bool) : TL (Ta.filter fun p => q p.1) (Tc.filter fun p => q p.1) g w := fun p hp => by
  obtain ⟨h1, h2⟩ := List.mem_filter.1 hp
  obtain ⟨r, h3, h4⟩ := h p h1
  refine ⟨r, ?_, h4⟩
  rcases h3 with h3 | ⟨n, h3, h5⟩
  · exact .inl h3
  · exact .inr ⟨n, h3, List.mem_filter.2 ⟨h5, h2⟩⟩

theorem TL.push {Ta : List (Nat × Nat)} {Tc : Pend} (h : TL Ta Tc g w) (i : Nat) (r : Option Nat) {S : World → Prop} (hS : ∀ w', Keep g r w w' → S w') : TL (pendTo Ta i r) ((i, S) :: Tc) g w := fun p hp => by
  rcases List.mem_cons.1 hp with rfl | hp
  · refine ⟨r, ?_, hS⟩
    cases r with
    | none => exact .inl rfl
    | some n => exact .inr ⟨n, rfl, by simp [pendTo]⟩
  · obtain ⟨r', h3, h4⟩ := h p hp
    refine ⟨r', ?_, h4⟩
    rcases h3 with h3 | ⟨n, h3, h5⟩
    · exact .inl h3
    · refine .inr ⟨n, h3, ?_⟩
      cases r with
      | none => exact h5
      | some m => exact List.mem_cons_of_mem _ h5

theorem Keep.after {r t : Option Nat} {g' : Gh} {w' w'' : World} (hs : SF g w g' w' t) (ht : ∀ n, r = some n → t ≠ some n) (hk : Keep g' r w' w'') : Keep g r w w'' :=
  ⟨fun b o hf => (hk.fz b o (hs.ex b o hf).1).trans (hs.ex b o hf).2, fun n b hr hb => by
    obtain ⟨h1, h2⟩ := hs.bx n b (ht n hr) hb
    exact (hk.bx n b hr h1).trans h2⟩

theorem TL.after {Ta : List (Nat × Nat)} {Tc : Pend} (h : TL Ta Tc g w) {t : Option Nat} (hc : clear Ta t = true) {g' : Gh} {w' : World} (hs : SF g w g' w' t) : TL Ta Tc g' w' := fun p hp => by
  obtain ⟨r, h3, h4⟩ := h p hp
  refine ⟨r, h3, fun w'' hk => h4 w'' (hk.after hs fun n hr ht => ?_)⟩
  rcases h3 with rfl | ⟨m, rfl, h5⟩
  · cases hr
  · cases hr
    subst ht
    have := List.all_eq_true.1 (by simpa [clear] using hc : Ta.all (fun p => p.2 != n) = true) _ h5
    simp at this

theorem tstep_sound {o : Oper} {ao : AOp} (h : comp C.P o.op = some ao) (hd : ∀ d, o.dst = some d → C.wr d = true) (gd : Option (Nat × Bool)) {K : Option Nat → St → Prop} (hs : SR C st g a w) (hk : tstep ⟨gd, o.dst, ao⟩ st K) :
    ∃ v r st', (∀ w', Keep g r w w' → (execOp a.eval o).run C.P w' = .ok (.value v) w') ∧ SR C st' g (a.put o.dst v) w ∧ K r st' := by
  unfold tstep at hk
  split at hk
  · rename_i c x y hao
    simp only at hao
    subst hao
    split at hk
    · rename_i b hb
      have hx := hs.ev c
      rw [hb] at hx
      have ex := raw_inv hx
      have ho : o.op = .pick c x y := by
        by_cases hp : (AOp.pick c x y).plain = true
        · cases hp
        · rcases comp_inv h (by simpa using hp) with ⟨c', x', y', ho, he⟩ | ⟨c, f, ho, hc, he⟩ | ⟨c, x, ho, hc, he⟩ | ⟨c, x, y, t, e, i, z, ho, hc, ha, ht, hu, hi, hz, hzs, hpos, he⟩
          · cases he; exact ho
          all_goals cases he
      refine ⟨if b then a.eval x else a.eval y, none, (st.know c b).puto o.dst (if b then st.ev x else st.ev y), fun w' _ => ?_, ?_, ?_⟩
      · unfold execOp
        simp only [ho, ex, asBool]
        rfl
      · refine (hs.know hb).puto hd ?_
        cases b
        · exact hs.ev y
        · exact hs.ev x
      · cases b
        · exact hk.2 rfl
        · exact hk.1 rfl
    · exact hk.elim
  · split at hk
    · rename_i hq
      split at hk
      · rename_i d st1 he
        have hp : ao.plain = true := by cases ao <;> first | rfl | cases hq
        obtain ⟨h1, _⟩ := comp_sound h hp hd st g a w d st1 hs he
        obtain ⟨_, v, h2, h3⟩ := h1 hq
        exact ⟨v, _, _, h2, hs.puto hd h3, hk⟩
      · exact hk.elim
    · exact hk.elim

theorem pure_sound {f : FuncId} {ds : List D} {R : D → Prop} (h : PureW C.P f ds st R) (hs : SR C st g a w) {vs : List Value} (hv : Reps g w ds vs) {o : Oper} {c : Call} (ho : o.op = .call c)
    (hr : (do let d ← resolve a.eval c o.type; invoke d.target d.args : Sem Next).run C.P w = (callFunc f vs.toArray).run C.P w) (next : Act → World → Prop) (Q : Exit → Act → World → Prop)
    (hn : ∀ d g' v w', SR C st g' a w' → Rep g' w' d v → R d → SF g w g' w' none → next (a.put o.dst v) w') : o.wp C.P a w next Q := by
  have hrun : (execOp a.eval o).run C.P w = .ok (.enter f vs.toArray) w := by
    unfold execOp
    simp only [ho]
    rw [hr, h.1]
  unfold Oper.wp
  rw [hrun, Oper.upon_enter]
  refine (h.2 C g a w vs rfl hs hv).mono ?_
  rintro e w' ⟨v, d, g', rfl, hk, hsr, hrep, hsf⟩
  exact hn d g' v w' hsr hrep hk hsf

theorem xstep_sound {o : Oper} {ao : AOp} (h : comp C.P o.op = some ao) (hd : ∀ d, o.dst = some d → C.wr d = true) (gd : Option (Nat × Bool)) {K : Option Nat → St → Prop} (hs : SR C st g a w) (hk : xstep C.P ⟨gd, o.dst, ao⟩ st K)
    (next : Act → World → Prop) (Q : Exit → Act → World → Prop) (hn : ∀ st' g' a' w' t, SR C st' g' a' w' → K t st' → SF g w g' w' t → next a' w') : o.wp C.P a w next Q := by
  by_cases hcl : ao.calls = true
  · have hp : ¬ ao.plain = true := by cases ao <;> first | (cases hcl; done) | (intro h; cases h)
    rcases comp_inv h (by simpa using hp) with ⟨c, x, y, ho, rfl⟩ | ⟨c, f, ho, hc, rfl⟩ | ⟨c, x, ho, hc, rfl⟩ | ⟨c, x, y, t, e, i, z, ho, hc, ha, ht, hu, hi, hz, hzs, hpos, rfl⟩
    · cases hcl
    · simp only [xstep] at hk
      refine pure_sound hk hs (Reps.evs hs c.args.toList) ho ?_ next Q (fun d g' v w' h1 h2 h3 h4 => hn _ _ _ _ _ (h1.puto hd h2) h3 h4)
      simp [resolve, hc, Act.eval, Deferred.ofValue, invoke, map_arr]
    · simp only [xstep] at hk
      split at hk
      · rename_i f caps hev
        have hx := hs.ev x
        rw [hev] at hx
        simp only [Rep] at hx
        obtain ⟨cv, ex, hcs⟩ := hx
        refine pure_sound hk hs ((Reps.evs hs c.args.toList).append hcs.reps) ho ?_ next Q (fun d g' v w' h1 h2 h3 h4 => hn _ _ _ _ _ (h1.puto hd h2) h3 h4)
        simp [resolve, hc, ex, Deferred.ofValue, invoke, map_arr, ← List.append_toArray]
      · exact hk.elim
    · cases hcl
  · have e : xstep C.P ⟨gd, o.dst, ao⟩ st K = astep C.P ⟨gd, o.dst, ao⟩ st (K (ao.touch o.dst st)) := by
      cases ao <;> first | rfl | exact absurd rfl hcl
    rw [e] at hk
    exact astep_sound h hd gd hs hk next Q fun st' g' a' w' h1 h2 h3 => hn _ _ _ _ _ h1 h2 (h3 (by simpa using hcl))

theorem compL_get {P : Program} {ops : Array Oper} : ∀ {idx : List Nat} {l : List AOper}, compL P ops idx = some l → ∀ (k i : Nat) (ao : AOper), idx[k]? = some i → l[k]? = some ao → ∃ o, ops[i]? = some o ∧ compO P ops o = some ao
  | [], _, _, _, _, _, hk, _ => by simp at hk
  | j :: idx, l, h, k, i, ao, hk, hl => by
    simp only [compL] at h
    split at h
    · rename_i o ho
      split at h
      · rename_i x xs h1 h2
        cases h
        cases k with
        | zero => simp at hk hl; subst hk; subst hl; exact ⟨o, ho, h1⟩
        | succ k => exact compL_get h2 k i ao (by simpa using hk) (by simpa using hl)
      · cases h
    · cases h

theorem compO_op {P : Program} {ops : Array Oper} {o : Oper} {ao : AOper} (h : compO P ops o = some ao) : comp P o.op = some ao.op ∧ ao.dst = o.dst := by
  unfold compO at h
  split at h
  · rename_i x hx
    split at h
    · cases h; exact ⟨hx, rfl⟩
    · obtain ⟨s, _, rfl⟩ := Option.map_eq_some_iff.1 h
      exact ⟨hx, rfl⟩
  · cases h

/-- What was skipped yields no truth value. -/
theorem undef_yielded {ops : Array Oper} {s k : Nat} (hs : SR C st g a w) (hg : st.get s = .tup []) (hsl : (ops[k]?).bind (·.dst) = some s) : yielded ops a.tmps k = none := by
  have hev := hs.ev (.tmp s)
  rw [show st.ev (.tmp s) = st.get s from rfl, hg] at hev
  simp only [Rep] at hev
  obtain ⟨vs, e1, e2⟩ := hev
  simp only [Reps] at e2
  subst e2
  simp only [Act.eval] at e1
  unfold yielded
  rw [hsl, Option.bind_some]
  rw [Array.getD_eq_getD_getElem?] at e1
  cases h3 : a.tmps[s]? with
  | none => rfl
  | some v =>
    rw [h3] at e1
    simp only [Option.getD_some] at e1
    rw [e1]

theorem rep_undef {g : Gh} {w : World} : Rep g w (.tup []) undef := by
  simp only [Rep]
  exact ⟨[], rfl, by simp only [Reps]⟩

theorem guard_sound {ops : Array Oper} {o : Oper} {ao : AOper} (h : compO C.P ops o = some ao) (hs : SR C st g a w) {yes no : St → Prop} (hg : guarded ao st yes no) :
    ∃ st1, SR C st1 g a w ∧ ((Region.wanted o (yielded ops a.tmps) = true ∧ yes st1) ∨ (Region.wanted o (yielded ops a.tmps) = false ∧ no st1)) := by
  unfold compO at h
  split at h
  · rename_i x hx
    split at h
    · rename_i hgn
      cases h
      exact ⟨st, hs, .inl ⟨by simp [Region.wanted, hgn], hg⟩⟩
    · rename_i k b hgk
      obtain ⟨s, hsl, rfl⟩ := Option.map_eq_some_iff.1 h
      simp only [guarded] at hg
      split at hg
      · rename_i c hgc
        have hev := hs.ev (.tmp s)
        rw [show st.ev (.tmp s) = st.get s from rfl, hgc] at hev
        have e1 := raw_inv hev
        simp only [Act.eval] at e1
        have e2 : a.tmps[s]? = some (.bool c) := by
          rw [Array.getD_eq_getD_getElem?] at e1
          cases h3 : a.tmps[s]? with
          | none => rw [h3] at e1; simp [undef] at e1
          | some v => rw [h3] at e1; simpa using e1
        have hy : yielded ops a.tmps k = some c := by
          unfold yielded
          rw [hsl, Option.bind_some, e2]
        by_cases hcb : c = b
        · exact ⟨_, hs.know (x := .tmp s) (b := b) (by rw [← hcb]; exact hgc), .inl ⟨by simp [Region.wanted, hgk, hy, hcb], hg.1 hcb⟩⟩
        · have hcb' : c = !b := by cases c <;> cases b <;> simp_all
          exact ⟨_, hs.know (x := .tmp s) (b := !b) (by rw [← hcb']; exact hgc), .inr ⟨by simp [Region.wanted, hgk, hy, hcb], hg.2 hcb'⟩⟩
      · rename_i hgc
        exact ⟨st, hs, .inr ⟨by simp [Region.wanted, hgk, undef_yielded hs hgc hsl], hg⟩⟩
      · exact hg.elim
  · cases h

variable {ops : Array Oper} {l : List AOper} {tb : List (List Nat)} {Q : Exit → Act → World → Prop}

theorem l_get (hl : compL C.P ops (List.range ops.size) = some l) (hd : l.all (dstOK C.wr) = true) {i : Nat} (hi : i < ops.size) {ao : AOper} (h : l[i]? = some ao) :
    ∃ o, ops[i]? = some o ∧ compO C.P ops o = some ao ∧ ∀ d, o.dst = some d → C.wr d = true := by
  obtain ⟨o, h1, h2⟩ := compL_get hl i i ao (by rw [List.getElem?_range hi]) h
  refine ⟨o, h1, h2, fun d he => ?_⟩
  have h3 := List.all_eq_true.1 hd ao (List.mem_of_getElem? h)
  rw [← (compO_op h2).2] at he
  simpa only [dstOK, he] using h3

mutual
theorem drun_sound (hl : compL C.P ops (List.range ops.size) = some l) (hd : l.all (dstOK C.wr) = true) (ht : tabOK .any ops tb = true) (hsel : Region.noSelect ops = true) {K : St → Prop}
    (hq : ∀ st' g' a' w', SR C st' g' a' w' → K st' → Q .normal a' w') (hpan : ∀ c a w, ¬ Q (.panic c) a w) :
    ∀ (p : Plan) (fuel : Nat) (listed : Array Bool) (Ta : List (Nat × Nat)) (Tc : Pend) (st : St) (g : Gh) (a : Act) (w : World), planOK ops listed p = true → p.size ≤ fuel → Reach .any ops listed →
      TL Ta Tc g w → SR C st g a w → drun C.P l tb p Ta st K → wpAnyT C.P .any ops Q tb fuel Tc listed a w
  | .done, fuel, listed, Ta, Tc, st, g, a, w, hp, _, _, _, hs, hk => by
    simp only [planOK, beq_iff_eq] at hp
    simp only [drun] at hk
    have h := hq st g a w hs hk
    cases fuel with
    | zero => exact ⟨hp, h⟩
    | succ fuel => exact ⟨fun _ => h, by rw [hp]; simp⟩
  | .take i p, 0, _, _, _, _, _, _, _, _, hf, _, _, _, _ => by simp [Plan.size] at hf
  | .take i p, fuel + 1, listed, Ta, Tc, st, g, a, w, hp, hf, hr, hT, hs, hk => by
    simp only [planOK, Bool.and_eq_true] at hp
    simp only [drun] at hk
    split at hk
    · rename_i ao hao
      have hrd : i ∈ Region.ready .any ops listed := by simpa using hp.1.2
      have hlt : i < ops.size := by
        obtain ⟨_, o, ho, _⟩ := mem_ready.1 hrd
        exact (Array.getElem?_eq_some_iff.1 ho).1
      obtain ⟨o, ho, hco, hdst⟩ := l_get hl hd hlt hao
      obtain ⟨hcomp, hde⟩ := compO_op hco
      have hsz : p.size ≤ fuel := by simp only [Plan.size] at hf; omega
      obtain ⟨st1, hs, ⟨hw, hk⟩ | ⟨hw, hk⟩⟩ := guard_sound hco hs hk
      · have hk' : tstep ⟨ao.guard, o.dst, ao.op⟩ st1 (fun r st' => drun C.P l tb p (pendTo Ta i r) st' K) := by rw [← hde]; exact hk
        obtain ⟨v, r, st', h1, h2, h3⟩ := tstep_sound hcomp hdst ao.guard hs hk'
        refine wpAnyT_first ht (v := v) (S := Keep g r w) ho (Region.noSelect_spec hsel) (fun c a w h => absurd h (hpan _ _ _)) fuel Tc listed a w hr (Region.free_spec ho hp.1.1) hrd (.inl ⟨hw, h1⟩) (Keep.refl _ _ _)
          (fun q hq => hT.here q (List.mem_filter.1 hq).1) ?_
        exact drun_sound hl hd ht hsel hq hpan p fuel _ (pendTo Ta i r) _ st' g _ w hp.2 hsz (Reach.step _ _ hr hrd) (hT.push i r fun _ h => h) h2 h3
      · refine wpAnyT_first ht (v := undef) (S := fun _ => True) ho (Region.noSelect_spec hsel) (fun c a w h => absurd h (hpan _ _ _)) fuel Tc listed a w hr (Region.free_spec ho hp.1.1) hrd (.inr ⟨hw, rfl⟩) trivial
          (fun q hq => hT.here q (List.mem_filter.1 hq).1) ?_
        rw [hde] at hk
        exact drun_sound hl hd ht hsel hq hpan p fuel _ Ta _ _ g _ w hp.2 hsz (Reach.step _ _ hr hrd) (hT.push i none fun _ _ => trivial) (hs.puto hdst rep_undef) hk
    · exact hk.elim
  | .alts L, 0, _, _, _, _, _, _, _, _, hf, _, _, _, _ => by simp [Plan.size] at hf
  | .alts L, fuel + 1, listed, Ta, Tc, st, g, a, w, hp, hf, hr, hT, hs, hk => by
    simp only [planOK, Bool.and_eq_true, beq_iff_eq] at hp
    simp only [drun] at hk
    refine ⟨fun h => ?_, fun j hj => ?_⟩
    · have h2 := hp.1.2
      rw [← hp.1.1, h] at h2
      simp at h2
    · exact dalts_sound hl hd ht hsel hq hpan L fuel listed Ta Tc st g a w hp.2 (by simp only [Plan.size] at hf; omega) hr hT hs hk j (by rw [← hp.1.1]; exact hj) hj
theorem dalts_sound (hl : compL C.P ops (List.range ops.size) = some l) (hd : l.all (dstOK C.wr) = true) (ht : tabOK .any ops tb = true) (hsel : Region.noSelect ops = true) {K : St → Prop}
    (hq : ∀ st' g' a' w', SR C st' g' a' w' → K st' → Q .normal a' w') (hpan : ∀ c a w, ¬ Q (.panic c) a w) :
    ∀ (L : Alts) (fuel : Nat) (listed : Array Bool) (Ta : List (Nat × Nat)) (Tc : Pend) (st : St) (g : Gh) (a : Act) (w : World), altsOK ops listed L = true → L.size ≤ fuel → Reach .any ops listed →
      TL Ta Tc g w → SR C st g a w → dalts C.P l tb L Ta st K → ∀ j, j ∈ L.ids → j ∈ Region.ready .any ops listed →
      wpOp C.P ops Q j (fun a' w' => (∀ p ∈ Tc.filter (fun p => !waits tb j p.1), p.2 w') ∧ wpAnyT C.P .any ops Q tb fuel (Tc.filter fun p => !waits tb j p.1) (listed.setIfInBounds j true) a' w') a w
  | .nil, _, _, _, _, _, _, _, _, _, _, _, _, _, _, j, hj, _ => by simp [Alts.ids] at hj
  | .cons i p L, fuel, listed, Ta, Tc, st, g, a, w, hp, hf, hr, hT, hs, hk, j, hj, hrd => by
    simp only [altsOK, Bool.and_eq_true] at hp
    simp only [dalts] at hk
    simp only [Alts.ids, List.mem_cons] at hj
    simp only [Alts.size] at hf
    by_cases hji : j = i
    · subst hji
      have hk := hk.1
      split at hk
      · rename_i ao hao
        have hlt : j < ops.size := by
          obtain ⟨_, o, ho, _⟩ := mem_ready.1 hrd
          exact (Array.getElem?_eq_some_iff.1 ho).1
        obtain ⟨o, ho, hco, hdst⟩ := l_get hl hd hlt hao
        obtain ⟨hcomp, hde⟩ := compO_op hco
        unfold wpOp
        simp only [ho]
        obtain ⟨st1, hs, ⟨hw, hk⟩ | ⟨hw, hk⟩⟩ := guard_sound hco hs hk
        · rw [if_pos hw]
          have hk' : xstep C.P ⟨ao.guard, o.dst, ao.op⟩ st1 (fun t st' => clear (Ta.filter fun q => !waits tb j q.1) t = true ∧ drun C.P l tb p (Ta.filter fun q => !waits tb j q.1) st' K) := by rw [← hde]; exact hk
          refine .inl (xstep_sound hcomp hdst ao.guard hs hk' _ Q fun st' g' a' w' t h1 h2 h3 => ?_)
          have hT' := (hT.filter fun k => !waits tb j k).after h2.1 h3
          exact ⟨hT'.here, drun_sound hl hd ht hsel hq hpan p fuel _ _ _ st' g' a' w' hp.1 (by omega) (Reach.step _ _ hr hrd) hT' h1 h2.2⟩
        · rw [if_neg (by simp [hw])]
          rw [hde] at hk
          have hT' := hT.filter fun k => !waits tb j k
          exact ⟨hT'.here, drun_sound hl hd ht hsel hq hpan p fuel _ _ _ _ g _ w hp.1 (by omega) (Reach.step _ _ hr hrd) hT' (hs.puto hdst rep_undef) hk⟩
      · exact hk.elim
    · exact dalts_sound hl hd ht hsel hq hpan L fuel listed Ta Tc st g a w hp.2 (by omega) hr hT hs hk.2 j (hj.resolve_left hji) hrd
end

/-- A drawn region's operations, in whatever order. -/
theorem draw_ops (hm : C.P.follows .mixedOrders = true) (hl : compL C.P ops (List.range ops.size) = some l) (hd : l.all (dstOK C.wr) = true) (ht : tabOK .any ops tb = true) (hsel : Region.noSelect ops = true) {K : St → Prop}
    (hq : ∀ st' g' a' w', SR C st' g' a' w' → K st' → Q .normal a' w') (hpan : ∀ c a w, ¬ Q (.panic c) a w) (p : Plan) (hp : planOK ops (Array.replicate ops.size false) p = true) (hsz : p.size ≤ ops.size)
    (hs : SR C st g a w) (hk : drun C.P l tb p [] st K) (t : Nat) : wpOps C.P ops Q (Region.schedule (C.P.follows .mixedOrders) ops t) a { w with drawn := w.drawn + 1 } := by
  simp only [Region.schedule, hm, Bool.true_or, if_true]
  exact wpAny_sound ops.size t _ a _ (wpAny_of_T _ [] _ _ _ (drun_sound hl hd ht hsel hq hpan p _ _ [] [] st g a _ hp hsz .init (fun p hp => by cases hp) (hs.same rfl rfl rfl rfl) hk))

/-- A drawn region. -/
theorem draw_sound (hm : C.P.follows .mixedOrders = true) (hl : compL C.P ops (List.range ops.size) = some l) (hd : l.all (dstOK C.wr) = true) (ht : tabOK .any ops tb = true) (hsel : Region.noSelect ops = true) {K : St → Prop}
    (hq : ∀ st' g' a' w', SR C st' g' a' w' → K st' → Q .normal a' w') (hpan : ∀ c a w, ¬ Q (.panic c) a w) (id : Nat) (p : Plan) (hp : planOK ops (Array.replicate ops.size false) p = true) (hsz : p.size ≤ ops.size)
    (hs : SR C st g a w) (hk : drun C.P l tb p [] st K) : (Code.region id ops true).wp C.P Q a w :=
  wp_region_any hm (wpAny_of_T _ [] _ _ _ (drun_sound hl hd ht hsel hq hpan p _ _ [] [] st g a _ hp hsz .init (fun p hp => by cases hp) (hs.same rfl rfl rfl rfl) hk))

end

end Go.Proofs.YtbpgebfejebmlaaGreatDoor
