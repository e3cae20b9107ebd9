/- The abstract layer, part 18: functions, and their calls. -/
import Derived.Test.YtbpgebfejebmlaaGreatDoorBS
namespace Go.Proofs.YtbpgebfejebmlaaGreatDoor
open Go Go.RowKit
set_option linter.unusedSimpArgs false
set_option linter.unusedVariables false

/-- No variables, no rows of one's own: the ghost of a value that is all data. -/
abbrev gh0 (Fz : Nat → Nat → Prop) : Gh := ⟨fun _ => none, fun _ => none, Fz, []⟩

mutual
/-- As the callee sees it: a slice, whoever's it is. -/
def D.pub : D → D
  | .own _ _ els _ => .pd (.slice els)
  | .nils => .pd (.slice [])
  | .agg ds => .agg (D.pubs ds)
  | .tup ds => .tup (D.pubs ds)
  | .pd x => .pd x
  | .ptr n o => .ptr n o
  | .fn f caps => .fn f caps
  | .mp n => .mp n
  | .eptr cs => .eptr cs
  | .any => .any
def D.pubs : List D → List D
  | [] => []
  | d :: ds => D.pub d :: D.pubs ds
end

mutual
/-- Does it hang on no variable? -/
def D.closed : D → Bool
  | .ptr .. => false
  | .mp _ => false
  | .own .. => false
  | .fn _ caps => caps.isEmpty
  | .agg ds => D.closeds ds
  | .tup ds => D.closeds ds
  | _ => true
def D.closeds : List D → Bool
  | [] => true
  | d :: ds => D.closed d && D.closeds ds
end

mutual
theorem Rep.pub {g : Gh} {w : World} : ∀ {d : D} {v : Value}, Rep g w d v → Rep g w d.pub v
  | .own .., _, h => by simp only [Rep, D.pub] at h ⊢; exact h.1
  | .nils, _, h => by simp only [Rep, D.pub] at h ⊢; subst h; exact .empty _ _
  | .agg _, _, h => by simp only [Rep, D.pub] at h ⊢; obtain ⟨vs, e, hs⟩ := h; exact ⟨vs, e, Reps.pubs hs⟩
  | .tup _, _, h => by simp only [Rep, D.pub] at h ⊢; obtain ⟨vs, e, hs⟩ := h; exact ⟨vs, e, Reps.pubs hs⟩
  | .pd _, _, h => by simpa only [D.pub] using h
  | .ptr .., _, h => by simpa only [D.pub] using h
  | .fn .., _, h => by simpa only [D.pub] using h
  | .mp _, _, h => by simpa only [D.pub] using h
  | .eptr _, _, h => by simpa only [D.pub] using h
  | .any, _, h => by simpa only [D.pub] using h
theorem Reps.pubs {g : Gh} {w : World} : ∀ {ds : List D} {vs : List Value}, Reps g w ds vs → Reps g w (D.pubs ds) vs
  | [], _, h => by simpa only [D.pubs] using h
  | _ :: _, _, h => by simp only [Reps, D.pubs] at h ⊢; obtain ⟨v, vs', e, hv, hs⟩ := h; exact ⟨v, vs', e, Rep.pub hv, Reps.pubs hs⟩
end

mutual
theorem Rep.close {g g' : Gh} {w w' : World} (hx : Ex g.Fz w g'.Fz w') : ∀ {d : D} {v : Value}, d.closed = true → Rep g w d v → Rep g' w' d v
  | .own .., _, hc, h => by simp only [D.closed, Bool.false_eq_true] at hc
  | .nils, _, hc, h => by simp only [Rep] at h ⊢; exact h
  | .agg _, _, hc, h => by simp only [Rep, D.closed] at h hc ⊢; obtain ⟨vs, e, hs⟩ := h; exact ⟨vs, e, Reps.close hx hc hs⟩
  | .tup _, _, hc, h => by simp only [Rep, D.closed] at h hc ⊢; obtain ⟨vs, e, hs⟩ := h; exact ⟨vs, e, Reps.close hx hc hs⟩
  | .pd _, _, hc, h => by simp only [Rep] at h ⊢; exact h.mono hx
  | .ptr .., _, hc, h => by simp only [D.closed, Bool.false_eq_true] at hc
  | .fn _ caps, _, hc, h => by
    simp only [Rep, D.closed, List.isEmpty_iff] at h hc ⊢
    subst hc
    exact h
  | .mp _, _, hc, h => by simp only [D.closed, Bool.false_eq_true] at hc
  | .eptr _, _, hc, h => by
    simp only [Rep] at h ⊢
    obtain ⟨b, off, vs, e, hp, hcl⟩ := h
    exact ⟨b, off, vs, e, hp.mono hx, fun i u hu => ⟨(hx _ _ (hcl i u hu).2).2.trans (hcl i u hu).1, (hx _ _ (hcl i u hu).2).1⟩⟩
  | .any, _, _, _ => by simp only [Rep]
theorem Reps.close {g g' : Gh} {w w' : World} (hx : Ex g.Fz w g'.Fz w') : ∀ {ds : List D} {vs : List Value}, D.closeds ds = true → Reps g w ds vs → Reps g' w' ds vs
  | [], _, _, h => by simp only [Reps] at h ⊢; exact h
  | _ :: _, _, hc, h => by
    simp only [D.closeds, Bool.and_eq_true] at hc
    simp only [Reps] at h ⊢; obtain ⟨v, vs', e, hv, hs⟩ := h; exact ⟨v, vs', e, Rep.close hx hc.1 hv, Reps.close hx hc.2 hs⟩
end

/-- A function of data alone, over abstract values. -/
def Pure (P : Program) (f : FuncId) (args : List D) (R : D → Prop) : Prop :=
  ∀ (Fz : Nat → Nat → Prop) (w : World) (vs : List Value), (∀ b o, Fz b o → b < w.heap.size) → Reps (gh0 Fz) w args vs →
    Calls P f vs.toArray w fun e w' => ∃ v d Fz', e = .returned v ∧ R d ∧ d.closed = true ∧ Below w.heap.size w w' ∧ Ex Fz w Fz' w' ∧ (∀ b o, Fz' b o → b < w'.heap.size) ∧ (∀ b o, Fz' b o → b < w.heap.size → Fz b o) ∧ Rep (gh0 Fz') w' d v

theorem Pure.mono {P : Program} {f : FuncId} {args : List D} {R R' : D → Prop} (h : Pure P f args R) (hr : ∀ d, R d → R' d) : Pure P f args R' :=
  fun Fz w vs h1 h2 => (h Fz w vs h1 h2).mono fun _ _ ⟨v, d, Fz', h1, h2, h3⟩ => ⟨v, d, Fz', h1, hr d h2, h3⟩

theorem Pure.pureW {P : Program} {f : FuncId} {args as' : List D} {R : D → Prop} (he : Enters P f) (h : Pure P f as' R) (st : St) (ha : D.pubs args = as') (hc : D.closeds as' = true) : PureW P f args st R := by
  refine ⟨he, fun C g a w vs _ hs hr => ?_⟩
  subst ha
  have h1 : Reps (gh0 g.Fz) w (D.pubs args) vs := Reps.close (g := g) (g' := gh0 g.Fz) (Ex.refl _ _) hc hr.pubs
  refine (h g.Fz w vs hs.mem.fzlt h1).mono ?_
  rintro e w' ⟨v, d, Fz', rfl, hd, hcl, hb, hx, hlt, hnew, hrep⟩
  obtain ⟨h2, h3⟩ := hs.called hb Fz' hx hlt
  refine ⟨v, d, _, rfl, hd, h2, Rep.close (g := gh0 Fz') (g' := g.withFz w.heap.size Fz') (fun b o hf => ⟨?_, rfl⟩) hcl hrep, h3.ex, fun n b _ hn => ⟨hn, hb.block b (hs.mem.bxok n b hn).1⟩⟩
  rcases Nat.lt_or_ge b w.heap.size with hlt' | hge
  · exact .inl (hnew b o hf hlt')
  · exact .inr ⟨hge, hf⟩

theorem Pure.callW {P : Program} {f : FuncId} {args as' : List D} {R : D → Prop} (he : Enters P f) (h : Pure P f as' R) (st : St) (ha : D.pubs args = as') (hc : D.closeds as' = true) {K : D → St → Prop} (hk : ∀ d, R d → K d st) : CallW P f args st K :=
  (h.pureW he st ha hc).callW hk

def frOf : Nat → List D → List (Nat × D)
  | _, [] => []
  | i, d :: ds => (i, d) :: frOf (i + 1) ds

/-- The state as a function of data begins. -/
def St.init (args : List D) : St := ⟨frOf 0 args, [], [], .no⟩

theorem frOf_lk : ∀ (ds : List D) (k i : Nat) (d : D), lk (frOf k ds) i = some d → k ≤ i ∧ ds[i - k]? = some d
  | [], _, _, _, h => by simp [frOf, lk] at h
  | e :: ds, k, i, d, h => by
    simp only [frOf, lk] at h
    split at h
    · rename_i hik
      subst hik
      simp only [Option.some.injEq] at h
      subst h
      exact ⟨Nat.le_refl _, by simp⟩
    · obtain ⟨h1, h2⟩ := frOf_lk ds (k + 1) i d h
      refine ⟨by omega, ?_⟩
      obtain ⟨m, hm⟩ : ∃ m, i - k = m + 1 := ⟨i - k - 1, by omega⟩
      rw [hm, List.getElem?_cons_succ, show m = i - (k + 1) by omega]
      exact h2

/-- What a function gives back. -/
def resD (P : Program) (st : St) : List ResultVar → Option (List D)
  | [] => some []
  | .tmp t :: rs => (resD P st rs).map (st.get t :: ·)
  | .cell a t :: rs => match aggSize P t with
    | some k => match (AOp.load k (.tmp a)).ex none st, resD P st rs with
      | some (d, _), some ds => some (d :: ds)
      | _, _ => none
    | none => none

/-- What a function gives back, its types looked up. -/
inductive AR where
  | tmp (t : Nat)
  | cell (a : Nat) (k : Option Nat)

def resC (P : Program) : List ResultVar → Option (List AR)
  | [] => some []
  | .tmp t :: rs => (resC P rs).map (.tmp t :: ·)
  | .cell a t :: rs => match aggSize P t, resC P rs with
    | some k, some l => some (.cell a k :: l)
    | _, _ => none

def resA (st : St) : List AR → Option (List D)
  | [] => some []
  | .tmp t :: rs => (resA st rs).map (st.get t :: ·)
  | .cell a k :: rs => match (AOp.load k (.tmp a)).ex none st, resA st rs with
    | some (d, _), some ds => some (d :: ds)
    | _, _ => none

theorem resD_of {P : Program} {st : St} : ∀ {rs : List ResultVar} {l : List AR}, resC P rs = some l → resD P st rs = resA st l
  | [], _, h => by simp only [resC, Option.some.injEq] at h; subst h; rfl
  | .tmp t :: rs, _, h => by
    simp only [resC] at h
    obtain ⟨l, h1, rfl⟩ := Option.map_eq_some_iff.1 h
    simp only [resD, resA, resD_of h1]
  | .cell a t :: rs, _, h => by
    simp only [resC] at h
    split at h
    · rename_i k l h1 h2
      cases h
      simp only [resD, resA, h1, resD_of h2]
    · cases h

def oneD : List D → D
  | [d] => d
  | ds => .tup ds

theorem mapM_ok {α : Type} {P : Program} {w : World} (f : α → Sem Value) : ∀ (rs : List α) (vs : List Value), rs.length = vs.length → (∀ (j : Nat) (r : α) (v : Value), rs[j]? = some r → vs[j]? = some v → (f r).run P w = .ok v w) → (rs.mapM f).run P w = .ok vs w
  | [], [], _, _ => by simp [List.mapM_nil]
  | [], _ :: _, h, _ => by simp at h
  | _ :: _, [], h, _ => by simp at h
  | r :: rs, v :: vs, h, k => by
    have h0 := k 0 r v (by simp) (by simp)
    have h1 := mapM_ok f rs vs (by simpa using h) (fun j a b ha hb => k (j + 1) a b (by simpa using ha) (by simpa using hb))
    simp [List.mapM_cons, Sem.run_bind, h0, h1]

theorem load_val {C : Ctx} {st : St} {g : Gh} {a : Act} {w : World} (hs : SR C st g a w) {t : TypeId} {k : Option Nat} (hk : aggSize C.P t = some k) {x : Tmp} {d : D} {st' : St} (h : (AOp.load k (.tmp x)).ex none st = some (d, st')) :
    ∃ v, (do loadVar t (← asAddr (a.tmps.getD x undef)) : Sem Value).run C.P w = .ok v w ∧ Rep g w d v := by
  obtain ⟨o, ho⟩ : ∃ o : Oper, o.op = Op.load t (.tmp x) ∧ o.dst = none := ⟨{ (default : Oper) with op := .load t (.tmp x), dst := none }, rfl, rfl⟩
  have hsnd : Sound C o (.load k (.tmp x)) := by
    cases k with
    | none => exact snd_load_none ho.1 hk
    | some k => exact snd_load_some ho.1 hk
  obtain ⟨h1, _⟩ := hsnd (fun d e => by rw [ho.2] at e; cases e) st g a w d st' hs (by rw [ho.2]; exact h)
  obtain ⟨_, v, h2, h3⟩ := h1 rfl
  have h4 := h2 w (Keep.refl _ _ _)
  refine ⟨v, ?_, h3⟩
  have hx := hs.ev (.tmp x)
  obtain ⟨ad, hp⟩ : ∃ ad, a.tmps.getD x undef = .pointer (some ad) := by
    cases k <;> simp only [AOp.ex] at h
    all_goals
      split at h
      · rename_i hev
        rw [hev] at hx
        simp only [Rep] at hx
        obtain ⟨b, _, e⟩ := hx
        exact ⟨_, e⟩
      · rename_i hev
        rw [hev] at hx
        simp only [Rep] at hx
        obtain ⟨b, off, vs, e, _⟩ := hx
        exact ⟨_, e⟩
      · cases h
  unfold execOp at h4
  simp only [ho.1, Act.eval, hp, Instr.loadAt, Instr.sureAddr, Sem.run_bind, Sem.run_pure, Result.andThen_ok] at h4
  simp only [hp, asAddr, Sem.run_bind, Sem.run_pure, Result.andThen_ok]
  generalize (loadVar t ad).run C.P w = r at h4
  cases r with
  | ok u w1 => simp only [Result.andThen_ok, Sem.run_pure, Result.ok.injEq, Next.value.injEq] at h4; rw [h4.1, h4.2]
  | halt e w1 => simp [Result.andThen] at h4

def resF (tmps : Array Value) : ResultVar → Sem Value
  | .tmp t => pure (tmps.getD t undef)
  | .cell a t => do loadVar t (← asAddr (tmps.getD a undef))

theorem resD_run {C : Ctx} {st : St} {g : Gh} {a : Act} {w : World} (hs : SR C st g a w) : ∀ (rs : List ResultVar) (ds : List D), resD C.P st rs = some ds →
    ∃ vs, (rs.mapM (resF a.tmps)).run C.P w = .ok vs w ∧ Reps g w ds vs
  | [], ds, h => by
    simp only [resD, Option.some.injEq] at h; subst h
    exact ⟨[], by simp [List.mapM_nil], by simp only [Reps]⟩
  | .tmp t :: rs, ds, h => by
    simp only [resD] at h
    obtain ⟨ds', h1, rfl⟩ := Option.map_eq_some_iff.1 h
    obtain ⟨vs, h2, h3⟩ := resD_run hs rs ds' h1
    refine ⟨a.tmps.getD t undef :: vs, ?_, ?_⟩
    · rw [List.mapM_cons, Sem.run_bind]
      simp only [resF, Sem.run_pure, Result.andThen_ok, Sem.run_bind, h2]
    · simp only [Reps]
      exact ⟨_, vs, rfl, hs.ev (.tmp t), h3⟩
  | .cell ad t :: rs, ds, h => by
    simp only [resD] at h
    split at h
    · rename_i k hk
      split at h
      · rename_i d st' ds' h1 h2
        cases h
        obtain ⟨v, h3, h4⟩ := load_val hs hk h1
        obtain ⟨vs, h5, h6⟩ := resD_run hs rs ds' h2
        refine ⟨v :: vs, ?_, ?_⟩
        · rw [List.mapM_cons, Sem.run_bind]
          have : (resF a.tmps (.cell ad t)).run C.P w = .ok v w := h3
          simp only [this, Result.andThen_ok, Sem.run_bind, h5, Sem.run_pure]
        · simp only [Reps]
          exact ⟨v, vs, rfl, h4, h6⟩
      · cases h
    · cases h

theorem results_run {C : Ctx} {st : St} {g : Gh} {a : Act} {w : World} (hs : SR C st g a w) (fn : Func) (ds : List D) (h : resD C.P st fn.results.toList = some ds) :
    ∃ v, (results fn a.tmps).run C.P w = .ok v w ∧ Rep g w (oneD ds) v := by
  obtain ⟨vs, h1, h2⟩ := resD_run hs fn.results.toList ds h
  have hm : (fn.results.mapM (resF a.tmps)).run C.P w = .ok vs.toArray w := by
    rw [Array.mapM_eq_mapM_toList]
    simp only [map_eq_pure_bind, Sem.run_bind, h1, Result.andThen_ok, Sem.run_pure]
  have e : results fn a.tmps = (do let vs ← fn.results.mapM (resF a.tmps); pure (if h : vs.size = 1 then vs[0] else .tuple vs) : Sem Value) := by
    unfold results
    congr 1
  rw [e, Sem.run_bind, hm, Result.andThen_ok, Sem.run_pure]
  refine ⟨_, rfl, ?_⟩
  split
  · rename_i h1
    obtain ⟨v, rfl⟩ : ∃ v, vs = [v] := by
      match vs, h1 with
      | [v], _ => exact ⟨v, rfl⟩
      | [], h => simp at h
      | _ :: _ :: _, h => simp at h
    obtain ⟨d, rfl⟩ : ∃ d, ds = [d] := by
      have := h2.length
      match ds, this with
      | [d], _ => exact ⟨d, rfl⟩
      | [], h => simp at h
      | _ :: _ :: _, h => simp at h
    simp only [Reps] at h2
    obtain ⟨v', vs', e, h3, _⟩ := h2
    cases e
    exact h3
  · rename_i h1
    have hl := h2.length
    have : oneD ds = .tup ds := by
      match ds, hl with
      | [d], hl => exact absurd (by simpa using hl) h1
      | [], _ => rfl
      | _ :: _ :: _, _ => rfl
    rw [this]
    simp only [Rep]
    exact ⟨vs, rfl, h2⟩

/-- What a function of data gives back, behind its code. -/
def retK (P : Program) (fn : Func) (R : D → Prop) : Exit → St → Prop
  | .normal, st => ∃ ds, resD P st fn.results.toList = some ds ∧ (oneD ds).pub.closed = true ∧ R (oneD ds).pub
  | .ret, st => ∃ ds, resD P st fn.results.toList = some ds ∧ (oneD ds).pub.closed = true ∧ R (oneD ds).pub
  | _, _ => False

theorem init_SR {P : Program} {N : Nat} {Fz : Nat → Nat → Prop} {w : World} {args : List D} {vs : List Value} (hN : args.length ≤ N) (hlt : ∀ b o, Fz b o → b < w.heap.size) (hr : Reps (gh0 Fz) w args vs) :
    SR (.fn P w Fz (fun _ => False) N) (St.init args) (gh0 Fz) { tmps := vs.toArray ++ Array.replicate (N - vs.toArray.size) undef, defers := [] } w where
  defers := rfl
  size := by
    have := hr.length
    simp; omega
  rep := fun i d hd => by
    obtain ⟨_, h2⟩ := frOf_lk args 0 i d hd
    simp only [Nat.sub_zero] at h2
    obtain ⟨v, h3, h4⟩ := hr.get i d h2
    have hi := (List.getElem?_eq_some_iff.1 h2).1
    refine ⟨by show i < N; omega, ?_⟩
    have hiv := (List.getElem?_eq_some_iff.1 h3).1
    simp only [Array.getD_eq_getD_getElem?]
    rw [Array.getElem?_append_left (by simpa using hiv), List.getElem?_toArray, h3]
    exact h4
  mem := {
    os := rfl, tape := rfl, output := rfl, hsz := Nat.le_refl _, old := fun _ _ _ _ => rfl, keep := Ex.refl _ _, newfz := fun _ _ h _ => .inl h, fzlt := hlt
    bxs := fun n ds h => by simp [St.init, lk] at h
    mps := fun n ds h => by simp [St.init, lk] at h
    bxok := fun n b h => by cases h
    bxinj := fun n m b h => by cases h
    tks := fun t v e h => by cases h
    tkinj := fun t s v u e f b h => by cases h
    bxtk := fun n t b v e h => by cases h
    dfs := fun D hD => by cases hD
    dnd := List.nodup_nil
    bxdf := fun n D hD => by cases hD
    bxdm := fun n b h => by cases h }
  x := rfl
  fix := fun i v h => by cases h

/-- A mark's block is shut. -/
theorem SR.shut {C : Ctx} {st : St} {g : Gh} {a : Act} {w : World} (h : SR C st g a w) {D : Nat} {rest : List Nat} (hdf : g.df = D :: rest) :
    SR C st { g with df := rest } { a with defers := rest.map markOf } (w.putObj D (.deferred none)) := by
  have m := h.mem
  have hD := (m.dfs D (by rw [hdf]; simp)).2
  have hlt := (Array.getElem?_eq_some_iff.1 hD).1
  have hother : ∀ k, k ≠ D → (w.putObj D (.deferred none)).heap[k]? = w.heap[k]? := fun k hk => World.putObj_heap_other hk
  have hsame : (w.putObj D (.deferred none)).heap[D]? = some (.deferred none) := World.putObj_heap_same hlt
  have hsz : (w.putObj D (.deferred none)).heap.size = w.heap.size := by simp
  have hex : Ex g.Fz w g.Fz (w.putObj D (.deferred none)) := fun b o hf => ⟨hf, by
    by_cases hb : b = D
    · subst hb
      simp [World.cell?, hsame, hD]
    · exact World.cell?_of_block (hother b hb)⟩
  have hgr : Gr g w { g with df := rest } (w.putObj D (.deferred none)) := ⟨fun _ _ h => h, fun _ _ h => h, hex⟩
  have hnd := m.dnd
  rw [hdf, List.nodup_cons] at hnd
  have hx : C.X st.hs (Gh.has { g with df := rest } C.w0.heap.size) (w.putObj D (.deferred none)) := C.Xok _ _ _ (fun k => k = D) _ _ h.x ⟨rfl, rfl, rfl, by rw [hsz]; exact Nat.le_refl _, fun k _ hk => hother k hk⟩ (fun k e => by
    subst e; exact .inr (.inr (.inl (by rw [hdf]; simp)))) (fun k hk => .inl (by
      rcases hk with hk | hk | hk | hk
      · exact .inl hk
      · exact .inr (.inl hk)
      · exact .inr (.inr (.inl (by rw [hdf]; exact List.mem_cons_of_mem _ hk)))
      · exact .inr (.inr (.inr hk))))
  refine ⟨rfl, h.size, fun i d hd => ⟨(h.rep i d hd).1, (h.rep i d hd).2.mono hgr⟩, ?_, hx, h.fix⟩
  exact {
    os := m.os
    tape := m.tape
    output := m.output
    hsz := by rw [hsz]; exact m.hsz
    old := fun k h1 h2 h3 => (hother k (fun e => by
      have := (m.dfs D (by rw [hdf]; simp)).1
      subst e
      exact Nat.lt_irrefl _ (Nat.lt_of_lt_of_le h1 this))).trans (m.old k h1 h2 h3)
    keep := m.keep.trans hex
    newfz := m.newfz
    fzlt := fun b o hf => by rw [hsz]; exact m.fzlt b o hf
    bxs := fun n ds hn => by
      obtain ⟨b, cs, t, h1, h2, h3⟩ := m.bxs n ds hn
      exact ⟨b, cs, t, h1, (hother b (fun e => by subst e; rw [hD] at h2; cases h2)).trans h2, h3.mono hgr⟩
    mps := fun n es hn => by
      obtain ⟨b, en, c, h1, h2, h3⟩ := m.mps n es hn
      exact ⟨b, en, c, h1, (hother b (fun e => by subst e; rw [hD] at h2; cases h2)).trans h2, h3⟩
    bxok := fun n b hb => by rw [hsz]; exact m.bxok n b hb
    bxinj := m.bxinj
    tks := fun t v e ht => by
      obtain ⟨i, n, xs, h1, h2, h3, h4⟩ := m.tks t v e ht
      refine ⟨i, n, xs, h1, h2, ⟨h3.1, ?_⟩, h4⟩
      rcases h3.2 with hn | ⟨gb, cap, cur, rfl, hb, hgg, rest⟩
      · exact .inl hn
      · exact .inr ⟨gb, cap, cur, rfl, hb, (hother gb (fun e => by subst e; rw [hD] at hgg; cases hgg)).trans hgg, rest⟩
    tkinj := m.tkinj
    bxtk := m.bxtk
    dfs := fun D' hD' => ⟨(m.dfs D' (by rw [hdf]; exact List.mem_cons_of_mem _ hD')).1, (hother D' (fun e => hnd.1 (e ▸ hD'))).trans (m.dfs D' (by rw [hdf]; exact List.mem_cons_of_mem _ hD')).2⟩
    dnd := hnd.2
    bxdf := fun n D' hD' => m.bxdf n D' (by rw [hdf]; exact List.mem_cons_of_mem _ hD')
    bxdm := m.bxdm }

theorem leave_marks {C : Ctx} {n : Nat} {st : St} {fn : Func} {R : Ending → World → Prop} : ∀ (df : List Nat) (g : Gh) (a : Act) (w : World), g.df = df → SR C st g a w →
    (∀ g' a' w', a'.tmps = a.tmps → g'.df = [] → SR C st g' a' w' → ∃ v, (results fn a.tmps).run C.P w' = .ok v w' ∧ R (.returned v) w') →
    LeavesInM (FW none) n C.P fn a.tmps R a.defers .returning w
  | [], g, a, w, hdf, hs, hk => by
    have e : a.defers = [] := by rw [hs.defers, hdf]; rfl
    rw [e]
    exact hk g a w rfl hdf hs
  | D :: rest, g, a, w, hdf, hs, hk => by
    have e : a.defers = markOf D :: rest.map markOf := by rw [hs.defers, hdf]; rfl
    rw [e]
    have h1 := hs.shut hdf
    have hD := (hs.mem.dfs D (by rw [hdf]; simp)).2
    refine ⟨by simp, .inl ⟨D, _, rfl, run_takeDeferred hD, ?_⟩⟩
    have ih := leave_marks (n := n) (fn := fn) (R := R) rest { g with df := rest } { a with defers := rest.map markOf } _ rfl h1 (fun g' a' w' e hdf' hs' => hk g' a' w' e hdf' hs')
    exact ih

/-- A function of data, from its code over abstract states. -/
theorem pure_of_run {P : Program} (hm : P.follows .mixedOrders = true) (an : Ann) {f : FuncId} {fn : Func} {c : Code} {ac : AC} (hf : P.funcs[f]? = some fn) (hb : fn.body = some c) (hc : compC P an c = some ac)
    (hd : ac.dstOK fn.ntmps (fun i => decide (i < fn.ntmps)) = true) {args : List D} {R : D → Prop} (hN : args.length ≤ fn.ntmps) (hrun : run P ac (St.init args) (retK P fn R)) : Pure P f args R := by
  intro Fz w vs hlt hr
  refine (callsIn_wide (n := 0)).1 (callsIn_of_wp_marks (F := FW none) hf hb trivial (wpIn_mono (run_in (.fn P w Fz (fun _ => False) fn.ntmps) hm (yok_fn _ _ _ _ _) (plain_fn _ _ _ _ _) an 0 c ac hc hd _ _ hrun (gh0 Fz) _ w (init_SR hN hlt hr)) ?_) rfl)
  have key : ∀ (a' : Act) (w' : World), (∃ st g, SR (.fn P w Fz (fun _ => False) fn.ntmps) st g a' w' ∧ ∃ ds, resD P st fn.results.toList = some ds ∧ (oneD ds).pub.closed = true ∧ R (oneD ds).pub) →
      LeavesInM (FW none) 0 P fn a'.tmps (fun e w' => ∃ v' d Fz', e = .returned v' ∧ R d ∧ d.closed = true ∧ Below w.heap.size w w' ∧ Ex Fz w Fz' w' ∧ (∀ b o, Fz' b o → b < w'.heap.size) ∧ (∀ b o, Fz' b o → b < w.heap.size → Fz b o) ∧ Rep (gh0 Fz') w' d v') a'.defers .returning w' := by
    rintro a' w' ⟨st, g, hs, ds, h1, h2, h3⟩
    refine leave_marks g.df g a' w' rfl hs fun g' a2 w2 e _ hs' => ?_
    obtain ⟨v, h4, h5⟩ := results_run hs' fn ds h1
    have m := hs'.mem
    rw [e] at h4
    refine ⟨v, h4, v, (oneD ds).pub, g'.Fz, rfl, h3, h2, ⟨m.os, m.tape, m.output, m.hsz, fun k hk => m.old k hk (fun h => h) (fun h => h)⟩, m.keep, m.fzlt, fun b o h1 h2 => (m.newfz b o h1 h2).resolve_right id, ?_⟩
    exact Rep.close (g := g') (g' := gh0 g'.Fz) (Ex.refl _ _) h2 h5.pub
  intro e a' w' h
  cases e <;> simp only [Post] at h
  · exact key a' w' h
  · obtain ⟨_, _, _, h⟩ := h; exact h.elim
  · obtain ⟨_, _, _, h⟩ := h; exact h.elim
  · exact key a' w' h

end Go.Proofs.YtbpgebfejebmlaaGreatDoor
