/- The abstract layer, part 18a: functions that read variables which they have captured, or whose address they were handed. -/
import Derived.Test.YtbpgebfejebmlaaGreatDoorB9
namespace Go.Proofs.YtbpgebfejebmlaaGreatDoor
open Go Go.RowKit
set_option linter.unusedSimpArgs false
set_option linter.unusedVariables false

/-- The captured variables under the callee's names. -/
def seeCaps (ren : List (Nat × Nat)) : List (Nat × Nat) → Option (List (Nat × Nat))
  | [] => some []
  | c :: cs => match lk ren c.1, seeCaps ren cs with
    | some m, some r => some ((m, c.2) :: r)
    | _, _ => none

mutual
/-- As the callee sees it: the variables by its own names. -/
def D.see (ren : List (Nat × Nat)) : D → D
  | .ptr n o => match lk ren n with
    | some m => .ptr m o
    | none => .any
  | .fn f caps => match seeCaps ren caps with
    | some cs => .fn f cs
    | none => .any
  | .own _ _ els _ => .pd (.slice els)
  | .nils => .pd (.slice [])
  | .agg ds => .agg (D.sees ren ds)
  | .tup ds => .tup (D.sees ren ds)
  | .pd x => .pd x
  | .mp _ => .any
  | .eptr cs => .eptr cs
  | .any => .any
def D.sees (ren : List (Nat × Nat)) : List D → List D
  | [] => []
  | d :: ds => D.see ren d :: D.sees ren ds
end

theorem seeCaps_caps {g g0 : Gh} {ren : List (Nat × Nat)} (hr : ∀ n m b, lk ren n = some m → g.bx n = some b → g0.bx m = some b) : ∀ {cs ms : List (Nat × Nat)} {vs : List Value}, seeCaps ren cs = some ms → Caps g cs vs → Caps g0 ms vs
  | [], ms, vs, h, k => by simp only [seeCaps, Option.some.injEq] at h; subst h; exact k
  | c :: cs, ms, vs, h, k => by
    simp only [seeCaps] at h
    split at h
    · rename_i m r h1 h2
      cases h
      simp only [Caps] at k ⊢
      obtain ⟨b, vs', rfl, hb, hk⟩ := k
      exact ⟨b, vs', rfl, hr _ _ _ h1 hb, seeCaps_caps hr h2 hk⟩
    · cases h

mutual
theorem Rep.see {g g0 : Gh} {w : World} {ren : List (Nat × Nat)} (hr : ∀ n m b, lk ren n = some m → g.bx n = some b → g0.bx m = some b) (hf : g0.Fz = g.Fz) : ∀ {d : D} {v : Value}, Rep g w d v → Rep g0 w (d.see ren) v
  | .pd _, _, h => by simp only [Rep, D.see] at h ⊢; rw [hf]; exact h
  | .nils, _, h => by simp only [Rep, D.see] at h ⊢; subst h; exact .empty _ _
  | .own .., _, h => by simp only [Rep, D.see] at h ⊢; rw [hf]; exact h.1
  | .ptr n o, _, h => by
    simp only [Rep, D.see] at h ⊢
    split
    · rename_i m hm
      simp only [Rep]; obtain ⟨b, hb, e⟩ := h; exact ⟨b, hr _ _ _ hm hb, e⟩
    · simp only [Rep]
  | .eptr _, _, h => by simp only [Rep, D.see] at h ⊢; rw [hf]; exact h
  | .fn f caps, _, h => by
    simp only [Rep, D.see] at h ⊢
    split
    · rename_i cs hcs
      simp only [Rep]; obtain ⟨cv, e, hc⟩ := h; exact ⟨cv, e, seeCaps_caps hr hcs hc⟩
    · simp only [Rep]
  | .mp _, _, h => by simp only [D.see, Rep]
  | .agg _, _, h => by simp only [Rep, D.see] at h ⊢; obtain ⟨vs, e, hs⟩ := h; exact ⟨vs, e, Reps.see hr hf hs⟩
  | .tup _, _, h => by simp only [Rep, D.see] at h ⊢; obtain ⟨vs, e, hs⟩ := h; exact ⟨vs, e, Reps.see hr hf hs⟩
  | .any, _, _ => by simp only [D.see, Rep]
theorem Reps.see {g g0 : Gh} {w : World} {ren : List (Nat × Nat)} (hr : ∀ n m b, lk ren n = some m → g.bx n = some b → g0.bx m = some b) (hf : g0.Fz = g.Fz) : ∀ {ds : List D} {vs : List Value}, Reps g w ds vs → Reps g0 w (D.sees ren ds) vs
  | [], _, h => by simp only [Reps, D.sees] at h ⊢; exact h
  | _ :: _, _, h => by simp only [Reps, D.sees] at h ⊢; obtain ⟨v, vs', e, hv, hs⟩ := h; exact ⟨v, vs', e, Rep.see hr hf hv, Reps.see hr hf hs⟩
end

/-- What the callee knows of the variables. -/
def seeBs (ren : List (Nat × Nat)) (bs : List (Nat × List D)) : List (Nat × Nat) → List (Nat × List D)
  | [] => []
  | (n, m) :: r => match lk bs n with
    | some ds => (m, D.sees ren ds) :: seeBs ren bs r
    | none => seeBs ren bs r

theorem seeBs_lk {ren : List (Nat × Nat)} {bs : List (Nat × List D)} : ∀ {l : List (Nat × Nat)} {m : Nat} {ds : List D}, lk (seeBs ren bs l) m = some ds → ∃ n ds0, (n, m) ∈ l ∧ lk bs n = some ds0 ∧ ds = D.sees ren ds0
  | [], _, _, h => by simp [seeBs, lk] at h
  | (n, m') :: r, m, ds, h => by
    simp only [seeBs] at h
    split at h
    · rename_i ds0 h0
      simp only [lk] at h
      split at h
      · rename_i e
        subst e
        cases h
        exact ⟨n, ds0, by simp, h0, rfl⟩
      · obtain ⟨n', d', h1, h2, h3⟩ := seeBs_lk h
        exact ⟨n', d', List.mem_cons_of_mem _ h1, h2, h3⟩
    · obtain ⟨n', d', h1, h2, h3⟩ := seeBs_lk h
      exact ⟨n', d', List.mem_cons_of_mem _ h1, h2, h3⟩

def lkr : List (Nat × Nat) → Nat → Option Nat
  | [], _ => none
  | (n, m) :: r, k => if k = m then some n else lkr r k

/-- Names are given one to one; the callee's are those of variables that it may only read. -/
def renOK (ren : List (Nat × Nat)) : Bool := decide ((ren.map (·.1)).Nodup) && decide ((ren.map (·.2)).Nodup) && ren.all fun p => decide (1000000 ≤ p.2)

theorem lk_mem {ren : List (Nat × Nat)} : ∀ {n m : Nat}, lk ren n = some m → (n, m) ∈ ren := by
  induction ren with
  | nil => intro n m h; simp [lk] at h
  | cons p r ih =>
    obtain ⟨a, b⟩ := p
    intro n m h
    simp only [lk] at h
    split at h
    · rename_i e; subst e; cases h; simp
    · exact List.mem_cons_of_mem _ (ih h)

theorem lkr_mem {ren : List (Nat × Nat)} : ∀ {n m : Nat}, lkr ren m = some n → (n, m) ∈ ren := by
  induction ren with
  | nil => intro n m h; simp [lkr] at h
  | cons p r ih =>
    obtain ⟨a, b⟩ := p
    intro n m h
    simp only [lkr] at h
    split at h
    · rename_i e; subst e; cases h; simp
    · exact List.mem_cons_of_mem _ (ih h)

theorem mem_lkr {ren : List (Nat × Nat)} (hn : (ren.map (·.2)).Nodup) : ∀ {n m : Nat}, (n, m) ∈ ren → lkr ren m = some n := by
  induction ren with
  | nil => intro n m h; cases h
  | cons p r ih =>
    obtain ⟨a, b⟩ := p
    intro n m h
    simp only [List.map_cons, List.nodup_cons] at hn
    simp only [lkr]
    rcases List.mem_cons.1 h with h' | h'
    · cases h'; simp
    · have hne : ¬ m = b := fun e => hn.1 (List.mem_map.2 ⟨(n, m), h', e⟩)
      rw [if_neg hne]
      exact ih hn.2 h'

theorem mem_fst {ren : List (Nat × Nat)} (hn : (ren.map (·.1)).Nodup) : ∀ {n m k : Nat}, (n, m) ∈ ren → (n, k) ∈ ren → m = k := by
  induction ren with
  | nil => intro n m k h; cases h
  | cons p r ih =>
    obtain ⟨a, b⟩ := p
    intro n m k h h'
    simp only [List.map_cons, List.nodup_cons] at hn
    rcases List.mem_cons.1 h with h | h <;> rcases List.mem_cons.1 h' with h' | h'
    · cases h; cases h'; rfl
    · cases h; exact absurd (List.mem_map.2 ⟨_, h', rfl⟩) hn.1
    · cases h'; exact absurd (List.mem_map.2 ⟨_, h, rfl⟩) hn.1
    · exact ih hn.2 h h'

/-- A function that reads variables, over abstract values. -/
def PureB (P : Program) (f : FuncId) (args : List D) (bs : List (Nat × List D)) (R : D → Prop) : Prop :=
  ∀ (g0 : Gh) (w : World) (vs : List Value), g0.tk = (fun _ => none) → g0.df = [] → (∀ N, Mem (.fn P w g0.Fz (fun _ => False) N) bs [] g0 w) → Reps g0 w args vs →
    Calls P f vs.toArray w fun e w' => ∃ v d Fz', e = .returned v ∧ R d ∧ d.closed = true ∧ Below w.heap.size w w' ∧ Ex g0.Fz w Fz' w' ∧ (∀ b o, Fz' b o → b < w'.heap.size) ∧ (∀ b o, Fz' b o → b < w.heap.size → g0.Fz b o) ∧ Rep (gh0 Fz') w' d v

theorem PureB.mono {P : Program} {f : FuncId} {args : List D} {bs : List (Nat × List D)} {R R' : D → Prop} (h : PureB P f args bs R) (hr : ∀ d, R d → R' d) : PureB P f args bs R' :=
  fun g0 w vs h1 h2 h3 h4 => (h g0 w vs h1 h2 h3 h4).mono fun _ _ ⟨v, d, Fz', h1, h2, h3⟩ => ⟨v, d, Fz', h1, hr d h2, h3⟩

theorem PureB.pureW {P : Program} {f : FuncId} {args args0 : List D} {bs0 : List (Nat × List D)} {R : D → Prop} (he : Enters P f) (h : PureB P f args0 bs0 R) (st : St) (ren : List (Nat × Nat)) (hok : renOK ren = true)
    (ha : D.sees ren args = args0) (hb : seeBs ren st.bs ren = bs0) : PureW P f args st R := by
  refine ⟨he, fun C g a w vs _ hs hr => ?_⟩
  subst ha hb
  simp only [renOK, Bool.and_eq_true, decide_eq_true_eq] at hok
  have m := hs.mem
  obtain ⟨g0, hg0⟩ : ∃ g0 : Gh, g0 = ⟨fun k => (lkr ren k).bind g.bx, fun _ => none, g.Fz, []⟩ := ⟨_, rfl⟩
  have hf : g0.Fz = g.Fz := by rw [hg0]
  have hren : ∀ n k b, lk ren n = some k → g.bx n = some b → g0.bx k = some b := fun n k b h1 h2 => by
    rw [hg0]
    simp [mem_lkr hok.1.2 (lk_mem h1), h2]
  have hinv : ∀ k b, g0.bx k = some b → ∃ n, (n, k) ∈ ren ∧ g.bx n = some b := fun k b h1 => by
    rw [hg0] at h1
    obtain ⟨n, h2, h3⟩ := Option.bind_eq_some_iff.1 h1
    exact ⟨n, lkr_mem h2, h3⟩
  have hmem : ∀ N, Mem (.fn P w g0.Fz (fun _ => False) N) (seeBs ren st.bs ren) [] g0 w := fun N => {
    os := rfl, tape := rfl, output := rfl, hsz := Nat.le_refl _, old := fun _ _ _ _ => rfl, keep := Ex.refl _ _, newfz := fun _ _ h _ => .inl h
    fzlt := fun b o h => m.fzlt b o (by rw [← hf]; exact h)
    bxs := fun k ds hk => by
      obtain ⟨n, ds0, h1, h2, rfl⟩ := seeBs_lk hk
      obtain ⟨b, cs, t, h3, h4, h5⟩ := m.bxs n ds0 h2
      refine ⟨b, cs, t, ?_, h4, h5.see hren hf⟩
      rw [hg0]
      simp [mem_lkr hok.1.2 h1, h3]
    mps := fun n ds h => by simp [lk] at h
    bxok := fun k b hk => by
      obtain ⟨n, h1, h2⟩ := hinv k b hk
      refine ⟨(m.bxok n b h2).1, .inr (.inr (by simpa using List.all_eq_true.1 hok.2 _ h1)), fun o ho => (m.bxok n b h2).2.2 o (by rw [← hf]; exact ho)⟩
    bxinj := fun k j b hk hj => by
      obtain ⟨n, h1, h2⟩ := hinv k b hk
      obtain ⟨n', h3, h4⟩ := hinv j b hj
      have := m.bxinj n n' b h2 h4
      subst this
      exact mem_fst hok.1.1 h1 h3
    tks := fun t v e h => by rw [hg0] at h; cases h
    tkinj := fun t s v u e f b h => by rw [hg0] at h; cases h
    bxtk := fun n t b v e _ h => by rw [hg0] at h; cases h
    dfs := fun D hD => by rw [hg0] at hD; cases hD
    dnd := by rw [hg0]; exact List.nodup_nil
    bxdf := fun n D hD => by rw [hg0] at hD; cases hD
    bxdm := fun n b _ h => h }
  refine (h g0 w vs (by rw [hg0]) (by rw [hg0]) hmem (hr.see hren hf)).mono ?_
  rintro e w' ⟨v, d, Fz', rfl, hd, hcl, hb, hx, hlt, hnew, hrep⟩
  rw [hf] at hx hnew
  obtain ⟨h2, h3⟩ := hs.called hb Fz' hx hlt
  refine ⟨v, d, _, rfl, hd, h2, Rep.close (g := gh0 Fz') (g' := g.withFz w.heap.size Fz') (fun b o hf => ⟨?_, rfl⟩) hcl hrep, h3.ex, fun n b _ hn => ⟨hn, hb.block b (hs.mem.bxok n b hn).1⟩⟩
  rcases Nat.lt_or_ge b w.heap.size with hlt' | hge
  · exact .inl (hnew b o hf hlt')
  · exact .inr ⟨hge, hf⟩

theorem PureB.callW {P : Program} {f : FuncId} {args args0 : List D} {bs0 : List (Nat × List D)} {R : D → Prop} (he : Enters P f) (h : PureB P f args0 bs0 R) (st : St) (ren : List (Nat × Nat)) (hok : renOK ren = true)
    (ha : D.sees ren args = args0) (hb : seeBs ren st.bs ren = bs0) {K : D → St → Prop} (hk : ∀ d, R d → K d st) : CallW P f args st K :=
  (h.pureW he st ren hok ha hb).callW hk

/-- From its code. -/
theorem pureB_of_run {P : Program} (hm : P.follows .mixedOrders = true) (an : Ann) {f : FuncId} {fn : Func} {c : Code} {ac : AC} (hf : P.funcs[f]? = some fn) (hb : fn.body = some c) (hc : compC P an c = some ac)
    (hd : ac.dstOK fn.ntmps (fun i => decide (i < fn.ntmps)) = true) {args : List D} {bs : List (Nat × List D)} {R : D → Prop} (hN : args.length ≤ fn.ntmps) (hrun : run P ac ⟨frOf 0 args, bs, [], .no⟩ (retK P fn R)) : PureB P f args bs R := by
  intro g0 w vs htk hdf hmem hr
  have hinit : SR (.fn P w g0.Fz (fun _ => False) fn.ntmps) ⟨frOf 0 args, bs, [], .no⟩ g0 { tmps := vs.toArray ++ Array.replicate (fn.ntmps - vs.toArray.size) undef, defers := [] } w := {
    defers := by rw [hdf]; rfl
    size := by
      have := hr.length
      simp; omega
    rep := fun i d hd => by
      obtain ⟨_, h2⟩ := frOf_lk args 0 i d hd
      simp only [Nat.sub_zero] at h2
      obtain ⟨v, h3, h4⟩ := hr.get i d h2
      have hi := (List.getElem?_eq_some_iff.1 h2).1
      refine ⟨by show i < fn.ntmps; omega, ?_⟩
      have hiv := (List.getElem?_eq_some_iff.1 h3).1
      simp only [Array.getD_eq_getD_getElem?]
      rw [Array.getElem?_append_left (by simpa using hiv), List.getElem?_toArray, h3]
      exact h4
    mem := hmem _
    x := rfl
    fix := fun i v h => by cases h }
  refine (callsIn_wide (n := 0)).1 (callsIn_of_wp_marks (F := FW none) hf hb trivial (wpIn_mono (run_in (.fn P w g0.Fz (fun _ => False) fn.ntmps) hm (yok_fn _ _ _ _ _) (plain_fn _ _ _ _ _) an 0 c ac hc hd _ _ hrun g0 _ w hinit) ?_) rfl)
  have key : ∀ (a' : Act) (w' : World), (∃ st g, SR (.fn P w g0.Fz (fun _ => False) fn.ntmps) st g a' w' ∧ ∃ ds, resD P st fn.results.toList = some ds ∧ (oneD ds).pub.closed = true ∧ R (oneD ds).pub) →
      LeavesInM (FW none) 0 P fn a'.tmps (fun e w' => ∃ v' d Fz', e = .returned v' ∧ R d ∧ d.closed = true ∧ Below w.heap.size w w' ∧ Ex g0.Fz w Fz' w' ∧ (∀ b o, Fz' b o → b < w'.heap.size) ∧ (∀ b o, Fz' b o → b < w.heap.size → g0.Fz b o) ∧ Rep (gh0 Fz') w' d v') a'.defers .returning w' := by
    rintro a' w' ⟨st, g, hs, ds, h1, h2, h3⟩
    refine leave_marks g.df g a' w' rfl hs fun g' a2 w2 e _ hs' => ?_
    obtain ⟨v, h4, h5⟩ := results_run hs' fn ds h1
    have m := hs'.mem
    rw [e] at h4
    refine ⟨v, h4, v, (oneD ds).pub, g'.Fz, rfl, h3, h2, ⟨m.os, m.tape, m.output, m.hsz, fun k hk => m.old k hk (fun h => h) (fun h => h)⟩, m.keep, m.fzlt, fun b o h1 h2 => (m.newfz b o h1 h2).resolve_right id, ?_⟩
    exact Rep.close (g := g') (g' := gh0 g'.Fz) (Ex.refl _ _) h2 h5.pub
  intro e a' w' h
  cases e <;> simp only [Post] at h
  · exact key a' w' h
  · obtain ⟨_, _, _, h⟩ := h; exact h.elim
  · obtain ⟨_, _, _, h⟩ := h; exact h.elim
  · exact key a' w' h

end Go.Proofs.YtbpgebfejebmlaaGreatDoor
