/- The abstract layer, part 18b: functions that write variables, or make new ones. -/
import Derived.Test.YtbpgebfejebmlaaGreatDoorC1
namespace Go.Proofs.YtbpgebfejebmlaaGreatDoor
open Go Go.RowKit
set_option linter.unusedSimpArgs false
set_option linter.unusedVariables false

/-- The context of a function that is handed variables. -/
def Ctx.call (P : Program) (w : World) (g : Gh) (N : Nat) (pin : Bool) : Ctx :=
  ⟨P, w, g.Fz, g.S, N, fun i => decide (i < N) && (!pin || decide (i < 100000)), fun n => if pin = true ∧ 500000 ≤ n then g.bx n else none, fun h _ _ => h = .no, fun _ => False,
    fun i h => by
      simp only [Bool.and_eq_true, decide_eq_true_eq, Bool.or_eq_true, Bool.not_eq_true'] at h
      refine ⟨h.1, if_neg fun hp => ?_⟩
      rcases h.2 with h2 | h2
      · rw [h2] at hp; cases hp.1
      · omega,
    fun n _ h2 => if_neg fun hp => by omega,
    fun _ h => h.elim, fun _ _ _ _ _ _ h _ _ _ => h⟩

theorem Mem.toN {P : Program} {w : World} {g0 : Gh} {N : Nat} {pin : Bool} {bs : List (Nat × List D)} {ms : List (Nat × List (Value × Value))} {g : Gh} {w' : World} (m : Mem (.call P w g0 N pin) bs ms g w') (N' : Nat) : Mem (.call P w g0 N' pin) bs ms g w' where
  os := m.os
  tape := m.tape
  output := m.output
  hsz := m.hsz
  old := m.old
  keep := m.keep
  newfz := m.newfz
  fzlt := m.fzlt
  bxs := m.bxs
  mps := m.mps
  bxok := m.bxok
  bxinj := m.bxinj
  tks := m.tks
  tkinj := m.tkinj
  bxtk := m.bxtk
  dfs := m.dfs
  dnd := m.dnd
  bxdf := m.bxdf
  bxdm := m.bxdm

theorem AC.dstOK_mono {N : Nat} {p q : Nat → Bool} (hpq : ∀ i, p i = true → q i = true) : ∀ {x : AC}, x.dstOK N p = true → x.dstOK N q = true
  | .skip, _ => rfl
  | .ret, _ => rfl
  | .exit _, _ => rfl
  | .seq x y, h => by
    simp only [AC.dstOK, Bool.and_eq_true] at h ⊢
    exact ⟨AC.dstOK_mono hpq h.1, AC.dstOK_mono hpq h.2⟩
  | .cond _ x y, h => by
    simp only [AC.dstOK, Bool.and_eq_true] at h ⊢
    exact ⟨AC.dstOK_mono hpq h.1, AC.dstOK_mono hpq h.2⟩
  | .block _ x, h => by simp only [AC.dstOK] at h ⊢; exact AC.dstOK_mono hpq h
  | .loop x, h => by simp only [AC.dstOK] at h ⊢; exact AC.dstOK_mono hpq h
  | .region l kp, h => by
    simp only [AC.dstOK, Bool.and_eq_true, List.all_eq_true] at h ⊢
    refine ⟨fun o ho => ?_, h.2⟩
    have := h.1 o ho
    unfold Go.Proofs.YtbpgebfejebmlaaGreatDoor.dstOK at this ⊢
    split at this <;> first | exact hpq _ this | rfl
  | .draw l _ _ kp, h => by
    simp only [AC.dstOK, Bool.and_eq_true, List.all_eq_true] at h ⊢
    refine ⟨fun o ho => ?_, h.2⟩
    have := h.1 o ho
    unfold Go.Proofs.YtbpgebfejebmlaaGreatDoor.dstOK at this ⊢
    split at this <;> first | exact hpq _ this | rfl
  | .rangeF .., h => by simp only [AC.dstOK] at h ⊢; exact h

mutual
/-- Names, and rows of one's own, by others' names. -/
def D.ren (kn : Bool) (ren tn : List (Nat × Nat)) : D → D
  | .ptr n o => match lk ren n with
    | some m => .ptr m o
    | none => .any
  | .fn f caps => match seeCaps ren caps with
    | some cs => .fn f cs
    | none => .any
  | .own e sz els t => match lk tn t with
    | some s => .own e sz els s
    | none => .pd (.slice els)
  | .nils => if kn then .nils else .pd (.slice [])
  | .mp _ => .any
  | .agg ds => .agg (D.rens kn ren tn ds)
  | .tup ds => .tup (D.rens kn ren tn ds)
  | .pd x => .pd x
  | .eptr cs => .eptr cs
  | .any => .any
def D.rens (kn : Bool) (ren tn : List (Nat × Nat)) : List D → List D
  | [] => []
  | d :: ds => D.ren kn ren tn d :: D.rens kn ren tn ds
end

mutual
/-- What may be kept of names and of rows of one's own. -/
def D.sel (kn kt : Nat → Bool) : D → D
  | .ptr n o => if kn n then .ptr n o else .any
  | .fn f caps => if caps.all (fun c => kn c.1) then .fn f caps else .any
  | .own e sz els t => if kt t then .own e sz els t else .pd (.slice els)
  | .mp n => if kn n then .mp n else .any
  | .agg ds => .agg (D.sels kn kt ds)
  | .tup ds => .tup (D.sels kn kt ds)
  | .pd x => .pd x
  | .nils => .nils
  | .eptr cs => .eptr cs
  | .any => .any
def D.sels (kn kt : Nat → Bool) : List D → List D
  | [] => []
  | d :: ds => D.sel kn kt d :: D.sels kn kt ds
end

section
variable {g g' : Gh} {w w' : World}

section
variable {kn : Bool} {ren tn : List (Nat × Nat)}
mutual
theorem Rep.ren (hr : ∀ n m b, lk ren n = some m → g.bx n = some b → g'.bx m = some b) (ht : ∀ t s x, lk tn t = some s → g.tk t = some x → g'.tk s = some x) (hx : Ex g.Fz w g'.Fz w') : ∀ {d : D} {v : Value}, Rep g w d v → Rep g' w' (d.ren kn ren tn) v
  | .pd _, _, h => by simp only [Rep, D.ren] at h ⊢; exact h.mono hx
  | .nils, _, h => by
    simp only [Rep, D.ren] at h ⊢
    subst h
    split
    · simp only [Rep]
    · simp only [Rep]; exact .empty _ _
  | .own .., _, h => by
    simp only [Rep, D.ren] at h ⊢
    split
    · rename_i s hs
      simp only [Rep]; exact ⟨h.1.mono hx, ht _ _ _ hs h.2.1, h.2.2⟩
    · simp only [Rep]; exact h.1.mono hx
  | .ptr n o, _, h => by
    simp only [Rep, D.ren] at h ⊢
    split
    · rename_i m hm
      simp only [Rep]; obtain ⟨b, hb, e⟩ := h; exact ⟨b, hr _ _ _ hm hb, e⟩
    · simp only [Rep]
  | .eptr _, _, h => by
    simp only [Rep, D.ren] at h ⊢
    obtain ⟨b, off, vs, e, hp, hc⟩ := h
    exact ⟨b, off, vs, e, hp.mono hx, fun i u hu => ⟨(hx _ _ (hc i u hu).2).2.trans (hc i u hu).1, (hx _ _ (hc i u hu).2).1⟩⟩
  | .fn f caps, _, h => by
    simp only [Rep, D.ren] at h ⊢
    split
    · rename_i cs hcs
      simp only [Rep]; obtain ⟨cv, e, hc⟩ := h; exact ⟨cv, e, seeCaps_caps hr hcs hc⟩
    · simp only [Rep]
  | .mp _, _, h => by simp only [D.ren, Rep]
  | .agg _, _, h => by simp only [Rep, D.ren] at h ⊢; obtain ⟨vs, e, hs⟩ := h; exact ⟨vs, e, Reps.ren hr ht hx hs⟩
  | .tup _, _, h => by simp only [Rep, D.ren] at h ⊢; obtain ⟨vs, e, hs⟩ := h; exact ⟨vs, e, Reps.ren hr ht hx hs⟩
  | .any, _, _ => by simp only [D.ren, Rep]
theorem Reps.ren (hr : ∀ n m b, lk ren n = some m → g.bx n = some b → g'.bx m = some b) (ht : ∀ t s x, lk tn t = some s → g.tk t = some x → g'.tk s = some x) (hx : Ex g.Fz w g'.Fz w') : ∀ {ds : List D} {vs : List Value}, Reps g w ds vs → Reps g' w' (D.rens kn ren tn ds) vs
  | [], _, h => by simpa only [D.rens, Reps] using h
  | _ :: _, _, h => by simp only [Reps, D.rens] at h ⊢; obtain ⟨v, vs', e, hv, hs⟩ := h; exact ⟨v, vs', e, Rep.ren hr ht hx hv, Reps.ren hr ht hx hs⟩
end
end

theorem Caps.sel {kn : Nat → Bool} (hb : ∀ n b, kn n = true → g.bx n = some b → g'.bx n = some b) : ∀ {cs : List (Nat × Nat)} {vs : List Value}, cs.all (fun c => kn c.1) = true → Caps g cs vs → Caps g' cs vs
  | [], _, _, h => h
  | c :: cs, _, hn, ⟨b, vs', e, h, hs⟩ => by
    simp only [List.all_cons, Bool.and_eq_true] at hn
    exact ⟨b, vs', e, hb _ _ hn.1 h, Caps.sel hb hn.2 hs⟩

section
variable {kn kt : Nat → Bool}
mutual
theorem Rep.sel (hb : ∀ n b, kn n = true → g.bx n = some b → g'.bx n = some b) (ht : ∀ t x, kt t = true → g.tk t = some x → g'.tk t = some x) (hx : Ex g.Fz w g'.Fz w') : ∀ {d : D} {v : Value}, Rep g w d v → Rep g' w' (d.sel kn kt) v
  | .pd _, _, h => by simp only [Rep, D.sel] at h ⊢; exact h.mono hx
  | .nils, _, h => by simp only [Rep, D.sel] at h ⊢; exact h
  | .own .., _, h => by
    simp only [Rep, D.sel] at h ⊢
    split
    · rename_i hs
      simp only [Rep]; exact ⟨h.1.mono hx, ht _ _ hs h.2.1, h.2.2⟩
    · simp only [Rep]; exact h.1.mono hx
  | .ptr n o, _, h => by
    simp only [Rep, D.sel] at h ⊢
    split
    · rename_i hm
      simp only [Rep]; obtain ⟨b, hb', e⟩ := h; exact ⟨b, hb _ _ hm hb', e⟩
    · simp only [Rep]
  | .eptr _, _, h => by
    simp only [Rep, D.sel] at h ⊢
    obtain ⟨b, off, vs, e, hp, hc⟩ := h
    exact ⟨b, off, vs, e, hp.mono hx, fun i u hu => ⟨(hx _ _ (hc i u hu).2).2.trans (hc i u hu).1, (hx _ _ (hc i u hu).2).1⟩⟩
  | .fn f caps, _, h => by
    simp only [Rep, D.sel] at h ⊢
    split
    · rename_i hcs
      simp only [Rep]; obtain ⟨cv, e, hc⟩ := h; exact ⟨cv, e, hc.sel hb hcs⟩
    · simp only [Rep]
  | .mp n, _, h => by
    simp only [Rep, D.sel] at h ⊢
    split
    · rename_i hm
      simp only [Rep]; obtain ⟨b, hb', e⟩ := h; exact ⟨b, hb _ _ hm hb', e⟩
    · simp only [Rep]
  | .agg _, _, h => by simp only [Rep, D.sel] at h ⊢; obtain ⟨vs, e, hs⟩ := h; exact ⟨vs, e, Reps.sel hb ht hx hs⟩
  | .tup _, _, h => by simp only [Rep, D.sel] at h ⊢; obtain ⟨vs, e, hs⟩ := h; exact ⟨vs, e, Reps.sel hb ht hx hs⟩
  | .any, _, _ => by simp only [D.sel, Rep]
theorem Reps.sel (hb : ∀ n b, kn n = true → g.bx n = some b → g'.bx n = some b) (ht : ∀ t x, kt t = true → g.tk t = some x → g'.tk t = some x) (hx : Ex g.Fz w g'.Fz w') : ∀ {ds : List D} {vs : List Value}, Reps g w ds vs → Reps g' w' (D.sels kn kt ds) vs
  | [], _, h => by simpa only [D.sels, Reps] using h
  | _ :: _, _, h => by simp only [Reps, D.sels] at h ⊢; obtain ⟨v, vs', e, hv, hs⟩ := h; exact ⟨v, vs', e, Rep.sel hb ht hx hv, Reps.sel hb ht hx hs⟩
end
end
end

/-- What is told of variables, by others' names. -/
def renBs (kn : Bool) (ren tn : List (Nat × Nat)) (bs : List (Nat × List D)) : List (Nat × Nat) → List (Nat × List D)
  | [] => []
  | (n, m) :: r => match lk bs n with
    | some ds => (m, D.rens kn ren tn ds) :: renBs kn ren tn bs r
    | none => renBs kn ren tn bs r

theorem renBs_lk {kn : Bool} {ren tn : List (Nat × Nat)} {bs : List (Nat × List D)} : ∀ {l : List (Nat × Nat)} {m : Nat} {ds : List D}, lk (renBs kn ren tn bs l) m = some ds → ∃ n ds0, (n, m) ∈ l ∧ lk bs n = some ds0 ∧ ds = D.rens kn ren tn ds0
  | [], _, _, h => by simp [renBs, lk] at h
  | (n, m') :: r, m, ds, h => by
    simp only [renBs] at h
    split at h
    · rename_i ds0 h0
      simp only [lk] at h
      split at h
      · rename_i e
        subst e
        cases h
        exact ⟨n, ds0, by simp, h0, rfl⟩
      · obtain ⟨n', d', h1, h2, h3⟩ := renBs_lk h
        exact ⟨n', d', List.mem_cons_of_mem _ h1, h2, h3⟩
    · obtain ⟨n', d', h1, h2, h3⟩ := renBs_lk h
      exact ⟨n', d', List.mem_cons_of_mem _ h1, h2, h3⟩

/-- A function that is handed variables, and may write them, or make new ones, over abstract values. -/
def Full (P : Program) (f : FuncId) (args : List D) (bs : List (Nat × List D)) (pin : Bool) (R : D → List (Nat × List D) → Prop) : Prop :=
  ∀ (g0 : Gh) (w : World) (vs : List Value), g0.df = [] → (∀ n b, g0.bx n = some b → 500000 ≤ n) → (∀ N, Mem (.call P w g0 N pin) bs [] g0 w) → Reps g0 w args vs →
    Calls P f vs.toArray w fun e w' => ∃ v d bs' g', e = .returned v ∧ R d bs' ∧ Mem (.call P w g0 0 pin) bs' [] g' w' ∧ g'.df = [] ∧ (pin = true → ∀ n b, g0.bx n = some b → g'.bx n = some b) ∧ Rep g' w' d v

/-- What it leaves. -/
def fullK (P : Program) (fn : Func) (R : D → List (Nat × List D) → Prop) : Exit → St → Prop
  | .normal, st => ∃ ds bs', resD P st fn.results.toList = some ds ∧ lessL bs' st.bs ∧ R (oneD ds) bs'
  | .ret, st => ∃ ds bs', resD P st fn.results.toList = some ds ∧ lessL bs' st.bs ∧ R (oneD ds) bs'
  | _, _ => False

theorem full_of_run {P : Program} (hm : P.follows .mixedOrders = true) (an : Ann) {f : FuncId} {fn : Func} {c : Code} {ac : AC} (hf : P.funcs[f]? = some fn) (hb : fn.body = some c) (hc : compC P an c = some ac)
    (hd : ac.dstOK fn.ntmps (fun i => decide (i < fn.ntmps)) = true) {args : List D} {bs : List (Nat × List D)} {pin : Bool} {R : D → List (Nat × List D) → Prop} (hN : args.length ≤ fn.ntmps) (hsz : fn.ntmps ≤ 100000)
    (hp : ac.noRange = true ∨ pin = false) (hrun : run P ac ⟨frOf 0 args, bs, [], .no⟩ (fullK P fn R)) : Full P f args bs pin R := by
  intro g0 w vs hdf hnm hmem hr
  have hinit : SR (.call P w g0 fn.ntmps pin) ⟨frOf 0 args, bs, [], .no⟩ g0 { tmps := vs.toArray ++ Array.replicate (fn.ntmps - vs.toArray.size) undef, defers := [] } w := {
    defers := by rw [hdf]; rfl
    size := by
      have := hr.length
      have e : (vs.toArray ++ Array.replicate (fn.ntmps - vs.toArray.size) undef).size = fn.ntmps := by simp; omega
      exact e
    rep := fun i d hd => by
      obtain ⟨_, h2⟩ := frOf_lk args 0 i d hd
      simp only [Nat.sub_zero] at h2
      obtain ⟨v, h3, h4⟩ := hr.get i d h2
      have hi := (List.getElem?_eq_some_iff.1 h2).1
      refine ⟨by show i < fn.ntmps; omega, ?_⟩
      have hiv := (List.getElem?_eq_some_iff.1 h3).1
      simp only [Array.getD_eq_getD_getElem?]
      rw [Array.getElem?_append_left (by simpa using hiv), List.getElem?_toArray, h3]
      exact h4
    mem := hmem _
    x := rfl
    fix := fun n b h => by
      have h' : (if pin = true ∧ 500000 ≤ n then g0.bx n else none) = some b := h
      split at h'
      · exact h'
      · cases h' }
  have hdst : ac.dstOK (Ctx.call P w g0 fn.ntmps pin).N (Ctx.call P w g0 fn.ntmps pin).wr = true := AC.dstOK_mono (fun i h => by
    simp only [decide_eq_true_eq] at h
    show (decide (i < fn.ntmps) && (!pin || decide (i < 100000))) = true
    have h2 : i < 100000 := by omega
    simp [h, h2]) hd
  have hnr : ac.noRange = true ∨ (none = (none : Option Nat) ∧ (Ctx.call P w g0 fn.ntmps pin).plain) := hp.imp_right fun e => ⟨rfl, fun _ _ _ _ _ h => h, fun n => by
    show (if pin = true ∧ 500000 ≤ n then g0.bx n else none) = none
    rw [e]; simp⟩
  refine (callsIn_wide (n := 0)).1 (callsIn_of_wp_marks (F := FW none) hf hb trivial (wpIn_mono (run_inR an c (.call P w g0 fn.ntmps pin) hm ⟨fun _ _ _ _ _ _ _ _ h => by cases h⟩ none 0 ac hnr hc hdst _ _ hrun g0 _ w hinit) ?_) rfl)
  have key : ∀ (a' : Act) (w' : World), (∃ st g, SR (.call P w g0 fn.ntmps pin) st g a' w' ∧ ∃ ds bs', resD P st fn.results.toList = some ds ∧ lessL bs' st.bs ∧ R (oneD ds) bs') →
      LeavesInM (FW none) 0 P fn a'.tmps (fun e w' => ∃ v d bs' g', e = .returned v ∧ R d bs' ∧ Mem (.call P w g0 0 pin) bs' [] g' w' ∧ g'.df = [] ∧ (pin = true → ∀ n b, g0.bx n = some b → g'.bx n = some b) ∧ Rep g' w' d v) a'.defers .returning w' := by
    rintro a' w' ⟨st, g, hs, ds, bs', h1, h2, h3⟩
    refine leave_marks (C := .call P w g0 fn.ntmps pin) g.df g a' w' rfl hs fun g' a2 w2 e hdf' hs' => ?_
    obtain ⟨v, h4, h5⟩ := results_run hs' fn ds h1
    rw [e] at h4
    refine ⟨v, h4, v, oneD ds, bs', g', rfl, h3, ?_, hdf', fun hp n b hn => hs'.fix n b ?_, h5⟩
    · exact Mem.toN { hs'.mem with bxs := fun n es hn => hs'.mem.bxs n es (lessL_lk h2 n es hn), mps := fun n es hn => by simp [lk] at hn } 0
    · show (if pin = true ∧ 500000 ≤ n then g0.bx n else none) = some b
      rw [if_pos ⟨hp, hnm n b hn⟩]; exact hn
  intro e a' w' h
  cases e <;> simp only [Post] at h
  · exact key a' w' h
  · obtain ⟨_, _, _, h⟩ := h; exact h.elim
  · obtain ⟨_, _, _, h⟩ := h; exact h.elim
  · exact key a' w' h

end Go.Proofs.YtbpgebfejebmlaaGreatDoor
