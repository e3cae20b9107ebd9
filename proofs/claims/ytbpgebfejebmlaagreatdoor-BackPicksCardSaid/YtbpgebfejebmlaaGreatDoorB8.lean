/- The abstract layer, part 17: code over abstract states. -/
import Derived.Test.YtbpgebfejebmlaaGreatDoorBB
import Derived.Deep.LoopGhost
import Derived.Shelf.Abstract
import Derived.RangeFuncOwn
import Derived.RangeFuncLeaves
namespace Go.Proofs.YtbpgebfejebmlaaGreatDoor
open Go Go.RowKit
set_option linter.unusedSimpArgs false
set_option linter.unusedVariables false

/-- What is to hold behind a piece of code: no panic, room enough. -/
def Post (C : Ctx) (K : Exit → St → Prop) : Exit → Act → World → Prop
  | .panic _, _, _ => False
  | .outgrown, _, _ => False
  | e, a, w => ∃ st g, SR C st g a w ∧ K e st

theorem post_out {C : Ctx} {K : Exit → St → Prop} : ¬ LetsOut (Post C K) := fun ⟨_, _, h⟩ => h

/-- One abstract state may be taken for another one. -/
def Weak (P : Program) (st st' : St) : Prop := ∀ (C : Ctx) (g : Gh) (a : Act) (w : World), C.P = P → SR C st g a w → ∃ g', SR C st' g' a w

theorem Weak.refl (P : Program) (st : St) : Weak P st st := fun _ g _ _ _ h => ⟨g, h⟩
theorem Weak.trans {P : Program} {s1 s2 s3 : St} (h : Weak P s1 s2) (k : Weak P s2 s3) : Weak P s1 s3 := fun C g a w hc hs => let ⟨_, h1⟩ := h C g a w hc hs; k C _ a w hc h1

/-! In a round's frame, too. -/

abbrev FW (ro : Option Nat) : Fence := { Fence.wide with round := ro }

section
variable {P : Program} {ro : Option Nat} {n : Nat} {o : Oper} {a : Act} {w : World} {next : Act → World → Prop} {Q : Exit → Act → World → Prop}

theorem calls_in {f : FuncId} {args : Array Value} {R : Ending → World → Prop} (h : Calls P f args w R) : CallsIn (FW ro) n P f args w R :=
  (callsIn_wide (n := n)).2 h

theorem oper_in (hnd : ∀ c, o.op ≠ .defer c) (h : o.wp P a w next Q) : o.wpIn (FW ro) n P a w next Q := by
  refine ⟨fun _ _ => trivial, ?_⟩
  rw [Oper.semAt_eq _ _ _ hnd]
  unfold Oper.wp at h
  generalize (execOp a.eval o).run P w = r at h
  cases r with
  | ok nx w' =>
    cases nx with
    | value v => exact h
    | skip => exact h
    | defer d => exact h
    | enter f args => exact ⟨fun h => by simp [Fence.wide] at h, calls_in h⟩
    | row r args => exact ⟨fun h => by simp [Fence.wide] at h, fun c cs _ => let ⟨v, w2, k, s⟩ := h c cs; ⟨v, w2, k, stepsIn_wide.2 s⟩⟩
    | _ => exact h.elim
  | halt x w' => cases x <;> first | exact h | exact h.elim

theorem wpOps_in {ops : Array Oper} (hnd : ∀ (i : Nat) (o : Oper), ops[i]? = some o → ∀ c, o.op ≠ .defer c) (hout : ¬ LetsOut Q) : ∀ (l : List Nat) (a : Act) (w : World), wpOps P ops Q l a w → wpOpsIn (FW ro) n P ops Q l a w
  | [], _, _, h => h
  | i :: l, a, w, h => by
    unfold wpOps at h
    unfold wpOpsIn
    cases ho : ops[i]? with
    | none => rw [ho] at h; exact wpOps_in hnd hout l a w h
    | some o =>
      rw [ho] at h
      simp only at h ⊢
      by_cases hw : Region.wanted o (yielded ops a.tmps) = true
      · rw [if_pos hw] at h ⊢
        rcases h with h | ⟨_, h⟩
        · exact oper_in (hnd i o ho) (Oper.wp_mono (fun a' w' h' => wpOps_in hnd hout l a' w' h') h)
        · exact absurd h hout
      · rw [if_neg hw] at h ⊢
        exact ⟨fun _ _ => trivial, wpOps_in hnd hout l _ w h⟩
end

theorem compL_nd {P : Program} {ops : Array Oper} {l : List AOper} (h : compL P ops (List.range ops.size) = some l) (i : Nat) (o : Oper) (ho : ops[i]? = some o) (c : Call) : o.op ≠ .defer c := by
  intro he
  have hlt := (Array.getElem?_eq_some_iff.1 ho).1
  have key : ∀ (idx : List Nat) (l : List AOper), compL P ops idx = some l → i ∈ idx → False := by
    intro idx
    induction idx with
    | nil => intro l _ hi; cases hi
    | cons j idx ih =>
      intro l h hi
      simp only [compL] at h
      split at h
      · rename_i o' ho'
        split at h
        · rename_i x xs h1 h2
          rcases List.mem_cons.1 hi with rfl | hi
          · rw [ho] at ho'; cases ho'
            obtain ⟨h3, _⟩ := compO_op h1
            rw [he] at h3
            have hn : comp P (.defer c) = none := rfl
            rw [hn] at h3; cases h3
          · exact ih xs h2 hi
        · cases h
      · cases h
  exact key _ l h (List.mem_range.2 hlt)

/-- What an iterator may rely on. -/
structure YOK (C : Ctx) : Prop where
  round : ∀ l xs i vs O w n, xs[i]? = some vs → C.X (.it l xs i false) O w → (∀ k, O k → k < w.heap.size) →
    YieldAt (FW none) n C.P l vs.toArray w fun e w' => ∃ b, e = .returned (.bool b) ∧ C.X (.it l xs (i + 1) (!b)) O w' ∧ KeepD (fun k => C.Dm k ∨ (C.w0.heap.size ≤ k ∧ ¬ O k)) w w'

section
variable {C : Ctx} {st : St} {g : Gh} {a : Act} {w : World}

theorem SR.told (hs : SR C st g a w) {w' : World} (hk : KeepD (fun k => C.Dm k ∨ (C.w0.heap.size ≤ k ∧ ¬ g.has C.w0.heap.size k)) w w') {h' : Hist} (hx : C.X h' (g.has C.w0.heap.size) w') : SR C { st with hs := h' } g a w' := by
  have m := hs.mem
  have nfz : ∀ b o, g.Fz b o → ¬ (C.Dm b ∨ (C.w0.heap.size ≤ b ∧ ¬ g.has C.w0.heap.size b)) := fun b o hf hd => by
    rcases hd with hd | ⟨h1, h2⟩
    · obtain ⟨h1, h2, h3⟩ := C.dmok b hd
      rcases m.newfz b o hf h1 with h | h
      · exact h3 o h
      · exact h2 h
    · exact h2 (.inr (.inr (.inr ⟨h1, o, hf⟩)))
  have ntk : ∀ b t v e, g.tk t = some (v, e) → v.ownBlock = some b → ¬ (C.Dm b ∨ (C.w0.heap.size ≤ b ∧ ¬ g.has C.w0.heap.size b)) := fun b t v e ht hv hd => by
    rcases hd with hd | ⟨h1, h2⟩
    · obtain ⟨h1, h2, h3⟩ := C.dmok b hd
      obtain ⟨_, _, _, _, _, _, h4⟩ := m.tks t v e ht
      rcases (h4 b hv).1 with h | h
      · omega
      · exact h2 h
    · exact h2 (.inr (.inl ⟨t, v, e, ht, hv⟩))
  have ndf : ∀ D ∈ g.df, ¬ (C.Dm D ∨ (C.w0.heap.size ≤ D ∧ ¬ g.has C.w0.heap.size D)) := fun b hD hd => by
    rcases hd with hd | ⟨h1, h2⟩
    · have := (C.dmok b hd).1
      have := (m.dfs b hD).1
      omega
    · exact h2 (.inr (.inr (.inl hD)))
  have nbx : ∀ n b, g.bx n = some b → ¬ (C.Dm b ∨ (C.w0.heap.size ≤ b ∧ ¬ g.has C.w0.heap.size b)) := fun n b hb hd => by
    rcases hd with hd | ⟨h1, h2⟩
    · exact m.bxdm n b hb hd
    · exact h2 (.inl ⟨n, .inr h1, hb⟩)
  have hex : Ex g.Fz w g.Fz w' := fun b o hf => ⟨hf, World.cell?_of_block (hk.block b (m.fzlt b o hf) (nfz b o hf))⟩
  have hgr : Gr g w g w' := ⟨fun _ _ h => h, fun _ _ h => h, hex⟩
  refine ⟨hs.defers, hs.size, fun i d hd => ⟨(hs.rep i d hd).1, (hs.rep i d hd).2.mono hgr⟩, ?_, hx, hs.fix⟩
  exact {
    os := hk.os.trans m.os
    tape := hk.tape.trans m.tape
    output := hk.output.trans m.output
    hsz := Nat.le_trans m.hsz hk.size
    old := fun k h1 h2 h3 => (hk.block k (Nat.lt_of_lt_of_le h1 m.hsz) (fun h => by
      rcases h with h | ⟨h, _⟩
      · exact h3 h
      · omega)).trans (m.old k h1 h2 h3)
    keep := m.keep.trans hex
    newfz := m.newfz
    fzlt := fun b o hf => Nat.lt_of_lt_of_le (m.fzlt b o hf) hk.size
    bxs := fun n ds hn => by
      obtain ⟨b, cs, t, h1, h2, h3⟩ := m.bxs n ds hn
      exact ⟨b, cs, t, h1, (hk.block b (m.bxok n b h1).1 (nbx n b h1)).trans h2, h3.mono hgr⟩
    mps := fun n es hn => by
      obtain ⟨b, en, c, h1, h2, h3⟩ := m.mps n es hn
      exact ⟨b, en, c, h1, (hk.block b (m.bxok n b h1).1 (nbx n b h1)).trans h2, h3⟩
    bxok := fun n b hb => ⟨Nat.lt_of_lt_of_le (m.bxok n b hb).1 hk.size, (m.bxok n b hb).2⟩
    bxinj := m.bxinj
    tks := fun t v e ht => by
      obtain ⟨i, n, xs, h1, h2, h3, h4⟩ := m.tks t v e ht
      refine ⟨i, n, xs, h1, h2, ⟨h3.1, ?_⟩, h4⟩
      rcases h3.2 with hn | ⟨gb, cap, cur, rfl, hb, hgg, rest⟩
      · exact .inl hn
      · exact .inr ⟨gb, cap, cur, rfl, hb, (hk.block gb (Array.getElem?_eq_some_iff.1 hgg).1 (ntk gb t _ e ht rfl)).trans hgg, rest⟩
    tkinj := m.tkinj
    bxtk := m.bxtk
    dfs := fun D hD => ⟨(m.dfs D hD).1, (hk.block D (Array.getElem?_eq_some_iff.1 (m.dfs D hD).2).1 (ndf D hD)).trans (m.dfs D hD).2⟩
    dnd := m.dnd
    bxdf := m.bxdf
    bxdm := m.bxdm }
end

section
variable {C : Ctx} {st : St} {g : Gh} {a : Act} {w : World} {ro : Option Nat} {n : Nat}

theorem raws_val : ∀ {ds : List D} {vs : List Value}, Reps g w ds vs → ∀ {us : List Value}, D.raws ds = some us → vs = us := fun h _ e => raws_inv h e

theorem valsD_inv : ∀ {ds : List D} {vs us : List Value}, Reps g w ds vs → valsD ds = some us → vs = us
  | [], _, _, h, hv => by
    simp only [valsD, Option.some.injEq] at hv
    simp only [Reps] at h
    rw [h, hv]
  | d :: ds, _, _, h, hv => by
    simp only [Reps] at h
    obtain ⟨v, vs', rfl, h1, h2⟩ := h
    simp only [valsD] at hv
    split at hv
    · rename_i u us e1 e2
      cases hv
      rw [valsD_inv h2 e2]
      congr 1
      unfold valD at e1
      split at e1
      · cases e1; exact raw_inv h1
      · obtain ⟨ws, e3, rfl⟩ := Option.map_eq_some_iff.1 e1
        simp only [Rep] at h1
        obtain ⟨xs, rfl, h3⟩ := h1
        rw [raws_inv h3 e3]
      · cases e1
    · cases hv

theorem comp_nd {P : Program} {op : Op} {ao : AOp} (h : comp P op = some ao) (c : Call) : op ≠ .defer c := by
  rintro rfl
  have hn : comp P (.defer c) = none := rfl
  rw [hn] at h; cases h

theorem ystep_in (hy : YOK C) {o : Oper} {ao : AOp} (h : comp C.P o.op = some ao) (hd : ∀ d, o.dst = some d → C.wr d = true) (gd : Option (Nat × Bool)) {K : St → Prop} (hs : SR C st g a w) (hk : ystep C.P ⟨gd, o.dst, ao⟩ st K)
    (next : Act → World → Prop) (Q : Exit → Act → World → Prop) (hn : ∀ st' g' a' w', SR C st' g' a' w' → K st' → next a' w') : o.wpIn (FW ro) n C.P a w next Q := by
  have plain : astep C.P ⟨gd, o.dst, ao⟩ st K → o.wpIn (FW ro) n C.P a w next Q := fun hk =>
    oper_in (comp_nd h) (astep_sound h hd gd hs hk next Q fun st' g' a' w' h1 h2 _ => hn st' g' a' w' h1 h2)
  unfold ystep at hk
  split at hk
  · rename_i x args hao
    simp only at hao
    subst hao
    split at hk
    · rename_i l first caps hev
      split at hk
      · rename_i l' xs i vs hhs hvs
        obtain ⟨rfl, rfl, rfl, hxi, hk1, hk2⟩ := hk
        have hx := hs.ev x
        rw [hev] at hx
        have ex := raw_inv hx
        obtain ⟨c, ho, hc, hargs⟩ : ∃ c : Call, o.op = .call c ∧ c.callee = .value x ∧ c.args.toList = args := by
          rcases comp_inv h (by rfl) with ⟨c', x', y', ho, he⟩ | ⟨c, f, ho, hc, he⟩ | ⟨c, x', ho, hc, he⟩ | ⟨c, x, y, t, e, i, z, ho, hc, ha, ht, hu, hi, hz, hzs, hpos, he⟩
          · cases he
          · cases he
          · cases he; exact ⟨c, ho, hc, rfl⟩
          · cases he
        have hv := valsD_inv (Reps.evs hs args) hvs
        have hX : C.X (.it l' xs i false) (g.has C.w0.heap.size) w := by have := hs.x; rwa [hhs] at this
        obtain ⟨fn, tmps, asg, body, hyr, hrd⟩ := hy.round l' xs i vs _ w (n - 1) hxi hX (fun k hk => hs.mem.has_lt hk)
        refine ⟨fun _ _ => trivial, ?_⟩
        have hrun : (execOp a.eval o).run C.P w = .ok (.round l' fn tmps asg body) w := by
          unfold execOp
          have e1 : (c.args.map a.eval) = vs.toArray := by rw [← hv, ← hargs, map_arr]
          simp only [ho, resolve, hc, ex, Deferred.ofValue, invoke, Sem.run_bind, Sem.run_pure, Result.andThen_ok, e1, Array.empty_append, hyr]
        rw [Oper.semAt_eq _ _ _ (comp_nd h), hrun, Oper.uponIn_round]
        refine ⟨fun h => by simp [Fence.wide] at h, ?_⟩
        refine RoundIn.mono (F := FW ro) (show RoundIn (FW ro) (n - 1) C.P l' fn tmps asg body w _ from hrd) ?_
        rintro e w' ⟨b, rfl, hx', hkd⟩
        have hs' := hs.told hkd hx'
        cases b
        · exact hn _ g _ w' (hs'.puto (dst := o.dst) hd (rep_raw rfl)) hk2
        · exact hn _ g _ w' (hs'.puto (dst := o.dst) hd (rep_raw rfl)) hk1
      · exact hk.elim
    · exact plain hk
  · exact plain hk

theorem aops_in (hy : YOK C) (ops : Array Oper) : ∀ (l : List Nat) (aos : List AOper), compL C.P ops l = some aos → aos.all (dstOK C.wr) = true → ∀ (st : St) (K : St → Prop) (g : Gh) (a : Act) (w : World), SR C st g a w → aops C.P aos st K →
    ∀ Q : Exit → Act → World → Prop, (∀ st' g' a' w', SR C st' g' a' w' → K st' → Q .normal a' w') → wpOpsIn (FW ro) n C.P ops Q l a w
  | [], aos, hc, _, st, K, g, a, w, hs, hk, Q, hq => by
    simp only [compL, Option.some.injEq] at hc
    subst hc
    exact hq st g a w hs hk
  | j :: l, aos, hc, hd, st, K, g, a, w, hs, hk, Q, hq => by
    simp only [compL] at hc
    split at hc
    · rename_i o hoj
      split at hc
      · rename_i ao aos' hco hcl
        cases hc
        simp only [List.all_cons, Bool.and_eq_true] at hd
        unfold compO at hco
        split at hco
        · rename_i aop hcomp
          have hdst : ∀ d, o.dst = some d → C.wr d = true := by
            intro d he
            have h1 := hd.1
            split at hco
            · cases hco; simp only [dstOK, he] at h1; exact h1
            · obtain ⟨s, _, rfl⟩ := Option.map_eq_some_iff.1 hco
              simp only [dstOK, he] at h1; exact h1
          have ih := aops_in hy ops l aos' hcl hd.2
          unfold wpOpsIn
          rw [hoj]
          simp only
          split at hco
          · rename_i hg
            cases hco
            have hw : Region.wanted o (yielded ops a.tmps) = true := by simp [Region.wanted, hg]
            rw [if_pos hw]
            simp only [aops] at hk
            exact (ystep_in hy hcomp hdst none hs hk _ Q (fun st' g' a' w' h1 h2 => ih st' K g' a' w' h1 h2 Q hq))
          · rename_i k b hg
            obtain ⟨s, hsl, rfl⟩ := Option.map_eq_some_iff.1 hco
            simp only [aops] at hk
            split at hk
            · rename_i c hgc
              have hev := hs.ev (.tmp s)
              rw [show st.ev (.tmp s) = st.get s from rfl, hgc] at hev
              have e1 := raw_inv hev
              simp only [Act.eval] at e1
              have e2 : a.tmps[s]? = some (.bool c) := by
                rw [Array.getD_eq_getD_getElem?] at e1
                cases h3 : a.tmps[s]? with
                | none => rw [h3] at e1; simp [undef] at e1
                | some v => rw [h3] at e1; simpa using e1
              have hyd : yielded ops a.tmps k = some c := by
                unfold yielded
                rw [hsl, Option.bind_some, e2]
              by_cases hcb : c = b
              · have hw : Region.wanted o (yielded ops a.tmps) = true := by simp [Region.wanted, hg, hyd, hcb]
                rw [if_pos hw]
                exact (ystep_in hy hcomp hdst (some (s, b)) (hs.know (x := .tmp s) (b := b) (by rw [← hcb]; exact hgc)) (hk.1 hcb) _ Q (fun st' g' a' w' h1 h2 => ih st' K g' a' w' h1 h2 Q hq))
              · have hw : ¬ Region.wanted o (yielded ops a.tmps) = true := by simp [Region.wanted, hg, hyd, hcb]
                rw [if_neg hw]
                refine ⟨fun _ _ => trivial, ?_⟩
                have hcb' : c = !b := by cases c <;> cases b <;> simp_all
                exact ih _ K g _ w ((hs.know (x := .tmp s) (b := !b) (by rw [← hcb']; exact hgc)).puto (dst := o.dst) hdst rep_undef) (hk.2 hcb') Q hq
            · rename_i hgc
              have hw : ¬ Region.wanted o (yielded ops a.tmps) = true := by simp [Region.wanted, hg, undef_yielded hs hgc hsl]
              rw [if_neg hw]
              refine ⟨fun _ _ => trivial, ?_⟩
              exact ih _ K g _ w (hs.puto (dst := o.dst) hdst rep_undef) hk Q hq
            · exact hk.elim
        · cases hco
      · cases hc
    · cases hc

end

end Go.Proofs.YtbpgebfejebmlaaGreatDoor
