/- The abstract layer, part 18d: iterators, from their code. -/
import Derived.Test.YtbpgebfejebmlaaGreatDoorBG
namespace Go.Proofs.YtbpgebfejebmlaaGreatDoor
open Go Go.RowKit
set_option linter.unusedSimpArgs false
set_option linter.unusedVariables false

/-- An iterator, over abstract values: its captured variables, what they hold, and what it hands on. -/
def IterB (P : Program) (f : FuncId) (caps : List (Nat × Nat)) (bs : List (Nat × List D)) (xs : List Value) : Prop :=
  ∀ (g0 : Gh) (w : World) (cv : List Value), g0.tk = (fun _ => none) → g0.df = [] → (∀ N, Mem (.call P w g0 N false) bs [] g0 w) → Caps g0 caps cv →
    ∀ (l : Nat) (X : Nat → Bool → (Nat → Prop) → World → Prop) (Dm : Nat → Prop) (H0 : Nat → Prop),
      (∀ k, Dm k → k < w.heap.size ∧ (∀ o, ¬ g0.Fz k o) ∧ ∀ n, g0.bx n ≠ some k) →
      (∀ i s H R w1 w2, X i s H w1 → KeepD R w1 w2 → (∀ k, R k → ¬ H k ∧ (w.heap.size ≤ k ∨ ∃ n, g0.bx n = some k)) → X i s H w2) →
      (∀ i s H w1, X i s H w1 → ∀ k, H k → k < w1.heap.size) →
      (∀ i v H w1 n, xs[i]? = some v → X i false H w1 → YieldAt (FW none) n P l #[v] w1 fun e w2 => ∃ b H', e = .returned (.bool b) ∧ X (i + 1) (!b) H' w2 ∧ (∀ k, H' k → H k ∨ w1.heap.size ≤ k) ∧ KeepD (fun k => Dm k ∨ (w.heap.size ≤ k ∧ H k)) w1 w2) →
      X 0 false H0 w → (∀ k, H0 k → ∀ n, g0.bx n ≠ some k) →
      Calls P f (Value.func (.yield l) #[] #[] :: cv).toArray w fun e w2 => ∃ v i s H, e = .returned v ∧ X i s H w2 ∧ (s = false → i = xs.length)

/-- The function value that an iterator is handed. -/
abbrev yieldD (l : Nat) : D := .pd (.raw (.func (.yield l) #[] #[]))

/-- What it leaves. -/
def iterK (P : Program) (fn : Func) (l : Nat) (xs : List (List Value)) : Exit → St → Prop
  | .normal, st => ∃ ds i s, resD P st fn.results.toList = some ds ∧ st.hs = .it l xs i s ∧ (s = false → i = xs.length)
  | .ret, st => ∃ ds i s, resD P st fn.results.toList = some ds ∧ st.hs = .it l xs i s ∧ (s = false → i = xs.length)
  | _, _ => False

def itX (w : World) (g0 : Gh) (l : Nat) (xs : List (List Value)) (X : Nat → Bool → (Nat → Prop) → World → Prop) : Hist → (Nat → Prop) → World → Prop
  | .it l' xs' i s, O, w1 => l' = l ∧ xs' = xs ∧ ∃ H, X i s H w1 ∧ w.heap.size ≤ w1.heap.size ∧ (∀ k, H k → k < w1.heap.size) ∧ ∀ b, O b → ¬ H b ∧ (w.heap.size ≤ b ∨ ∃ n, g0.bx n = some b)
  | .no, _, _ => False

theorem iter_of_run {P : Program} (hm : P.follows .mixedOrders = true) (an : Ann) {f : FuncId} {fn : Func} {c : Code} {ac : AC} (hf : P.funcs[f]? = some fn) (hb : fn.body = some c) (hc : compC P an c = some ac)
    (hd : ac.dstOK fn.ntmps (fun i => decide (i < fn.ntmps)) = true) {caps : List (Nat × Nat)} {bs : List (Nat × List D)} {xs : List Value} (hN : caps.length + 1 ≤ fn.ntmps) (hnr : ac.noRange = true)
    (hrun : ∀ l, run P ac ⟨frOf 0 (yieldD l :: caps.map fun c => .ptr c.1 c.2), bs, [], .it l (xs.map ([·])) 0 false⟩ (iterK P fn l (xs.map ([·])))) : IterB P f caps bs xs := by
  intro g0 w cv htk hdf hmem hcaps l X Dm H0 hDm hclo hheld hrounds hX0 hH0
  have m0 := hmem 0
  obtain ⟨C, hC⟩ : ∃ C : Ctx, C = ⟨P, w, g0.Fz, fun b => ∃ n, n < 1000000 ∧ g0.bx n = some b, fn.ntmps, fun i => decide (i < fn.ntmps), fun _ => none, itX w g0 l (xs.map ([·])) X, Dm,
      fun i h => ⟨of_decide_eq_true h, rfl⟩, fun _ _ _ => rfl, fun k hk => ⟨(hDm k hk).1, fun ⟨n, _, h⟩ => (hDm k hk).2.2 n h, (hDm k hk).2.1⟩, fun h O O' R w1 w2 hx hk hR hO => by
        cases h with
        | no => exact hx.elim
        | it l' xs' i s =>
          obtain ⟨e1, e2, H, h1, h2, h3, h4⟩ := hx
          refine ⟨e1, e2, H, hclo i s H R w1 w2 h1 hk (fun k e => h4 k (hR k e)), Nat.le_trans h2 hk.size, fun k e => Nat.lt_of_lt_of_le (h3 k e) hk.size, fun b hb => ?_⟩
          rcases hO b hb with h | h
          · exact h4 b h
          · exact ⟨fun e => by have := h3 b e; omega, .inl (Nat.le_trans h2 h)⟩⟩ := ⟨_, rfl⟩
  have hCX : C.X = itX w g0 l (xs.map ([·])) X := by rw [hC]
  have hCP : C.P = P := by rw [hC]
  have hCw : C.w0 = w := by rw [hC]
  have hCN : C.N = fn.ntmps := by rw [hC]
  have hCD : C.Dm = Dm := by rw [hC]
  have hCwr : C.wr = fun i => decide (i < fn.ntmps) := by rw [hC]
  have hy : YOK C := ⟨fun l' xs' i vs O w1 n hv hx hO => by
    rw [hCX] at hx
    obtain ⟨e1, e2, H, h1, h2, h3, h4⟩ := hx
    subst e1 e2
    rw [List.getElem?_map] at hv
    obtain ⟨v, hv1, rfl⟩ := Option.map_eq_some_iff.1 hv
    obtain ⟨fn', tmps, asg, body, hyr, hrd⟩ := hrounds i v H w1 n hv1 h1
    rw [hCP, hCX, hCD, hCw]
    refine ⟨fn', tmps, asg, body, hyr, hrd.mono ?_⟩
    rintro e w2 ⟨b, H', rfl, k1, k2, k3⟩
    refine ⟨b, rfl, ⟨rfl, rfl, H', k1, Nat.le_trans h2 k3.size, hheld _ _ _ _ k1, fun b' hb' => ⟨fun e => ?_, (h4 b' hb').2⟩⟩, k3.mono fun k _ hk => ?_⟩
    · rcases k2 b' e with h | h
      · exact (h4 b' hb').1 h
      · have := hO b' hb'; omega
    · rcases hk with hk | ⟨hk1, hk2⟩
      · exact .inl hk
      · exact .inr ⟨hk1, fun e => (h4 k e).1 hk2⟩⟩
  have hr : Reps g0 w (yieldD l :: caps.map fun c => .ptr c.1 c.2) (Value.func (.yield l) #[] #[] :: cv) := by
    simp only [Reps]
    exact ⟨_, cv, rfl, by simp only [Rep]; exact .raw _ rfl, hcaps.reps⟩
  have hinit : SR C ⟨frOf 0 (yieldD l :: caps.map fun c => .ptr c.1 c.2), bs, [], .it l (xs.map ([·])) 0 false⟩ g0
      { tmps := (Value.func (.yield l) #[] #[] :: cv).toArray ++ Array.replicate (fn.ntmps - (Value.func (.yield l) #[] #[] :: cv).toArray.size) undef, defers := [] } w := {
    defers := by rw [hdf]; rfl
    size := by
      rw [hCN]
      have := hr.length
      simp at this ⊢; omega
    rep := fun i d hd => by
      rw [hCN]
      obtain ⟨_, h2⟩ := frOf_lk _ 0 i d hd
      simp only [Nat.sub_zero] at h2
      obtain ⟨v, h3, h4⟩ := hr.get i d h2
      have hi := (List.getElem?_eq_some_iff.1 h2).1
      refine ⟨by simp at hi; omega, ?_⟩
      have hiv := (List.getElem?_eq_some_iff.1 h3).1
      simp only [Array.getD_eq_getD_getElem?]
      rw [Array.getElem?_append_left (by simpa using hiv), List.getElem?_toArray, h3]
      exact h4
    mem := by
      rw [hC]
      exact {
        os := rfl, tape := rfl, output := rfl, hsz := Nat.le_refl _, old := fun _ _ _ _ => rfl, keep := Ex.refl _ _, newfz := fun _ _ h _ => .inl h, fzlt := m0.fzlt
        bxs := m0.bxs
        mps := m0.mps
        bxok := fun n b hb => ⟨(m0.bxok n b hb).1, by
          by_cases h : n < 1000000
          · exact .inr (.inl ⟨n, h, hb⟩)
          · exact .inr (.inr (by omega)), (m0.bxok n b hb).2.2⟩
        bxinj := m0.bxinj
        tks := fun t v e h => by rw [htk] at h; cases h
        tkinj := fun t s v u e f b h => by rw [htk] at h; cases h
        bxtk := fun n t b v e _ h => by rw [htk] at h; cases h
        dfs := fun D hD => by rw [hdf] at hD; cases hD
        dnd := by rw [hdf]; exact List.nodup_nil
        bxdf := fun n D hD => by rw [hdf] at hD; cases hD
        bxdm := fun n b hb hd => (hDm b hd).2.2 n hb }
    x := by
      rw [hCX]
      refine ⟨rfl, rfl, H0, hX0, Nat.le_refl _, hheld _ _ _ _ hX0, fun b hb => ?_⟩
      rcases hb with ⟨n, _, h⟩ | ⟨t, v, e, h, _⟩ | h | ⟨h1, o, ho⟩
      · exact ⟨fun e => hH0 b e n h, .inr ⟨n, h⟩⟩
      · rw [htk] at h; cases h
      · rw [hdf] at h; cases h
      · rw [hCw] at h1
        have := m0.fzlt b o ho
        omega
    fix := fun n b h => by rw [hC] at h; cases h }
  subst hCP
  refine (callsIn_wide (n := 0)).1 (callsIn_of_wp_marks (F := FW none) hf hb trivial (wpIn_mono (run_inR an c C hm hy none 0 ac (.inl hnr) hc (by rw [hCN, hCwr]; exact hd) _ _ (hrun l) g0 _ w hinit) ?_) rfl)
  have key : ∀ (a' : Act) (w' : World), (∃ st g, SR C st g a' w' ∧ ∃ ds i s, resD C.P st fn.results.toList = some ds ∧ st.hs = .it l (xs.map ([·])) i s ∧ (s = false → i = (xs.map ([·])).length)) →
      LeavesInM (FW none) 0 C.P fn a'.tmps (fun e w2 => ∃ v i s H, e = .returned v ∧ X i s H w2 ∧ (s = false → i = xs.length)) a'.defers .returning w' := by
    rintro a' w' ⟨st, g, hs, ds, i, s, h1, h2, h3⟩
    refine leave_marks g.df g a' w' rfl hs fun g' a2 w2 e hdf' hs' => ?_
    obtain ⟨v, h4, h5⟩ := results_run hs' fn ds h1
    rw [e] at h4
    have hx := hs'.x
    rw [h2, hCX] at hx
    obtain ⟨_, _, H, hx, _⟩ := hx
    exact ⟨v, h4, v, i, s, H, rfl, hx, fun e => by simpa using h3 e⟩
  intro e a' w' h
  cases e <;> simp only [Post] at h
  · exact key a' w' h
  · obtain ⟨_, _, _, h⟩ := h; exact h.elim
  · obtain ⟨_, _, _, h⟩ := h; exact h.elim
  · exact key a' w' h

/-- As the caller ranges over it. -/
theorem IterB.iterW {P : Program} {f : FuncId} {caps0 : List (Nat × Nat)} {bs0 : List (Nat × List D)} {xs : List Value} (he : Enters P f) (h : IterB P f caps0 bs0 xs) {st : St} {caps : List (Nat × Nat)} (kn : Bool) (ren : List (Nat × Nat))
    (hok : (fullOK false st.bs ren [] [] [] && ren.all fun p => caps.any fun c => c.1 == p.1) = true) (hc : seeCaps ren caps = some caps0) (hb : renBs kn ren [] st.bs ren = bs0) : IterW P f caps st xs := by
  subst hb
  rw [Bool.and_eq_true] at hok
  have ok := fullOK_spec hok.1
  have hin : ∀ (g : Gh) n k, (g.seen ren []).bx n = some k → ∃ c ∈ caps, g.bx c.1 = some k := fun g n k hk => by
    obtain ⟨n', h1, h2⟩ := seen_bx hk
    have := List.all_eq_true.1 hok.2 _ h1
    obtain ⟨c, h3, h4⟩ := List.any_eq_true.1 this
    exact ⟨c, h3, by rw [show c.1 = n' by simpa using h4]; exact h2⟩
  refine ⟨he, fun C g a w cv W hP hs hcv hW l X Dm H0 hDm hclo hheld hrounds hX0 hH0 => ?_⟩
  subst hP
  obtain ⟨mW, _⟩ := hs.mem.keepD hW (fun _ _ e => e.elim)
  refine h (g.seen ren []) W cv rfl rfl (fun N => seen_mem (st := st) mW ok kn N) (seeCaps_caps (fun n k b h1 h2 => ?_) hc hcv) l X Dm H0 (fun k hk => ⟨(hDm k hk).1, (hDm k hk).2.1, fun n hn => ?_⟩) (fun i s H R w1 w2 hx hk hR => hclo i s H R w1 w2 hx hk fun k e => ⟨(hR k e).1, ?_⟩) hheld hrounds hX0 (fun k hk n hn => ?_)
  · simp [Gh.seen, mem_lkr ok.r2 (lk_mem h1), h2]
  · obtain ⟨c, h1, h2⟩ := hin g n k hn
    exact (hDm k hk).2.2 c h1 h2
  · rcases (hR k e).2 with h1 | ⟨n, h1⟩
    · exact .inl h1
    · exact .inr (hin g n k h1)
  · obtain ⟨c, h1, h2⟩ := hin g n k hn
    exact hH0 k hk c h1 h2

end Go.Proofs.YtbpgebfejebmlaaGreatDoor
