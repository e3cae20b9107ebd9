/- The abstract layer, part 15: regions whose order is drawn. -/
import Derived.Test.YtbpgebfejebmlaaGreatDoorB5
import Derived.OrdersHeld
namespace Go.Proofs.YtbpgebfejebmlaaGreatDoor
open Go Go.RowKit
set_option linter.unusedSimpArgs false
set_option linter.unusedVariables false

/-- What has come up by now. -/
inductive Reach (md : Region.Mode) (ops : Array Oper) : Array Bool → Prop
  | init : Reach md ops (Array.replicate ops.size false)
  | step (listed : Array Bool) (i : Nat) (h : Reach md ops listed) (hi : i ∈ Region.ready md ops listed) : Reach md ops (listed.setIfInBounds i true)

/-- Who waits for whom: a table, checked. -/
def tabOK (md : Region.Mode) (ops : Array Oper) (tb : List (List Nat)) : Bool :=
  (List.range ops.size).all fun j => (tb.getD j []).all fun i => match ops[j]? with
    | some o => o.after.any fun e => Region.binds md e && (e.on == i || (tb.getD e.on []).contains i)
    | none => false

def waits (tb : List (List Nat)) (j i : Nat) : Bool := (tb.getD j []).contains i

theorem tab_ready {md : Region.Mode} {ops : Array Oper} {tb : List (List Nat)} (ht : tabOK md ops tb = true) {listed : Array Bool} (hr : Reach md ops listed) :
    (∀ j i, listed.getD j false = true → waits tb j i = true → listed.getD i false = true) ∧ listed.size = ops.size := by
  have key : ∀ (listed : Array Bool) (j i : Nat), j ∈ Region.ready md ops listed → waits tb j i = true → (∀ j i, listed.getD j false = true → waits tb j i = true → listed.getD i false = true) → listed.getD i false = true := by
    intro listed j i hj hw ih
    obtain ⟨_, o, ho, hall⟩ := mem_ready.1 hj
    have hlt := (Array.getElem?_eq_some_iff.1 ho).1
    have h1 := List.all_eq_true.1 (List.all_eq_true.1 ht j (List.mem_range.2 hlt)) i (by simpa [waits] using hw)
    simp only [ho] at h1
    obtain ⟨e, he, hb⟩ := Array.any_eq_true'.1 h1
    simp only [Bool.and_eq_true, Bool.or_eq_true, beq_iff_eq] at hb
    have h2 := hall e he hb.1
    rcases hb.2 with h3 | h3
    · rw [← h3]; exact h2
    · exact ih e.on i h2 h3
  induction hr with
  | init => exact ⟨fun j i hj _ => by
      rw [Array.getD_eq_getD_getElem?, Array.getElem?_replicate] at hj
      split at hj <;> simp at hj, by simp⟩
  | step listed m h hm ih =>
    refine ⟨fun j i hj hw => ?_, by simpa using ih.2⟩
    by_cases hjm : m = j
    · subst hjm
      exact getD_set_true (key listed m i hm hw ih.1)
    · rw [getD_set_ne false hjm] at hj
      exact getD_set_true (ih.1 j i hj hw)

theorem waits_ready {md : Region.Mode} {ops : Array Oper} {tb : List (List Nat)} (ht : tabOK md ops tb = true) {listed : Array Bool} (hr : Reach md ops listed) {i j : Nat}
    (hj : j ∈ Region.ready md ops listed) (hi : i ∈ Region.ready md ops listed) : waits tb j i = false := by
  cases hw : waits tb j i with
  | false => rfl
  | true =>
    have h1 := (tab_ready ht (Reach.step listed j hr hj)).1 j i (by
      obtain ⟨_, o, ho, _⟩ := mem_ready.1 hj
      have hlt : j < listed.size := by rw [(tab_ready ht hr).2]; exact (Array.getElem?_eq_some_iff.1 ho).1
      simp [hlt]) hw
    have h0 := (mem_ready.1 hi).1
    by_cases hij : j = i
    · subst hij
      -- a thing that waits for itself never comes up
      obtain ⟨_, o, ho, hall⟩ := mem_ready.1 hj
      have hlt := (Array.getElem?_eq_some_iff.1 ho).1
      have h2 := List.all_eq_true.1 (List.all_eq_true.1 ht j (List.mem_range.2 hlt)) j (by simpa [waits] using hw)
      simp only [ho] at h2
      obtain ⟨e, he, hb⟩ := Array.any_eq_true'.1 h2
      simp only [Bool.and_eq_true, Bool.or_eq_true, beq_iff_eq] at hb
      have h3 := hall e he hb.1
      have h4 : listed.getD j false = true := by
        rcases hb.2 with h5 | h5
        · rw [← h5]; exact h3
        · exact (tab_ready ht hr).1 e.on j h3 h5
      exfalso
      rcases Nat.lt_or_ge j listed.size with h' | h'
      · simp [h'] at h0 h4; rw [h0] at h4; cases h4
      · simp [Array.getElem?_eq_none h'] at h4
    · rw [getD_set_ne false hij] at h1
      exfalso
      rcases Nat.lt_or_ge i listed.size with h' | h'
      · simp [h'] at h0 h1; rw [h0] at h1; cases h1
      · simp [Array.getElem?_eq_none h'] at h1

abbrev Pend := List (Nat × (World → Prop))

/-- Whatever order is picked from here on; behind every operation what was taken ahead of it still stands, unless it waits for that. -/
def wpAnyT (P : Program) (md : Region.Mode) (ops : Array Oper) (Q : Exit → Act → World → Prop) (tb : List (List Nat)) : Nat → Pend → Array Bool → Act → World → Prop
  | 0, _, listed, a, w => Region.ready md ops listed = [] ∧ Q .normal a w
  | fuel + 1, T, listed, a, w =>
    (Region.ready md ops listed = [] → Q .normal a w) ∧
    ∀ j ∈ Region.ready md ops listed, wpOp P ops Q j (fun a' w' => (∀ p ∈ T.filter (fun p => !waits tb j p.1), p.2 w') ∧ wpAnyT P md ops Q tb fuel (T.filter fun p => !waits tb j p.1) (listed.setIfInBounds j true) a' w') a w

section
variable {P : Program} {ops : Array Oper} {Q : Exit → Act → World → Prop} {md : Region.Mode} {tb : List (List Nat)}

theorem wpAny_of_T : ∀ (fuel : Nat) (T : Pend) (listed : Array Bool) (a : Act) (w : World), wpAnyT P md ops Q tb fuel T listed a w → wpAny P md ops Q fuel listed a w
  | 0, _, _, _, _, h => h
  | fuel + 1, _, _, _, _, h => ⟨h.1, fun i hi => wpOp_mono (fun a' w' h' => wpAny_of_T fuel _ _ a' w' h'.2) (h.2 i hi)⟩

theorem wpAnyT_less : ∀ (fuel : Nat) (p : Nat × (World → Prop)) (T : Pend) (listed : Array Bool) (a : Act) (w : World), wpAnyT P md ops Q tb fuel (p :: T) listed a w → wpAnyT P md ops Q tb fuel T listed a w
  | 0, _, _, _, _, _, h => h
  | fuel + 1, p, T, listed, a, w, h => ⟨h.1, fun j hj => wpOp_mono (fun a' w' h' => by
      by_cases hp : (!waits tb j p.1) = true
      · rw [List.filter_cons_of_pos (by simpa using hp)] at h'
        exact ⟨fun q hq => h'.1 q (List.mem_cons_of_mem _ hq), wpAnyT_less fuel p _ _ a' w' h'.2⟩
      · rw [List.filter_cons_of_neg (by simpa using hp)] at h'
        exact h') (h.2 j hj)⟩

theorem wpAnyT_first (ht : tabOK md ops tb = true) {i : Nat} {oi : Oper} {v : Value} {S : World → Prop} (hi : ops[i]? = some oi) (hsel : ∀ (j : Nat) (o : Oper) cs b, ops[j]? = some o → o.op ≠ .select cs b)
    (hQ : ∀ c a w, Q (.panic c) (a.put oi.dst v) w → Q (.panic c) a w) :
    ∀ (fuel : Nat) (T : Pend) (listed : Array Bool) (a : Act) (w : World), Reach md ops listed →
      (∀ j oj, ops[j]? = some oj → j ≠ i → listed.getD j true = false → (∀ e ∈ oj.after, Region.binds md e = true → e.on ≠ i) → oi.apart ops oj = true) →
      i ∈ Region.ready md ops listed → YieldsIf P ops S oi v a → S w → (∀ p ∈ T.filter (fun p => !waits tb i p.1), p.2 w) →
      wpAnyT P md ops Q tb fuel ((i, S) :: T) (listed.setIfInBounds i true) (a.put oi.dst v) w → wpAnyT P md ops Q tb (fuel + 1) T listed a w := by
  have done : ∀ (fuel : Nat) (T : Pend) (listed : Array Bool) (a : Act) (w : World), YieldsIf P ops S oi v a → S w → (∀ p ∈ T.filter (fun p => !waits tb i p.1), p.2 w) →
      wpAnyT P md ops Q tb fuel ((i, S) :: T) (listed.setIfInBounds i true) (a.put oi.dst v) w → wpOp P ops Q i (fun a' w' => (∀ p ∈ T.filter (fun p => !waits tb i p.1), p.2 w') ∧ wpAnyT P md ops Q tb fuel (T.filter fun p => !waits tb i p.1) (listed.setIfInBounds i true) a' w') a w := by
    intro fuel T listed a w hy hS hT H
    refine hy.wpOp hi hS ⟨hT, ?_⟩
    have H1 := wpAnyT_less fuel _ _ _ _ _ H
    clear H
    -- fewer pending things
    suffices hsuf : ∀ (q : Nat → Bool) (fuel : Nat) (T : Pend) (listed : Array Bool) (a : Act) (w : World), wpAnyT P md ops Q tb fuel T listed a w → wpAnyT P md ops Q tb fuel (T.filter fun p => q p.1) listed a w from hsuf (fun k => !waits tb i k) fuel T _ _ w H1
    intro q fuel
    induction fuel with
    | zero => intro T listed a w h; exact h
    | succ fuel ih =>
      intro T listed a w h
      refine ⟨h.1, fun j hj => wpOp_mono (fun a' w' h' => ?_) (h.2 j hj)⟩
      rw [List.filter_filter]
      have e : (T.filter fun p => !waits tb j p.1 && q p.1) = (T.filter fun p => !waits tb j p.1).filter fun p => q p.1 := by
        rw [List.filter_filter]
        congr 1; funext p; rw [Bool.and_comm]
      rw [e]
      exact ⟨fun p hp => h'.1 p (List.mem_filter.1 hp).1, ih _ _ _ _ h'.2⟩
  intro fuel
  induction fuel with
  | zero =>
    intro T listed a w hreach _ hr hy hS hT H
    refine ⟨fun h => (by rw [h] at hr; cases hr), fun j hj => ?_⟩
    by_cases hji : j = i
    · subst hji; exact done 0 T listed a w hy hS hT H
    · have := ready_mono hj hji
      rw [H.1] at this
      cases this
  | succ fuel ih =>
    intro T listed a w hreach hfree hr hy hS hT H
    refine ⟨fun h => (by rw [h] at hr; cases hr), fun j hj => ?_⟩
    by_cases hji : j = i
    · subst hji; exact done (fuel + 1) T listed a w hy hS hT H
    · have h1 := H.2 j (ready_mono hj hji)
      obtain ⟨hjun, oj, hoj, hall⟩ := mem_ready.1 hj
      have hwj : waits tb j i = false := waits_ready ht hreach hj hr
      have hnot : ∀ e ∈ oj.after, Region.binds md e = true → e.on ≠ i := fun e he hb heq => by
        have h1 := hall e he hb
        have h0 := (mem_ready.1 hr).1
        rw [heq] at h1
        rcases Nat.lt_or_ge i listed.size with h' | h'
        · simp [h'] at h0 h1; rw [h0] at h1; cases h1
        · simp [Array.getElem?_eq_none h'] at h1
      have h2 := wpOp_putIf hoj (hfree j oj hoj hji hjun hnot) (fun cs b => hsel i oi cs b hi) (fun cs b => hsel j oj cs b hoj) hQ hy h1
      have hfree' : ∀ k ok, ops[k]? = some ok → k ≠ i → (listed.setIfInBounds j true).getD k true = false →
          (∀ e ∈ ok.after, Region.binds md e = true → e.on ≠ i) → oi.apart ops ok = true := fun k ok hk hki hun hno => by
        refine hfree k ok hk hki ?_ hno
        by_cases hjk : j = k
        · subst hjk; exact hjun
        · rw [getD_set_ne true hjk] at hun; exact hun
      have hf : ((i, S) :: T).filter (fun p => !waits tb j p.1) = (i, S) :: T.filter (fun p => !waits tb j p.1) := List.filter_cons_of_pos (by simp [hwj])
      rw [hf] at h2
      refine wpOp_mono (fun a' w' h3 => ?_) h2
      obtain ⟨hy', hT', H'⟩ := h3
      refine ⟨fun p hp => hT' p (List.mem_cons_of_mem _ hp), ih _ (listed.setIfInBounds j true) a' w' (Reach.step _ _ hreach hj) hfree' (ready_mono hr (Ne.symm hji)) hy' (hT' _ List.mem_cons_self) (fun p hp => hT' p (List.mem_cons_of_mem _ (List.mem_filter.1 hp).1)) ?_⟩
      rw [Array.setIfInBounds_comm _ _ hji]
      exact H'
end

end Go.Proofs.YtbpgebfejebmlaaGreatDoor
