/- For every input tolllaw14.BackShares returns true, and its arguments read behind the call as they read before. Conditions: none but the card's own. -/
import Derived.Test.YtbpgebfejebmlaaGreatDoorKS4
import Derived.Test.YtbpgebfejebmlaaGreatDoorTie
import Derived.Test.YtbpgebfejebmlaaGreatDoorCards
namespace Go.Proofs.YtbpgebfejebmlaaGreatDoor
open Go Go.RowKit Go.ChangeShapes Go.WideShapes Go.ChangeAt
set_option linter.unusedSimpArgs false
set_option linter.unusedVariables false
set_option maxRecDepth 100000

theorem bytes_of {els : List (List PD)} (h : ∀ r ∈ els, HasShs [.int .u8] r) : ∃ ws : List Int, els = rows cU8 ws ∧ ∀ x ∈ ws, 0 ≤ x ∧ x < 256 := by
  induction els with
  | nil => exact ⟨[], rfl, fun x hx => by cases hx⟩
  | cons r els ih =>
    obtain ⟨ws, rfl, hw⟩ := ih (fun r hr => h r (List.mem_cons_of_mem _ hr))
    have h0 := h r List.mem_cons_self
    cases h0 with
    | cons _ d _ ds h1 h2 =>
      cases h2
      cases h1 with
      | int _ n hn =>
        refine ⟨n :: ws, rfl, fun x hx => ?_⟩
        rcases List.mem_cons.1 hx with rfl | hx
        · simp [Lit.wf, IntKind.min, IntKind.max, IntKind.signed, IntKind.bits] at hn
          omega
        · exact hw x hx

set_option maxRecDepth 100000 in
theorem lifted_Shares (os : Os) (started : os.Started) (H : Type) (enc : TypeId × Value → H) :
    ReturnsInHanded {} Tryz.checked os 3 .any (fun w args => (Rows.backSharesSpec.pre enc Tryz.prog Tryz.f3 [] false w args ∧ laidMetH Tryz.prog Rows.backSharesRow.laid w) ∧ sizedMet enc Tryz.prog Tryz.f3 (OpenSpec.ofChange Rows.backSharesSpec) false w args)
      (Rows.backSharesSpec.post enc Tryz.prog Tryz.f3 false true false false) := by
  refine returnsInHanded_of_change_and (C := Tryz.checked) (X := fun w _ => laidMetH Tryz.prog Rows.backSharesRow.laid w) (fun _ _ _ hh h => h.of_heap hh) own_ started (by kernel_rfl) Tryz.func3
    (ChangeSpec.witness_shaped (enc := enc) (C := Tryz.checked) (os := os) (X := fun w _ => laidMetH Tryz.prog Rows.backSharesRow.laid w) false (World.laidAll Tryz.prog os Rows.backSharesRow.laid) #[.slice none 0 0, .int .u32 0] 8 (World.laidAll_os _ _ _)
      (World.shaped_of_ZipB (by kernel_rfl) (by kernel_rfl)) (by kernel_rfl) (by kernel_rfl) (by kernel_rfl)
      (by rw [MakeChecks.laidMetH_plain _ _ _ (by kernel_rfl)]; exact laidMet_laidAll _ (by kernel_rfl) (by kernel_rfl))) ?_
  intro W base args ds gs before hval0 hW _ _ _ _
  have hval : ∀ (j : Nat) t v, Tryz.f3.params[j]? = some t → args[j]? = some v → Value.okWide Tryz.prog W .any base t v := hval0
  have hW' := hW
  obtain ⟨p, q, hA0, hV, rfl, _, _⟩ := hW
  have hA : DataW.TrodAll enc Tryz.prog W 0 (fun _ => true) true Tryz.f3.params.toList args.toList ds p := hA0
  rw [Tryz.params3] at hA hval
  obtain ⟨v0, vs0, d0, ds0, p0, q0, hargs, rfl, rfl, h0, r0⟩ := trodAll_cons hA
  obtain ⟨v2, vs2, d2, ds2, p2, q2, rfl, rfl, rfl, h2, r2⟩ := trodAll_cons r0
  obtain ⟨rfl, rfl, rfl⟩ := trodAll_nil r2
  obtain rfl : args = #[v0, v2] := by cases args; simp_all
  obtain ⟨rfl, rfl⟩ := trodVars_none hV
  have k0 := h0
  have lt0 : ∀ x ∈ p0, x.block < W.heap.size := by obtain ⟨m, hm⟩ := k0; exact DataW.trod_lt m _ _ _ hm
  obtain ⟨e1, g1, _, s1⟩ := arg_slice (n := 12) (s := [.int .u8]) Tryz.underlying22 (hval 0 22 v0 rfl rfl) h0 (by kernel_rfl)
  obtain ⟨gs', rfl, hb⟩ := bytes_of s1
  obtain ⟨n, rfl, rfl, rfl, wn⟩ := open_int Tryz.underlying23 (hval 1 23 v2 rfl rfl) h2
  clear hA0 hval0
  obtain ⟨m, rfl, hm⟩ : ∃ m : Nat, n = m ∧ m < 2 ^ 32 := by
    have hn := wn
    simp [Lit.wf, IntKind.min, IntKind.max, IntKind.signed, IntKind.bits] at hn
    exact ⟨n.toNat, by omega, by omega⟩
  have hreps : Reps (gh0 (allFz W)) W [.pd (.slice (rows cU8 gs')), .pd (.raw (.int .u32 m))] [v0, .int .u32 m] := by
    simp only [Reps]
    exact ⟨_, _, rfl, by simpa only [Rep] using g1, _, _, rfl, by simp only [Rep]; exact .raw _ rfl, rfl⟩
  refine (law_true (law_Shares gs' hb m hm) hreps).mono fun e W' ⟨he, bel⟩ => ?_
  subst he
  exact ⟨_, rfl, _, _, _, [], _, [], hW', trodAll_mk1 (shut_bool Tryz.underlying4 _),
    (trodAll_cons_mk (Below.trod laidOut_ (by kernel_rfl) (of_decide_eq_true (by kernel_rfl)) k0 bel lt0) (trodAll_cons_mk (shut_int Tryz.underlying23 wn) trodAll_mk0)), rfl, bel.frame _, fun h => by cases h⟩

theorem BackShares_row : Rows.BackSharesSaid :=
  OpenClaim.holds_of_wide 3 Tryz.f3 rfl rfl rfl rfl rfl rfl rfl ⟨rfl, rfl, rfl, rfl, rfl⟩ rfl rfl rfl rfl rfl (by kernel_rfl) Tryz.func3 (by kernel_rfl)
    (of_decide_eq_true (by kernel_rfl)) (by unfold Func.isWrapper; first | (rw [if_pos (by decide +kernel)]; kernel_rfl) | (rw [if_neg (by decide +kernel)]; exact ⟨rfl, rfl⟩))
    (fun os started H enc _ => lifted_Shares os started H enc)

/-- The card. -/
theorem BackShares_holds : Rows.BackSharesCardSaid :=
  Claim7.holds_tied_plain_at .later [] [.data, .pinned] true (true, "b86d5910c2286ceb2af8d31e7e7663bb6c7763b1bf2d9f65ec7c160142653ec1") false BackShares_row (fun _ h => by cases h) (by kernel_rfl) (fun _ h => by cases h) backShares_row_tie rfl ⟨rfl, rfl⟩ (by kernel_rfl) rfl
    (fun f fn hf hfn => by
      obtain rfl : f = 3 := Option.some.inj ((show Tryz.prog.funcNamed "toll/tolllaw14.BackShares" = some 3 by kernel_rfl).symm.trans hf) |>.symm
      obtain rfl : fn = Tryz.f3 := (Option.some.inj (Tryz.func3.symm.trans hfn)).symm
      exact ⟨by kernel_rfl, fun j t ht => by
        rw [Tryz.params3] at ht
        have hm : t ∈ [22, 23] := by simpa using Array.mem_of_getElem? ht
        have hall : ([22, 23].all fun u => !Tryz.prog.wantsStandIn u) = true := by kernel_rfl
        exact (show Tryz.prog.wantsStandIn t = false by simpa using List.all_eq_true.1 hall t hm)⟩)
    (by kernel_rfl)

#print axioms BackShares_holds

end Go.Proofs.YtbpgebfejebmlaaGreatDoor
