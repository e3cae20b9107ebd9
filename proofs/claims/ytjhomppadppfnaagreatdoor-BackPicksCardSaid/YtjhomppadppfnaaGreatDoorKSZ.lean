/- For every input tolllaw14.BackPicks returns true, and its arguments read behind the call as they read before. Conditions: none but the card's own. -/
import Derived.Test.YtjhomppadppfnaaGreatDoorKS4
import Derived.Test.YtjhomppadppfnaaGreatDoorTie
import Derived.Test.YtjhomppadppfnaaGreatDoorCards
namespace Go.Proofs.YtjhomppadppfnaaGreatDoor
open Go Go.RowKit Go.ChangeShapes Go.WideShapes Go.ChangeAt
set_option linter.unusedSimpArgs false
set_option linter.unusedVariables false
set_option maxRecDepth 100000

set_option maxRecDepth 100000 in
theorem lifted_Picks (os : Os) (started : os.Started) (H : Type) (enc : TypeId × Value → H) :
    ReturnsInHanded {} Tryz.checked os 9 .any (fun w args => (Rows.backPicksSpec.pre enc Tryz.prog Tryz.f9 [] false w args ∧ laidMetH Tryz.prog Rows.backPicksRow.laid w) ∧ sizedMet enc Tryz.prog Tryz.f9 (OpenSpec.ofChange Rows.backPicksSpec) false w args)
      (Rows.backPicksSpec.post enc Tryz.prog Tryz.f9 false true false false) := by
  refine returnsInHanded_of_change_and (C := Tryz.checked) (X := fun w _ => laidMetH Tryz.prog Rows.backPicksRow.laid w) (fun _ _ _ hh h => h.of_heap hh) own_ started (by kernel_rfl) Tryz.func9
    (ChangeSpec.witness_shaped (enc := enc) (C := Tryz.checked) (os := os) (X := fun w _ => laidMetH Tryz.prog Rows.backPicksRow.laid w) false (World.laidAll Tryz.prog os Rows.backPicksRow.laid) #[.slice none 0 0, .int .u64 0] 8 (World.laidAll_os _ _ _)
      (World.shaped_of_ZipB (by kernel_rfl) (by kernel_rfl)) (by kernel_rfl) (by kernel_rfl) (by kernel_rfl)
      (by rw [MakeChecks.laidMetH_plain _ _ _ (by kernel_rfl)]; exact laidMet_laidAll _ (by kernel_rfl) (by kernel_rfl))) ?_
  intro W base args ds gs before hval0 hW _ _ _ _
  have hval : ∀ (j : Nat) t v, Tryz.f9.params[j]? = some t → args[j]? = some v → Value.okWide Tryz.prog W .any base t v := hval0
  have hW' := hW
  obtain ⟨p, q, hA0, hV, rfl, _, _⟩ := hW
  have hA : DataW.TrodAll enc Tryz.prog W 0 (fun _ => true) true Tryz.f9.params.toList args.toList ds p := hA0
  rw [Tryz.params9] at hA hval
  obtain ⟨v0, vs0, d0, ds0, p0, q0, hargs, rfl, rfl, h0, r0⟩ := trodAll_cons hA
  obtain ⟨v2, vs2, d2, ds2, p2, q2, rfl, rfl, rfl, h2, r2⟩ := trodAll_cons r0
  obtain ⟨rfl, rfl, rfl⟩ := trodAll_nil r2
  obtain rfl : args = #[v0, v2] := by cases args; simp_all
  obtain ⟨rfl, rfl⟩ := trodVars_none hV
  have k0 := h0
  have lt0 : ∀ x ∈ p0, x.block < W.heap.size := by obtain ⟨m, hm⟩ := k0; exact DataW.trod_lt m _ _ _ hm
  obtain ⟨e1, g1, _, s1⟩ := arg_slice (n := 12) (s := [.int .i64, .str, .str, .int .i64, .int .i64, .bool]) Tryz.underlying60 (hval 0 60 v0 rfl rfl) h0 (by kernel_rfl)
  obtain ⟨gs', rfl⟩ := goals_of s1
  obtain ⟨n, rfl, rfl, rfl, wn⟩ := open_int Tryz.underlying61 (hval 1 61 v2 rfl rfl) h2
  clear hA0 hval0
  obtain ⟨m, rfl, hm⟩ : ∃ m : Nat, n = m ∧ m < 2 ^ 64 := by
    have hn := wn
    simp [Lit.wf, IntKind.min, IntKind.max, IntKind.signed, IntKind.bits] at hn
    exact ⟨n.toNat, by omega, by omega⟩
  have hreps : Reps (gh0 (allFz W)) W [.pd (.slice (rows AGoal.pd gs')), u64 m] [v0, .int .u64 m] := by
    simp only [Reps]
    exact ⟨_, _, rfl, by simpa only [Rep] using g1, _, _, rfl, by simp only [Rep]; exact .raw _ rfl, rfl⟩
  refine (law_true (law_Picks gs' m hm) hreps).mono fun e W' ⟨he, bel⟩ => ?_
  subst he
  exact ⟨_, rfl, _, _, _, [], _, [], hW', trodAll_mk1 (shut_bool Tryz.underlying4 _),
    (trodAll_cons_mk (Below.trod laidOut_ (by kernel_rfl) (of_decide_eq_true (by kernel_rfl)) k0 bel lt0) (trodAll_cons_mk (shut_int Tryz.underlying61 wn) trodAll_mk0)), rfl, bel.frame _, fun h => by cases h⟩

theorem BackPicks_row : Rows.BackPicksSaid :=
  OpenClaim.holds_of_wide 9 Tryz.f9 rfl rfl rfl rfl rfl rfl rfl ⟨rfl, rfl, rfl, rfl, rfl⟩ rfl rfl rfl rfl rfl (by kernel_rfl) Tryz.func9 (by kernel_rfl)
    (of_decide_eq_true (by kernel_rfl)) (by unfold Func.isWrapper; first | (rw [if_pos (by decide +kernel)]; kernel_rfl) | (rw [if_neg (by decide +kernel)]; exact ⟨rfl, rfl⟩))
    (fun os started H enc _ => lifted_Picks os started H enc)

/-- The card. -/
theorem BackPicks_holds : Rows.BackPicksCardSaid :=
  Claim7.holds_tied_plain_at .later [] [.data, .pinned] true (true, "0c4f4596911f9f2bc76dc72b261e79f5460fa9a7dc7fa73a0d7aa99b927211cf") false BackPicks_row (fun _ h => by cases h) (by kernel_rfl) (fun _ h => by cases h) backPicks_row_tie rfl ⟨rfl, rfl⟩ (by kernel_rfl) rfl
    (fun f fn hf hfn => by
      obtain rfl : f = 9 := Option.some.inj ((show Tryz.prog.funcNamed "toll/tolllaw14.BackPicks" = some 9 by kernel_rfl).symm.trans hf) |>.symm
      obtain rfl : fn = Tryz.f9 := (Option.some.inj (Tryz.func9.symm.trans hfn)).symm
      exact ⟨by kernel_rfl, fun j t ht => by
        rw [Tryz.params9] at ht
        have hm : t ∈ [60, 61] := by simpa using Array.mem_of_getElem? ht
        have hall : ([60, 61].all fun u => !Tryz.prog.wantsStandIn u) = true := by kernel_rfl
        exact (show Tryz.prog.wantsStandIn t = false by simpa using List.all_eq_true.1 hall t hm)⟩)
    (by kernel_rfl)

#print axioms BackPicks_holds

end Go.Proofs.YtjhomppadppfnaaGreatDoor
