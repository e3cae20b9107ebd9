/-
  DERIVED. GIVEN WITH THE SEED: THE CARDS: each row of YtbpgebfejebmlaaGreatDoorRows.lean that lists a variable, with what it lists TIED to the program's text (the seventh form; the later family's looks); each row that meets fmt, with fmt's text TOLD by the authors' own Lean function (tested against real Go, not proved from fmt's source: count such statements apart). THE CARD IS WHAT COUNTS. Prove the row's statement (the work); the ties are given (YtbpgebfejebmlaaGreatDoorTie.lean); close each card by the builder's one call (the guide's Derived/Test/ToyasCard.lean, 'card_holds'). Laid BY PROGRAM, IN A SANDBOX (cutbox-door.mjs). By AI agents, Wed Nov 11 2026. No macro, syntax, notation, axiom, sorry.
-/
import Derived.Test.YtbpgebfejebmlaaGreatDoorRows
import GoSem.ClaimSeven
namespace Go.Proofs.YtbpgebfejebmlaaGreatDoor
namespace Rows

/-- THE TIED CARD OF 'tolllaw14.BackShares'. -/
def backSharesCard : Claim7 := { stood := { row := backSharesRow, standIns := [], harness := (true, "b86d5910c2286ceb2af8d31e7e7663bb6c7763b1bf2d9f65ec7c160142653ec1"), looks := false }, kinds := [], alts := [], laidByText := true, laidKinds := [.data, .pinned], laidTests := true, laidLooks := .later }
def BackSharesCardSaid : Prop := Claim7.holds Tryz.pinned (.plain (OpenSpec.ofChange backSharesSpec)) backSharesCard

/-- THE TIED CARD OF 'tolllaw14.BackOthers'. -/
def backOthersCard : Claim7 := { stood := { row := backOthersRow, standIns := [], harness := (true, "b86d5910c2286ceb2af8d31e7e7663bb6c7763b1bf2d9f65ec7c160142653ec1"), looks := false }, kinds := [], alts := [], laidByText := true, laidKinds := [.data, .pinned], laidTests := true, laidLooks := .later }
def BackOthersCardSaid : Prop := Claim7.holds Tryz.pinned (.plain (OpenSpec.ofChange backOthersSpec)) backOthersCard

/-- THE TIED CARD OF 'tolllaw14.BackChooses'. -/
def backChoosesCard : Claim7 := { stood := { row := backChoosesRow, standIns := [], harness := (true, "b86d5910c2286ceb2af8d31e7e7663bb6c7763b1bf2d9f65ec7c160142653ec1"), looks := false }, kinds := [], alts := [], laidByText := true, laidKinds := [.data, .pinned], laidTests := true, laidLooks := .later }
def BackChoosesCardSaid : Prop := Claim7.holds Tryz.pinned (.plain (OpenSpec.ofChange backChoosesSpec)) backChoosesCard

/-- THE TIED CARD OF 'tolllaw14.BackPicks'. -/
def backPicksCard : Claim7 := { stood := { row := backPicksRow, standIns := [], harness := (true, "b86d5910c2286ceb2af8d31e7e7663bb6c7763b1bf2d9f65ec7c160142653ec1"), looks := false }, kinds := [], alts := [], laidByText := true, laidKinds := [.data, .pinned], laidTests := true, laidLooks := .later }
def BackPicksCardSaid : Prop := Claim7.holds Tryz.pinned (.plain (OpenSpec.ofChange backPicksSpec)) backPicksCard

/-- THE TIED CARD OF 'tolllaw14.BackLets'. -/
def backLetsCard : Claim7 := { stood := { row := backLetsRow, standIns := [], harness := (true, "b86d5910c2286ceb2af8d31e7e7663bb6c7763b1bf2d9f65ec7c160142653ec1"), looks := false }, kinds := [], alts := [], laidByText := true, laidKinds := [.data, .pinned], laidTests := true, laidLooks := .later }
def BackLetsCardSaid : Prop := Claim7.holds Tryz.pinned (.plain (OpenSpec.ofChange backLetsSpec)) backLetsCard

/-- THE TIED CARD OF 'tolllaw14.BackTells'. -/
def backTellsCard : Claim7 := { stood := { row := backTellsRow, standIns := [], harness := (true, "b86d5910c2286ceb2af8d31e7e7663bb6c7763b1bf2d9f65ec7c160142653ec1"), looks := false }, kinds := [], alts := [], laidByText := true, laidKinds := [.data, .pinned], laidTests := true, laidLooks := .later }
def BackTellsCardSaid : Prop := Claim7.holds Tryz.pinned (.plain (OpenSpec.ofChange backTellsSpec)) backTellsCard

/-- THE TIED CARD OF 'tolllaw14.BackEach'. -/
def backEachCard : Claim7 := { stood := { row := backEachRow, standIns := [], harness := (true, "b86d5910c2286ceb2af8d31e7e7663bb6c7763b1bf2d9f65ec7c160142653ec1"), looks := false }, kinds := [], alts := [], laidByText := true, laidKinds := [.data, .pinned], laidTests := true, laidLooks := .later }
def BackEachCardSaid : Prop := Claim7.holds Tryz.pinned (.plain (OpenSpec.ofChange backEachSpec)) backEachCard

/-- THE SECOND FORM's CARD OF 'tolllaw14.BackShares'. -/
def backSharesUptoCard : Claim7 := { stood := { row := backSharesUptoRow, standIns := [], harness := (true, "b86d5910c2286ceb2af8d31e7e7663bb6c7763b1bf2d9f65ec7c160142653ec1"), looks := false }, kinds := [], alts := [], laidByText := true, laidKinds := [.data, .pinned], laidTests := true, laidLooks := .later }
def BackSharesUptoCardSaid : Prop := Claim7.holds Tryz.pinned (.plain (OpenSpec.upto backSharesSpec)) backSharesUptoCard

/-- THE SECOND FORM's CARD OF 'tolllaw14.BackOthers'. -/
def backOthersUptoCard : Claim7 := { stood := { row := backOthersUptoRow, standIns := [], harness := (true, "b86d5910c2286ceb2af8d31e7e7663bb6c7763b1bf2d9f65ec7c160142653ec1"), looks := false }, kinds := [], alts := [], laidByText := true, laidKinds := [.data, .pinned], laidTests := true, laidLooks := .later }
def BackOthersUptoCardSaid : Prop := Claim7.holds Tryz.pinned (.plain (OpenSpec.upto backOthersSpec)) backOthersUptoCard

/-- THE SECOND FORM's CARD OF 'tolllaw14.BackChooses'. -/
def backChoosesUptoCard : Claim7 := { stood := { row := backChoosesUptoRow, standIns := [], harness := (true, "b86d5910c2286ceb2af8d31e7e7663bb6c7763b1bf2d9f65ec7c160142653ec1"), looks := false }, kinds := [], alts := [], laidByText := true, laidKinds := [.data, .pinned], laidTests := true, laidLooks := .later }
def BackChoosesUptoCardSaid : Prop := Claim7.holds Tryz.pinned (.plain (OpenSpec.upto backChoosesSpec)) backChoosesUptoCard

/-- THE SECOND FORM's CARD OF 'tolllaw14.BackPicks'. -/
def backPicksUptoCard : Claim7 := { stood := { row := backPicksUptoRow, standIns := [], harness := (true, "b86d5910c2286ceb2af8d31e7e7663bb6c7763b1bf2d9f65ec7c160142653ec1"), looks := false }, kinds := [], alts := [], laidByText := true, laidKinds := [.data, .pinned], laidTests := true, laidLooks := .later }
def BackPicksUptoCardSaid : Prop := Claim7.holds Tryz.pinned (.plain (OpenSpec.upto backPicksSpec)) backPicksUptoCard

/-- THE SECOND FORM's CARD OF 'tolllaw14.BackLets'. -/
def backLetsUptoCard : Claim7 := { stood := { row := backLetsUptoRow, standIns := [], harness := (true, "b86d5910c2286ceb2af8d31e7e7663bb6c7763b1bf2d9f65ec7c160142653ec1"), looks := false }, kinds := [], alts := [], laidByText := true, laidKinds := [.data, .pinned], laidTests := true, laidLooks := .later }
def BackLetsUptoCardSaid : Prop := Claim7.holds Tryz.pinned (.plain (OpenSpec.upto backLetsSpec)) backLetsUptoCard

/-- THE SECOND FORM's CARD OF 'tolllaw14.BackTells'. -/
def backTellsUptoCard : Claim7 := { stood := { row := backTellsUptoRow, standIns := [], harness := (true, "b86d5910c2286ceb2af8d31e7e7663bb6c7763b1bf2d9f65ec7c160142653ec1"), looks := false }, kinds := [], alts := [], laidByText := true, laidKinds := [.data, .pinned], laidTests := true, laidLooks := .later }
def BackTellsUptoCardSaid : Prop := Claim7.holds Tryz.pinned (.plain (OpenSpec.upto backTellsSpec)) backTellsUptoCard

/-- THE SECOND FORM's CARD OF 'tolllaw14.BackEach'. -/
def backEachUptoCard : Claim7 := { stood := { row := backEachUptoRow, standIns := [], harness := (true, "b86d5910c2286ceb2af8d31e7e7663bb6c7763b1bf2d9f65ec7c160142653ec1"), looks := false }, kinds := [], alts := [], laidByText := true, laidKinds := [.data, .pinned], laidTests := true, laidLooks := .later }
def BackEachUptoCardSaid : Prop := Claim7.holds Tryz.pinned (.plain (OpenSpec.upto backEachSpec)) backEachUptoCard
end Rows
end Go.Proofs.YtbpgebfejebmlaaGreatDoor
