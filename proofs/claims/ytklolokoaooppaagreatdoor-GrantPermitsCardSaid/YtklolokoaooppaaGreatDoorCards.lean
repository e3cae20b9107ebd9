/-
  DERIVED. GIVEN WITH THE SEED: THE CARDS: each row of YtklolokoaooppaaGreatDoorRows.lean that lists a variable, with what it lists TIED to the program's text (the seventh form; the later family's looks); each row that meets fmt, with fmt's text TOLD by the authors' own Lean function (tested against real Go, not proved from fmt's source: count such statements apart). THE CARD IS WHAT COUNTS. Prove the row's statement (the work); the ties are given (YtklolokoaooppaaGreatDoorTie.lean); close each card by the builder's one call (the guide's Derived/Test/ToyasCard.lean, 'card_holds'). Laid BY PROGRAM, IN A SANDBOX (cutbox-door.mjs). By AI agents, Wed Nov 11 2026. No macro, syntax, notation, axiom, sorry.
-/
import Derived.Test.YtklolokoaooppaaGreatDoorRows
import GoSem.ClaimSeven
namespace Go.Proofs.YtklolokoaooppaaGreatDoor
namespace Rows

/-- THE TIED CARD OF 'tolllaw11.GrantSides'. -/
def grantSidesCard : Claim7 := { stood := { row := grantSidesRow, standIns := [], harness := (true, "b45dc800b99c0be357d99c48e2b18217ca7290035ce315a6ce7f6f31d35f26e5"), looks := false }, kinds := [], alts := [], laidByText := true, laidKinds := [.data, .pinned], laidTests := true, laidLooks := .later }
def GrantSidesCardSaid : Prop := Claim7.holds Tryz.pinned (.plain (OpenSpec.ofChange grantSidesSpec)) grantSidesCard

/-- THE TIED CARD OF 'tolllaw11.GrantBys'. -/
def grantBysCard : Claim7 := { stood := { row := grantBysRow, standIns := [], harness := (true, "b45dc800b99c0be357d99c48e2b18217ca7290035ce315a6ce7f6f31d35f26e5"), looks := false }, kinds := [], alts := [], laidByText := true, laidKinds := [.data, .pinned], laidTests := true, laidLooks := .later }
def GrantBysCardSaid : Prop := Claim7.holds Tryz.pinned (.plain (OpenSpec.ofChange grantBysSpec)) grantBysCard

/-- THE TIED CARD OF 'tolllaw11.GrantPermits'. -/
def grantPermitsCard : Claim7 := { stood := { row := grantPermitsRow, standIns := [], harness := (true, "b45dc800b99c0be357d99c48e2b18217ca7290035ce315a6ce7f6f31d35f26e5"), looks := false }, kinds := [], alts := [], laidByText := true, laidKinds := [.data, .pinned], laidTests := true, laidLooks := .later }
def GrantPermitsCardSaid : Prop := Claim7.holds Tryz.pinned (.plain (OpenSpec.ofChange grantPermitsSpec)) grantPermitsCard

/-- THE TIED CARD OF 'tolllaw12.ListenTells'. -/
def listenTellsCard : Claim7 := { stood := { row := listenTellsRow, standIns := [], harness := (true, "b45dc800b99c0be357d99c48e2b18217ca7290035ce315a6ce7f6f31d35f26e5"), looks := false }, kinds := [], alts := [], laidByText := true, laidKinds := [.data, .pinned], laidTests := true, laidLooks := .later }
def ListenTellsCardSaid : Prop := Claim7.holds Tryz.pinned (.plain (OpenSpec.ofChange listenTellsSpec)) listenTellsCard

/-- THE TIED CARD OF 'tolllaw14.BackTells'. -/
def backTellsCard : Claim7 := { stood := { row := backTellsRow, standIns := [], harness := (true, "b45dc800b99c0be357d99c48e2b18217ca7290035ce315a6ce7f6f31d35f26e5"), looks := false }, kinds := [], alts := [], laidByText := true, laidKinds := [.data, .pinned], laidTests := true, laidLooks := .later }
def BackTellsCardSaid : Prop := Claim7.holds Tryz.pinned (.plain (OpenSpec.ofChange backTellsSpec)) backTellsCard

/-- THE SECOND FORM's CARD OF 'tolllaw11.GrantSides'. -/
def grantSidesUptoCard : Claim7 := { stood := { row := grantSidesUptoRow, standIns := [], harness := (true, "b45dc800b99c0be357d99c48e2b18217ca7290035ce315a6ce7f6f31d35f26e5"), looks := false }, kinds := [], alts := [], laidByText := true, laidKinds := [.data, .pinned], laidTests := true, laidLooks := .later }
def GrantSidesUptoCardSaid : Prop := Claim7.holds Tryz.pinned (.plain (OpenSpec.upto grantSidesSpec)) grantSidesUptoCard

/-- THE SECOND FORM's CARD OF 'tolllaw11.GrantBys'. -/
def grantBysUptoCard : Claim7 := { stood := { row := grantBysUptoRow, standIns := [], harness := (true, "b45dc800b99c0be357d99c48e2b18217ca7290035ce315a6ce7f6f31d35f26e5"), looks := false }, kinds := [], alts := [], laidByText := true, laidKinds := [.data, .pinned], laidTests := true, laidLooks := .later }
def GrantBysUptoCardSaid : Prop := Claim7.holds Tryz.pinned (.plain (OpenSpec.upto grantBysSpec)) grantBysUptoCard

/-- THE SECOND FORM's CARD OF 'tolllaw11.GrantPermits'. -/
def grantPermitsUptoCard : Claim7 := { stood := { row := grantPermitsUptoRow, standIns := [], harness := (true, "b45dc800b99c0be357d99c48e2b18217ca7290035ce315a6ce7f6f31d35f26e5"), looks := false }, kinds := [], alts := [], laidByText := true, laidKinds := [.data, .pinned], laidTests := true, laidLooks := .later }
def GrantPermitsUptoCardSaid : Prop := Claim7.holds Tryz.pinned (.plain (OpenSpec.upto grantPermitsSpec)) grantPermitsUptoCard

/-- THE SECOND FORM's CARD OF 'tolllaw12.ListenTells'. -/
def listenTellsUptoCard : Claim7 := { stood := { row := listenTellsUptoRow, standIns := [], harness := (true, "b45dc800b99c0be357d99c48e2b18217ca7290035ce315a6ce7f6f31d35f26e5"), looks := false }, kinds := [], alts := [], laidByText := true, laidKinds := [.data, .pinned], laidTests := true, laidLooks := .later }
def ListenTellsUptoCardSaid : Prop := Claim7.holds Tryz.pinned (.plain (OpenSpec.upto listenTellsSpec)) listenTellsUptoCard

/-- THE SECOND FORM's CARD OF 'tolllaw14.BackTells'. -/
def backTellsUptoCard : Claim7 := { stood := { row := backTellsUptoRow, standIns := [], harness := (true, "b45dc800b99c0be357d99c48e2b18217ca7290035ce315a6ce7f6f31d35f26e5"), looks := false }, kinds := [], alts := [], laidByText := true, laidKinds := [.data, .pinned], laidTests := true, laidLooks := .later }
def BackTellsUptoCardSaid : Prop := Claim7.holds Tryz.pinned (.plain (OpenSpec.upto backTellsSpec)) backTellsUptoCard
end Rows
end Go.Proofs.YtklolokoaooppaaGreatDoor
