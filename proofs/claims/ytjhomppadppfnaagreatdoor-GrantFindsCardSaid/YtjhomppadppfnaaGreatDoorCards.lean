/-
  DERIVED. GIVEN WITH THE SEED: THE CARDS: each row of YtjhomppadppfnaaGreatDoorRows.lean that lists a variable, with what it lists TIED to the program's text (the seventh form; the later family's looks); each row that meets fmt, with fmt's text TOLD by the authors' own Lean function (tested against real Go, not proved from fmt's source: count such statements apart). THE CARD IS WHAT COUNTS. Prove the row's statement (the work); the ties are given (YtjhomppadppfnaaGreatDoorTie.lean); close each card by the builder's one call (the guide's Derived/Test/ToyasCard.lean, 'card_holds'). Laid BY PROGRAM, IN A SANDBOX (cutbox-door.mjs). By AI agents, Wed Nov 11 2026. No macro, syntax, notation, axiom, sorry.
-/
import Derived.Test.YtjhomppadppfnaaGreatDoorRows
import GoSem.ClaimSeven
namespace Go.Proofs.YtjhomppadppfnaaGreatDoor
namespace Rows

/-- THE TIED CARD OF 'tolllaw11.GrantMore'. -/
def grantMoreCard : Claim7 := { stood := { row := grantMoreRow, standIns := [], harness := (true, "0c4f4596911f9f2bc76dc72b261e79f5460fa9a7dc7fa73a0d7aa99b927211cf"), looks := false }, kinds := [], alts := [], laidByText := true, laidKinds := [.data, .pinned], laidTests := true, laidLooks := .later }
def GrantMoreCardSaid : Prop := Claim7.holds Tryz.pinned (.plain (OpenSpec.ofChange grantMoreSpec)) grantMoreCard

/-- THE TIED CARD OF 'tolllaw11.GrantNames'. -/
def grantNamesCard : Claim7 := { stood := { row := grantNamesRow, standIns := [], harness := (true, "0c4f4596911f9f2bc76dc72b261e79f5460fa9a7dc7fa73a0d7aa99b927211cf"), looks := false }, kinds := [], alts := [], laidByText := true, laidKinds := [.data, .pinned], laidTests := true, laidLooks := .later }
def GrantNamesCardSaid : Prop := Claim7.holds Tryz.pinned (.plain (OpenSpec.ofChange grantNamesSpec)) grantNamesCard

/-- THE TIED CARD OF 'tolllaw11.GrantSides'. -/
def grantSidesCard : Claim7 := { stood := { row := grantSidesRow, standIns := [], harness := (true, "0c4f4596911f9f2bc76dc72b261e79f5460fa9a7dc7fa73a0d7aa99b927211cf"), looks := false }, kinds := [], alts := [], laidByText := true, laidKinds := [.data, .pinned], laidTests := true, laidLooks := .later }
def GrantSidesCardSaid : Prop := Claim7.holds Tryz.pinned (.plain (OpenSpec.ofChange grantSidesSpec)) grantSidesCard

/-- THE TIED CARD OF 'tolllaw11.GrantBys'. -/
def grantBysCard : Claim7 := { stood := { row := grantBysRow, standIns := [], harness := (true, "0c4f4596911f9f2bc76dc72b261e79f5460fa9a7dc7fa73a0d7aa99b927211cf"), looks := false }, kinds := [], alts := [], laidByText := true, laidKinds := [.data, .pinned], laidTests := true, laidLooks := .later }
def GrantBysCardSaid : Prop := Claim7.holds Tryz.pinned (.plain (OpenSpec.ofChange grantBysSpec)) grantBysCard

/-- THE TIED CARD OF 'tolllaw11.GrantFinds'. -/
def grantFindsCard : Claim7 := { stood := { row := grantFindsRow, standIns := [], harness := (true, "0c4f4596911f9f2bc76dc72b261e79f5460fa9a7dc7fa73a0d7aa99b927211cf"), looks := false }, kinds := [], alts := [], laidByText := true, laidKinds := [.data, .pinned], laidTests := true, laidLooks := .later }
def GrantFindsCardSaid : Prop := Claim7.holds Tryz.pinned (.plain (OpenSpec.ofChange grantFindsSpec)) grantFindsCard

/-- THE TIED CARD OF 'tolllaw11.GrantPermits'. -/
def grantPermitsCard : Claim7 := { stood := { row := grantPermitsRow, standIns := [], harness := (true, "0c4f4596911f9f2bc76dc72b261e79f5460fa9a7dc7fa73a0d7aa99b927211cf"), looks := false }, kinds := [], alts := [], laidByText := true, laidKinds := [.data, .pinned], laidTests := true, laidLooks := .later }
def GrantPermitsCardSaid : Prop := Claim7.holds Tryz.pinned (.plain (OpenSpec.ofChange grantPermitsSpec)) grantPermitsCard

/-- THE TIED CARD OF 'tolllaw14.BackPicks'. -/
def backPicksCard : Claim7 := { stood := { row := backPicksRow, standIns := [], harness := (true, "0c4f4596911f9f2bc76dc72b261e79f5460fa9a7dc7fa73a0d7aa99b927211cf"), looks := false }, kinds := [], alts := [], laidByText := true, laidKinds := [.data, .pinned], laidTests := true, laidLooks := .later }
def BackPicksCardSaid : Prop := Claim7.holds Tryz.pinned (.plain (OpenSpec.ofChange backPicksSpec)) backPicksCard

/-- THE TIED CARD OF 'tolllaw14.BackTells'. -/
def backTellsCard : Claim7 := { stood := { row := backTellsRow, standIns := [], harness := (true, "0c4f4596911f9f2bc76dc72b261e79f5460fa9a7dc7fa73a0d7aa99b927211cf"), looks := false }, kinds := [], alts := [], laidByText := true, laidKinds := [.data, .pinned], laidTests := true, laidLooks := .later }
def BackTellsCardSaid : Prop := Claim7.holds Tryz.pinned (.plain (OpenSpec.ofChange backTellsSpec)) backTellsCard

/-- THE TIED CARD OF 'tolllaw12.ListenApart'. -/
def listenApartCard : Claim7 := { stood := { row := listenApartRow, standIns := [], harness := (true, "0c4f4596911f9f2bc76dc72b261e79f5460fa9a7dc7fa73a0d7aa99b927211cf"), looks := false }, kinds := [], alts := [], laidByText := true, laidKinds := [.data, .pinned], laidTests := true, laidLooks := .later }
def ListenApartCardSaid : Prop := Claim7.holds Tryz.pinned (.plain (OpenSpec.ofChange listenApartSpec)) listenApartCard

/-- THE TIED CARD OF 'tolllaw12.ListenOthers'. -/
def listenOthersCard : Claim7 := { stood := { row := listenOthersRow, standIns := [], harness := (true, "0c4f4596911f9f2bc76dc72b261e79f5460fa9a7dc7fa73a0d7aa99b927211cf"), looks := false }, kinds := [], alts := [], laidByText := true, laidKinds := [.data, .pinned], laidTests := true, laidLooks := .later }
def ListenOthersCardSaid : Prop := Claim7.holds Tryz.pinned (.plain (OpenSpec.ofChange listenOthersSpec)) listenOthersCard

/-- THE TIED CARD OF 'tolllaw12.ListenCerts'. -/
def listenCertsCard : Claim7 := { stood := { row := listenCertsRow, standIns := [], harness := (true, "0c4f4596911f9f2bc76dc72b261e79f5460fa9a7dc7fa73a0d7aa99b927211cf"), looks := false }, kinds := [], alts := [], laidByText := true, laidKinds := [.data, .pinned], laidTests := true, laidLooks := .later }
def ListenCertsCardSaid : Prop := Claim7.holds Tryz.pinned (.plain (OpenSpec.ofChange listenCertsSpec)) listenCertsCard

/-- THE TIED CARD OF 'tolllaw12.ListenPlain'. -/
def listenPlainCard : Claim7 := { stood := { row := listenPlainRow, standIns := [], harness := (true, "0c4f4596911f9f2bc76dc72b261e79f5460fa9a7dc7fa73a0d7aa99b927211cf"), looks := false }, kinds := [], alts := [], laidByText := true, laidKinds := [.data, .pinned], laidTests := true, laidLooks := .later }
def ListenPlainCardSaid : Prop := Claim7.holds Tryz.pinned (.plain (OpenSpec.ofChange listenPlainSpec)) listenPlainCard

/-- THE SECOND FORM's CARD OF 'tolllaw11.GrantMore'. -/
def grantMoreUptoCard : Claim7 := { stood := { row := grantMoreUptoRow, standIns := [], harness := (true, "0c4f4596911f9f2bc76dc72b261e79f5460fa9a7dc7fa73a0d7aa99b927211cf"), looks := false }, kinds := [], alts := [], laidByText := true, laidKinds := [.data, .pinned], laidTests := true, laidLooks := .later }
def GrantMoreUptoCardSaid : Prop := Claim7.holds Tryz.pinned (.plain (OpenSpec.upto grantMoreSpec)) grantMoreUptoCard

/-- THE SECOND FORM's CARD OF 'tolllaw11.GrantNames'. -/
def grantNamesUptoCard : Claim7 := { stood := { row := grantNamesUptoRow, standIns := [], harness := (true, "0c4f4596911f9f2bc76dc72b261e79f5460fa9a7dc7fa73a0d7aa99b927211cf"), looks := false }, kinds := [], alts := [], laidByText := true, laidKinds := [.data, .pinned], laidTests := true, laidLooks := .later }
def GrantNamesUptoCardSaid : Prop := Claim7.holds Tryz.pinned (.plain (OpenSpec.upto grantNamesSpec)) grantNamesUptoCard

/-- THE SECOND FORM's CARD OF 'tolllaw11.GrantSides'. -/
def grantSidesUptoCard : Claim7 := { stood := { row := grantSidesUptoRow, standIns := [], harness := (true, "0c4f4596911f9f2bc76dc72b261e79f5460fa9a7dc7fa73a0d7aa99b927211cf"), looks := false }, kinds := [], alts := [], laidByText := true, laidKinds := [.data, .pinned], laidTests := true, laidLooks := .later }
def GrantSidesUptoCardSaid : Prop := Claim7.holds Tryz.pinned (.plain (OpenSpec.upto grantSidesSpec)) grantSidesUptoCard

/-- THE SECOND FORM's CARD OF 'tolllaw11.GrantBys'. -/
def grantBysUptoCard : Claim7 := { stood := { row := grantBysUptoRow, standIns := [], harness := (true, "0c4f4596911f9f2bc76dc72b261e79f5460fa9a7dc7fa73a0d7aa99b927211cf"), looks := false }, kinds := [], alts := [], laidByText := true, laidKinds := [.data, .pinned], laidTests := true, laidLooks := .later }
def GrantBysUptoCardSaid : Prop := Claim7.holds Tryz.pinned (.plain (OpenSpec.upto grantBysSpec)) grantBysUptoCard

/-- THE SECOND FORM's CARD OF 'tolllaw11.GrantFinds'. -/
def grantFindsUptoCard : Claim7 := { stood := { row := grantFindsUptoRow, standIns := [], harness := (true, "0c4f4596911f9f2bc76dc72b261e79f5460fa9a7dc7fa73a0d7aa99b927211cf"), looks := false }, kinds := [], alts := [], laidByText := true, laidKinds := [.data, .pinned], laidTests := true, laidLooks := .later }
def GrantFindsUptoCardSaid : Prop := Claim7.holds Tryz.pinned (.plain (OpenSpec.upto grantFindsSpec)) grantFindsUptoCard

/-- THE SECOND FORM's CARD OF 'tolllaw11.GrantPermits'. -/
def grantPermitsUptoCard : Claim7 := { stood := { row := grantPermitsUptoRow, standIns := [], harness := (true, "0c4f4596911f9f2bc76dc72b261e79f5460fa9a7dc7fa73a0d7aa99b927211cf"), looks := false }, kinds := [], alts := [], laidByText := true, laidKinds := [.data, .pinned], laidTests := true, laidLooks := .later }
def GrantPermitsUptoCardSaid : Prop := Claim7.holds Tryz.pinned (.plain (OpenSpec.upto grantPermitsSpec)) grantPermitsUptoCard

/-- THE SECOND FORM's CARD OF 'tolllaw14.BackPicks'. -/
def backPicksUptoCard : Claim7 := { stood := { row := backPicksUptoRow, standIns := [], harness := (true, "0c4f4596911f9f2bc76dc72b261e79f5460fa9a7dc7fa73a0d7aa99b927211cf"), looks := false }, kinds := [], alts := [], laidByText := true, laidKinds := [.data, .pinned], laidTests := true, laidLooks := .later }
def BackPicksUptoCardSaid : Prop := Claim7.holds Tryz.pinned (.plain (OpenSpec.upto backPicksSpec)) backPicksUptoCard

/-- THE SECOND FORM's CARD OF 'tolllaw14.BackTells'. -/
def backTellsUptoCard : Claim7 := { stood := { row := backTellsUptoRow, standIns := [], harness := (true, "0c4f4596911f9f2bc76dc72b261e79f5460fa9a7dc7fa73a0d7aa99b927211cf"), looks := false }, kinds := [], alts := [], laidByText := true, laidKinds := [.data, .pinned], laidTests := true, laidLooks := .later }
def BackTellsUptoCardSaid : Prop := Claim7.holds Tryz.pinned (.plain (OpenSpec.upto backTellsSpec)) backTellsUptoCard

/-- THE SECOND FORM's CARD OF 'tolllaw12.ListenApart'. -/
def listenApartUptoCard : Claim7 := { stood := { row := listenApartUptoRow, standIns := [], harness := (true, "0c4f4596911f9f2bc76dc72b261e79f5460fa9a7dc7fa73a0d7aa99b927211cf"), looks := false }, kinds := [], alts := [], laidByText := true, laidKinds := [.data, .pinned], laidTests := true, laidLooks := .later }
def ListenApartUptoCardSaid : Prop := Claim7.holds Tryz.pinned (.plain (OpenSpec.upto listenApartSpec)) listenApartUptoCard

/-- THE SECOND FORM's CARD OF 'tolllaw12.ListenOthers'. -/
def listenOthersUptoCard : Claim7 := { stood := { row := listenOthersUptoRow, standIns := [], harness := (true, "0c4f4596911f9f2bc76dc72b261e79f5460fa9a7dc7fa73a0d7aa99b927211cf"), looks := false }, kinds := [], alts := [], laidByText := true, laidKinds := [.data, .pinned], laidTests := true, laidLooks := .later }
def ListenOthersUptoCardSaid : Prop := Claim7.holds Tryz.pinned (.plain (OpenSpec.upto listenOthersSpec)) listenOthersUptoCard

/-- THE SECOND FORM's CARD OF 'tolllaw12.ListenCerts'. -/
def listenCertsUptoCard : Claim7 := { stood := { row := listenCertsUptoRow, standIns := [], harness := (true, "0c4f4596911f9f2bc76dc72b261e79f5460fa9a7dc7fa73a0d7aa99b927211cf"), looks := false }, kinds := [], alts := [], laidByText := true, laidKinds := [.data, .pinned], laidTests := true, laidLooks := .later }
def ListenCertsUptoCardSaid : Prop := Claim7.holds Tryz.pinned (.plain (OpenSpec.upto listenCertsSpec)) listenCertsUptoCard

/-- THE SECOND FORM's CARD OF 'tolllaw12.ListenPlain'. -/
def listenPlainUptoCard : Claim7 := { stood := { row := listenPlainUptoRow, standIns := [], harness := (true, "0c4f4596911f9f2bc76dc72b261e79f5460fa9a7dc7fa73a0d7aa99b927211cf"), looks := false }, kinds := [], alts := [], laidByText := true, laidKinds := [.data, .pinned], laidTests := true, laidLooks := .later }
def ListenPlainUptoCardSaid : Prop := Claim7.holds Tryz.pinned (.plain (OpenSpec.upto listenPlainSpec)) listenPlainUptoCard
end Rows
end Go.Proofs.YtjhomppadppfnaaGreatDoor
