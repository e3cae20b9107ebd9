/-
  DERIVED. GIVEN WITH THE SEED: THE CARDS: each row of YtjgpdjakehoofaaGreatDoorRows.lean that lists a variable, with what it lists TIED to the program's text (the seventh form; the later family's looks); each row that meets fmt, with fmt's text TOLD by the authors' own Lean function (tested against real Go, not proved from fmt's source: count such statements apart). THE CARD IS WHAT COUNTS. Prove the row's statement (the work); the ties are given (YtjgpdjakehoofaaGreatDoorTie.lean); close each card by the builder's one call (the guide's Derived/Test/ToyasCard.lean, 'card_holds'). Laid BY PROGRAM, IN A SANDBOX (cutbox-door.mjs). By AI agents, Wed Nov 11 2026. No macro, syntax, notation, axiom, sorry.
-/
import Derived.Test.YtjgpdjakehoofaaGreatDoorRows
import GoSem.ClaimSeven
namespace Go.Proofs.YtjgpdjakehoofaaGreatDoor
namespace Rows

/-- THE TIED CARD OF 'tolllaw10.StoreEvents'. -/
def storeEventsCard : Claim7 := { stood := { row := storeEventsRow, standIns := [], harness := (true, "18ef186f218a0fd0db80c2445351711480fa3a4458ef60b6bd402df9c7a45cf8"), looks := false }, kinds := [], alts := [], laidByText := true, laidKinds := [.data, .pinned], laidTests := true, laidLooks := .later }
def StoreEventsCardSaid : Prop := Claim7.holds Tryz.pinned (.plain (OpenSpec.ofChange storeEventsSpec)) storeEventsCard

/-- THE TIED CARD OF 'tolllaw10.StoreTells'. -/
def storeTellsCard : Claim7 := { stood := { row := storeTellsRow, standIns := [], harness := (true, "18ef186f218a0fd0db80c2445351711480fa3a4458ef60b6bd402df9c7a45cf8"), looks := false }, kinds := [], alts := [], laidByText := true, laidKinds := [.data, .pinned], laidTests := true, laidLooks := .later }
def StoreTellsCardSaid : Prop := Claim7.holds Tryz.pinned (.plain (OpenSpec.ofChange storeTellsSpec)) storeTellsCard

/-- THE TIED CARD OF 'tolllaw10.StoreBack'. -/
def storeBackCard : Claim7 := { stood := { row := storeBackRow, standIns := [], harness := (true, "18ef186f218a0fd0db80c2445351711480fa3a4458ef60b6bd402df9c7a45cf8"), looks := false }, kinds := [], alts := [], laidByText := true, laidKinds := [.data, .pinned], laidTests := true, laidLooks := .later }
def StoreBackCardSaid : Prop := Claim7.holds Tryz.pinned (.plain (OpenSpec.ofChange storeBackSpec)) storeBackCard

/-- THE TIED CARD OF 'tolllaw10.StoreDoes'. -/
def storeDoesCard : Claim7 := { stood := { row := storeDoesRow, standIns := [], harness := (true, "18ef186f218a0fd0db80c2445351711480fa3a4458ef60b6bd402df9c7a45cf8"), looks := false }, kinds := [], alts := [], laidByText := true, laidKinds := [.data, .pinned], laidTests := true, laidLooks := .later }
def StoreDoesCardSaid : Prop := Claim7.holds Tryz.pinned (.plain (OpenSpec.ofChange storeDoesSpec)) storeDoesCard

/-- THE TIED CARD OF 'tolllaw10.StoreStays'. -/
def storeStaysCard : Claim7 := { stood := { row := storeStaysRow, standIns := [], harness := (true, "18ef186f218a0fd0db80c2445351711480fa3a4458ef60b6bd402df9c7a45cf8"), looks := false }, kinds := [], alts := [], laidByText := true, laidKinds := [.data, .pinned], laidTests := true, laidLooks := .later }
def StoreStaysCardSaid : Prop := Claim7.holds Tryz.pinned (.plain (OpenSpec.ofChange storeStaysSpec)) storeStaysCard

/-- THE TIED CARD OF 'tolllaw10.StoreFollows'. -/
def storeFollowsCard : Claim7 := { stood := { row := storeFollowsRow, standIns := [], harness := (true, "18ef186f218a0fd0db80c2445351711480fa3a4458ef60b6bd402df9c7a45cf8"), looks := false }, kinds := [], alts := [], laidByText := true, laidKinds := [.data, .pinned], laidTests := true, laidLooks := .later }
def StoreFollowsCardSaid : Prop := Claim7.holds Tryz.pinned (.plain (OpenSpec.ofChange storeFollowsSpec)) storeFollowsCard

/-- THE TIED CARD OF 'tolllaw10.StoreGens'. -/
def storeGensCard : Claim7 := { stood := { row := storeGensRow, standIns := [], harness := (true, "18ef186f218a0fd0db80c2445351711480fa3a4458ef60b6bd402df9c7a45cf8"), looks := false }, kinds := [], alts := [], laidByText := true, laidKinds := [.data, .pinned], laidTests := true, laidLooks := .later }
def StoreGensCardSaid : Prop := Claim7.holds Tryz.pinned (.plain (OpenSpec.ofChange storeGensSpec)) storeGensCard

/-- THE TIED CARD OF 'tolllaw10.StoreStale'. -/
def storeStaleCard : Claim7 := { stood := { row := storeStaleRow, standIns := [], harness := (true, "18ef186f218a0fd0db80c2445351711480fa3a4458ef60b6bd402df9c7a45cf8"), looks := false }, kinds := [], alts := [], laidByText := true, laidKinds := [.data, .pinned], laidTests := true, laidLooks := .later }
def StoreStaleCardSaid : Prop := Claim7.holds Tryz.pinned (.plain (OpenSpec.ofChange storeStaleSpec)) storeStaleCard

/-- THE TIED CARD OF 'tolllaw09.ObjectOrders'. -/
def objectOrdersCard : Claim7 := { stood := { row := objectOrdersRow, standIns := [], harness := (true, "18ef186f218a0fd0db80c2445351711480fa3a4458ef60b6bd402df9c7a45cf8"), looks := false }, kinds := [], alts := [], laidByText := true, laidKinds := [.data, .pinned], laidTests := true, laidLooks := .later }
def ObjectOrdersCardSaid : Prop := Claim7.holds Tryz.pinned (.plain (OpenSpec.ofChange objectOrdersSpec)) objectOrdersCard

/-- THE TIED CARD OF 'tolllaw09.ObjectNear'. -/
def objectNearCard : Claim7 := { stood := { row := objectNearRow, standIns := [], harness := (true, "18ef186f218a0fd0db80c2445351711480fa3a4458ef60b6bd402df9c7a45cf8"), looks := false }, kinds := [], alts := [], laidByText := true, laidKinds := [.data, .pinned], laidTests := true, laidLooks := .later }
def ObjectNearCardSaid : Prop := Claim7.holds Tryz.pinned (.plain (OpenSpec.ofChange objectNearSpec)) objectNearCard

/-- THE SECOND FORM's CARD OF 'tolllaw10.StoreEvents'. -/
def storeEventsUptoCard : Claim7 := { stood := { row := storeEventsUptoRow, standIns := [], harness := (true, "18ef186f218a0fd0db80c2445351711480fa3a4458ef60b6bd402df9c7a45cf8"), looks := false }, kinds := [], alts := [], laidByText := true, laidKinds := [.data, .pinned], laidTests := true, laidLooks := .later }
def StoreEventsUptoCardSaid : Prop := Claim7.holds Tryz.pinned (.plain (OpenSpec.upto storeEventsSpec)) storeEventsUptoCard

/-- THE SECOND FORM's CARD OF 'tolllaw10.StoreTells'. -/
def storeTellsUptoCard : Claim7 := { stood := { row := storeTellsUptoRow, standIns := [], harness := (true, "18ef186f218a0fd0db80c2445351711480fa3a4458ef60b6bd402df9c7a45cf8"), looks := false }, kinds := [], alts := [], laidByText := true, laidKinds := [.data, .pinned], laidTests := true, laidLooks := .later }
def StoreTellsUptoCardSaid : Prop := Claim7.holds Tryz.pinned (.plain (OpenSpec.upto storeTellsSpec)) storeTellsUptoCard

/-- THE SECOND FORM's CARD OF 'tolllaw10.StoreBack'. -/
def storeBackUptoCard : Claim7 := { stood := { row := storeBackUptoRow, standIns := [], harness := (true, "18ef186f218a0fd0db80c2445351711480fa3a4458ef60b6bd402df9c7a45cf8"), looks := false }, kinds := [], alts := [], laidByText := true, laidKinds := [.data, .pinned], laidTests := true, laidLooks := .later }
def StoreBackUptoCardSaid : Prop := Claim7.holds Tryz.pinned (.plain (OpenSpec.upto storeBackSpec)) storeBackUptoCard

/-- THE SECOND FORM's CARD OF 'tolllaw10.StoreDoes'. -/
def storeDoesUptoCard : Claim7 := { stood := { row := storeDoesUptoRow, standIns := [], harness := (true, "18ef186f218a0fd0db80c2445351711480fa3a4458ef60b6bd402df9c7a45cf8"), looks := false }, kinds := [], alts := [], laidByText := true, laidKinds := [.data, .pinned], laidTests := true, laidLooks := .later }
def StoreDoesUptoCardSaid : Prop := Claim7.holds Tryz.pinned (.plain (OpenSpec.upto storeDoesSpec)) storeDoesUptoCard

/-- THE SECOND FORM's CARD OF 'tolllaw10.StoreStays'. -/
def storeStaysUptoCard : Claim7 := { stood := { row := storeStaysUptoRow, standIns := [], harness := (true, "18ef186f218a0fd0db80c2445351711480fa3a4458ef60b6bd402df9c7a45cf8"), looks := false }, kinds := [], alts := [], laidByText := true, laidKinds := [.data, .pinned], laidTests := true, laidLooks := .later }
def StoreStaysUptoCardSaid : Prop := Claim7.holds Tryz.pinned (.plain (OpenSpec.upto storeStaysSpec)) storeStaysUptoCard

/-- THE SECOND FORM's CARD OF 'tolllaw10.StoreFollows'. -/
def storeFollowsUptoCard : Claim7 := { stood := { row := storeFollowsUptoRow, standIns := [], harness := (true, "18ef186f218a0fd0db80c2445351711480fa3a4458ef60b6bd402df9c7a45cf8"), looks := false }, kinds := [], alts := [], laidByText := true, laidKinds := [.data, .pinned], laidTests := true, laidLooks := .later }
def StoreFollowsUptoCardSaid : Prop := Claim7.holds Tryz.pinned (.plain (OpenSpec.upto storeFollowsSpec)) storeFollowsUptoCard

/-- THE SECOND FORM's CARD OF 'tolllaw10.StoreGens'. -/
def storeGensUptoCard : Claim7 := { stood := { row := storeGensUptoRow, standIns := [], harness := (true, "18ef186f218a0fd0db80c2445351711480fa3a4458ef60b6bd402df9c7a45cf8"), looks := false }, kinds := [], alts := [], laidByText := true, laidKinds := [.data, .pinned], laidTests := true, laidLooks := .later }
def StoreGensUptoCardSaid : Prop := Claim7.holds Tryz.pinned (.plain (OpenSpec.upto storeGensSpec)) storeGensUptoCard

/-- THE SECOND FORM's CARD OF 'tolllaw10.StoreStale'. -/
def storeStaleUptoCard : Claim7 := { stood := { row := storeStaleUptoRow, standIns := [], harness := (true, "18ef186f218a0fd0db80c2445351711480fa3a4458ef60b6bd402df9c7a45cf8"), looks := false }, kinds := [], alts := [], laidByText := true, laidKinds := [.data, .pinned], laidTests := true, laidLooks := .later }
def StoreStaleUptoCardSaid : Prop := Claim7.holds Tryz.pinned (.plain (OpenSpec.upto storeStaleSpec)) storeStaleUptoCard

/-- THE SECOND FORM's CARD OF 'tolllaw09.ObjectOrders'. -/
def objectOrdersUptoCard : Claim7 := { stood := { row := objectOrdersUptoRow, standIns := [], harness := (true, "18ef186f218a0fd0db80c2445351711480fa3a4458ef60b6bd402df9c7a45cf8"), looks := false }, kinds := [], alts := [], laidByText := true, laidKinds := [.data, .pinned], laidTests := true, laidLooks := .later }
def ObjectOrdersUptoCardSaid : Prop := Claim7.holds Tryz.pinned (.plain (OpenSpec.upto objectOrdersSpec)) objectOrdersUptoCard

/-- THE SECOND FORM's CARD OF 'tolllaw09.ObjectNear'. -/
def objectNearUptoCard : Claim7 := { stood := { row := objectNearUptoRow, standIns := [], harness := (true, "18ef186f218a0fd0db80c2445351711480fa3a4458ef60b6bd402df9c7a45cf8"), looks := false }, kinds := [], alts := [], laidByText := true, laidKinds := [.data, .pinned], laidTests := true, laidLooks := .later }
def ObjectNearUptoCardSaid : Prop := Claim7.holds Tryz.pinned (.plain (OpenSpec.upto objectNearSpec)) objectNearUptoCard
end Rows
end Go.Proofs.YtjgpdjakehoofaaGreatDoor
