/-
  DERIVED. GIVEN WITH THE SEED: THE CARDS: each row of YtcnhcamimcpinaaGreatDoorRows.lean that lists a variable, with what it lists TIED to the program's text (the seventh form; the later family's looks); each row that meets fmt, with fmt's text TOLD by the authors' own Lean function (tested against real Go, not proved from fmt's source: count such statements apart). THE CARD IS WHAT COUNTS. Prove the row's statement (the work); the ties are given (YtcnhcamimcpinaaGreatDoorTie.lean); close each card by the builder's one call (the guide's Derived/Test/ToyasCard.lean, 'card_holds'). Laid BY PROGRAM, IN A SANDBOX (cutbox-door.mjs). By AI agents, Wed Nov 11 2026. No macro, syntax, notation, axiom, sorry.
-/
import Derived.Test.YtcnhcamimcpinaaGreatDoorRows
import GoSem.ClaimSeven
namespace Go.Proofs.YtcnhcamimcpinaaGreatDoor
namespace Rows

/-- THE TIED CARD OF 'tolllaw13.AttachAt'. -/
def attachAtCard : Claim7 := { stood := { row := attachAtRow, standIns := [], harness := (true, "8495bd2efb6f9a33d9acb778868c08898cbad305e2c295f7b8cbe3a7c1dae4ef"), looks := true }, kinds := [], alts := [], laidByText := true, laidKinds := [.data, .pinned], laidTests := true, laidLooks := .later }
def AttachAtCardSaid : Prop := Claim7.holds Tryz.pinned (.plain (OpenSpec.ofChange attachAtSpec)) attachAtCard

/-- THE TIED CARD OF 'tolllaw13.AttachHosts'. -/
def attachHostsCard : Claim7 := { stood := { row := attachHostsRow, standIns := [], harness := (true, "8495bd2efb6f9a33d9acb778868c08898cbad305e2c295f7b8cbe3a7c1dae4ef"), looks := true }, kinds := [], alts := [], laidByText := true, laidKinds := [.data, .pinned], laidTests := true, laidLooks := .later }
def AttachHostsCardSaid : Prop := Claim7.holds Tryz.pinned (.plain (OpenSpec.ofChange attachHostsSpec)) attachHostsCard

/-- THE TIED CARD OF 'tolllaw13.AttachOne'. -/
def attachOneCard : Claim7 := { stood := { row := attachOneRow, standIns := [], harness := (true, "8495bd2efb6f9a33d9acb778868c08898cbad305e2c295f7b8cbe3a7c1dae4ef"), looks := true }, kinds := [], alts := [], laidByText := true, laidKinds := [.data, .pinned], laidTests := true, laidLooks := .later }
def AttachOneCardSaid : Prop := Claim7.holds Tryz.pinned (.plain (OpenSpec.ofChange attachOneSpec)) attachOneCard

/-- THE TIED CARD OF 'tolllaw13.AttachOthers'. -/
def attachOthersCard : Claim7 := { stood := { row := attachOthersRow, standIns := [], harness := (true, "8495bd2efb6f9a33d9acb778868c08898cbad305e2c295f7b8cbe3a7c1dae4ef"), looks := true }, kinds := [], alts := [], laidByText := true, laidKinds := [.data, .pinned], laidTests := true, laidLooks := .later }
def AttachOthersCardSaid : Prop := Claim7.holds Tryz.pinned (.plain (OpenSpec.ofChange attachOthersSpec)) attachOthersCard

/-- THE TIED CARD OF 'tolllaw13.AttachCounts'. -/
def attachCountsCard : Claim7 := { stood := { row := attachCountsRow, standIns := [], harness := (true, "8495bd2efb6f9a33d9acb778868c08898cbad305e2c295f7b8cbe3a7c1dae4ef"), looks := true }, kinds := [], alts := [], laidByText := true, laidKinds := [.data, .pinned], laidTests := true, laidLooks := .later }
def AttachCountsCardSaid : Prop := Claim7.holds Tryz.pinned (.plain (OpenSpec.ofChange attachCountsSpec)) attachCountsCard

/-- THE TIED CARD OF 'tolllaw13.AttachSums'. -/
def attachSumsCard : Claim7 := { stood := { row := attachSumsRow, standIns := [], harness := (true, "8495bd2efb6f9a33d9acb778868c08898cbad305e2c295f7b8cbe3a7c1dae4ef"), looks := true }, kinds := [], alts := [], laidByText := true, laidKinds := [.data, .pinned], laidTests := true, laidLooks := .later }
def AttachSumsCardSaid : Prop := Claim7.holds Tryz.pinned (.plain (OpenSpec.ofChange attachSumsSpec)) attachSumsCard

/-- THE SECOND FORM's CARD OF 'tolllaw13.AttachAt'. -/
def attachAtUptoCard : Claim7 := { stood := { row := attachAtUptoRow, standIns := [], harness := (true, "8495bd2efb6f9a33d9acb778868c08898cbad305e2c295f7b8cbe3a7c1dae4ef"), looks := true }, kinds := [], alts := [], laidByText := true, laidKinds := [.data, .pinned], laidTests := true, laidLooks := .later }
def AttachAtUptoCardSaid : Prop := Claim7.holds Tryz.pinned (.plain (OpenSpec.upto attachAtSpec)) attachAtUptoCard

/-- THE SECOND FORM's CARD OF 'tolllaw13.AttachHosts'. -/
def attachHostsUptoCard : Claim7 := { stood := { row := attachHostsUptoRow, standIns := [], harness := (true, "8495bd2efb6f9a33d9acb778868c08898cbad305e2c295f7b8cbe3a7c1dae4ef"), looks := true }, kinds := [], alts := [], laidByText := true, laidKinds := [.data, .pinned], laidTests := true, laidLooks := .later }
def AttachHostsUptoCardSaid : Prop := Claim7.holds Tryz.pinned (.plain (OpenSpec.upto attachHostsSpec)) attachHostsUptoCard

/-- THE SECOND FORM's CARD OF 'tolllaw13.AttachOne'. -/
def attachOneUptoCard : Claim7 := { stood := { row := attachOneUptoRow, standIns := [], harness := (true, "8495bd2efb6f9a33d9acb778868c08898cbad305e2c295f7b8cbe3a7c1dae4ef"), looks := true }, kinds := [], alts := [], laidByText := true, laidKinds := [.data, .pinned], laidTests := true, laidLooks := .later }
def AttachOneUptoCardSaid : Prop := Claim7.holds Tryz.pinned (.plain (OpenSpec.upto attachOneSpec)) attachOneUptoCard

/-- THE SECOND FORM's CARD OF 'tolllaw13.AttachOthers'. -/
def attachOthersUptoCard : Claim7 := { stood := { row := attachOthersUptoRow, standIns := [], harness := (true, "8495bd2efb6f9a33d9acb778868c08898cbad305e2c295f7b8cbe3a7c1dae4ef"), looks := true }, kinds := [], alts := [], laidByText := true, laidKinds := [.data, .pinned], laidTests := true, laidLooks := .later }
def AttachOthersUptoCardSaid : Prop := Claim7.holds Tryz.pinned (.plain (OpenSpec.upto attachOthersSpec)) attachOthersUptoCard

/-- THE SECOND FORM's CARD OF 'tolllaw13.AttachCounts'. -/
def attachCountsUptoCard : Claim7 := { stood := { row := attachCountsUptoRow, standIns := [], harness := (true, "8495bd2efb6f9a33d9acb778868c08898cbad305e2c295f7b8cbe3a7c1dae4ef"), looks := true }, kinds := [], alts := [], laidByText := true, laidKinds := [.data, .pinned], laidTests := true, laidLooks := .later }
def AttachCountsUptoCardSaid : Prop := Claim7.holds Tryz.pinned (.plain (OpenSpec.upto attachCountsSpec)) attachCountsUptoCard

/-- THE SECOND FORM's CARD OF 'tolllaw13.AttachSums'. -/
def attachSumsUptoCard : Claim7 := { stood := { row := attachSumsUptoRow, standIns := [], harness := (true, "8495bd2efb6f9a33d9acb778868c08898cbad305e2c295f7b8cbe3a7c1dae4ef"), looks := true }, kinds := [], alts := [], laidByText := true, laidKinds := [.data, .pinned], laidTests := true, laidLooks := .later }
def AttachSumsUptoCardSaid : Prop := Claim7.holds Tryz.pinned (.plain (OpenSpec.upto attachSumsSpec)) attachSumsUptoCard
end Rows
end Go.Proofs.YtcnhcamimcpinaaGreatDoor
