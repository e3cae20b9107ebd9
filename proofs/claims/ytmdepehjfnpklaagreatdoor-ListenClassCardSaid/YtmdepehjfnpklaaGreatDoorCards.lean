/-
  DERIVED. GIVEN WITH THE SEED: THE CARDS: each row of YtmdepehjfnpklaaGreatDoorRows.lean that lists a variable, with what it lists TIED to the program's text (the seventh form; the later family's looks); each row that meets fmt, with fmt's text TOLD by the authors' own Lean function (tested against real Go, not proved from fmt's source: count such statements apart). THE CARD IS WHAT COUNTS. Prove the row's statement (the work); the ties are given (YtmdepehjfnpklaaGreatDoorTie.lean); close each card by the builder's one call (the guide's Derived/Test/ToyasCard.lean, 'card_holds'). Laid BY PROGRAM, IN A SANDBOX (cutbox-door.mjs). By AI agents, Wed Nov 11 2026. No macro, syntax, notation, axiom, sorry.
-/
import Derived.Test.YtmdepehjfnpklaaGreatDoorRows
import GoSem.ClaimSeven
namespace Go.Proofs.YtmdepehjfnpklaaGreatDoor
namespace Rows

/-- THE TIED CARD OF 'tolllaw12.ListenTurns'. -/
def listenTurnsCard : Claim7 := { stood := { row := listenTurnsRow, standIns := [], harness := (true, "79e5dc74d32f725f7df64e5c9c6ef085306e46b1e1c2e924614f5566f9c84e32"), looks := false }, kinds := [], alts := [], laidByText := true, laidKinds := [.data, .pinned], laidTests := true, laidLooks := .later }
def ListenTurnsCardSaid : Prop := Claim7.holds Tryz.pinned (.plain (OpenSpec.ofChange listenTurnsSpec)) listenTurnsCard

/-- THE TIED CARD OF 'tolllaw12.ListenClass'. -/
def listenClassCard : Claim7 := { stood := { row := listenClassRow, standIns := [], harness := (true, "79e5dc74d32f725f7df64e5c9c6ef085306e46b1e1c2e924614f5566f9c84e32"), looks := false }, kinds := [], alts := [], laidByText := true, laidKinds := [.data, .pinned], laidTests := true, laidLooks := .later }
def ListenClassCardSaid : Prop := Claim7.holds Tryz.pinned (.plain (OpenSpec.ofChange listenClassSpec)) listenClassCard

/-- THE SECOND FORM's CARD OF 'tolllaw12.ListenTurns'. -/
def listenTurnsUptoCard : Claim7 := { stood := { row := listenTurnsUptoRow, standIns := [], harness := (true, "79e5dc74d32f725f7df64e5c9c6ef085306e46b1e1c2e924614f5566f9c84e32"), looks := false }, kinds := [], alts := [], laidByText := true, laidKinds := [.data, .pinned], laidTests := true, laidLooks := .later }
def ListenTurnsUptoCardSaid : Prop := Claim7.holds Tryz.pinned (.plain (OpenSpec.upto listenTurnsSpec)) listenTurnsUptoCard

/-- THE SECOND FORM's CARD OF 'tolllaw12.ListenClass'. -/
def listenClassUptoCard : Claim7 := { stood := { row := listenClassUptoRow, standIns := [], harness := (true, "79e5dc74d32f725f7df64e5c9c6ef085306e46b1e1c2e924614f5566f9c84e32"), looks := false }, kinds := [], alts := [], laidByText := true, laidKinds := [.data, .pinned], laidTests := true, laidLooks := .later }
def ListenClassUptoCardSaid : Prop := Claim7.holds Tryz.pinned (.plain (OpenSpec.upto listenClassSpec)) listenClassUptoCard
end Rows
end Go.Proofs.YtmdepehjfnpklaaGreatDoor
