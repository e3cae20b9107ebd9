/-
  DERIVED. GIVEN WITH THE SEED: THE CARDS: each row of YtbjaopoipkphnaaGreatDoorRows.lean that lists a variable, with what it lists TIED to the program's text (the seventh form; the later family's looks); each row that meets fmt, with fmt's text TOLD by the authors' own Lean function (tested against real Go, not proved from fmt's source: count such statements apart). THE CARD IS WHAT COUNTS. Prove the row's statement (the work); the ties are given (YtbjaopoipkphnaaGreatDoorTie.lean); close each card by the builder's one call (the guide's Derived/Test/ToyasCard.lean, 'card_holds'). Laid BY PROGRAM, IN A SANDBOX (cutbox-door.mjs). By AI agents, Wed Nov 11 2026. No macro, syntax, notation, axiom, sorry.
-/
import Derived.Test.YtbjaopoipkphnaaGreatDoorRows
import GoSem.ClaimSeven
namespace Go.Proofs.YtbjaopoipkphnaaGreatDoor
namespace Rows

/-- THE TIED CARD OF 'tolllaw09.ObjectMays'. -/
def objectMaysCard : Claim7 := { stood := { row := objectMaysRow, standIns := [], harness := (true, "e32440860c1c0d008a74ad64c4754117fc6f574d57815eee3f4bdbfacb0de7f8"), looks := false }, kinds := [], alts := [], laidByText := true, laidKinds := [.data, .pinned], laidTests := true, laidLooks := .later }
def ObjectMaysCardSaid : Prop := Claim7.holds Tryz.pinned (.plain (OpenSpec.ofChange objectMaysSpec)) objectMaysCard

/-- THE TIED CARD OF 'tolllaw09.ObjectRefs'. -/
def objectRefsCard : Claim7 := { stood := { row := objectRefsRow, standIns := [], harness := (true, "e32440860c1c0d008a74ad64c4754117fc6f574d57815eee3f4bdbfacb0de7f8"), looks := false }, kinds := [], alts := [], laidByText := true, laidKinds := [.data, .pinned], laidTests := true, laidLooks := .later }
def ObjectRefsCardSaid : Prop := Claim7.holds Tryz.pinned (.plain (OpenSpec.ofChange objectRefsSpec)) objectRefsCard

/-- THE TIED CARD OF 'tolllaw09.ObjectOrders'. -/
def objectOrdersCard : Claim7 := { stood := { row := objectOrdersRow, standIns := [], harness := (true, "e32440860c1c0d008a74ad64c4754117fc6f574d57815eee3f4bdbfacb0de7f8"), looks := false }, kinds := [], alts := [], laidByText := true, laidKinds := [.data, .pinned], laidTests := true, laidLooks := .later }
def ObjectOrdersCardSaid : Prop := Claim7.holds Tryz.pinned (.plain (OpenSpec.ofChange objectOrdersSpec)) objectOrdersCard

/-- THE TIED CARD OF 'tolllaw09.ObjectLess'. -/
def objectLessCard : Claim7 := { stood := { row := objectLessRow, standIns := [], harness := (true, "e32440860c1c0d008a74ad64c4754117fc6f574d57815eee3f4bdbfacb0de7f8"), looks := false }, kinds := [], alts := [], laidByText := true, laidKinds := [.data, .pinned], laidTests := true, laidLooks := .later }
def ObjectLessCardSaid : Prop := Claim7.holds Tryz.pinned (.plain (OpenSpec.ofChange objectLessSpec)) objectLessCard

/-- THE TIED CARD OF 'tolllaw09.ObjectKnown'. -/
def objectKnownCard : Claim7 := { stood := { row := objectKnownRow, standIns := [], harness := (true, "e32440860c1c0d008a74ad64c4754117fc6f574d57815eee3f4bdbfacb0de7f8"), looks := false }, kinds := [], alts := [], laidByText := true, laidKinds := [.data, .pinned], laidTests := true, laidLooks := .later }
def ObjectKnownCardSaid : Prop := Claim7.holds Tryz.pinned (.plain (OpenSpec.ofChange objectKnownSpec)) objectKnownCard

/-- THE TIED CARD OF 'tolllaw09.ObjectNear'. -/
def objectNearCard : Claim7 := { stood := { row := objectNearRow, standIns := [], harness := (true, "e32440860c1c0d008a74ad64c4754117fc6f574d57815eee3f4bdbfacb0de7f8"), looks := false }, kinds := [], alts := [], laidByText := true, laidKinds := [.data, .pinned], laidTests := true, laidLooks := .later }
def ObjectNearCardSaid : Prop := Claim7.holds Tryz.pinned (.plain (OpenSpec.ofChange objectNearSpec)) objectNearCard

/-- THE TIED CARD OF 'tolllaw09.ObjectTexts'. -/
def objectTextsCard : Claim7 := { stood := { row := objectTextsRow, standIns := [], harness := (true, "e32440860c1c0d008a74ad64c4754117fc6f574d57815eee3f4bdbfacb0de7f8"), looks := false }, kinds := [], alts := [], laidByText := true, laidKinds := [.data, .pinned], laidTests := true, laidLooks := .later }
def ObjectTextsCardSaid : Prop := Claim7.holds Tryz.pinned (.plain (OpenSpec.ofChange objectTextsSpec)) objectTextsCard

/-- THE SECOND FORM's CARD OF 'tolllaw09.ObjectMays'. -/
def objectMaysUptoCard : Claim7 := { stood := { row := objectMaysUptoRow, standIns := [], harness := (true, "e32440860c1c0d008a74ad64c4754117fc6f574d57815eee3f4bdbfacb0de7f8"), looks := false }, kinds := [], alts := [], laidByText := true, laidKinds := [.data, .pinned], laidTests := true, laidLooks := .later }
def ObjectMaysUptoCardSaid : Prop := Claim7.holds Tryz.pinned (.plain (OpenSpec.upto objectMaysSpec)) objectMaysUptoCard

/-- THE SECOND FORM's CARD OF 'tolllaw09.ObjectRefs'. -/
def objectRefsUptoCard : Claim7 := { stood := { row := objectRefsUptoRow, standIns := [], harness := (true, "e32440860c1c0d008a74ad64c4754117fc6f574d57815eee3f4bdbfacb0de7f8"), looks := false }, kinds := [], alts := [], laidByText := true, laidKinds := [.data, .pinned], laidTests := true, laidLooks := .later }
def ObjectRefsUptoCardSaid : Prop := Claim7.holds Tryz.pinned (.plain (OpenSpec.upto objectRefsSpec)) objectRefsUptoCard

/-- THE SECOND FORM's CARD OF 'tolllaw09.ObjectOrders'. -/
def objectOrdersUptoCard : Claim7 := { stood := { row := objectOrdersUptoRow, standIns := [], harness := (true, "e32440860c1c0d008a74ad64c4754117fc6f574d57815eee3f4bdbfacb0de7f8"), looks := false }, kinds := [], alts := [], laidByText := true, laidKinds := [.data, .pinned], laidTests := true, laidLooks := .later }
def ObjectOrdersUptoCardSaid : Prop := Claim7.holds Tryz.pinned (.plain (OpenSpec.upto objectOrdersSpec)) objectOrdersUptoCard

/-- THE SECOND FORM's CARD OF 'tolllaw09.ObjectLess'. -/
def objectLessUptoCard : Claim7 := { stood := { row := objectLessUptoRow, standIns := [], harness := (true, "e32440860c1c0d008a74ad64c4754117fc6f574d57815eee3f4bdbfacb0de7f8"), looks := false }, kinds := [], alts := [], laidByText := true, laidKinds := [.data, .pinned], laidTests := true, laidLooks := .later }
def ObjectLessUptoCardSaid : Prop := Claim7.holds Tryz.pinned (.plain (OpenSpec.upto objectLessSpec)) objectLessUptoCard

/-- THE SECOND FORM's CARD OF 'tolllaw09.ObjectKnown'. -/
def objectKnownUptoCard : Claim7 := { stood := { row := objectKnownUptoRow, standIns := [], harness := (true, "e32440860c1c0d008a74ad64c4754117fc6f574d57815eee3f4bdbfacb0de7f8"), looks := false }, kinds := [], alts := [], laidByText := true, laidKinds := [.data, .pinned], laidTests := true, laidLooks := .later }
def ObjectKnownUptoCardSaid : Prop := Claim7.holds Tryz.pinned (.plain (OpenSpec.upto objectKnownSpec)) objectKnownUptoCard

/-- THE SECOND FORM's CARD OF 'tolllaw09.ObjectNear'. -/
def objectNearUptoCard : Claim7 := { stood := { row := objectNearUptoRow, standIns := [], harness := (true, "e32440860c1c0d008a74ad64c4754117fc6f574d57815eee3f4bdbfacb0de7f8"), looks := false }, kinds := [], alts := [], laidByText := true, laidKinds := [.data, .pinned], laidTests := true, laidLooks := .later }
def ObjectNearUptoCardSaid : Prop := Claim7.holds Tryz.pinned (.plain (OpenSpec.upto objectNearSpec)) objectNearUptoCard

/-- THE SECOND FORM's CARD OF 'tolllaw09.ObjectTexts'. -/
def objectTextsUptoCard : Claim7 := { stood := { row := objectTextsUptoRow, standIns := [], harness := (true, "e32440860c1c0d008a74ad64c4754117fc6f574d57815eee3f4bdbfacb0de7f8"), looks := false }, kinds := [], alts := [], laidByText := true, laidKinds := [.data, .pinned], laidTests := true, laidLooks := .later }
def ObjectTextsUptoCardSaid : Prop := Claim7.holds Tryz.pinned (.plain (OpenSpec.upto objectTextsSpec)) objectTextsUptoCard
end Rows
end Go.Proofs.YtbjaopoipkphnaaGreatDoor
