/-
  NARROWER THAN 'FOR EVERY INPUT', by the rows' own cells (each row's printed sentence says how): ObjectMays: laid · ObjectRefs: laid · ObjectOrders: laid · ObjectLess: laid · ObjectKnown: laid · ObjectNear: laid · ObjectTexts: laid.
  DERIVED. THE GIVEN ROWS OF THIS SEAT. 7 by the template 'for every input the law returns true; each argument reads behind the call as it read before'; 0 by the template 'total and deterministic' (their statements: YtbjaopoipkphnaaGreatDoorTotals.lean).
  GIVEN WITH THE SEED: the statements are not yours to turn. If you find one false, say at which input.
  Laid BY PROGRAM, IN A SANDBOX (cutbox-rows.mjs): the forced cells as the released guide's own fill.sh prints them over the translation 142cd0e8221db09f… (all of the seat's roots in one cut). By AI agents, Wed Nov 11 2026. No macro, syntax, notation, axiom, sorry.
-/
import Derived.Test.YtbjaopoipkphnaaGreatDoorChecked
import GoSem.PinnedTables
import GoSem.Claim
import GoSem.ClaimJoined
import GoSem.ClaimMapViews
import Derived.JoinedTies
import Derived.KernelRfl
namespace Go.Proofs.YtbjaopoipkphnaaGreatDoor
/- THE CELL 'sum', in the pinned program and in every row, IS THE sha256 OF THE DUMP (.gsa) THAT YtbjaopoipkphnaaGreatDoorProg.lean LOADS. Nothing in Lean hashes anything: it is a label: what it is worth is what the hold of that sum in a sandbox is worth. -/
noncomputable def Tryz.pinned : Pinned := { name := "ytbjaopoipkphnaagreatdoor", sum := "142cd0e8221db09f330b563a2ccfba5d93e3f3b9a9f3be85852638c4b12dd779", checked := Tryz.checked }
namespace Rows
def none {H : Type} : Left H := { results := [], args := [] }

/- WHAT THE LISTED PACKAGE-LEVEL VARIABLES READ AS WHEN THE CALL BEGINS. Each datum BY PROGRAM (the guide's laid-datum.mjs) off the statement by which the dump's own 'gosem.cut.vars' lays the variable. In a bare row this is a premise. The card (YtbjaopoipkphnaaGreatDoorCards.lean) ties it to the program's text. -/
def laid_unicode_utf8_acceptRanges {H : Type} : DataW H := .agg [.agg [.lit (.int .u8 128), .lit (.int .u8 191)], .agg [.lit (.int .u8 160), .lit (.int .u8 191)], .agg [.lit (.int .u8 128), .lit (.int .u8 159)], .agg [.lit (.int .u8 144), .lit (.int .u8 191)], .agg [.lit (.int .u8 128), .lit (.int .u8 143)], .agg [.lit (.int .u8 0), .lit (.int .u8 0)], .agg [.lit (.int .u8 0), .lit (.int .u8 0)], .agg [.lit (.int .u8 0), .lit (.int .u8 0)], .agg [.lit (.int .u8 0), .lit (.int .u8 0)], .agg [.lit (.int .u8 0), .lit (.int .u8 0)], .agg [.lit (.int .u8 0), .lit (.int .u8 0)], .agg [.lit (.int .u8 0), .lit (.int .u8 0)], .agg [.lit (.int .u8 0), .lit (.int .u8 0)], .agg [.lit (.int .u8 0), .lit (.int .u8 0)], .agg [.lit (.int .u8 0), .lit (.int .u8 0)], .agg [.lit (.int .u8 0), .lit (.int .u8 0)]]
/-- One of Go's own tables, pinned by name: the form's constant. -/
def laid_unicode_utf8_first : DataW Unit := Go.Pinned.utf8First

/-- 'tolllaw09.ObjectMays': WHATEVER THE INPUT: true; the input reads as it did. -/
def objectMaysSpec : ChangeSpec := { name := "objectMays", fn := fun _ => fun
  | [d1, d2] => { results := [.lit (.bool true)], args := [d1, d2] }
  | _ => none }
def objectMaysRow : OpenClaim := { program := "ytbjaopoipkphnaagreatdoor", sum := "142cd0e8221db09f330b563a2ccfba5d93e3f3b9a9f3be85852638c4b12dd779", func := "toll/tolllaw09.ObjectMays", spec := "objectMays", inPlace := ["internal/bytealg.IndexByteString", "internal/bytealg.IndexString"], unfollowed := true, recurses := true, named := ["unicode/utf8.first", "unicode/utf8.acceptRanges", "internal/bytealg.MaxLen"], plainKeys := false, apart := false, laid := [("unicode/utf8.acceptRanges", laid_unicode_utf8_acceptRanges), ("unicode/utf8.first", laid_unicode_utf8_first)] }
def ObjectMaysSaid : Prop := objectMaysRow.holds Tryz.pinned (OpenSpec.ofChange objectMaysSpec)

/-- ITS FALSE NEIGHBOUR: 'it returns false'. Refute it at one input. -/
def objectMaysWrong : ChangeSpec := { name := "objectMays", fn := fun _ => fun
  | [d1, d2] => { results := [.lit (.bool false)], args := [d1, d2] }
  | _ => none }
def ObjectMaysWrongFalsely : Prop := objectMaysRow.holds Tryz.pinned (OpenSpec.ofChange objectMaysWrong)

/-- 'tolllaw09.ObjectRefs': WHATEVER THE INPUT: true; the input reads as it did. -/
def objectRefsSpec : ChangeSpec := { name := "objectRefs", fn := fun _ => fun
  | [d] => { results := [.lit (.bool true)], args := [d] }
  | _ => none }
def objectRefsRow : OpenClaim := { program := "ytbjaopoipkphnaagreatdoor", sum := "142cd0e8221db09f330b563a2ccfba5d93e3f3b9a9f3be85852638c4b12dd779", func := "toll/tolllaw09.ObjectRefs", spec := "objectRefs", inPlace := ["internal/bytealg.IndexByteString", "internal/bytealg.IndexString"], unfollowed := true, recurses := true, named := ["unicode/utf8.first", "unicode/utf8.acceptRanges", "internal/bytealg.MaxLen"], plainKeys := false, apart := false, laid := [("unicode/utf8.acceptRanges", laid_unicode_utf8_acceptRanges), ("unicode/utf8.first", laid_unicode_utf8_first)] }
def ObjectRefsSaid : Prop := objectRefsRow.holds Tryz.pinned (OpenSpec.ofChange objectRefsSpec)

/-- ITS FALSE NEIGHBOUR: 'it returns false'. Refute it at one input. -/
def objectRefsWrong : ChangeSpec := { name := "objectRefs", fn := fun _ => fun
  | [d] => { results := [.lit (.bool false)], args := [d] }
  | _ => none }
def ObjectRefsWrongFalsely : Prop := objectRefsRow.holds Tryz.pinned (OpenSpec.ofChange objectRefsWrong)

/-- 'tolllaw09.ObjectOrders': WHATEVER THE INPUT: true; the input reads as it did. -/
def objectOrdersSpec : ChangeSpec := { name := "objectOrders", fn := fun _ => fun
  | [d] => { results := [.lit (.bool true)], args := [d] }
  | _ => none }
def objectOrdersRow : OpenClaim := { program := "ytbjaopoipkphnaagreatdoor", sum := "142cd0e8221db09f330b563a2ccfba5d93e3f3b9a9f3be85852638c4b12dd779", func := "toll/tolllaw09.ObjectOrders", spec := "objectOrders", inPlace := ["internal/bytealg.IndexByteString", "internal/bytealg.IndexString"], unfollowed := true, recurses := true, named := ["unicode/utf8.first", "unicode/utf8.acceptRanges", "internal/bytealg.MaxLen"], plainKeys := false, apart := false, laid := [("unicode/utf8.acceptRanges", laid_unicode_utf8_acceptRanges), ("unicode/utf8.first", laid_unicode_utf8_first)] }
def ObjectOrdersSaid : Prop := objectOrdersRow.holds Tryz.pinned (OpenSpec.ofChange objectOrdersSpec)

/-- ITS FALSE NEIGHBOUR: 'it returns false'. Refute it at one input. -/
def objectOrdersWrong : ChangeSpec := { name := "objectOrders", fn := fun _ => fun
  | [d] => { results := [.lit (.bool false)], args := [d] }
  | _ => none }
def ObjectOrdersWrongFalsely : Prop := objectOrdersRow.holds Tryz.pinned (OpenSpec.ofChange objectOrdersWrong)

/-- 'tolllaw09.ObjectLess': WHATEVER THE INPUT: true; the input reads as it did. -/
def objectLessSpec : ChangeSpec := { name := "objectLess", fn := fun _ => fun
  | [d1, d2] => { results := [.lit (.bool true)], args := [d1, d2] }
  | _ => none }
def objectLessRow : OpenClaim := { program := "ytbjaopoipkphnaagreatdoor", sum := "142cd0e8221db09f330b563a2ccfba5d93e3f3b9a9f3be85852638c4b12dd779", func := "toll/tolllaw09.ObjectLess", spec := "objectLess", inPlace := ["internal/bytealg.IndexByteString", "internal/bytealg.IndexString"], unfollowed := true, recurses := true, named := ["unicode/utf8.first", "unicode/utf8.acceptRanges", "internal/bytealg.MaxLen"], plainKeys := false, apart := false, laid := [("unicode/utf8.acceptRanges", laid_unicode_utf8_acceptRanges), ("unicode/utf8.first", laid_unicode_utf8_first)] }
def ObjectLessSaid : Prop := objectLessRow.holds Tryz.pinned (OpenSpec.ofChange objectLessSpec)

/-- ITS FALSE NEIGHBOUR: 'it returns false'. Refute it at one input. -/
def objectLessWrong : ChangeSpec := { name := "objectLess", fn := fun _ => fun
  | [d1, d2] => { results := [.lit (.bool false)], args := [d1, d2] }
  | _ => none }
def ObjectLessWrongFalsely : Prop := objectLessRow.holds Tryz.pinned (OpenSpec.ofChange objectLessWrong)

/-- 'tolllaw09.ObjectKnown': WHATEVER THE INPUT: true; the input reads as it did. -/
def objectKnownSpec : ChangeSpec := { name := "objectKnown", fn := fun _ => fun
  | [d] => { results := [.lit (.bool true)], args := [d] }
  | _ => none }
def objectKnownRow : OpenClaim := { program := "ytbjaopoipkphnaagreatdoor", sum := "142cd0e8221db09f330b563a2ccfba5d93e3f3b9a9f3be85852638c4b12dd779", func := "toll/tolllaw09.ObjectKnown", spec := "objectKnown", inPlace := ["internal/bytealg.IndexByteString", "internal/bytealg.IndexString"], unfollowed := true, recurses := true, named := ["unicode/utf8.first", "unicode/utf8.acceptRanges", "internal/bytealg.MaxLen"], plainKeys := false, apart := false, laid := [("unicode/utf8.acceptRanges", laid_unicode_utf8_acceptRanges), ("unicode/utf8.first", laid_unicode_utf8_first)] }
def ObjectKnownSaid : Prop := objectKnownRow.holds Tryz.pinned (OpenSpec.ofChange objectKnownSpec)

/-- ITS FALSE NEIGHBOUR: 'it returns false'. Refute it at one input. -/
def objectKnownWrong : ChangeSpec := { name := "objectKnown", fn := fun _ => fun
  | [d] => { results := [.lit (.bool false)], args := [d] }
  | _ => none }
def ObjectKnownWrongFalsely : Prop := objectKnownRow.holds Tryz.pinned (OpenSpec.ofChange objectKnownWrong)

/-- 'tolllaw09.ObjectNear': WHATEVER THE INPUT: true; the input reads as it did. -/
def objectNearSpec : ChangeSpec := { name := "objectNear", fn := fun _ => fun
  | [d] => { results := [.lit (.bool true)], args := [d] }
  | _ => none }
def objectNearRow : OpenClaim := { program := "ytbjaopoipkphnaagreatdoor", sum := "142cd0e8221db09f330b563a2ccfba5d93e3f3b9a9f3be85852638c4b12dd779", func := "toll/tolllaw09.ObjectNear", spec := "objectNear", inPlace := ["internal/bytealg.IndexByteString", "internal/bytealg.IndexString"], unfollowed := true, recurses := true, named := ["unicode/utf8.first", "unicode/utf8.acceptRanges", "internal/bytealg.MaxLen"], plainKeys := false, apart := false, laid := [("unicode/utf8.acceptRanges", laid_unicode_utf8_acceptRanges), ("unicode/utf8.first", laid_unicode_utf8_first)] }
def ObjectNearSaid : Prop := objectNearRow.holds Tryz.pinned (OpenSpec.ofChange objectNearSpec)

/-- ITS FALSE NEIGHBOUR: 'it returns false'. Refute it at one input. -/
def objectNearWrong : ChangeSpec := { name := "objectNear", fn := fun _ => fun
  | [d] => { results := [.lit (.bool false)], args := [d] }
  | _ => none }
def ObjectNearWrongFalsely : Prop := objectNearRow.holds Tryz.pinned (OpenSpec.ofChange objectNearWrong)

/-- 'tolllaw09.ObjectTexts': WHATEVER THE INPUT: true; the input reads as it did. -/
def objectTextsSpec : ChangeSpec := { name := "objectTexts", fn := fun _ => fun
  | [d1, d2, d3] => { results := [.lit (.bool true)], args := [d1, d2, d3] }
  | _ => none }
def objectTextsRow : OpenClaim := { program := "ytbjaopoipkphnaagreatdoor", sum := "142cd0e8221db09f330b563a2ccfba5d93e3f3b9a9f3be85852638c4b12dd779", func := "toll/tolllaw09.ObjectTexts", spec := "objectTexts", inPlace := ["internal/bytealg.IndexByteString", "internal/bytealg.IndexString"], unfollowed := true, recurses := true, named := ["unicode/utf8.first", "unicode/utf8.acceptRanges", "internal/bytealg.MaxLen"], plainKeys := false, apart := false, laid := [("unicode/utf8.acceptRanges", laid_unicode_utf8_acceptRanges), ("unicode/utf8.first", laid_unicode_utf8_first)] }
def ObjectTextsSaid : Prop := objectTextsRow.holds Tryz.pinned (OpenSpec.ofChange objectTextsSpec)

/-- ITS FALSE NEIGHBOUR: 'it returns false'. Refute it at one input. -/
def objectTextsWrong : ChangeSpec := { name := "objectTexts", fn := fun _ => fun
  | [d1, d2, d3] => { results := [.lit (.bool false)], args := [d1, d2, d3] }
  | _ => none }
def ObjectTextsWrongFalsely : Prop := objectTextsRow.holds Tryz.pinned (OpenSpec.ofChange objectTextsWrong)

/- THE SECOND FORM. 'bulk': how many values and letters a reading holds, each counted each time it is reached (what is shared counts as often as it is met; a slice's spare places count too). A statement '..UptoSaid' is the law's where the arguments, and the package variables that the reading takes, are together of bulk at most 1048576: NARROWER than '..Said'. Prove '..Said' where nothing that the law and all that it calls make is longer than what came in: it says more and counts as full. Else prove '..UptoSaid'. A law counts once. -/
mutual
def uptoBulk {H : Type} : DataW H → Nat
  | .lit (.string bytes) => bytes.length + 1
  | .lit _ => 1
  | .nil => 1
  | .ptr d => uptoBulk d + 1
  | .slice elems spare => uptoBulkAll elems + uptoBulkAll spare + 1
  | .agg parts => uptoBulkAll parts + 1
  | .iface _ d => uptoBulk d + 1
  | .map entries => uptoBulkEntries entries + 1
  | .held _ => 1
def uptoBulkAll {H : Type} : List (DataW H) → Nat
  | [] => 0
  | d :: r => uptoBulk d + uptoBulkAll r
def uptoBulkEntries {H : Type} : List (Lit × DataW H) → Nat
  | [] => 0
  | x :: r => uptoBulkEntry x + uptoBulkEntries r
def uptoBulkEntry {H : Type} : Lit × DataW H → Nat
  | (.string bytes, d) => bytes.length + uptoBulk d + 1
  | (_, d) => uptoBulk d + 1
 end
def uptoSmall : (H : Type) → List (DataW H) → Bool := fun _ ds => decide (uptoBulkAll ds ≤ 1048576)
def OpenSpec.upto (s : _root_.Go.ChangeSpec) : _root_.Go.OpenSpec := { _root_.Go.OpenSpec.ofChange s with cond := some uptoSmall }

/-- 'tolllaw09.ObjectMays', WHERE WHAT IT READS IS OF BULK AT MOST 1048576: true; the input reads as it did. -/
def objectMaysUptoRow : OpenClaim := { program := "ytbjaopoipkphnaagreatdoor", sum := "142cd0e8221db09f330b563a2ccfba5d93e3f3b9a9f3be85852638c4b12dd779", func := "toll/tolllaw09.ObjectMays", spec := "objectMays", inPlace := ["internal/bytealg.IndexByteString", "internal/bytealg.IndexString"], unfollowed := true, recurses := true, named := ["unicode/utf8.first", "unicode/utf8.acceptRanges", "internal/bytealg.MaxLen"], plainKeys := false, apart := false, laid := [("unicode/utf8.acceptRanges", laid_unicode_utf8_acceptRanges), ("unicode/utf8.first", laid_unicode_utf8_first)], narrowed := true }
def ObjectMaysUptoSaid : Prop := objectMaysUptoRow.holds Tryz.pinned (OpenSpec.upto objectMaysSpec)

/-- 'tolllaw09.ObjectRefs', WHERE WHAT IT READS IS OF BULK AT MOST 1048576: true; the input reads as it did. -/
def objectRefsUptoRow : OpenClaim := { program := "ytbjaopoipkphnaagreatdoor", sum := "142cd0e8221db09f330b563a2ccfba5d93e3f3b9a9f3be85852638c4b12dd779", func := "toll/tolllaw09.ObjectRefs", spec := "objectRefs", inPlace := ["internal/bytealg.IndexByteString", "internal/bytealg.IndexString"], unfollowed := true, recurses := true, named := ["unicode/utf8.first", "unicode/utf8.acceptRanges", "internal/bytealg.MaxLen"], plainKeys := false, apart := false, laid := [("unicode/utf8.acceptRanges", laid_unicode_utf8_acceptRanges), ("unicode/utf8.first", laid_unicode_utf8_first)], narrowed := true }
def ObjectRefsUptoSaid : Prop := objectRefsUptoRow.holds Tryz.pinned (OpenSpec.upto objectRefsSpec)

/-- 'tolllaw09.ObjectOrders', WHERE WHAT IT READS IS OF BULK AT MOST 1048576: true; the input reads as it did. -/
def objectOrdersUptoRow : OpenClaim := { program := "ytbjaopoipkphnaagreatdoor", sum := "142cd0e8221db09f330b563a2ccfba5d93e3f3b9a9f3be85852638c4b12dd779", func := "toll/tolllaw09.ObjectOrders", spec := "objectOrders", inPlace := ["internal/bytealg.IndexByteString", "internal/bytealg.IndexString"], unfollowed := true, recurses := true, named := ["unicode/utf8.first", "unicode/utf8.acceptRanges", "internal/bytealg.MaxLen"], plainKeys := false, apart := false, laid := [("unicode/utf8.acceptRanges", laid_unicode_utf8_acceptRanges), ("unicode/utf8.first", laid_unicode_utf8_first)], narrowed := true }
def ObjectOrdersUptoSaid : Prop := objectOrdersUptoRow.holds Tryz.pinned (OpenSpec.upto objectOrdersSpec)

/-- 'tolllaw09.ObjectLess', WHERE WHAT IT READS IS OF BULK AT MOST 1048576: true; the input reads as it did. -/
def objectLessUptoRow : OpenClaim := { program := "ytbjaopoipkphnaagreatdoor", sum := "142cd0e8221db09f330b563a2ccfba5d93e3f3b9a9f3be85852638c4b12dd779", func := "toll/tolllaw09.ObjectLess", spec := "objectLess", inPlace := ["internal/bytealg.IndexByteString", "internal/bytealg.IndexString"], unfollowed := true, recurses := true, named := ["unicode/utf8.first", "unicode/utf8.acceptRanges", "internal/bytealg.MaxLen"], plainKeys := false, apart := false, laid := [("unicode/utf8.acceptRanges", laid_unicode_utf8_acceptRanges), ("unicode/utf8.first", laid_unicode_utf8_first)], narrowed := true }
def ObjectLessUptoSaid : Prop := objectLessUptoRow.holds Tryz.pinned (OpenSpec.upto objectLessSpec)

/-- 'tolllaw09.ObjectKnown', WHERE WHAT IT READS IS OF BULK AT MOST 1048576: true; the input reads as it did. -/
def objectKnownUptoRow : OpenClaim := { program := "ytbjaopoipkphnaagreatdoor", sum := "142cd0e8221db09f330b563a2ccfba5d93e3f3b9a9f3be85852638c4b12dd779", func := "toll/tolllaw09.ObjectKnown", spec := "objectKnown", inPlace := ["internal/bytealg.IndexByteString", "internal/bytealg.IndexString"], unfollowed := true, recurses := true, named := ["unicode/utf8.first", "unicode/utf8.acceptRanges", "internal/bytealg.MaxLen"], plainKeys := false, apart := false, laid := [("unicode/utf8.acceptRanges", laid_unicode_utf8_acceptRanges), ("unicode/utf8.first", laid_unicode_utf8_first)], narrowed := true }
def ObjectKnownUptoSaid : Prop := objectKnownUptoRow.holds Tryz.pinned (OpenSpec.upto objectKnownSpec)

/-- 'tolllaw09.ObjectNear', WHERE WHAT IT READS IS OF BULK AT MOST 1048576: true; the input reads as it did. -/
def objectNearUptoRow : OpenClaim := { program := "ytbjaopoipkphnaagreatdoor", sum := "142cd0e8221db09f330b563a2ccfba5d93e3f3b9a9f3be85852638c4b12dd779", func := "toll/tolllaw09.ObjectNear", spec := "objectNear", inPlace := ["internal/bytealg.IndexByteString", "internal/bytealg.IndexString"], unfollowed := true, recurses := true, named := ["unicode/utf8.first", "unicode/utf8.acceptRanges", "internal/bytealg.MaxLen"], plainKeys := false, apart := false, laid := [("unicode/utf8.acceptRanges", laid_unicode_utf8_acceptRanges), ("unicode/utf8.first", laid_unicode_utf8_first)], narrowed := true }
def ObjectNearUptoSaid : Prop := objectNearUptoRow.holds Tryz.pinned (OpenSpec.upto objectNearSpec)

/-- 'tolllaw09.ObjectTexts', WHERE WHAT IT READS IS OF BULK AT MOST 1048576: true; the input reads as it did. -/
def objectTextsUptoRow : OpenClaim := { program := "ytbjaopoipkphnaagreatdoor", sum := "142cd0e8221db09f330b563a2ccfba5d93e3f3b9a9f3be85852638c4b12dd779", func := "toll/tolllaw09.ObjectTexts", spec := "objectTexts", inPlace := ["internal/bytealg.IndexByteString", "internal/bytealg.IndexString"], unfollowed := true, recurses := true, named := ["unicode/utf8.first", "unicode/utf8.acceptRanges", "internal/bytealg.MaxLen"], plainKeys := false, apart := false, laid := [("unicode/utf8.acceptRanges", laid_unicode_utf8_acceptRanges), ("unicode/utf8.first", laid_unicode_utf8_first)], narrowed := true }
def ObjectTextsUptoSaid : Prop := objectTextsUptoRow.holds Tryz.pinned (OpenSpec.upto objectTextsSpec)

end Rows
end Go.Proofs.YtbjaopoipkphnaaGreatDoor
