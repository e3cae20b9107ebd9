/-
  NARROWER THAN 'FOR EVERY INPUT', by the rows' own cells (each row's printed sentence says how): GrantSides: laid · GrantBys: laid · GrantPermits: laid · ListenTells: laid · BackTells: laid.
  DERIVED. THE GIVEN ROWS OF THIS SEAT. 5 by the template 'for every input the law returns true; each argument reads behind the call as it read before'; 0 by the template 'total and deterministic' (their statements: YtklolokoaooppaaGreatDoorTotals.lean).
  GIVEN WITH THE SEED: the statements are not yours to turn. If you find one false, say at which input.
  Laid BY PROGRAM, IN A SANDBOX (cutbox-rows.mjs): the forced cells as the released guide's own fill.sh prints them over the translation 35682f49c5619828… (all of the seat's roots in one cut). By AI agents, Wed Nov 11 2026. No macro, syntax, notation, axiom, sorry.
-/
import Derived.Test.YtklolokoaooppaaGreatDoorChecked
import GoSem.PinnedTables
import GoSem.Claim
import GoSem.ClaimJoined
import GoSem.ClaimMapViews
import Derived.JoinedTies
import Derived.KernelRfl
namespace Go.Proofs.YtklolokoaooppaaGreatDoor
/- THE CELL 'sum', in the pinned program and in every row, IS THE sha256 OF THE DUMP (.gsa) THAT YtklolokoaooppaaGreatDoorProg.lean LOADS. Nothing in Lean hashes anything: it is a label: what it is worth is what the hold of that sum in a sandbox is worth. -/
noncomputable def Tryz.pinned : Pinned := { name := "ytklolokoaooppaagreatdoor", sum := "35682f49c5619828968adfb9d7b825fea566b204cfd9c0b90c4166988ee13266", checked := Tryz.checked }
namespace Rows
def none {H : Type} : Left H := { results := [], args := [] }

/- WHAT THE LISTED PACKAGE-LEVEL VARIABLES READ AS WHEN THE CALL BEGINS. Each datum BY PROGRAM (the guide's laid-datum.mjs) off the statement by which the dump's own 'gosem.cut.vars' lays the variable. In a bare row this is a premise. The card (YtklolokoaooppaaGreatDoorCards.lean) ties it to the program's text. -/
def laid_unicode_utf8_acceptRanges {H : Type} : DataW H := .agg [.agg [.lit (.int .u8 128), .lit (.int .u8 191)], .agg [.lit (.int .u8 160), .lit (.int .u8 191)], .agg [.lit (.int .u8 128), .lit (.int .u8 159)], .agg [.lit (.int .u8 144), .lit (.int .u8 191)], .agg [.lit (.int .u8 128), .lit (.int .u8 143)], .agg [.lit (.int .u8 0), .lit (.int .u8 0)], .agg [.lit (.int .u8 0), .lit (.int .u8 0)], .agg [.lit (.int .u8 0), .lit (.int .u8 0)], .agg [.lit (.int .u8 0), .lit (.int .u8 0)], .agg [.lit (.int .u8 0), .lit (.int .u8 0)], .agg [.lit (.int .u8 0), .lit (.int .u8 0)], .agg [.lit (.int .u8 0), .lit (.int .u8 0)], .agg [.lit (.int .u8 0), .lit (.int .u8 0)], .agg [.lit (.int .u8 0), .lit (.int .u8 0)], .agg [.lit (.int .u8 0), .lit (.int .u8 0)], .agg [.lit (.int .u8 0), .lit (.int .u8 0)]]
/-- One of Go's own tables, pinned by name: the form's constant. -/
def laid_unicode_utf8_first : DataW Unit := Go.Pinned.utf8First

/-- 'tolllaw11.GrantSides': WHATEVER THE INPUT: true; the input reads as it did. -/
def grantSidesSpec : ChangeSpec := { name := "grantSides", fn := fun _ => fun
  | [d] => { results := [.lit (.bool true)], args := [d] }
  | _ => none }
def grantSidesRow : OpenClaim := { program := "ytklolokoaooppaagreatdoor", sum := "35682f49c5619828968adfb9d7b825fea566b204cfd9c0b90c4166988ee13266", func := "toll/tolllaw11.GrantSides", spec := "grantSides", inPlace := ["internal/bytealg.IndexByteString", "internal/bytealg.IndexString"], unfollowed := true, recurses := true, named := ["unicode/utf8.first", "unicode/utf8.acceptRanges", "internal/bytealg.MaxLen"], plainKeys := false, apart := false, laid := [("unicode/utf8.acceptRanges", laid_unicode_utf8_acceptRanges), ("unicode/utf8.first", laid_unicode_utf8_first)] }
def GrantSidesSaid : Prop := grantSidesRow.holds Tryz.pinned (OpenSpec.ofChange grantSidesSpec)

/-- ITS FALSE NEIGHBOUR: 'it returns false'. Refute it at one input. -/
def grantSidesWrong : ChangeSpec := { name := "grantSides", fn := fun _ => fun
  | [d] => { results := [.lit (.bool false)], args := [d] }
  | _ => none }
def GrantSidesWrongFalsely : Prop := grantSidesRow.holds Tryz.pinned (OpenSpec.ofChange grantSidesWrong)

/-- 'tolllaw11.GrantBys': WHATEVER THE INPUT: true; the input reads as it did. -/
def grantBysSpec : ChangeSpec := { name := "grantBys", fn := fun _ => fun
  | [d] => { results := [.lit (.bool true)], args := [d] }
  | _ => none }
def grantBysRow : OpenClaim := { program := "ytklolokoaooppaagreatdoor", sum := "35682f49c5619828968adfb9d7b825fea566b204cfd9c0b90c4166988ee13266", func := "toll/tolllaw11.GrantBys", spec := "grantBys", inPlace := ["internal/bytealg.IndexByteString", "internal/bytealg.IndexString"], unfollowed := true, recurses := true, named := ["unicode/utf8.first", "unicode/utf8.acceptRanges", "internal/bytealg.MaxLen"], plainKeys := false, apart := false, laid := [("unicode/utf8.acceptRanges", laid_unicode_utf8_acceptRanges), ("unicode/utf8.first", laid_unicode_utf8_first)] }
def GrantBysSaid : Prop := grantBysRow.holds Tryz.pinned (OpenSpec.ofChange grantBysSpec)

/-- ITS FALSE NEIGHBOUR: 'it returns false'. Refute it at one input. -/
def grantBysWrong : ChangeSpec := { name := "grantBys", fn := fun _ => fun
  | [d] => { results := [.lit (.bool false)], args := [d] }
  | _ => none }
def GrantBysWrongFalsely : Prop := grantBysRow.holds Tryz.pinned (OpenSpec.ofChange grantBysWrong)

/-- 'tolllaw11.GrantPermits': WHATEVER THE INPUT: true; the input reads as it did. -/
def grantPermitsSpec : ChangeSpec := { name := "grantPermits", fn := fun _ => fun
  | [d] => { results := [.lit (.bool true)], args := [d] }
  | _ => none }
def grantPermitsRow : OpenClaim := { program := "ytklolokoaooppaagreatdoor", sum := "35682f49c5619828968adfb9d7b825fea566b204cfd9c0b90c4166988ee13266", func := "toll/tolllaw11.GrantPermits", spec := "grantPermits", inPlace := ["internal/bytealg.IndexByteString", "internal/bytealg.IndexString"], unfollowed := true, recurses := true, named := ["unicode/utf8.first", "unicode/utf8.acceptRanges", "internal/bytealg.MaxLen"], plainKeys := false, apart := false, laid := [("unicode/utf8.acceptRanges", laid_unicode_utf8_acceptRanges), ("unicode/utf8.first", laid_unicode_utf8_first)] }
def GrantPermitsSaid : Prop := grantPermitsRow.holds Tryz.pinned (OpenSpec.ofChange grantPermitsSpec)

/-- ITS FALSE NEIGHBOUR: 'it returns false'. Refute it at one input. -/
def grantPermitsWrong : ChangeSpec := { name := "grantPermits", fn := fun _ => fun
  | [d] => { results := [.lit (.bool false)], args := [d] }
  | _ => none }
def GrantPermitsWrongFalsely : Prop := grantPermitsRow.holds Tryz.pinned (OpenSpec.ofChange grantPermitsWrong)

/-- 'tolllaw12.ListenTells': WHATEVER THE INPUT: true; the input reads as it did. -/
def listenTellsSpec : ChangeSpec := { name := "listenTells", fn := fun _ => fun
  | [d1, d2, d3] => { results := [.lit (.bool true)], args := [d1, d2, d3] }
  | _ => none }
def listenTellsRow : OpenClaim := { program := "ytklolokoaooppaagreatdoor", sum := "35682f49c5619828968adfb9d7b825fea566b204cfd9c0b90c4166988ee13266", func := "toll/tolllaw12.ListenTells", spec := "listenTells", inPlace := ["internal/bytealg.IndexByteString", "internal/bytealg.IndexString"], unfollowed := true, recurses := true, named := ["unicode/utf8.first", "unicode/utf8.acceptRanges", "internal/bytealg.MaxLen"], plainKeys := false, apart := false, laid := [("unicode/utf8.acceptRanges", laid_unicode_utf8_acceptRanges), ("unicode/utf8.first", laid_unicode_utf8_first)] }
def ListenTellsSaid : Prop := listenTellsRow.holds Tryz.pinned (OpenSpec.ofChange listenTellsSpec)

/-- ITS FALSE NEIGHBOUR: 'it returns false'. Refute it at one input. -/
def listenTellsWrong : ChangeSpec := { name := "listenTells", fn := fun _ => fun
  | [d1, d2, d3] => { results := [.lit (.bool false)], args := [d1, d2, d3] }
  | _ => none }
def ListenTellsWrongFalsely : Prop := listenTellsRow.holds Tryz.pinned (OpenSpec.ofChange listenTellsWrong)

/-- 'tolllaw14.BackTells': WHATEVER THE INPUT: true; the input reads as it did. -/
def backTellsSpec : ChangeSpec := { name := "backTells", fn := fun _ => fun
  | [d1, d2, d3] => { results := [.lit (.bool true)], args := [d1, d2, d3] }
  | _ => none }
def backTellsRow : OpenClaim := { program := "ytklolokoaooppaagreatdoor", sum := "35682f49c5619828968adfb9d7b825fea566b204cfd9c0b90c4166988ee13266", func := "toll/tolllaw14.BackTells", spec := "backTells", inPlace := ["internal/bytealg.IndexByteString", "internal/bytealg.IndexString"], unfollowed := true, recurses := true, named := ["unicode/utf8.first", "unicode/utf8.acceptRanges", "internal/bytealg.MaxLen"], plainKeys := false, apart := false, laid := [("unicode/utf8.acceptRanges", laid_unicode_utf8_acceptRanges), ("unicode/utf8.first", laid_unicode_utf8_first)] }
def BackTellsSaid : Prop := backTellsRow.holds Tryz.pinned (OpenSpec.ofChange backTellsSpec)

/-- ITS FALSE NEIGHBOUR: 'it returns false'. Refute it at one input. -/
def backTellsWrong : ChangeSpec := { name := "backTells", fn := fun _ => fun
  | [d1, d2, d3] => { results := [.lit (.bool false)], args := [d1, d2, d3] }
  | _ => none }
def BackTellsWrongFalsely : Prop := backTellsRow.holds Tryz.pinned (OpenSpec.ofChange backTellsWrong)

/- THE SECOND FORM. 'bulk': how many values and letters a reading holds, each counted each time it is reached (what is shared counts as often as it is met; a slice's spare places count too). A statement '..UptoSaid' is the law's where the arguments, and the package variables that the reading takes, are together of bulk at most 1048576: NARROWER than '..Said'. Prove '..Said' where nothing that the law and all that it calls make is longer than what came in: it says more and counts as full. Else prove '..UptoSaid'. A law counts once. -/
mutual
def uptoBulk {H : Type} : DataW H → Nat
  | .lit (.string bytes) => bytes.length + 1
  | .lit _ => 1
  | .nil => 1
  | .ptr d => uptoBulk d + 1
  | .slice elems spare => uptoBulkAll elems + uptoBulkAll spare + 1
  | .agg parts => uptoBulkAll parts + 1
  | .iface _ d => uptoBulk d + 1
  | .map entries => uptoBulkEntries entries + 1
  | .held _ => 1
def uptoBulkAll {H : Type} : List (DataW H) → Nat
  | [] => 0
  | d :: r => uptoBulk d + uptoBulkAll r
def uptoBulkEntries {H : Type} : List (Lit × DataW H) → Nat
  | [] => 0
  | x :: r => uptoBulkEntry x + uptoBulkEntries r
def uptoBulkEntry {H : Type} : Lit × DataW H → Nat
  | (.string bytes, d) => bytes.length + uptoBulk d + 1
  | (_, d) => uptoBulk d + 1
 end
def uptoSmall : (H : Type) → List (DataW H) → Bool := fun _ ds => decide (uptoBulkAll ds ≤ 1048576)
def OpenSpec.upto (s : _root_.Go.ChangeSpec) : _root_.Go.OpenSpec := { _root_.Go.OpenSpec.ofChange s with cond := some uptoSmall }

/-- 'tolllaw11.GrantSides', WHERE WHAT IT READS IS OF BULK AT MOST 1048576: true; the input reads as it did. -/
def grantSidesUptoRow : OpenClaim := { program := "ytklolokoaooppaagreatdoor", sum := "35682f49c5619828968adfb9d7b825fea566b204cfd9c0b90c4166988ee13266", func := "toll/tolllaw11.GrantSides", spec := "grantSides", inPlace := ["internal/bytealg.IndexByteString", "internal/bytealg.IndexString"], unfollowed := true, recurses := true, named := ["unicode/utf8.first", "unicode/utf8.acceptRanges", "internal/bytealg.MaxLen"], plainKeys := false, apart := false, laid := [("unicode/utf8.acceptRanges", laid_unicode_utf8_acceptRanges), ("unicode/utf8.first", laid_unicode_utf8_first)], narrowed := true }
def GrantSidesUptoSaid : Prop := grantSidesUptoRow.holds Tryz.pinned (OpenSpec.upto grantSidesSpec)

/-- 'tolllaw11.GrantBys', WHERE WHAT IT READS IS OF BULK AT MOST 1048576: true; the input reads as it did. -/
def grantBysUptoRow : OpenClaim := { program := "ytklolokoaooppaagreatdoor", sum := "35682f49c5619828968adfb9d7b825fea566b204cfd9c0b90c4166988ee13266", func := "toll/tolllaw11.GrantBys", spec := "grantBys", inPlace := ["internal/bytealg.IndexByteString", "internal/bytealg.IndexString"], unfollowed := true, recurses := true, named := ["unicode/utf8.first", "unicode/utf8.acceptRanges", "internal/bytealg.MaxLen"], plainKeys := false, apart := false, laid := [("unicode/utf8.acceptRanges", laid_unicode_utf8_acceptRanges), ("unicode/utf8.first", laid_unicode_utf8_first)], narrowed := true }
def GrantBysUptoSaid : Prop := grantBysUptoRow.holds Tryz.pinned (OpenSpec.upto grantBysSpec)

/-- 'tolllaw11.GrantPermits', WHERE WHAT IT READS IS OF BULK AT MOST 1048576: true; the input reads as it did. -/
def grantPermitsUptoRow : OpenClaim := { program := "ytklolokoaooppaagreatdoor", sum := "35682f49c5619828968adfb9d7b825fea566b204cfd9c0b90c4166988ee13266", func := "toll/tolllaw11.GrantPermits", spec := "grantPermits", inPlace := ["internal/bytealg.IndexByteString", "internal/bytealg.IndexString"], unfollowed := true, recurses := true, named := ["unicode/utf8.first", "unicode/utf8.acceptRanges", "internal/bytealg.MaxLen"], plainKeys := false, apart := false, laid := [("unicode/utf8.acceptRanges", laid_unicode_utf8_acceptRanges), ("unicode/utf8.first", laid_unicode_utf8_first)], narrowed := true }
def GrantPermitsUptoSaid : Prop := grantPermitsUptoRow.holds Tryz.pinned (OpenSpec.upto grantPermitsSpec)

/-- 'tolllaw12.ListenTells', WHERE WHAT IT READS IS OF BULK AT MOST 1048576: true; the input reads as it did. -/
def listenTellsUptoRow : OpenClaim := { program := "ytklolokoaooppaagreatdoor", sum := "35682f49c5619828968adfb9d7b825fea566b204cfd9c0b90c4166988ee13266", func := "toll/tolllaw12.ListenTells", spec := "listenTells", inPlace := ["internal/bytealg.IndexByteString", "internal/bytealg.IndexString"], unfollowed := true, recurses := true, named := ["unicode/utf8.first", "unicode/utf8.acceptRanges", "internal/bytealg.MaxLen"], plainKeys := false, apart := false, laid := [("unicode/utf8.acceptRanges", laid_unicode_utf8_acceptRanges), ("unicode/utf8.first", laid_unicode_utf8_first)], narrowed := true }
def ListenTellsUptoSaid : Prop := listenTellsUptoRow.holds Tryz.pinned (OpenSpec.upto listenTellsSpec)

/-- 'tolllaw14.BackTells', WHERE WHAT IT READS IS OF BULK AT MOST 1048576: true; the input reads as it did. -/
def backTellsUptoRow : OpenClaim := { program := "ytklolokoaooppaagreatdoor", sum := "35682f49c5619828968adfb9d7b825fea566b204cfd9c0b90c4166988ee13266", func := "toll/tolllaw14.BackTells", spec := "backTells", inPlace := ["internal/bytealg.IndexByteString", "internal/bytealg.IndexString"], unfollowed := true, recurses := true, named := ["unicode/utf8.first", "unicode/utf8.acceptRanges", "internal/bytealg.MaxLen"], plainKeys := false, apart := false, laid := [("unicode/utf8.acceptRanges", laid_unicode_utf8_acceptRanges), ("unicode/utf8.first", laid_unicode_utf8_first)], narrowed := true }
def BackTellsUptoSaid : Prop := backTellsUptoRow.holds Tryz.pinned (OpenSpec.upto backTellsSpec)

end Rows
end Go.Proofs.YtklolokoaooppaaGreatDoor
