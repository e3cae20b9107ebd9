/-
  NARROWER THAN 'FOR EVERY INPUT', by the rows' own cells (each row's printed sentence says how): GrantMore: laid · GrantNames: laid · GrantSides: laid · GrantBys: laid · GrantFinds: laid · GrantPermits: laid · BackPicks: laid · BackTells: laid · ListenApart: laid · ListenOthers: laid · ListenCerts: laid · ListenPlain: laid.
  DERIVED. THE GIVEN ROWS OF THIS SEAT. 12 by the template 'for every input the law returns true; each argument reads behind the call as it read before'; 0 by the template 'total and deterministic' (their statements: YtjhomppadppfnaaGreatDoorTotals.lean).
  GIVEN WITH THE SEED: the statements are not yours to turn. If you find one false, say at which input.
  Laid BY PROGRAM, IN A SANDBOX (cutbox-rows.mjs): the forced cells as the released guide's own fill.sh prints them over the translation e187e1778214ebcb… (all of the seat's roots in one cut). By AI agents, Wed Nov 11 2026. No macro, syntax, notation, axiom, sorry.
-/
import Derived.Test.YtjhomppadppfnaaGreatDoorChecked
import GoSem.PinnedTables
import GoSem.Claim
import GoSem.ClaimJoined
import GoSem.ClaimMapViews
import Derived.JoinedTies
import Derived.KernelRfl
namespace Go.Proofs.YtjhomppadppfnaaGreatDoor
/- THE CELL 'sum', in the pinned program and in every row, IS THE sha256 OF THE DUMP (.gsa) THAT YtjhomppadppfnaaGreatDoorProg.lean LOADS. Nothing in Lean hashes anything: it is a label: what it is worth is what the hold of that sum in a sandbox is worth. -/
noncomputable def Tryz.pinned : Pinned := { name := "ytjhomppadppfnaagreatdoor", sum := "e187e1778214ebcb9ad55b226f87f50b91c2c325b9074cf8593a87cb4c83f2ca", checked := Tryz.checked }
namespace Rows
def none {H : Type} : Left H := { results := [], args := [] }

/- WHAT THE LISTED PACKAGE-LEVEL VARIABLES READ AS WHEN THE CALL BEGINS. Each datum BY PROGRAM (the guide's laid-datum.mjs) off the statement by which the dump's own 'gosem.cut.vars' lays the variable. In a bare row this is a premise. The card (YtjhomppadppfnaaGreatDoorCards.lean) ties it to the program's text. -/
def laid_unicode_utf8_acceptRanges {H : Type} : DataW H := .agg [.agg [.lit (.int .u8 128), .lit (.int .u8 191)], .agg [.lit (.int .u8 160), .lit (.int .u8 191)], .agg [.lit (.int .u8 128), .lit (.int .u8 159)], .agg [.lit (.int .u8 144), .lit (.int .u8 191)], .agg [.lit (.int .u8 128), .lit (.int .u8 143)], .agg [.lit (.int .u8 0), .lit (.int .u8 0)], .agg [.lit (.int .u8 0), .lit (.int .u8 0)], .agg [.lit (.int .u8 0), .lit (.int .u8 0)], .agg [.lit (.int .u8 0), .lit (.int .u8 0)], .agg [.lit (.int .u8 0), .lit (.int .u8 0)], .agg [.lit (.int .u8 0), .lit (.int .u8 0)], .agg [.lit (.int .u8 0), .lit (.int .u8 0)], .agg [.lit (.int .u8 0), .lit (.int .u8 0)], .agg [.lit (.int .u8 0), .lit (.int .u8 0)], .agg [.lit (.int .u8 0), .lit (.int .u8 0)], .agg [.lit (.int .u8 0), .lit (.int .u8 0)]]
/-- One of Go's own tables, pinned by name: the form's constant. -/
def laid_unicode_utf8_first : DataW Unit := Go.Pinned.utf8First

/-- 'tolllaw11.GrantMore': WHATEVER THE INPUT: true; the input reads as it did. -/
def grantMoreSpec : ChangeSpec := { name := "grantMore", fn := fun _ => fun
  | [d1, d2] => { results := [.lit (.bool true)], args := [d1, d2] }
  | _ => none }
def grantMoreRow : OpenClaim := { program := "ytjhomppadppfnaagreatdoor", sum := "e187e1778214ebcb9ad55b226f87f50b91c2c325b9074cf8593a87cb4c83f2ca", func := "toll/tolllaw11.GrantMore", spec := "grantMore", inPlace := ["internal/bytealg.IndexByteString", "internal/bytealg.IndexString"], unfollowed := true, recurses := true, named := ["unicode/utf8.first", "unicode/utf8.acceptRanges", "internal/bytealg.MaxLen"], plainKeys := false, apart := false, laid := [("unicode/utf8.acceptRanges", laid_unicode_utf8_acceptRanges), ("unicode/utf8.first", laid_unicode_utf8_first)] }
def GrantMoreSaid : Prop := grantMoreRow.holds Tryz.pinned (OpenSpec.ofChange grantMoreSpec)

/-- ITS FALSE NEIGHBOUR: 'it returns false'. Refute it at one input. -/
def grantMoreWrong : ChangeSpec := { name := "grantMore", fn := fun _ => fun
  | [d1, d2] => { results := [.lit (.bool false)], args := [d1, d2] }
  | _ => none }
def GrantMoreWrongFalsely : Prop := grantMoreRow.holds Tryz.pinned (OpenSpec.ofChange grantMoreWrong)

/-- 'tolllaw11.GrantNames': WHATEVER THE INPUT: true; the input reads as it did. -/
def grantNamesSpec : ChangeSpec := { name := "grantNames", fn := fun _ => fun
  | [d1, d2, d3] => { results := [.lit (.bool true)], args := [d1, d2, d3] }
  | _ => none }
def grantNamesRow : OpenClaim := { program := "ytjhomppadppfnaagreatdoor", sum := "e187e1778214ebcb9ad55b226f87f50b91c2c325b9074cf8593a87cb4c83f2ca", func := "toll/tolllaw11.GrantNames", spec := "grantNames", inPlace := ["internal/bytealg.IndexByteString", "internal/bytealg.IndexString"], unfollowed := true, recurses := true, named := ["unicode/utf8.first", "unicode/utf8.acceptRanges", "internal/bytealg.MaxLen"], plainKeys := false, apart := false, laid := [("unicode/utf8.acceptRanges", laid_unicode_utf8_acceptRanges), ("unicode/utf8.first", laid_unicode_utf8_first)] }
def GrantNamesSaid : Prop := grantNamesRow.holds Tryz.pinned (OpenSpec.ofChange grantNamesSpec)

/-- ITS FALSE NEIGHBOUR: 'it returns false'. Refute it at one input. -/
def grantNamesWrong : ChangeSpec := { name := "grantNames", fn := fun _ => fun
  | [d1, d2, d3] => { results := [.lit (.bool false)], args := [d1, d2, d3] }
  | _ => none }
def GrantNamesWrongFalsely : Prop := grantNamesRow.holds Tryz.pinned (OpenSpec.ofChange grantNamesWrong)

/-- 'tolllaw11.GrantSides': WHATEVER THE INPUT: true; the input reads as it did. -/
def grantSidesSpec : ChangeSpec := { name := "grantSides", fn := fun _ => fun
  | [d] => { results := [.lit (.bool true)], args := [d] }
  | _ => none }
def grantSidesRow : OpenClaim := { program := "ytjhomppadppfnaagreatdoor", sum := "e187e1778214ebcb9ad55b226f87f50b91c2c325b9074cf8593a87cb4c83f2ca", func := "toll/tolllaw11.GrantSides", spec := "grantSides", inPlace := ["internal/bytealg.IndexByteString", "internal/bytealg.IndexString"], unfollowed := true, recurses := true, named := ["unicode/utf8.first", "unicode/utf8.acceptRanges", "internal/bytealg.MaxLen"], plainKeys := false, apart := false, laid := [("unicode/utf8.acceptRanges", laid_unicode_utf8_acceptRanges), ("unicode/utf8.first", laid_unicode_utf8_first)] }
def GrantSidesSaid : Prop := grantSidesRow.holds Tryz.pinned (OpenSpec.ofChange grantSidesSpec)

/-- ITS FALSE NEIGHBOUR: 'it returns false'. Refute it at one input. -/
def grantSidesWrong : ChangeSpec := { name := "grantSides", fn := fun _ => fun
  | [d] => { results := [.lit (.bool false)], args := [d] }
  | _ => none }
def GrantSidesWrongFalsely : Prop := grantSidesRow.holds Tryz.pinned (OpenSpec.ofChange grantSidesWrong)

/-- 'tolllaw11.GrantBys': WHATEVER THE INPUT: true; the input reads as it did. -/
def grantBysSpec : ChangeSpec := { name := "grantBys", fn := fun _ => fun
  | [d] => { results := [.lit (.bool true)], args := [d] }
  | _ => none }
def grantBysRow : OpenClaim := { program := "ytjhomppadppfnaagreatdoor", sum := "e187e1778214ebcb9ad55b226f87f50b91c2c325b9074cf8593a87cb4c83f2ca", func := "toll/tolllaw11.GrantBys", spec := "grantBys", inPlace := ["internal/bytealg.IndexByteString", "internal/bytealg.IndexString"], unfollowed := true, recurses := true, named := ["unicode/utf8.first", "unicode/utf8.acceptRanges", "internal/bytealg.MaxLen"], plainKeys := false, apart := false, laid := [("unicode/utf8.acceptRanges", laid_unicode_utf8_acceptRanges), ("unicode/utf8.first", laid_unicode_utf8_first)] }
def GrantBysSaid : Prop := grantBysRow.holds Tryz.pinned (OpenSpec.ofChange grantBysSpec)

/-- ITS FALSE NEIGHBOUR: 'it returns false'. Refute it at one input. -/
def grantBysWrong : ChangeSpec := { name := "grantBys", fn := fun _ => fun
  | [d] => { results := [.lit (.bool false)], args := [d] }
  | _ => none }
def GrantBysWrongFalsely : Prop := grantBysRow.holds Tryz.pinned (OpenSpec.ofChange grantBysWrong)

/-- 'tolllaw11.GrantFinds': WHATEVER THE INPUT: true; the input reads as it did. -/
def grantFindsSpec : ChangeSpec := { name := "grantFinds", fn := fun _ => fun
  | [d1, d2, d3] => { results := [.lit (.bool true)], args := [d1, d2, d3] }
  | _ => none }
def grantFindsRow : OpenClaim := { program := "ytjhomppadppfnaagreatdoor", sum := "e187e1778214ebcb9ad55b226f87f50b91c2c325b9074cf8593a87cb4c83f2ca", func := "toll/tolllaw11.GrantFinds", spec := "grantFinds", inPlace := ["internal/bytealg.IndexByteString", "internal/bytealg.IndexString"], unfollowed := true, recurses := true, named := ["unicode/utf8.first", "unicode/utf8.acceptRanges", "internal/bytealg.MaxLen"], plainKeys := false, apart := false, laid := [("unicode/utf8.acceptRanges", laid_unicode_utf8_acceptRanges), ("unicode/utf8.first", laid_unicode_utf8_first)] }
def GrantFindsSaid : Prop := grantFindsRow.holds Tryz.pinned (OpenSpec.ofChange grantFindsSpec)

/-- ITS FALSE NEIGHBOUR: 'it returns false'. Refute it at one input. -/
def grantFindsWrong : ChangeSpec := { name := "grantFinds", fn := fun _ => fun
  | [d1, d2, d3] => { results := [.lit (.bool false)], args := [d1, d2, d3] }
  | _ => none }
def GrantFindsWrongFalsely : Prop := grantFindsRow.holds Tryz.pinned (OpenSpec.ofChange grantFindsWrong)

/-- 'tolllaw11.GrantPermits': WHATEVER THE INPUT: true; the input reads as it did. -/
def grantPermitsSpec : ChangeSpec := { name := "grantPermits", fn := fun _ => fun
  | [d] => { results := [.lit (.bool true)], args := [d] }
  | _ => none }
def grantPermitsRow : OpenClaim := { program := "ytjhomppadppfnaagreatdoor", sum := "e187e1778214ebcb9ad55b226f87f50b91c2c325b9074cf8593a87cb4c83f2ca", func := "toll/tolllaw11.GrantPermits", spec := "grantPermits", inPlace := ["internal/bytealg.IndexByteString", "internal/bytealg.IndexString"], unfollowed := true, recurses := true, named := ["unicode/utf8.first", "unicode/utf8.acceptRanges", "internal/bytealg.MaxLen"], plainKeys := false, apart := false, laid := [("unicode/utf8.acceptRanges", laid_unicode_utf8_acceptRanges), ("unicode/utf8.first", laid_unicode_utf8_first)] }
def GrantPermitsSaid : Prop := grantPermitsRow.holds Tryz.pinned (OpenSpec.ofChange grantPermitsSpec)

/-- ITS FALSE NEIGHBOUR: 'it returns false'. Refute it at one input. -/
def grantPermitsWrong : ChangeSpec := { name := "grantPermits", fn := fun _ => fun
  | [d] => { results := [.lit (.bool false)], args := [d] }
  | _ => none }
def GrantPermitsWrongFalsely : Prop := grantPermitsRow.holds Tryz.pinned (OpenSpec.ofChange grantPermitsWrong)

/-- 'tolllaw14.BackPicks': WHATEVER THE INPUT: true; the input reads as it did. -/
def backPicksSpec : ChangeSpec := { name := "backPicks", fn := fun _ => fun
  | [d1, d2] => { results := [.lit (.bool true)], args := [d1, d2] }
  | _ => none }
def backPicksRow : OpenClaim := { program := "ytjhomppadppfnaagreatdoor", sum := "e187e1778214ebcb9ad55b226f87f50b91c2c325b9074cf8593a87cb4c83f2ca", func := "toll/tolllaw14.BackPicks", spec := "backPicks", inPlace := ["internal/bytealg.IndexByteString", "internal/bytealg.IndexString"], unfollowed := true, recurses := true, named := ["unicode/utf8.first", "unicode/utf8.acceptRanges", "internal/bytealg.MaxLen"], plainKeys := false, apart := false, laid := [("unicode/utf8.acceptRanges", laid_unicode_utf8_acceptRanges), ("unicode/utf8.first", laid_unicode_utf8_first)] }
def BackPicksSaid : Prop := backPicksRow.holds Tryz.pinned (OpenSpec.ofChange backPicksSpec)

/-- ITS FALSE NEIGHBOUR: 'it returns false'. Refute it at one input. -/
def backPicksWrong : ChangeSpec := { name := "backPicks", fn := fun _ => fun
  | [d1, d2] => { results := [.lit (.bool false)], args := [d1, d2] }
  | _ => none }
def BackPicksWrongFalsely : Prop := backPicksRow.holds Tryz.pinned (OpenSpec.ofChange backPicksWrong)

/-- 'tolllaw14.BackTells': WHATEVER THE INPUT: true; the input reads as it did. -/
def backTellsSpec : ChangeSpec := { name := "backTells", fn := fun _ => fun
  | [d1, d2, d3] => { results := [.lit (.bool true)], args := [d1, d2, d3] }
  | _ => none }
def backTellsRow : OpenClaim := { program := "ytjhomppadppfnaagreatdoor", sum := "e187e1778214ebcb9ad55b226f87f50b91c2c325b9074cf8593a87cb4c83f2ca", func := "toll/tolllaw14.BackTells", spec := "backTells", inPlace := ["internal/bytealg.IndexByteString", "internal/bytealg.IndexString"], unfollowed := true, recurses := true, named := ["unicode/utf8.first", "unicode/utf8.acceptRanges", "internal/bytealg.MaxLen"], plainKeys := false, apart := false, laid := [("unicode/utf8.acceptRanges", laid_unicode_utf8_acceptRanges), ("unicode/utf8.first", laid_unicode_utf8_first)] }
def BackTellsSaid : Prop := backTellsRow.holds Tryz.pinned (OpenSpec.ofChange backTellsSpec)

/-- ITS FALSE NEIGHBOUR: 'it returns false'. Refute it at one input. -/
def backTellsWrong : ChangeSpec := { name := "backTells", fn := fun _ => fun
  | [d1, d2, d3] => { results := [.lit (.bool false)], args := [d1, d2, d3] }
  | _ => none }
def BackTellsWrongFalsely : Prop := backTellsRow.holds Tryz.pinned (OpenSpec.ofChange backTellsWrong)

/-- 'tolllaw12.ListenApart': WHATEVER THE INPUT: true; the input reads as it did. -/
def listenApartSpec : ChangeSpec := { name := "listenApart", fn := fun _ => fun
  | [d1, d2] => { results := [.lit (.bool true)], args := [d1, d2] }
  | _ => none }
def listenApartRow : OpenClaim := { program := "ytjhomppadppfnaagreatdoor", sum := "e187e1778214ebcb9ad55b226f87f50b91c2c325b9074cf8593a87cb4c83f2ca", func := "toll/tolllaw12.ListenApart", spec := "listenApart", inPlace := ["internal/bytealg.IndexByteString", "internal/bytealg.IndexString"], unfollowed := true, recurses := true, named := ["unicode/utf8.first", "unicode/utf8.acceptRanges", "internal/bytealg.MaxLen"], plainKeys := false, apart := false, laid := [("unicode/utf8.acceptRanges", laid_unicode_utf8_acceptRanges), ("unicode/utf8.first", laid_unicode_utf8_first)] }
def ListenApartSaid : Prop := listenApartRow.holds Tryz.pinned (OpenSpec.ofChange listenApartSpec)

/-- ITS FALSE NEIGHBOUR: 'it returns false'. Refute it at one input. -/
def listenApartWrong : ChangeSpec := { name := "listenApart", fn := fun _ => fun
  | [d1, d2] => { results := [.lit (.bool false)], args := [d1, d2] }
  | _ => none }
def ListenApartWrongFalsely : Prop := listenApartRow.holds Tryz.pinned (OpenSpec.ofChange listenApartWrong)

/-- 'tolllaw12.ListenOthers': WHATEVER THE INPUT: true; the input reads as it did. -/
def listenOthersSpec : ChangeSpec := { name := "listenOthers", fn := fun _ => fun
  | [d1, d2, d3] => { results := [.lit (.bool true)], args := [d1, d2, d3] }
  | _ => none }
def listenOthersRow : OpenClaim := { program := "ytjhomppadppfnaagreatdoor", sum := "e187e1778214ebcb9ad55b226f87f50b91c2c325b9074cf8593a87cb4c83f2ca", func := "toll/tolllaw12.ListenOthers", spec := "listenOthers", inPlace := ["internal/bytealg.IndexByteString", "internal/bytealg.IndexString"], unfollowed := true, recurses := true, named := ["unicode/utf8.first", "unicode/utf8.acceptRanges", "internal/bytealg.MaxLen"], plainKeys := false, apart := false, laid := [("unicode/utf8.acceptRanges", laid_unicode_utf8_acceptRanges), ("unicode/utf8.first", laid_unicode_utf8_first)] }
def ListenOthersSaid : Prop := listenOthersRow.holds Tryz.pinned (OpenSpec.ofChange listenOthersSpec)

/-- ITS FALSE NEIGHBOUR: 'it returns false'. Refute it at one input. -/
def listenOthersWrong : ChangeSpec := { name := "listenOthers", fn := fun _ => fun
  | [d1, d2, d3] => { results := [.lit (.bool false)], args := [d1, d2, d3] }
  | _ => none }
def ListenOthersWrongFalsely : Prop := listenOthersRow.holds Tryz.pinned (OpenSpec.ofChange listenOthersWrong)

/-- 'tolllaw12.ListenCerts': WHATEVER THE INPUT: true; the input reads as it did. -/
def listenCertsSpec : ChangeSpec := { name := "listenCerts", fn := fun _ => fun
  | [d1, d2, d3] => { results := [.lit (.bool true)], args := [d1, d2, d3] }
  | _ => none }
def listenCertsRow : OpenClaim := { program := "ytjhomppadppfnaagreatdoor", sum := "e187e1778214ebcb9ad55b226f87f50b91c2c325b9074cf8593a87cb4c83f2ca", func := "toll/tolllaw12.ListenCerts", spec := "listenCerts", inPlace := ["internal/bytealg.IndexByteString", "internal/bytealg.IndexString"], unfollowed := true, recurses := true, named := ["unicode/utf8.first", "unicode/utf8.acceptRanges", "internal/bytealg.MaxLen"], plainKeys := false, apart := false, laid := [("unicode/utf8.acceptRanges", laid_unicode_utf8_acceptRanges), ("unicode/utf8.first", laid_unicode_utf8_first)] }
def ListenCertsSaid : Prop := listenCertsRow.holds Tryz.pinned (OpenSpec.ofChange listenCertsSpec)

/-- ITS FALSE NEIGHBOUR: 'it returns false'. Refute it at one input. -/
def listenCertsWrong : ChangeSpec := { name := "listenCerts", fn := fun _ => fun
  | [d1, d2, d3] => { results := [.lit (.bool false)], args := [d1, d2, d3] }
  | _ => none }
def ListenCertsWrongFalsely : Prop := listenCertsRow.holds Tryz.pinned (OpenSpec.ofChange listenCertsWrong)

/-- 'tolllaw12.ListenPlain': WHATEVER THE INPUT: true; the input reads as it did. -/
def listenPlainSpec : ChangeSpec := { name := "listenPlain", fn := fun _ => fun
  | [d1, d2, d3] => { results := [.lit (.bool true)], args := [d1, d2, d3] }
  | _ => none }
def listenPlainRow : OpenClaim := { program := "ytjhomppadppfnaagreatdoor", sum := "e187e1778214ebcb9ad55b226f87f50b91c2c325b9074cf8593a87cb4c83f2ca", func := "toll/tolllaw12.ListenPlain", spec := "listenPlain", inPlace := ["internal/bytealg.IndexByteString", "internal/bytealg.IndexString"], unfollowed := true, recurses := true, named := ["unicode/utf8.first", "unicode/utf8.acceptRanges", "internal/bytealg.MaxLen"], plainKeys := false, apart := false, laid := [("unicode/utf8.acceptRanges", laid_unicode_utf8_acceptRanges), ("unicode/utf8.first", laid_unicode_utf8_first)] }
def ListenPlainSaid : Prop := listenPlainRow.holds Tryz.pinned (OpenSpec.ofChange listenPlainSpec)

/-- ITS FALSE NEIGHBOUR: 'it returns false'. Refute it at one input. -/
def listenPlainWrong : ChangeSpec := { name := "listenPlain", fn := fun _ => fun
  | [d1, d2, d3] => { results := [.lit (.bool false)], args := [d1, d2, d3] }
  | _ => none }
def ListenPlainWrongFalsely : Prop := listenPlainRow.holds Tryz.pinned (OpenSpec.ofChange listenPlainWrong)

/- THE SECOND FORM. 'bulk': how many values and letters a reading holds, each counted each time it is reached (what is shared counts as often as it is met; a slice's spare places count too). A statement '..UptoSaid' is the law's where the arguments, and the package variables that the reading takes, are together of bulk at most 1048576: NARROWER than '..Said'. Prove '..Said' where nothing that the law and all that it calls make is longer than what came in: it says more and counts as full. Else prove '..UptoSaid'. A law counts once. -/
mutual
def uptoBulk {H : Type} : DataW H → Nat
  | .lit (.string bytes) => bytes.length + 1
  | .lit _ => 1
  | .nil => 1
  | .ptr d => uptoBulk d + 1
  | .slice elems spare => uptoBulkAll elems + uptoBulkAll spare + 1
  | .agg parts => uptoBulkAll parts + 1
  | .iface _ d => uptoBulk d + 1
  | .map entries => uptoBulkEntries entries + 1
  | .held _ => 1
def uptoBulkAll {H : Type} : List (DataW H) → Nat
  | [] => 0
  | d :: r => uptoBulk d + uptoBulkAll r
def uptoBulkEntries {H : Type} : List (Lit × DataW H) → Nat
  | [] => 0
  | x :: r => uptoBulkEntry x + uptoBulkEntries r
def uptoBulkEntry {H : Type} : Lit × DataW H → Nat
  | (.string bytes, d) => bytes.length + uptoBulk d + 1
  | (_, d) => uptoBulk d + 1
 end
def uptoSmall : (H : Type) → List (DataW H) → Bool := fun _ ds => decide (uptoBulkAll ds ≤ 1048576)
def OpenSpec.upto (s : _root_.Go.ChangeSpec) : _root_.Go.OpenSpec := { _root_.Go.OpenSpec.ofChange s with cond := some uptoSmall }

/-- 'tolllaw11.GrantMore', WHERE WHAT IT READS IS OF BULK AT MOST 1048576: true; the input reads as it did. -/
def grantMoreUptoRow : OpenClaim := { program := "ytjhomppadppfnaagreatdoor", sum := "e187e1778214ebcb9ad55b226f87f50b91c2c325b9074cf8593a87cb4c83f2ca", func := "toll/tolllaw11.GrantMore", spec := "grantMore", inPlace := ["internal/bytealg.IndexByteString", "internal/bytealg.IndexString"], unfollowed := true, recurses := true, named := ["unicode/utf8.first", "unicode/utf8.acceptRanges", "internal/bytealg.MaxLen"], plainKeys := false, apart := false, laid := [("unicode/utf8.acceptRanges", laid_unicode_utf8_acceptRanges), ("unicode/utf8.first", laid_unicode_utf8_first)], narrowed := true }
def GrantMoreUptoSaid : Prop := grantMoreUptoRow.holds Tryz.pinned (OpenSpec.upto grantMoreSpec)

/-- 'tolllaw11.GrantNames', WHERE WHAT IT READS IS OF BULK AT MOST 1048576: true; the input reads as it did. -/
def grantNamesUptoRow : OpenClaim := { program := "ytjhomppadppfnaagreatdoor", sum := "e187e1778214ebcb9ad55b226f87f50b91c2c325b9074cf8593a87cb4c83f2ca", func := "toll/tolllaw11.GrantNames", spec := "grantNames", inPlace := ["internal/bytealg.IndexByteString", "internal/bytealg.IndexString"], unfollowed := true, recurses := true, named := ["unicode/utf8.first", "unicode/utf8.acceptRanges", "internal/bytealg.MaxLen"], plainKeys := false, apart := false, laid := [("unicode/utf8.acceptRanges", laid_unicode_utf8_acceptRanges), ("unicode/utf8.first", laid_unicode_utf8_first)], narrowed := true }
def GrantNamesUptoSaid : Prop := grantNamesUptoRow.holds Tryz.pinned (OpenSpec.upto grantNamesSpec)

/-- 'tolllaw11.GrantSides', WHERE WHAT IT READS IS OF BULK AT MOST 1048576: true; the input reads as it did. -/
def grantSidesUptoRow : OpenClaim := { program := "ytjhomppadppfnaagreatdoor", sum := "e187e1778214ebcb9ad55b226f87f50b91c2c325b9074cf8593a87cb4c83f2ca", func := "toll/tolllaw11.GrantSides", spec := "grantSides", inPlace := ["internal/bytealg.IndexByteString", "internal/bytealg.IndexString"], unfollowed := true, recurses := true, named := ["unicode/utf8.first", "unicode/utf8.acceptRanges", "internal/bytealg.MaxLen"], plainKeys := false, apart := false, laid := [("unicode/utf8.acceptRanges", laid_unicode_utf8_acceptRanges), ("unicode/utf8.first", laid_unicode_utf8_first)], narrowed := true }
def GrantSidesUptoSaid : Prop := grantSidesUptoRow.holds Tryz.pinned (OpenSpec.upto grantSidesSpec)

/-- 'tolllaw11.GrantBys', WHERE WHAT IT READS IS OF BULK AT MOST 1048576: true; the input reads as it did. -/
def grantBysUptoRow : OpenClaim := { program := "ytjhomppadppfnaagreatdoor", sum := "e187e1778214ebcb9ad55b226f87f50b91c2c325b9074cf8593a87cb4c83f2ca", func := "toll/tolllaw11.GrantBys", spec := "grantBys", inPlace := ["internal/bytealg.IndexByteString", "internal/bytealg.IndexString"], unfollowed := true, recurses := true, named := ["unicode/utf8.first", "unicode/utf8.acceptRanges", "internal/bytealg.MaxLen"], plainKeys := false, apart := false, laid := [("unicode/utf8.acceptRanges", laid_unicode_utf8_acceptRanges), ("unicode/utf8.first", laid_unicode_utf8_first)], narrowed := true }
def GrantBysUptoSaid : Prop := grantBysUptoRow.holds Tryz.pinned (OpenSpec.upto grantBysSpec)

/-- 'tolllaw11.GrantFinds', WHERE WHAT IT READS IS OF BULK AT MOST 1048576: true; the input reads as it did. -/
def grantFindsUptoRow : OpenClaim := { program := "ytjhomppadppfnaagreatdoor", sum := "e187e1778214ebcb9ad55b226f87f50b91c2c325b9074cf8593a87cb4c83f2ca", func := "toll/tolllaw11.GrantFinds", spec := "grantFinds", inPlace := ["internal/bytealg.IndexByteString", "internal/bytealg.IndexString"], unfollowed := true, recurses := true, named := ["unicode/utf8.first", "unicode/utf8.acceptRanges", "internal/bytealg.MaxLen"], plainKeys := false, apart := false, laid := [("unicode/utf8.acceptRanges", laid_unicode_utf8_acceptRanges), ("unicode/utf8.first", laid_unicode_utf8_first)], narrowed := true }
def GrantFindsUptoSaid : Prop := grantFindsUptoRow.holds Tryz.pinned (OpenSpec.upto grantFindsSpec)

/-- 'tolllaw11.GrantPermits', WHERE WHAT IT READS IS OF BULK AT MOST 1048576: true; the input reads as it did. -/
def grantPermitsUptoRow : OpenClaim := { program := "ytjhomppadppfnaagreatdoor", sum := "e187e1778214ebcb9ad55b226f87f50b91c2c325b9074cf8593a87cb4c83f2ca", func := "toll/tolllaw11.GrantPermits", spec := "grantPermits", inPlace := ["internal/bytealg.IndexByteString", "internal/bytealg.IndexString"], unfollowed := true, recurses := true, named := ["unicode/utf8.first", "unicode/utf8.acceptRanges", "internal/bytealg.MaxLen"], plainKeys := false, apart := false, laid := [("unicode/utf8.acceptRanges", laid_unicode_utf8_acceptRanges), ("unicode/utf8.first", laid_unicode_utf8_first)], narrowed := true }
def GrantPermitsUptoSaid : Prop := grantPermitsUptoRow.holds Tryz.pinned (OpenSpec.upto grantPermitsSpec)

/-- 'tolllaw14.BackPicks', WHERE WHAT IT READS IS OF BULK AT MOST 1048576: true; the input reads as it did. -/
def backPicksUptoRow : OpenClaim := { program := "ytjhomppadppfnaagreatdoor", sum := "e187e1778214ebcb9ad55b226f87f50b91c2c325b9074cf8593a87cb4c83f2ca", func := "toll/tolllaw14.BackPicks", spec := "backPicks", inPlace := ["internal/bytealg.IndexByteString", "internal/bytealg.IndexString"], unfollowed := true, recurses := true, named := ["unicode/utf8.first", "unicode/utf8.acceptRanges", "internal/bytealg.MaxLen"], plainKeys := false, apart := false, laid := [("unicode/utf8.acceptRanges", laid_unicode_utf8_acceptRanges), ("unicode/utf8.first", laid_unicode_utf8_first)], narrowed := true }
def BackPicksUptoSaid : Prop := backPicksUptoRow.holds Tryz.pinned (OpenSpec.upto backPicksSpec)

/-- 'tolllaw14.BackTells', WHERE WHAT IT READS IS OF BULK AT MOST 1048576: true; the input reads as it did. -/
def backTellsUptoRow : OpenClaim := { program := "ytjhomppadppfnaagreatdoor", sum := "e187e1778214ebcb9ad55b226f87f50b91c2c325b9074cf8593a87cb4c83f2ca", func := "toll/tolllaw14.BackTells", spec := "backTells", inPlace := ["internal/bytealg.IndexByteString", "internal/bytealg.IndexString"], unfollowed := true, recurses := true, named := ["unicode/utf8.first", "unicode/utf8.acceptRanges", "internal/bytealg.MaxLen"], plainKeys := false, apart := false, laid := [("unicode/utf8.acceptRanges", laid_unicode_utf8_acceptRanges), ("unicode/utf8.first", laid_unicode_utf8_first)], narrowed := true }
def BackTellsUptoSaid : Prop := backTellsUptoRow.holds Tryz.pinned (OpenSpec.upto backTellsSpec)

/-- 'tolllaw12.ListenApart', WHERE WHAT IT READS IS OF BULK AT MOST 1048576: true; the input reads as it did. -/
def listenApartUptoRow : OpenClaim := { program := "ytjhomppadppfnaagreatdoor", sum := "e187e1778214ebcb9ad55b226f87f50b91c2c325b9074cf8593a87cb4c83f2ca", func := "toll/tolllaw12.ListenApart", spec := "listenApart", inPlace := ["internal/bytealg.IndexByteString", "internal/bytealg.IndexString"], unfollowed := true, recurses := true, named := ["unicode/utf8.first", "unicode/utf8.acceptRanges", "internal/bytealg.MaxLen"], plainKeys := false, apart := false, laid := [("unicode/utf8.acceptRanges", laid_unicode_utf8_acceptRanges), ("unicode/utf8.first", laid_unicode_utf8_first)], narrowed := true }
def ListenApartUptoSaid : Prop := listenApartUptoRow.holds Tryz.pinned (OpenSpec.upto listenApartSpec)

/-- 'tolllaw12.ListenOthers', WHERE WHAT IT READS IS OF BULK AT MOST 1048576: true; the input reads as it did. -/
def listenOthersUptoRow : OpenClaim := { program := "ytjhomppadppfnaagreatdoor", sum := "e187e1778214ebcb9ad55b226f87f50b91c2c325b9074cf8593a87cb4c83f2ca", func := "toll/tolllaw12.ListenOthers", spec := "listenOthers", inPlace := ["internal/bytealg.IndexByteString", "internal/bytealg.IndexString"], unfollowed := true, recurses := true, named := ["unicode/utf8.first", "unicode/utf8.acceptRanges", "internal/bytealg.MaxLen"], plainKeys := false, apart := false, laid := [("unicode/utf8.acceptRanges", laid_unicode_utf8_acceptRanges), ("unicode/utf8.first", laid_unicode_utf8_first)], narrowed := true }
def ListenOthersUptoSaid : Prop := listenOthersUptoRow.holds Tryz.pinned (OpenSpec.upto listenOthersSpec)

/-- 'tolllaw12.ListenCerts', WHERE WHAT IT READS IS OF BULK AT MOST 1048576: true; the input reads as it did. -/
def listenCertsUptoRow : OpenClaim := { program := "ytjhomppadppfnaagreatdoor", sum := "e187e1778214ebcb9ad55b226f87f50b91c2c325b9074cf8593a87cb4c83f2ca", func := "toll/tolllaw12.ListenCerts", spec := "listenCerts", inPlace := ["internal/bytealg.IndexByteString", "internal/bytealg.IndexString"], unfollowed := true, recurses := true, named := ["unicode/utf8.first", "unicode/utf8.acceptRanges", "internal/bytealg.MaxLen"], plainKeys := false, apart := false, laid := [("unicode/utf8.acceptRanges", laid_unicode_utf8_acceptRanges), ("unicode/utf8.first", laid_unicode_utf8_first)], narrowed := true }
def ListenCertsUptoSaid : Prop := listenCertsUptoRow.holds Tryz.pinned (OpenSpec.upto listenCertsSpec)

/-- 'tolllaw12.ListenPlain', WHERE WHAT IT READS IS OF BULK AT MOST 1048576: true; the input reads as it did. -/
def listenPlainUptoRow : OpenClaim := { program := "ytjhomppadppfnaagreatdoor", sum := "e187e1778214ebcb9ad55b226f87f50b91c2c325b9074cf8593a87cb4c83f2ca", func := "toll/tolllaw12.ListenPlain", spec := "listenPlain", inPlace := ["internal/bytealg.IndexByteString", "internal/bytealg.IndexString"], unfollowed := true, recurses := true, named := ["unicode/utf8.first", "unicode/utf8.acceptRanges", "internal/bytealg.MaxLen"], plainKeys := false, apart := false, laid := [("unicode/utf8.acceptRanges", laid_unicode_utf8_acceptRanges), ("unicode/utf8.first", laid_unicode_utf8_first)], narrowed := true }
def ListenPlainUptoSaid : Prop := listenPlainUptoRow.holds Tryz.pinned (OpenSpec.upto listenPlainSpec)

end Rows
end Go.Proofs.YtjhomppadppfnaaGreatDoor
