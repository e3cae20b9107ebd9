/-
  NARROWER THAN 'FOR EVERY INPUT', by the rows' own cells (each row's printed sentence says how): BackShares: laid · BackOthers: laid · BackChooses: laid · BackPicks: laid · BackLets: laid · BackTells: laid · BackEach: laid.
  DERIVED. THE GIVEN ROWS OF THIS SEAT. 7 by the template 'for every input the law returns true; each argument reads behind the call as it read before'; 0 by the template 'total and deterministic' (their statements: YtbpgebfejebmlaaGreatDoorTotals.lean).
  GIVEN WITH THE SEED: the statements are not yours to turn. If you find one false, say at which input.
  Laid BY PROGRAM, IN A SANDBOX (cutbox-rows.mjs): the forced cells as the released guide's own fill.sh prints them over the translation a1eca2687f4ad1c7… (all of the seat's roots in one cut). By AI agents, Wed Nov 11 2026. No macro, syntax, notation, axiom, sorry.
-/
import Derived.Test.YtbpgebfejebmlaaGreatDoorChecked
import GoSem.PinnedTables
import GoSem.Claim
import GoSem.ClaimJoined
import GoSem.ClaimMapViews
import Derived.JoinedTies
import Derived.KernelRfl
namespace Go.Proofs.YtbpgebfejebmlaaGreatDoor
/- THE CELL 'sum', in the pinned program and in every row, IS THE sha256 OF THE DUMP (.gsa) THAT YtbpgebfejebmlaaGreatDoorProg.lean LOADS. Nothing in Lean hashes anything: it is a label: what it is worth is what the hold of that sum in a sandbox is worth. -/
noncomputable def Tryz.pinned : Pinned := { name := "ytbpgebfejebmlaagreatdoor", sum := "a1eca2687f4ad1c72845ada01648f0ad2c902acf478ecede105cab91bc3ab871", checked := Tryz.checked }
namespace Rows
def none {H : Type} : Left H := { results := [], args := [] }

/- WHAT THE LISTED PACKAGE-LEVEL VARIABLES READ AS WHEN THE CALL BEGINS. Each datum BY PROGRAM (the guide's laid-datum.mjs) off the statement by which the dump's own 'gosem.cut.vars' lays the variable. In a bare row this is a premise. The card (YtbpgebfejebmlaaGreatDoorCards.lean) ties it to the program's text. -/
def laid_unicode_utf8_acceptRanges {H : Type} : DataW H := .agg [.agg [.lit (.int .u8 128), .lit (.int .u8 191)], .agg [.lit (.int .u8 160), .lit (.int .u8 191)], .agg [.lit (.int .u8 128), .lit (.int .u8 159)], .agg [.lit (.int .u8 144), .lit (.int .u8 191)], .agg [.lit (.int .u8 128), .lit (.int .u8 143)], .agg [.lit (.int .u8 0), .lit (.int .u8 0)], .agg [.lit (.int .u8 0), .lit (.int .u8 0)], .agg [.lit (.int .u8 0), .lit (.int .u8 0)], .agg [.lit (.int .u8 0), .lit (.int .u8 0)], .agg [.lit (.int .u8 0), .lit (.int .u8 0)], .agg [.lit (.int .u8 0), .lit (.int .u8 0)], .agg [.lit (.int .u8 0), .lit (.int .u8 0)], .agg [.lit (.int .u8 0), .lit (.int .u8 0)], .agg [.lit (.int .u8 0), .lit (.int .u8 0)], .agg [.lit (.int .u8 0), .lit (.int .u8 0)], .agg [.lit (.int .u8 0), .lit (.int .u8 0)]]
/-- One of Go's own tables, pinned by name: the form's constant. -/
def laid_unicode_utf8_first : DataW Unit := Go.Pinned.utf8First

/-- 'tolllaw14.BackShares': WHATEVER THE INPUT: true; the input reads as it did. -/
def backSharesSpec : ChangeSpec := { name := "backShares", fn := fun _ => fun
  | [d1, d2] => { results := [.lit (.bool true)], args := [d1, d2] }
  | _ => none }
def backSharesRow : OpenClaim := { program := "ytbpgebfejebmlaagreatdoor", sum := "a1eca2687f4ad1c72845ada01648f0ad2c902acf478ecede105cab91bc3ab871", func := "toll/tolllaw14.BackShares", spec := "backShares", inPlace := ["internal/bytealg.IndexByteString", "internal/bytealg.IndexString"], unfollowed := true, recurses := true, named := ["unicode/utf8.first", "unicode/utf8.acceptRanges", "internal/bytealg.MaxLen"], apart := false, laid := [("unicode/utf8.acceptRanges", laid_unicode_utf8_acceptRanges), ("unicode/utf8.first", laid_unicode_utf8_first)] }
def BackSharesSaid : Prop := backSharesRow.holds Tryz.pinned (OpenSpec.ofChange backSharesSpec)

/-- ITS FALSE NEIGHBOUR: 'it returns false'. Refute it at one input. -/
def backSharesWrong : ChangeSpec := { name := "backShares", fn := fun _ => fun
  | [d1, d2] => { results := [.lit (.bool false)], args := [d1, d2] }
  | _ => none }
def BackSharesWrongFalsely : Prop := backSharesRow.holds Tryz.pinned (OpenSpec.ofChange backSharesWrong)

/-- 'tolllaw14.BackOthers': WHATEVER THE INPUT: true; the input reads as it did. -/
def backOthersSpec : ChangeSpec := { name := "backOthers", fn := fun _ => fun
  | [d1, d2, d3] => { results := [.lit (.bool true)], args := [d1, d2, d3] }
  | _ => none }
def backOthersRow : OpenClaim := { program := "ytbpgebfejebmlaagreatdoor", sum := "a1eca2687f4ad1c72845ada01648f0ad2c902acf478ecede105cab91bc3ab871", func := "toll/tolllaw14.BackOthers", spec := "backOthers", inPlace := ["internal/bytealg.IndexByteString", "internal/bytealg.IndexString"], unfollowed := true, recurses := true, named := ["unicode/utf8.first", "unicode/utf8.acceptRanges", "internal/bytealg.MaxLen"], apart := false, laid := [("unicode/utf8.acceptRanges", laid_unicode_utf8_acceptRanges), ("unicode/utf8.first", laid_unicode_utf8_first)] }
def BackOthersSaid : Prop := backOthersRow.holds Tryz.pinned (OpenSpec.ofChange backOthersSpec)

/-- ITS FALSE NEIGHBOUR: 'it returns false'. Refute it at one input. -/
def backOthersWrong : ChangeSpec := { name := "backOthers", fn := fun _ => fun
  | [d1, d2, d3] => { results := [.lit (.bool false)], args := [d1, d2, d3] }
  | _ => none }
def BackOthersWrongFalsely : Prop := backOthersRow.holds Tryz.pinned (OpenSpec.ofChange backOthersWrong)

/-- 'tolllaw14.BackChooses': WHATEVER THE INPUT: true; the input reads as it did. -/
def backChoosesSpec : ChangeSpec := { name := "backChooses", fn := fun _ => fun
  | [d1, d2, d3] => { results := [.lit (.bool true)], args := [d1, d2, d3] }
  | _ => none }
def backChoosesRow : OpenClaim := { program := "ytbpgebfejebmlaagreatdoor", sum := "a1eca2687f4ad1c72845ada01648f0ad2c902acf478ecede105cab91bc3ab871", func := "toll/tolllaw14.BackChooses", spec := "backChooses", inPlace := ["internal/bytealg.IndexByteString", "internal/bytealg.IndexString"], unfollowed := true, recurses := true, named := ["unicode/utf8.first", "unicode/utf8.acceptRanges", "internal/bytealg.MaxLen"], apart := false, laid := [("unicode/utf8.acceptRanges", laid_unicode_utf8_acceptRanges), ("unicode/utf8.first", laid_unicode_utf8_first)] }
def BackChoosesSaid : Prop := backChoosesRow.holds Tryz.pinned (OpenSpec.ofChange backChoosesSpec)

/-- ITS FALSE NEIGHBOUR: 'it returns false'. Refute it at one input. -/
def backChoosesWrong : ChangeSpec := { name := "backChooses", fn := fun _ => fun
  | [d1, d2, d3] => { results := [.lit (.bool false)], args := [d1, d2, d3] }
  | _ => none }
def BackChoosesWrongFalsely : Prop := backChoosesRow.holds Tryz.pinned (OpenSpec.ofChange backChoosesWrong)

/-- 'tolllaw14.BackPicks': WHATEVER THE INPUT: true; the input reads as it did. -/
def backPicksSpec : ChangeSpec := { name := "backPicks", fn := fun _ => fun
  | [d1, d2] => { results := [.lit (.bool true)], args := [d1, d2] }
  | _ => none }
def backPicksRow : OpenClaim := { program := "ytbpgebfejebmlaagreatdoor", sum := "a1eca2687f4ad1c72845ada01648f0ad2c902acf478ecede105cab91bc3ab871", func := "toll/tolllaw14.BackPicks", spec := "backPicks", inPlace := ["internal/bytealg.IndexByteString", "internal/bytealg.IndexString"], unfollowed := true, recurses := true, named := ["unicode/utf8.first", "unicode/utf8.acceptRanges", "internal/bytealg.MaxLen"], apart := false, laid := [("unicode/utf8.acceptRanges", laid_unicode_utf8_acceptRanges), ("unicode/utf8.first", laid_unicode_utf8_first)] }
def BackPicksSaid : Prop := backPicksRow.holds Tryz.pinned (OpenSpec.ofChange backPicksSpec)

/-- ITS FALSE NEIGHBOUR: 'it returns false'. Refute it at one input. -/
def backPicksWrong : ChangeSpec := { name := "backPicks", fn := fun _ => fun
  | [d1, d2] => { results := [.lit (.bool false)], args := [d1, d2] }
  | _ => none }
def BackPicksWrongFalsely : Prop := backPicksRow.holds Tryz.pinned (OpenSpec.ofChange backPicksWrong)

/-- 'tolllaw14.BackLets': WHATEVER THE INPUT: true; the input reads as it did. -/
def backLetsSpec : ChangeSpec := { name := "backLets", fn := fun _ => fun
  | [d1, d2, d3] => { results := [.lit (.bool true)], args := [d1, d2, d3] }
  | _ => none }
def backLetsRow : OpenClaim := { program := "ytbpgebfejebmlaagreatdoor", sum := "a1eca2687f4ad1c72845ada01648f0ad2c902acf478ecede105cab91bc3ab871", func := "toll/tolllaw14.BackLets", spec := "backLets", inPlace := ["internal/bytealg.IndexByteString", "internal/bytealg.IndexString"], unfollowed := true, recurses := true, named := ["unicode/utf8.first", "unicode/utf8.acceptRanges", "internal/bytealg.MaxLen"], apart := false, laid := [("unicode/utf8.acceptRanges", laid_unicode_utf8_acceptRanges), ("unicode/utf8.first", laid_unicode_utf8_first)] }
def BackLetsSaid : Prop := backLetsRow.holds Tryz.pinned (OpenSpec.ofChange backLetsSpec)

/-- ITS FALSE NEIGHBOUR: 'it returns false'. Refute it at one input. -/
def backLetsWrong : ChangeSpec := { name := "backLets", fn := fun _ => fun
  | [d1, d2, d3] => { results := [.lit (.bool false)], args := [d1, d2, d3] }
  | _ => none }
def BackLetsWrongFalsely : Prop := backLetsRow.holds Tryz.pinned (OpenSpec.ofChange backLetsWrong)

/-- 'tolllaw14.BackTells': WHATEVER THE INPUT: true; the input reads as it did. -/
def backTellsSpec : ChangeSpec := { name := "backTells", fn := fun _ => fun
  | [d1, d2, d3] => { results := [.lit (.bool true)], args := [d1, d2, d3] }
  | _ => none }
def backTellsRow : OpenClaim := { program := "ytbpgebfejebmlaagreatdoor", sum := "a1eca2687f4ad1c72845ada01648f0ad2c902acf478ecede105cab91bc3ab871", func := "toll/tolllaw14.BackTells", spec := "backTells", inPlace := ["internal/bytealg.IndexByteString", "internal/bytealg.IndexString"], unfollowed := true, recurses := true, named := ["unicode/utf8.first", "unicode/utf8.acceptRanges", "internal/bytealg.MaxLen"], apart := false, laid := [("unicode/utf8.acceptRanges", laid_unicode_utf8_acceptRanges), ("unicode/utf8.first", laid_unicode_utf8_first)] }
def BackTellsSaid : Prop := backTellsRow.holds Tryz.pinned (OpenSpec.ofChange backTellsSpec)

/-- ITS FALSE NEIGHBOUR: 'it returns false'. Refute it at one input. -/
def backTellsWrong : ChangeSpec := { name := "backTells", fn := fun _ => fun
  | [d1, d2, d3] => { results := [.lit (.bool false)], args := [d1, d2, d3] }
  | _ => none }
def BackTellsWrongFalsely : Prop := backTellsRow.holds Tryz.pinned (OpenSpec.ofChange backTellsWrong)

/-- 'tolllaw14.BackEach': WHATEVER THE INPUT: true; the input reads as it did. -/
def backEachSpec : ChangeSpec := { name := "backEach", fn := fun _ => fun
  | [d1, d2] => { results := [.lit (.bool true)], args := [d1, d2] }
  | _ => none }
def backEachRow : OpenClaim := { program := "ytbpgebfejebmlaagreatdoor", sum := "a1eca2687f4ad1c72845ada01648f0ad2c902acf478ecede105cab91bc3ab871", func := "toll/tolllaw14.BackEach", spec := "backEach", inPlace := ["internal/bytealg.IndexByteString", "internal/bytealg.IndexString"], unfollowed := true, recurses := true, named := ["unicode/utf8.first", "unicode/utf8.acceptRanges", "internal/bytealg.MaxLen"], apart := false, laid := [("unicode/utf8.acceptRanges", laid_unicode_utf8_acceptRanges), ("unicode/utf8.first", laid_unicode_utf8_first)] }
def BackEachSaid : Prop := backEachRow.holds Tryz.pinned (OpenSpec.ofChange backEachSpec)

/-- ITS FALSE NEIGHBOUR: 'it returns false'. Refute it at one input. -/
def backEachWrong : ChangeSpec := { name := "backEach", fn := fun _ => fun
  | [d1, d2] => { results := [.lit (.bool false)], args := [d1, d2] }
  | _ => none }
def BackEachWrongFalsely : Prop := backEachRow.holds Tryz.pinned (OpenSpec.ofChange backEachWrong)

/- THE SECOND FORM. 'bulk': how many values and letters a reading holds, each counted each time it is reached (what is shared counts as often as it is met; a slice's spare places count too). A statement '..UptoSaid' is the law's where the arguments, and the package variables that the reading takes, are together of bulk at most 1048576: NARROWER than '..Said'. Prove '..Said' where nothing that the law and all that it calls make is longer than what came in: it says more and counts as full. Else prove '..UptoSaid'. A law counts once. -/
mutual
def uptoBulk {H : Type} : DataW H → Nat
  | .lit (.string bytes) => bytes.length + 1
  | .lit _ => 1
  | .nil => 1
  | .ptr d => uptoBulk d + 1
  | .slice elems spare => uptoBulkAll elems + uptoBulkAll spare + 1
  | .agg parts => uptoBulkAll parts + 1
  | .iface _ d => uptoBulk d + 1
  | .map entries => uptoBulkEntries entries + 1
  | .held _ => 1
def uptoBulkAll {H : Type} : List (DataW H) → Nat
  | [] => 0
  | d :: r => uptoBulk d + uptoBulkAll r
def uptoBulkEntries {H : Type} : List (Lit × DataW H) → Nat
  | [] => 0
  | x :: r => uptoBulkEntry x + uptoBulkEntries r
def uptoBulkEntry {H : Type} : Lit × DataW H → Nat
  | (.string bytes, d) => bytes.length + uptoBulk d + 1
  | (_, d) => uptoBulk d + 1
 end
def uptoSmall : (H : Type) → List (DataW H) → Bool := fun _ ds => decide (uptoBulkAll ds ≤ 1048576)
def OpenSpec.upto (s : _root_.Go.ChangeSpec) : _root_.Go.OpenSpec := { _root_.Go.OpenSpec.ofChange s with cond := some uptoSmall }

/-- 'tolllaw14.BackShares', WHERE WHAT IT READS IS OF BULK AT MOST 1048576: true; the input reads as it did. -/
def backSharesUptoRow : OpenClaim := { program := "ytbpgebfejebmlaagreatdoor", sum := "a1eca2687f4ad1c72845ada01648f0ad2c902acf478ecede105cab91bc3ab871", func := "toll/tolllaw14.BackShares", spec := "backShares", inPlace := ["internal/bytealg.IndexByteString", "internal/bytealg.IndexString"], unfollowed := true, recurses := true, named := ["unicode/utf8.first", "unicode/utf8.acceptRanges", "internal/bytealg.MaxLen"], apart := false, laid := [("unicode/utf8.acceptRanges", laid_unicode_utf8_acceptRanges), ("unicode/utf8.first", laid_unicode_utf8_first)], narrowed := true }
def BackSharesUptoSaid : Prop := backSharesUptoRow.holds Tryz.pinned (OpenSpec.upto backSharesSpec)

/-- 'tolllaw14.BackOthers', WHERE WHAT IT READS IS OF BULK AT MOST 1048576: true; the input reads as it did. -/
def backOthersUptoRow : OpenClaim := { program := "ytbpgebfejebmlaagreatdoor", sum := "a1eca2687f4ad1c72845ada01648f0ad2c902acf478ecede105cab91bc3ab871", func := "toll/tolllaw14.BackOthers", spec := "backOthers", inPlace := ["internal/bytealg.IndexByteString", "internal/bytealg.IndexString"], unfollowed := true, recurses := true, named := ["unicode/utf8.first", "unicode/utf8.acceptRanges", "internal/bytealg.MaxLen"], apart := false, laid := [("unicode/utf8.acceptRanges", laid_unicode_utf8_acceptRanges), ("unicode/utf8.first", laid_unicode_utf8_first)], narrowed := true }
def BackOthersUptoSaid : Prop := backOthersUptoRow.holds Tryz.pinned (OpenSpec.upto backOthersSpec)

/-- 'tolllaw14.BackChooses', WHERE WHAT IT READS IS OF BULK AT MOST 1048576: true; the input reads as it did. -/
def backChoosesUptoRow : OpenClaim := { program := "ytbpgebfejebmlaagreatdoor", sum := "a1eca2687f4ad1c72845ada01648f0ad2c902acf478ecede105cab91bc3ab871", func := "toll/tolllaw14.BackChooses", spec := "backChooses", inPlace := ["internal/bytealg.IndexByteString", "internal/bytealg.IndexString"], unfollowed := true, recurses := true, named := ["unicode/utf8.first", "unicode/utf8.acceptRanges", "internal/bytealg.MaxLen"], apart := false, laid := [("unicode/utf8.acceptRanges", laid_unicode_utf8_acceptRanges), ("unicode/utf8.first", laid_unicode_utf8_first)], narrowed := true }
def BackChoosesUptoSaid : Prop := backChoosesUptoRow.holds Tryz.pinned (OpenSpec.upto backChoosesSpec)

/-- 'tolllaw14.BackPicks', WHERE WHAT IT READS IS OF BULK AT MOST 1048576: true; the input reads as it did. -/
def backPicksUptoRow : OpenClaim := { program := "ytbpgebfejebmlaagreatdoor", sum := "a1eca2687f4ad1c72845ada01648f0ad2c902acf478ecede105cab91bc3ab871", func := "toll/tolllaw14.BackPicks", spec := "backPicks", inPlace := ["internal/bytealg.IndexByteString", "internal/bytealg.IndexString"], unfollowed := true, recurses := true, named := ["unicode/utf8.first", "unicode/utf8.acceptRanges", "internal/bytealg.MaxLen"], apart := false, laid := [("unicode/utf8.acceptRanges", laid_unicode_utf8_acceptRanges), ("unicode/utf8.first", laid_unicode_utf8_first)], narrowed := true }
def BackPicksUptoSaid : Prop := backPicksUptoRow.holds Tryz.pinned (OpenSpec.upto backPicksSpec)

/-- 'tolllaw14.BackLets', WHERE WHAT IT READS IS OF BULK AT MOST 1048576: true; the input reads as it did. -/
def backLetsUptoRow : OpenClaim := { program := "ytbpgebfejebmlaagreatdoor", sum := "a1eca2687f4ad1c72845ada01648f0ad2c902acf478ecede105cab91bc3ab871", func := "toll/tolllaw14.BackLets", spec := "backLets", inPlace := ["internal/bytealg.IndexByteString", "internal/bytealg.IndexString"], unfollowed := true, recurses := true, named := ["unicode/utf8.first", "unicode/utf8.acceptRanges", "internal/bytealg.MaxLen"], apart := false, laid := [("unicode/utf8.acceptRanges", laid_unicode_utf8_acceptRanges), ("unicode/utf8.first", laid_unicode_utf8_first)], narrowed := true }
def BackLetsUptoSaid : Prop := backLetsUptoRow.holds Tryz.pinned (OpenSpec.upto backLetsSpec)

/-- 'tolllaw14.BackTells', WHERE WHAT IT READS IS OF BULK AT MOST 1048576: true; the input reads as it did. -/
def backTellsUptoRow : OpenClaim := { program := "ytbpgebfejebmlaagreatdoor", sum := "a1eca2687f4ad1c72845ada01648f0ad2c902acf478ecede105cab91bc3ab871", func := "toll/tolllaw14.BackTells", spec := "backTells", inPlace := ["internal/bytealg.IndexByteString", "internal/bytealg.IndexString"], unfollowed := true, recurses := true, named := ["unicode/utf8.first", "unicode/utf8.acceptRanges", "internal/bytealg.MaxLen"], apart := false, laid := [("unicode/utf8.acceptRanges", laid_unicode_utf8_acceptRanges), ("unicode/utf8.first", laid_unicode_utf8_first)], narrowed := true }
def BackTellsUptoSaid : Prop := backTellsUptoRow.holds Tryz.pinned (OpenSpec.upto backTellsSpec)

/-- 'tolllaw14.BackEach', WHERE WHAT IT READS IS OF BULK AT MOST 1048576: true; the input reads as it did. -/
def backEachUptoRow : OpenClaim := { program := "ytbpgebfejebmlaagreatdoor", sum := "a1eca2687f4ad1c72845ada01648f0ad2c902acf478ecede105cab91bc3ab871", func := "toll/tolllaw14.BackEach", spec := "backEach", inPlace := ["internal/bytealg.IndexByteString", "internal/bytealg.IndexString"], unfollowed := true, recurses := true, named := ["unicode/utf8.first", "unicode/utf8.acceptRanges", "internal/bytealg.MaxLen"], apart := false, laid := [("unicode/utf8.acceptRanges", laid_unicode_utf8_acceptRanges), ("unicode/utf8.first", laid_unicode_utf8_first)], narrowed := true }
def BackEachUptoSaid : Prop := backEachUptoRow.holds Tryz.pinned (OpenSpec.upto backEachSpec)

end Rows
end Go.Proofs.YtbpgebfejebmlaaGreatDoor
