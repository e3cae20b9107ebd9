/-
  NARROWER THAN 'FOR EVERY INPUT', by the rows' own cells (each row's printed sentence says how): AttachAt: laid · AttachHosts: laid · AttachOne: laid · AttachOthers: laid · AttachCounts: laid · AttachSums: laid.
  DERIVED. THE GIVEN ROWS OF THIS SEAT. 6 by the template 'for every input the law returns true; each argument reads behind the call as it read before'; 0 by the template 'total and deterministic' (their statements: YtcnhcamimcpinaaGreatDoorTotals.lean).
  GIVEN WITH THE SEED: the statements are not yours to turn. If you find one false, say at which input.
  Laid BY PROGRAM, IN A SANDBOX (cutbox-rows.mjs): the forced cells as the released guide's own fill.sh prints them over the translation bf955053b84a8d10… (all of the seat's roots in one cut). By AI agents, Wed Nov 11 2026. No macro, syntax, notation, axiom, sorry.
-/
import Derived.Test.YtcnhcamimcpinaaGreatDoorChecked
import GoSem.PinnedTables
import GoSem.Claim
import GoSem.ClaimJoined
import GoSem.ClaimMapViews
import Derived.JoinedTies
import Derived.KernelRfl
namespace Go.Proofs.YtcnhcamimcpinaaGreatDoor
/- THE CELL 'sum', in the pinned program and in every row, IS THE sha256 OF THE DUMP (.gsa) THAT YtcnhcamimcpinaaGreatDoorProg.lean LOADS. Nothing in Lean hashes anything: it is a label: what it is worth is what the hold of that sum in a sandbox is worth. -/
noncomputable def Tryz.pinned : Pinned := { name := "ytcnhcamimcpinaagreatdoor", sum := "bf955053b84a8d108cd06aac10dcbd73b054a7fc0a1c7371162fa039576a9f46", checked := Tryz.checked }
namespace Rows
def none {H : Type} : Left H := { results := [], args := [] }

/- WHAT THE LISTED PACKAGE-LEVEL VARIABLES READ AS WHEN THE CALL BEGINS. Each datum BY PROGRAM (the guide's laid-datum.mjs) off the statement by which the dump's own 'gosem.cut.vars' lays the variable. In a bare row this is a premise. The card (YtcnhcamimcpinaaGreatDoorCards.lean) ties it to the program's text. -/
def laid_unicode_utf8_acceptRanges {H : Type} : DataW H := .agg [.agg [.lit (.int .u8 128), .lit (.int .u8 191)], .agg [.lit (.int .u8 160), .lit (.int .u8 191)], .agg [.lit (.int .u8 128), .lit (.int .u8 159)], .agg [.lit (.int .u8 144), .lit (.int .u8 191)], .agg [.lit (.int .u8 128), .lit (.int .u8 143)], .agg [.lit (.int .u8 0), .lit (.int .u8 0)], .agg [.lit (.int .u8 0), .lit (.int .u8 0)], .agg [.lit (.int .u8 0), .lit (.int .u8 0)], .agg [.lit (.int .u8 0), .lit (.int .u8 0)], .agg [.lit (.int .u8 0), .lit (.int .u8 0)], .agg [.lit (.int .u8 0), .lit (.int .u8 0)], .agg [.lit (.int .u8 0), .lit (.int .u8 0)], .agg [.lit (.int .u8 0), .lit (.int .u8 0)], .agg [.lit (.int .u8 0), .lit (.int .u8 0)], .agg [.lit (.int .u8 0), .lit (.int .u8 0)], .agg [.lit (.int .u8 0), .lit (.int .u8 0)]]
/-- One of Go's own tables, pinned by name: the form's constant. -/
def laid_unicode_utf8_first : DataW Unit := Go.Pinned.utf8First

/-- 'tolllaw13.AttachAt': WHATEVER THE INPUT: true; the input reads as it did. -/
def attachAtSpec : ChangeSpec := { name := "attachAt", fn := fun _ => fun
  | [d1, d2, d3] => { results := [.lit (.bool true)], args := [d1, d2, d3] }
  | _ => none }
def attachAtRow : OpenClaim := { program := "ytcnhcamimcpinaagreatdoor", sum := "bf955053b84a8d108cd06aac10dcbd73b054a7fc0a1c7371162fa039576a9f46", func := "toll/tolllaw13.AttachAt", spec := "attachAt", inPlace := ["internal/bytealg.IndexByteString", "internal/bytealg.IndexString"], unfollowed := true, recurses := true, named := ["unicode/utf8.first", "unicode/utf8.acceptRanges", "internal/bytealg.MaxLen"], apart := false, laid := [("unicode/utf8.acceptRanges", laid_unicode_utf8_acceptRanges), ("unicode/utf8.first", laid_unicode_utf8_first)] }
def AttachAtSaid : Prop := attachAtRow.holds Tryz.pinned (OpenSpec.ofChange attachAtSpec)

/-- ITS FALSE NEIGHBOUR: 'it returns false'. Refute it at one input. -/
def attachAtWrong : ChangeSpec := { name := "attachAt", fn := fun _ => fun
  | [d1, d2, d3] => { results := [.lit (.bool false)], args := [d1, d2, d3] }
  | _ => none }
def AttachAtWrongFalsely : Prop := attachAtRow.holds Tryz.pinned (OpenSpec.ofChange attachAtWrong)

/-- 'tolllaw13.AttachHosts': WHATEVER THE INPUT: true; the input reads as it did. -/
def attachHostsSpec : ChangeSpec := { name := "attachHosts", fn := fun _ => fun
  | [d1, d2] => { results := [.lit (.bool true)], args := [d1, d2] }
  | _ => none }
def attachHostsRow : OpenClaim := { program := "ytcnhcamimcpinaagreatdoor", sum := "bf955053b84a8d108cd06aac10dcbd73b054a7fc0a1c7371162fa039576a9f46", func := "toll/tolllaw13.AttachHosts", spec := "attachHosts", inPlace := ["internal/bytealg.IndexByteString", "internal/bytealg.IndexString"], unfollowed := true, recurses := true, named := ["unicode/utf8.first", "unicode/utf8.acceptRanges", "internal/bytealg.MaxLen"], apart := false, laid := [("unicode/utf8.acceptRanges", laid_unicode_utf8_acceptRanges), ("unicode/utf8.first", laid_unicode_utf8_first)] }
def AttachHostsSaid : Prop := attachHostsRow.holds Tryz.pinned (OpenSpec.ofChange attachHostsSpec)

/-- ITS FALSE NEIGHBOUR: 'it returns false'. Refute it at one input. -/
def attachHostsWrong : ChangeSpec := { name := "attachHosts", fn := fun _ => fun
  | [d1, d2] => { results := [.lit (.bool false)], args := [d1, d2] }
  | _ => none }
def AttachHostsWrongFalsely : Prop := attachHostsRow.holds Tryz.pinned (OpenSpec.ofChange attachHostsWrong)

/-- 'tolllaw13.AttachOne': WHATEVER THE INPUT: true; the input reads as it did. -/
def attachOneSpec : ChangeSpec := { name := "attachOne", fn := fun _ => fun
  | [d1, d2] => { results := [.lit (.bool true)], args := [d1, d2] }
  | _ => none }
def attachOneRow : OpenClaim := { program := "ytcnhcamimcpinaagreatdoor", sum := "bf955053b84a8d108cd06aac10dcbd73b054a7fc0a1c7371162fa039576a9f46", func := "toll/tolllaw13.AttachOne", spec := "attachOne", inPlace := ["internal/bytealg.IndexByteString", "internal/bytealg.IndexString"], unfollowed := true, recurses := true, named := ["unicode/utf8.first", "unicode/utf8.acceptRanges", "internal/bytealg.MaxLen"], apart := false, laid := [("unicode/utf8.acceptRanges", laid_unicode_utf8_acceptRanges), ("unicode/utf8.first", laid_unicode_utf8_first)] }
def AttachOneSaid : Prop := attachOneRow.holds Tryz.pinned (OpenSpec.ofChange attachOneSpec)

/-- ITS FALSE NEIGHBOUR: 'it returns false'. Refute it at one input. -/
def attachOneWrong : ChangeSpec := { name := "attachOne", fn := fun _ => fun
  | [d1, d2] => { results := [.lit (.bool false)], args := [d1, d2] }
  | _ => none }
def AttachOneWrongFalsely : Prop := attachOneRow.holds Tryz.pinned (OpenSpec.ofChange attachOneWrong)

/-- 'tolllaw13.AttachOthers': WHATEVER THE INPUT: true; the input reads as it did. -/
def attachOthersSpec : ChangeSpec := { name := "attachOthers", fn := fun _ => fun
  | [d1, d2, d3] => { results := [.lit (.bool true)], args := [d1, d2, d3] }
  | _ => none }
def attachOthersRow : OpenClaim := { program := "ytcnhcamimcpinaagreatdoor", sum := "bf955053b84a8d108cd06aac10dcbd73b054a7fc0a1c7371162fa039576a9f46", func := "toll/tolllaw13.AttachOthers", spec := "attachOthers", inPlace := ["internal/bytealg.IndexByteString", "internal/bytealg.IndexString"], unfollowed := true, recurses := true, named := ["unicode/utf8.first", "unicode/utf8.acceptRanges", "internal/bytealg.MaxLen"], apart := false, laid := [("unicode/utf8.acceptRanges", laid_unicode_utf8_acceptRanges), ("unicode/utf8.first", laid_unicode_utf8_first)] }
def AttachOthersSaid : Prop := attachOthersRow.holds Tryz.pinned (OpenSpec.ofChange attachOthersSpec)

/-- ITS FALSE NEIGHBOUR: 'it returns false'. Refute it at one input. -/
def attachOthersWrong : ChangeSpec := { name := "attachOthers", fn := fun _ => fun
  | [d1, d2, d3] => { results := [.lit (.bool false)], args := [d1, d2, d3] }
  | _ => none }
def AttachOthersWrongFalsely : Prop := attachOthersRow.holds Tryz.pinned (OpenSpec.ofChange attachOthersWrong)

/-- 'tolllaw13.AttachCounts': WHATEVER THE INPUT: true; the input reads as it did. -/
def attachCountsSpec : ChangeSpec := { name := "attachCounts", fn := fun _ => fun
  | [d1, d2, d3] => { results := [.lit (.bool true)], args := [d1, d2, d3] }
  | _ => none }
def attachCountsRow : OpenClaim := { program := "ytcnhcamimcpinaagreatdoor", sum := "bf955053b84a8d108cd06aac10dcbd73b054a7fc0a1c7371162fa039576a9f46", func := "toll/tolllaw13.AttachCounts", spec := "attachCounts", inPlace := ["internal/bytealg.IndexByteString", "internal/bytealg.IndexString"], unfollowed := true, recurses := true, named := ["unicode/utf8.first", "unicode/utf8.acceptRanges", "internal/bytealg.MaxLen"], apart := false, laid := [("unicode/utf8.acceptRanges", laid_unicode_utf8_acceptRanges), ("unicode/utf8.first", laid_unicode_utf8_first)] }
def AttachCountsSaid : Prop := attachCountsRow.holds Tryz.pinned (OpenSpec.ofChange attachCountsSpec)

/-- ITS FALSE NEIGHBOUR: 'it returns false'. Refute it at one input. -/
def attachCountsWrong : ChangeSpec := { name := "attachCounts", fn := fun _ => fun
  | [d1, d2, d3] => { results := [.lit (.bool false)], args := [d1, d2, d3] }
  | _ => none }
def AttachCountsWrongFalsely : Prop := attachCountsRow.holds Tryz.pinned (OpenSpec.ofChange attachCountsWrong)

/-- 'tolllaw13.AttachSums': WHATEVER THE INPUT: true; the input reads as it did. -/
def attachSumsSpec : ChangeSpec := { name := "attachSums", fn := fun _ => fun
  | [d1, d2] => { results := [.lit (.bool true)], args := [d1, d2] }
  | _ => none }
def attachSumsRow : OpenClaim := { program := "ytcnhcamimcpinaagreatdoor", sum := "bf955053b84a8d108cd06aac10dcbd73b054a7fc0a1c7371162fa039576a9f46", func := "toll/tolllaw13.AttachSums", spec := "attachSums", inPlace := ["internal/bytealg.IndexByteString", "internal/bytealg.IndexString"], unfollowed := true, recurses := true, named := ["unicode/utf8.first", "unicode/utf8.acceptRanges", "internal/bytealg.MaxLen"], apart := false, laid := [("unicode/utf8.acceptRanges", laid_unicode_utf8_acceptRanges), ("unicode/utf8.first", laid_unicode_utf8_first)] }
def AttachSumsSaid : Prop := attachSumsRow.holds Tryz.pinned (OpenSpec.ofChange attachSumsSpec)

/-- ITS FALSE NEIGHBOUR: 'it returns false'. Refute it at one input. -/
def attachSumsWrong : ChangeSpec := { name := "attachSums", fn := fun _ => fun
  | [d1, d2] => { results := [.lit (.bool false)], args := [d1, d2] }
  | _ => none }
def AttachSumsWrongFalsely : Prop := attachSumsRow.holds Tryz.pinned (OpenSpec.ofChange attachSumsWrong)

/- THE SECOND FORM. 'bulk': how many values and letters a reading holds, each counted each time it is reached (what is shared counts as often as it is met; a slice's spare places count too). A statement '..UptoSaid' is the law's where the arguments, and the package variables that the reading takes, are together of bulk at most 1048576: NARROWER than '..Said'. Prove '..Said' where nothing that the law and all that it calls make is longer than what came in: it says more and counts as full. Else prove '..UptoSaid'. A law counts once. -/
mutual
def uptoBulk {H : Type} : DataW H → Nat
  | .lit (.string bytes) => bytes.length + 1
  | .lit _ => 1
  | .nil => 1
  | .ptr d => uptoBulk d + 1
  | .slice elems spare => uptoBulkAll elems + uptoBulkAll spare + 1
  | .agg parts => uptoBulkAll parts + 1
  | .iface _ d => uptoBulk d + 1
  | .map entries => uptoBulkEntries entries + 1
  | .held _ => 1
def uptoBulkAll {H : Type} : List (DataW H) → Nat
  | [] => 0
  | d :: r => uptoBulk d + uptoBulkAll r
def uptoBulkEntries {H : Type} : List (Lit × DataW H) → Nat
  | [] => 0
  | x :: r => uptoBulkEntry x + uptoBulkEntries r
def uptoBulkEntry {H : Type} : Lit × DataW H → Nat
  | (.string bytes, d) => bytes.length + uptoBulk d + 1
  | (_, d) => uptoBulk d + 1
 end
def uptoSmall : (H : Type) → List (DataW H) → Bool := fun _ ds => decide (uptoBulkAll ds ≤ 1048576)
def OpenSpec.upto (s : _root_.Go.ChangeSpec) : _root_.Go.OpenSpec := { _root_.Go.OpenSpec.ofChange s with cond := some uptoSmall }

/-- 'tolllaw13.AttachAt', WHERE WHAT IT READS IS OF BULK AT MOST 1048576: true; the input reads as it did. -/
def attachAtUptoRow : OpenClaim := { program := "ytcnhcamimcpinaagreatdoor", sum := "bf955053b84a8d108cd06aac10dcbd73b054a7fc0a1c7371162fa039576a9f46", func := "toll/tolllaw13.AttachAt", spec := "attachAt", inPlace := ["internal/bytealg.IndexByteString", "internal/bytealg.IndexString"], unfollowed := true, recurses := true, named := ["unicode/utf8.first", "unicode/utf8.acceptRanges", "internal/bytealg.MaxLen"], apart := false, laid := [("unicode/utf8.acceptRanges", laid_unicode_utf8_acceptRanges), ("unicode/utf8.first", laid_unicode_utf8_first)], narrowed := true }
def AttachAtUptoSaid : Prop := attachAtUptoRow.holds Tryz.pinned (OpenSpec.upto attachAtSpec)

/-- 'tolllaw13.AttachHosts', WHERE WHAT IT READS IS OF BULK AT MOST 1048576: true; the input reads as it did. -/
def attachHostsUptoRow : OpenClaim := { program := "ytcnhcamimcpinaagreatdoor", sum := "bf955053b84a8d108cd06aac10dcbd73b054a7fc0a1c7371162fa039576a9f46", func := "toll/tolllaw13.AttachHosts", spec := "attachHosts", inPlace := ["internal/bytealg.IndexByteString", "internal/bytealg.IndexString"], unfollowed := true, recurses := true, named := ["unicode/utf8.first", "unicode/utf8.acceptRanges", "internal/bytealg.MaxLen"], apart := false, laid := [("unicode/utf8.acceptRanges", laid_unicode_utf8_acceptRanges), ("unicode/utf8.first", laid_unicode_utf8_first)], narrowed := true }
def AttachHostsUptoSaid : Prop := attachHostsUptoRow.holds Tryz.pinned (OpenSpec.upto attachHostsSpec)

/-- 'tolllaw13.AttachOne', WHERE WHAT IT READS IS OF BULK AT MOST 1048576: true; the input reads as it did. -/
def attachOneUptoRow : OpenClaim := { program := "ytcnhcamimcpinaagreatdoor", sum := "bf955053b84a8d108cd06aac10dcbd73b054a7fc0a1c7371162fa039576a9f46", func := "toll/tolllaw13.AttachOne", spec := "attachOne", inPlace := ["internal/bytealg.IndexByteString", "internal/bytealg.IndexString"], unfollowed := true, recurses := true, named := ["unicode/utf8.first", "unicode/utf8.acceptRanges", "internal/bytealg.MaxLen"], apart := false, laid := [("unicode/utf8.acceptRanges", laid_unicode_utf8_acceptRanges), ("unicode/utf8.first", laid_unicode_utf8_first)], narrowed := true }
def AttachOneUptoSaid : Prop := attachOneUptoRow.holds Tryz.pinned (OpenSpec.upto attachOneSpec)

/-- 'tolllaw13.AttachOthers', WHERE WHAT IT READS IS OF BULK AT MOST 1048576: true; the input reads as it did. -/
def attachOthersUptoRow : OpenClaim := { program := "ytcnhcamimcpinaagreatdoor", sum := "bf955053b84a8d108cd06aac10dcbd73b054a7fc0a1c7371162fa039576a9f46", func := "toll/tolllaw13.AttachOthers", spec := "attachOthers", inPlace := ["internal/bytealg.IndexByteString", "internal/bytealg.IndexString"], unfollowed := true, recurses := true, named := ["unicode/utf8.first", "unicode/utf8.acceptRanges", "internal/bytealg.MaxLen"], apart := false, laid := [("unicode/utf8.acceptRanges", laid_unicode_utf8_acceptRanges), ("unicode/utf8.first", laid_unicode_utf8_first)], narrowed := true }
def AttachOthersUptoSaid : Prop := attachOthersUptoRow.holds Tryz.pinned (OpenSpec.upto attachOthersSpec)

/-- 'tolllaw13.AttachCounts', WHERE WHAT IT READS IS OF BULK AT MOST 1048576: true; the input reads as it did. -/
def attachCountsUptoRow : OpenClaim := { program := "ytcnhcamimcpinaagreatdoor", sum := "bf955053b84a8d108cd06aac10dcbd73b054a7fc0a1c7371162fa039576a9f46", func := "toll/tolllaw13.AttachCounts", spec := "attachCounts", inPlace := ["internal/bytealg.IndexByteString", "internal/bytealg.IndexString"], unfollowed := true, recurses := true, named := ["unicode/utf8.first", "unicode/utf8.acceptRanges", "internal/bytealg.MaxLen"], apart := false, laid := [("unicode/utf8.acceptRanges", laid_unicode_utf8_acceptRanges), ("unicode/utf8.first", laid_unicode_utf8_first)], narrowed := true }
def AttachCountsUptoSaid : Prop := attachCountsUptoRow.holds Tryz.pinned (OpenSpec.upto attachCountsSpec)

/-- 'tolllaw13.AttachSums', WHERE WHAT IT READS IS OF BULK AT MOST 1048576: true; the input reads as it did. -/
def attachSumsUptoRow : OpenClaim := { program := "ytcnhcamimcpinaagreatdoor", sum := "bf955053b84a8d108cd06aac10dcbd73b054a7fc0a1c7371162fa039576a9f46", func := "toll/tolllaw13.AttachSums", spec := "attachSums", inPlace := ["internal/bytealg.IndexByteString", "internal/bytealg.IndexString"], unfollowed := true, recurses := true, named := ["unicode/utf8.first", "unicode/utf8.acceptRanges", "internal/bytealg.MaxLen"], apart := false, laid := [("unicode/utf8.acceptRanges", laid_unicode_utf8_acceptRanges), ("unicode/utf8.first", laid_unicode_utf8_first)], narrowed := true }
def AttachSumsUptoSaid : Prop := attachSumsUptoRow.holds Tryz.pinned (OpenSpec.upto attachSumsSpec)

end Rows
end Go.Proofs.YtcnhcamimcpinaaGreatDoor
