/-
  NARROWER THAN 'FOR EVERY INPUT', by the rows' own cells (each row's printed sentence says how): LoglineFields: laid · LoglineOrder: laid · LoglineEntries: laid · LoglineInsert: laid · LoglineInserts: laid.
  DERIVED. THE GIVEN ROWS OF THIS SEAT. 5 by the template 'for every input the law returns true; each argument reads behind the call as it read before'; 0 by the template 'total and deterministic' (their statements: YtfdmdcpopmcmcaaGreatDoorTotals.lean).
  GIVEN WITH THE SEED: the statements are not yours to turn. If you find one false, say at which input.
  Laid BY PROGRAM, IN A SANDBOX (cutbox-rows.mjs): the forced cells as the released guide's own fill.sh prints them over the translation f60709fd3c6332a3… (all of the seat's roots in one cut). By AI agents, Wed Nov 11 2026. No macro, syntax, notation, axiom, sorry.
-/
import Derived.Test.YtfdmdcpopmcmcaaGreatDoorChecked
import GoSem.PinnedTables
import GoSem.Claim
import GoSem.ClaimJoined
import GoSem.ClaimMapViews
import Derived.JoinedTies
import Derived.KernelRfl
namespace Go.Proofs.YtfdmdcpopmcmcaaGreatDoor
/- THE CELL 'sum', in the pinned program and in every row, IS THE sha256 OF THE DUMP (.gsa) THAT YtfdmdcpopmcmcaaGreatDoorProg.lean LOADS. Nothing in Lean hashes anything: it is a label: what it is worth is what the hold of that sum in a sandbox is worth. -/
noncomputable def Tryz.pinned : Pinned := { name := "ytfdmdcpopmcmcaagreatdoor", sum := "f60709fd3c6332a3457c22da8e95c45d2f9044cdff07a9cb4da70a0612166831", checked := Tryz.checked }
namespace Rows
def none {H : Type} : Left H := { results := [], args := [] }

/- WHAT THE LISTED PACKAGE-LEVEL VARIABLES READ AS WHEN THE CALL BEGINS. Each datum BY PROGRAM (the guide's laid-datum.mjs) off the statement by which the dump's own 'gosem.cut.vars' lays the variable. In a bare row this is a premise. The card (YtfdmdcpopmcmcaaGreatDoorCards.lean) ties it to the program's text. -/
def laid_unicode_utf8_acceptRanges {H : Type} : DataW H := .agg [.agg [.lit (.int .u8 128), .lit (.int .u8 191)], .agg [.lit (.int .u8 160), .lit (.int .u8 191)], .agg [.lit (.int .u8 128), .lit (.int .u8 159)], .agg [.lit (.int .u8 144), .lit (.int .u8 191)], .agg [.lit (.int .u8 128), .lit (.int .u8 143)], .agg [.lit (.int .u8 0), .lit (.int .u8 0)], .agg [.lit (.int .u8 0), .lit (.int .u8 0)], .agg [.lit (.int .u8 0), .lit (.int .u8 0)], .agg [.lit (.int .u8 0), .lit (.int .u8 0)], .agg [.lit (.int .u8 0), .lit (.int .u8 0)], .agg [.lit (.int .u8 0), .lit (.int .u8 0)], .agg [.lit (.int .u8 0), .lit (.int .u8 0)], .agg [.lit (.int .u8 0), .lit (.int .u8 0)], .agg [.lit (.int .u8 0), .lit (.int .u8 0)], .agg [.lit (.int .u8 0), .lit (.int .u8 0)], .agg [.lit (.int .u8 0), .lit (.int .u8 0)]]
/-- One of Go's own tables, pinned by name: the form's constant. -/
def laid_unicode_utf8_first : DataW Unit := Go.Pinned.utf8First

/-- 'lookoutlaw14.LoglineFields': WHATEVER THE INPUT: true; the input reads as it did. -/
def loglineFieldsSpec : ChangeSpec := { name := "loglineFields", fn := fun _ => fun
  | [d1, d2] => { results := [.lit (.bool true)], args := [d1, d2] }
  | _ => none }
def loglineFieldsRow : OpenClaim := { program := "ytfdmdcpopmcmcaagreatdoor", sum := "f60709fd3c6332a3457c22da8e95c45d2f9044cdff07a9cb4da70a0612166831", func := "lookout/lookoutlaw14.LoglineFields", spec := "loglineFields", inPlace := ["internal/bytealg.IndexByteString", "internal/bytealg.IndexString"], unfollowed := true, recurses := true, named := ["unicode/utf8.first", "unicode/utf8.acceptRanges", "internal/bytealg.MaxLen"], apart := false, laid := [("unicode/utf8.acceptRanges", laid_unicode_utf8_acceptRanges), ("unicode/utf8.first", laid_unicode_utf8_first)] }
def LoglineFieldsSaid : Prop := loglineFieldsRow.holds Tryz.pinned (OpenSpec.ofChange loglineFieldsSpec)

/-- ITS FALSE NEIGHBOUR: 'it returns false'. Refute it at one input. -/
def loglineFieldsWrong : ChangeSpec := { name := "loglineFields", fn := fun _ => fun
  | [d1, d2] => { results := [.lit (.bool false)], args := [d1, d2] }
  | _ => none }
def LoglineFieldsWrongFalsely : Prop := loglineFieldsRow.holds Tryz.pinned (OpenSpec.ofChange loglineFieldsWrong)

/-- 'lookoutlaw14.LoglineOrder': WHATEVER THE INPUT: true; the input reads as it did. -/
def loglineOrderSpec : ChangeSpec := { name := "loglineOrder", fn := fun _ => fun
  | [d1, d2, d3] => { results := [.lit (.bool true)], args := [d1, d2, d3] }
  | _ => none }
def loglineOrderRow : OpenClaim := { program := "ytfdmdcpopmcmcaagreatdoor", sum := "f60709fd3c6332a3457c22da8e95c45d2f9044cdff07a9cb4da70a0612166831", func := "lookout/lookoutlaw14.LoglineOrder", spec := "loglineOrder", inPlace := ["internal/bytealg.IndexByteString", "internal/bytealg.IndexString"], unfollowed := true, recurses := true, named := ["unicode/utf8.first", "unicode/utf8.acceptRanges", "internal/bytealg.MaxLen"], apart := false, laid := [("unicode/utf8.acceptRanges", laid_unicode_utf8_acceptRanges), ("unicode/utf8.first", laid_unicode_utf8_first)] }
def LoglineOrderSaid : Prop := loglineOrderRow.holds Tryz.pinned (OpenSpec.ofChange loglineOrderSpec)

/-- ITS FALSE NEIGHBOUR: 'it returns false'. Refute it at one input. -/
def loglineOrderWrong : ChangeSpec := { name := "loglineOrder", fn := fun _ => fun
  | [d1, d2, d3] => { results := [.lit (.bool false)], args := [d1, d2, d3] }
  | _ => none }
def LoglineOrderWrongFalsely : Prop := loglineOrderRow.holds Tryz.pinned (OpenSpec.ofChange loglineOrderWrong)

/-- 'lookoutlaw14.LoglineEntries': WHATEVER THE INPUT: true; the input reads as it did. -/
def loglineEntriesSpec : ChangeSpec := { name := "loglineEntries", fn := fun _ => fun
  | [d1, d2] => { results := [.lit (.bool true)], args := [d1, d2] }
  | _ => none }
def loglineEntriesRow : OpenClaim := { program := "ytfdmdcpopmcmcaagreatdoor", sum := "f60709fd3c6332a3457c22da8e95c45d2f9044cdff07a9cb4da70a0612166831", func := "lookout/lookoutlaw14.LoglineEntries", spec := "loglineEntries", inPlace := ["internal/bytealg.IndexByteString", "internal/bytealg.IndexString"], unfollowed := true, recurses := true, named := ["unicode/utf8.first", "unicode/utf8.acceptRanges", "internal/bytealg.MaxLen"], apart := false, laid := [("unicode/utf8.acceptRanges", laid_unicode_utf8_acceptRanges), ("unicode/utf8.first", laid_unicode_utf8_first)] }
def LoglineEntriesSaid : Prop := loglineEntriesRow.holds Tryz.pinned (OpenSpec.ofChange loglineEntriesSpec)

/-- ITS FALSE NEIGHBOUR: 'it returns false'. Refute it at one input. -/
def loglineEntriesWrong : ChangeSpec := { name := "loglineEntries", fn := fun _ => fun
  | [d1, d2] => { results := [.lit (.bool false)], args := [d1, d2] }
  | _ => none }
def LoglineEntriesWrongFalsely : Prop := loglineEntriesRow.holds Tryz.pinned (OpenSpec.ofChange loglineEntriesWrong)

/-- 'lookoutlaw14.LoglineInsert': WHATEVER THE INPUT: true; the input reads as it did. -/
def loglineInsertSpec : ChangeSpec := { name := "loglineInsert", fn := fun _ => fun
  | [d1, d2] => { results := [.lit (.bool true)], args := [d1, d2] }
  | _ => none }
def loglineInsertRow : OpenClaim := { program := "ytfdmdcpopmcmcaagreatdoor", sum := "f60709fd3c6332a3457c22da8e95c45d2f9044cdff07a9cb4da70a0612166831", func := "lookout/lookoutlaw14.LoglineInsert", spec := "loglineInsert", inPlace := ["internal/bytealg.IndexByteString", "internal/bytealg.IndexString", "slices.overlaps[lookout/api.Entry]"], unfollowed := true, recurses := true, named := ["unicode/utf8.first", "unicode/utf8.acceptRanges", "internal/bytealg.MaxLen"], apart := false, laid := [("unicode/utf8.acceptRanges", laid_unicode_utf8_acceptRanges), ("unicode/utf8.first", laid_unicode_utf8_first)] }
def LoglineInsertSaid : Prop := loglineInsertRow.holds Tryz.pinned (OpenSpec.ofChange loglineInsertSpec)

/-- ITS FALSE NEIGHBOUR: 'it returns false'. Refute it at one input. -/
def loglineInsertWrong : ChangeSpec := { name := "loglineInsert", fn := fun _ => fun
  | [d1, d2] => { results := [.lit (.bool false)], args := [d1, d2] }
  | _ => none }
def LoglineInsertWrongFalsely : Prop := loglineInsertRow.holds Tryz.pinned (OpenSpec.ofChange loglineInsertWrong)

/-- 'lookoutlaw14.LoglineInserts': WHATEVER THE INPUT: true; the input reads as it did. -/
def loglineInsertsSpec : ChangeSpec := { name := "loglineInserts", fn := fun _ => fun
  | [d1, d2, d3] => { results := [.lit (.bool true)], args := [d1, d2, d3] }
  | _ => none }
def loglineInsertsRow : OpenClaim := { program := "ytfdmdcpopmcmcaagreatdoor", sum := "f60709fd3c6332a3457c22da8e95c45d2f9044cdff07a9cb4da70a0612166831", func := "lookout/lookoutlaw14.LoglineInserts", spec := "loglineInserts", inPlace := ["internal/bytealg.IndexByteString", "internal/bytealg.IndexString", "slices.overlaps[lookout/api.Entry]"], unfollowed := true, recurses := true, named := ["unicode/utf8.first", "unicode/utf8.acceptRanges", "internal/bytealg.MaxLen"], apart := false, laid := [("unicode/utf8.acceptRanges", laid_unicode_utf8_acceptRanges), ("unicode/utf8.first", laid_unicode_utf8_first)] }
def LoglineInsertsSaid : Prop := loglineInsertsRow.holds Tryz.pinned (OpenSpec.ofChange loglineInsertsSpec)

/-- ITS FALSE NEIGHBOUR: 'it returns false'. Refute it at one input. -/
def loglineInsertsWrong : ChangeSpec := { name := "loglineInserts", fn := fun _ => fun
  | [d1, d2, d3] => { results := [.lit (.bool false)], args := [d1, d2, d3] }
  | _ => none }
def LoglineInsertsWrongFalsely : Prop := loglineInsertsRow.holds Tryz.pinned (OpenSpec.ofChange loglineInsertsWrong)

/- THE SECOND FORM. 'bulk': how many values and letters a reading holds, each counted each time it is reached (what is shared counts as often as it is met; a slice's spare places count too). A statement '..UptoSaid' is the law's where the arguments, and the package variables that the reading takes, are together of bulk at most 1048576: NARROWER than '..Said'. Prove '..Said' where nothing that the law and all that it calls make is longer than what came in: it says more and counts as full. Else prove '..UptoSaid'. A law counts once. -/
mutual
def uptoBulk {H : Type} : DataW H → Nat
  | .lit (.string bytes) => bytes.length + 1
  | .lit _ => 1
  | .nil => 1
  | .ptr d => uptoBulk d + 1
  | .slice elems spare => uptoBulkAll elems + uptoBulkAll spare + 1
  | .agg parts => uptoBulkAll parts + 1
  | .iface _ d => uptoBulk d + 1
  | .map entries => uptoBulkEntries entries + 1
  | .held _ => 1
def uptoBulkAll {H : Type} : List (DataW H) → Nat
  | [] => 0
  | d :: r => uptoBulk d + uptoBulkAll r
def uptoBulkEntries {H : Type} : List (Lit × DataW H) → Nat
  | [] => 0
  | x :: r => uptoBulkEntry x + uptoBulkEntries r
def uptoBulkEntry {H : Type} : Lit × DataW H → Nat
  | (.string bytes, d) => bytes.length + uptoBulk d + 1
  | (_, d) => uptoBulk d + 1
 end
def uptoSmall : (H : Type) → List (DataW H) → Bool := fun _ ds => decide (uptoBulkAll ds ≤ 1048576)
def OpenSpec.upto (s : _root_.Go.ChangeSpec) : _root_.Go.OpenSpec := { _root_.Go.OpenSpec.ofChange s with cond := some uptoSmall }

/-- 'lookoutlaw14.LoglineFields', WHERE WHAT IT READS IS OF BULK AT MOST 1048576: true; the input reads as it did. -/
def loglineFieldsUptoRow : OpenClaim := { program := "ytfdmdcpopmcmcaagreatdoor", sum := "f60709fd3c6332a3457c22da8e95c45d2f9044cdff07a9cb4da70a0612166831", func := "lookout/lookoutlaw14.LoglineFields", spec := "loglineFields", inPlace := ["internal/bytealg.IndexByteString", "internal/bytealg.IndexString"], unfollowed := true, recurses := true, named := ["unicode/utf8.first", "unicode/utf8.acceptRanges", "internal/bytealg.MaxLen"], apart := false, laid := [("unicode/utf8.acceptRanges", laid_unicode_utf8_acceptRanges), ("unicode/utf8.first", laid_unicode_utf8_first)], narrowed := true }
def LoglineFieldsUptoSaid : Prop := loglineFieldsUptoRow.holds Tryz.pinned (OpenSpec.upto loglineFieldsSpec)

/-- 'lookoutlaw14.LoglineOrder', WHERE WHAT IT READS IS OF BULK AT MOST 1048576: true; the input reads as it did. -/
def loglineOrderUptoRow : OpenClaim := { program := "ytfdmdcpopmcmcaagreatdoor", sum := "f60709fd3c6332a3457c22da8e95c45d2f9044cdff07a9cb4da70a0612166831", func := "lookout/lookoutlaw14.LoglineOrder", spec := "loglineOrder", inPlace := ["internal/bytealg.IndexByteString", "internal/bytealg.IndexString"], unfollowed := true, recurses := true, named := ["unicode/utf8.first", "unicode/utf8.acceptRanges", "internal/bytealg.MaxLen"], apart := false, laid := [("unicode/utf8.acceptRanges", laid_unicode_utf8_acceptRanges), ("unicode/utf8.first", laid_unicode_utf8_first)], narrowed := true }
def LoglineOrderUptoSaid : Prop := loglineOrderUptoRow.holds Tryz.pinned (OpenSpec.upto loglineOrderSpec)

/-- 'lookoutlaw14.LoglineEntries', WHERE WHAT IT READS IS OF BULK AT MOST 1048576: true; the input reads as it did. -/
def loglineEntriesUptoRow : OpenClaim := { program := "ytfdmdcpopmcmcaagreatdoor", sum := "f60709fd3c6332a3457c22da8e95c45d2f9044cdff07a9cb4da70a0612166831", func := "lookout/lookoutlaw14.LoglineEntries", spec := "loglineEntries", inPlace := ["internal/bytealg.IndexByteString", "internal/bytealg.IndexString"], unfollowed := true, recurses := true, named := ["unicode/utf8.first", "unicode/utf8.acceptRanges", "internal/bytealg.MaxLen"], apart := false, laid := [("unicode/utf8.acceptRanges", laid_unicode_utf8_acceptRanges), ("unicode/utf8.first", laid_unicode_utf8_first)], narrowed := true }
def LoglineEntriesUptoSaid : Prop := loglineEntriesUptoRow.holds Tryz.pinned (OpenSpec.upto loglineEntriesSpec)

/-- 'lookoutlaw14.LoglineInsert', WHERE WHAT IT READS IS OF BULK AT MOST 1048576: true; the input reads as it did. -/
def loglineInsertUptoRow : OpenClaim := { program := "ytfdmdcpopmcmcaagreatdoor", sum := "f60709fd3c6332a3457c22da8e95c45d2f9044cdff07a9cb4da70a0612166831", func := "lookout/lookoutlaw14.LoglineInsert", spec := "loglineInsert", inPlace := ["internal/bytealg.IndexByteString", "internal/bytealg.IndexString", "slices.overlaps[lookout/api.Entry]"], unfollowed := true, recurses := true, named := ["unicode/utf8.first", "unicode/utf8.acceptRanges", "internal/bytealg.MaxLen"], apart := false, laid := [("unicode/utf8.acceptRanges", laid_unicode_utf8_acceptRanges), ("unicode/utf8.first", laid_unicode_utf8_first)], narrowed := true }
def LoglineInsertUptoSaid : Prop := loglineInsertUptoRow.holds Tryz.pinned (OpenSpec.upto loglineInsertSpec)

/-- 'lookoutlaw14.LoglineInserts', WHERE WHAT IT READS IS OF BULK AT MOST 1048576: true; the input reads as it did. -/
def loglineInsertsUptoRow : OpenClaim := { program := "ytfdmdcpopmcmcaagreatdoor", sum := "f60709fd3c6332a3457c22da8e95c45d2f9044cdff07a9cb4da70a0612166831", func := "lookout/lookoutlaw14.LoglineInserts", spec := "loglineInserts", inPlace := ["internal/bytealg.IndexByteString", "internal/bytealg.IndexString", "slices.overlaps[lookout/api.Entry]"], unfollowed := true, recurses := true, named := ["unicode/utf8.first", "unicode/utf8.acceptRanges", "internal/bytealg.MaxLen"], apart := false, laid := [("unicode/utf8.acceptRanges", laid_unicode_utf8_acceptRanges), ("unicode/utf8.first", laid_unicode_utf8_first)], narrowed := true }
def LoglineInsertsUptoSaid : Prop := loglineInsertsUptoRow.holds Tryz.pinned (OpenSpec.upto loglineInsertsSpec)

end Rows
end Go.Proofs.YtfdmdcpopmcmcaaGreatDoor
