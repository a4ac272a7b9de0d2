/-
  NARROWER THAN 'FOR EVERY INPUT', by the rows' own cells (each row's printed sentence says how): ViewsExpand: loops, laid · ViewsSubstitutes: loops, laid · ViewsExpanded: loops, laid · ViewsOrders: loops, laid · ViewsUses: loops, laid · ViewsCheck: loops, laid · ViewsSets: loops, laid · ExplainMore: loops, laid · ExplainUses: loops, laid.
  DERIVED. THE GIVEN ROWS OF THIS SEAT. 9 by the template 'for every input the law returns true; each argument reads behind the call as it read before'; 0 by the template 'total and deterministic' (their statements: YtijfihbdcdkalaaGreatDoorTotals.lean).
  GIVEN WITH THE SEED: the statements are not yours to turn. If you find one false, say at which input.
  Laid BY PROGRAM, IN A SANDBOX (cutbox-rows.mjs): the forced cells as the released guide's own fill.sh prints them over the translation 0cb9672579dd531e… (all of the seat's roots in one cut). By AI agents, Wed Nov 11 2026. No macro, syntax, notation, axiom, sorry.
-/
import Derived.Test.YtijfihbdcdkalaaGreatDoorChecked
import GoSem.Claim
import GoSem.ClaimJoined
import GoSem.ClaimMapViews
import Derived.JoinedTies
import Derived.KernelRfl
namespace Go.Proofs.YtijfihbdcdkalaaGreatDoor
/- THE CELL 'sum', in the pinned program and in every row, IS THE sha256 OF THE DUMP (.gsa) THAT YtijfihbdcdkalaaGreatDoorProg.lean LOADS. Nothing in Lean hashes anything: it is a label: what it is worth is what the hold of that sum in a sandbox is worth. -/
noncomputable def Tryz.pinned : Pinned := { name := "ytijfihbdcdkalaagreatdoor", sum := "0cb9672579dd531e76f715b4d38dba019476c72dc67e7a14ba51a9aa936ef0bd", checked := Tryz.checked }
namespace Rows
def none {H : Type} : Left H := { results := [], args := [] }

/- WHAT THE LISTED PACKAGE-LEVEL VARIABLES READ AS WHEN THE CALL BEGINS. Each datum BY PROGRAM (the guide's laid-datum.mjs) off the statement by which the dump's own 'gosem.cut.vars' lays the variable. In a bare row this is a premise. The card (YtijfihbdcdkalaaGreatDoorCards.lean) ties it to the program's text. -/
def laid_unicode_White_Space {H : Type} : DataW H := .ptr (.agg [.slice [.agg [.lit (.int .u16 9), .lit (.int .u16 13), .lit (.int .u16 1)], .agg [.lit (.int .u16 32), .lit (.int .u16 133), .lit (.int .u16 101)], .agg [.lit (.int .u16 160), .lit (.int .u16 5760), .lit (.int .u16 5600)], .agg [.lit (.int .u16 8192), .lit (.int .u16 8202), .lit (.int .u16 1)], .agg [.lit (.int .u16 8232), .lit (.int .u16 8233), .lit (.int .u16 1)], .agg [.lit (.int .u16 8239), .lit (.int .u16 8287), .lit (.int .u16 48)], .agg [.lit (.int .u16 12288), .lit (.int .u16 12288), .lit (.int .u16 1)]] [], .nil, .lit (.int .i64 2)])
def laid_strings_asciiSpace {H : Type} : DataW H := .agg [.lit (.int .u8 0), .lit (.int .u8 0), .lit (.int .u8 0), .lit (.int .u8 0), .lit (.int .u8 0), .lit (.int .u8 0), .lit (.int .u8 0), .lit (.int .u8 0), .lit (.int .u8 0), .lit (.int .u8 1), .lit (.int .u8 1), .lit (.int .u8 1), .lit (.int .u8 1), .lit (.int .u8 1), .lit (.int .u8 0), .lit (.int .u8 0), .lit (.int .u8 0), .lit (.int .u8 0), .lit (.int .u8 0), .lit (.int .u8 0), .lit (.int .u8 0), .lit (.int .u8 0), .lit (.int .u8 0), .lit (.int .u8 0), .lit (.int .u8 0), .lit (.int .u8 0), .lit (.int .u8 0), .lit (.int .u8 0), .lit (.int .u8 0), .lit (.int .u8 0), .lit (.int .u8 0), .lit (.int .u8 0), .lit (.int .u8 1), .lit (.int .u8 0), .lit (.int .u8 0), .lit (.int .u8 0), .lit (.int .u8 0), .lit (.int .u8 0), .lit (.int .u8 0), .lit (.int .u8 0), .lit (.int .u8 0), .lit (.int .u8 0), .lit (.int .u8 0), .lit (.int .u8 0), .lit (.int .u8 0), .lit (.int .u8 0), .lit (.int .u8 0), .lit (.int .u8 0), .lit (.int .u8 0), .lit (.int .u8 0), .lit (.int .u8 0), .lit (.int .u8 0), .lit (.int .u8 0), .lit (.int .u8 0), .lit (.int .u8 0), .lit (.int .u8 0), .lit (.int .u8 0), .lit (.int .u8 0), .lit (.int .u8 0), .lit (.int .u8 0), .lit (.int .u8 0), .lit (.int .u8 0), .lit (.int .u8 0), .lit (.int .u8 0), .lit (.int .u8 0), .lit (.int .u8 0), .lit (.int .u8 0), .lit (.int .u8 0), .lit (.int .u8 0), .lit (.int .u8 0), .lit (.int .u8 0), .lit (.int .u8 0), .lit (.int .u8 0), .lit (.int .u8 0), .lit (.int .u8 0), .lit (.int .u8 0), .lit (.int .u8 0), .lit (.int .u8 0), .lit (.int .u8 0), .lit (.int .u8 0), .lit (.int .u8 0), .lit (.int .u8 0), .lit (.int .u8 0), .lit (.int .u8 0), .lit (.int .u8 0), .lit (.int .u8 0), .lit (.int .u8 0), .lit (.int .u8 0), .lit (.int .u8 0), .lit (.int .u8 0), .lit (.int .u8 0), .lit (.int .u8 0), .lit (.int .u8 0), .lit (.int .u8 0), .lit (.int .u8 0), .lit (.int .u8 0), .lit (.int .u8 0), .lit (.int .u8 0), .lit (.int .u8 0), .lit (.int .u8 0), .lit (.int .u8 0), .lit (.int .u8 0), .lit (.int .u8 0), .lit (.int .u8 0), .lit (.int .u8 0), .lit (.int .u8 0), .lit (.int .u8 0), .lit (.int .u8 0), .lit (.int .u8 0), .lit (.int .u8 0), .lit (.int .u8 0), .lit (.int .u8 0), .lit (.int .u8 0), .lit (.int .u8 0), .lit (.int .u8 0), .lit (.int .u8 0), .lit (.int .u8 0), .lit (.int .u8 0), .lit (.int .u8 0), .lit (.int .u8 0), .lit (.int .u8 0), .lit (.int .u8 0), .lit (.int .u8 0), .lit (.int .u8 0), .lit (.int .u8 0), .lit (.int .u8 0), .lit (.int .u8 0), .lit (.int .u8 0), .lit (.int .u8 0), .lit (.int .u8 0), .lit (.int .u8 0), .lit (.int .u8 0), .lit (.int .u8 0), .lit (.int .u8 0), .lit (.int .u8 0), .lit (.int .u8 0), .lit (.int .u8 0), .lit (.int .u8 0), .lit (.int .u8 0), .lit (.int .u8 0), .lit (.int .u8 0), .lit (.int .u8 0), .lit (.int .u8 0), .lit (.int .u8 0), .lit (.int .u8 0), .lit (.int .u8 0), .lit (.int .u8 0), .lit (.int .u8 0), .lit (.int .u8 0), .lit (.int .u8 0), .lit (.int .u8 0), .lit (.int .u8 0), .lit (.int .u8 0), .lit (.int .u8 0), .lit (.int .u8 0), .lit (.int .u8 0), .lit (.int .u8 0), .lit (.int .u8 0), .lit (.int .u8 0), .lit (.int .u8 0), .lit (.int .u8 0), .lit (.int .u8 0), .lit (.int .u8 0), .lit (.int .u8 0), .lit (.int .u8 0), .lit (.int .u8 0), .lit (.int .u8 0), .lit (.int .u8 0), .lit (.int .u8 0), .lit (.int .u8 0), .lit (.int .u8 0), .lit (.int .u8 0), .lit (.int .u8 0), .lit (.int .u8 0), .lit (.int .u8 0), .lit (.int .u8 0), .lit (.int .u8 0), .lit (.int .u8 0), .lit (.int .u8 0), .lit (.int .u8 0), .lit (.int .u8 0), .lit (.int .u8 0), .lit (.int .u8 0), .lit (.int .u8 0), .lit (.int .u8 0), .lit (.int .u8 0), .lit (.int .u8 0), .lit (.int .u8 0), .lit (.int .u8 0), .lit (.int .u8 0), .lit (.int .u8 0), .lit (.int .u8 0), .lit (.int .u8 0), .lit (.int .u8 0), .lit (.int .u8 0), .lit (.int .u8 0), .lit (.int .u8 0), .lit (.int .u8 0), .lit (.int .u8 0), .lit (.int .u8 0), .lit (.int .u8 0), .lit (.int .u8 0), .lit (.int .u8 0), .lit (.int .u8 0), .lit (.int .u8 0), .lit (.int .u8 0), .lit (.int .u8 0), .lit (.int .u8 0), .lit (.int .u8 0), .lit (.int .u8 0), .lit (.int .u8 0), .lit (.int .u8 0), .lit (.int .u8 0), .lit (.int .u8 0), .lit (.int .u8 0), .lit (.int .u8 0), .lit (.int .u8 0), .lit (.int .u8 0), .lit (.int .u8 0), .lit (.int .u8 0), .lit (.int .u8 0), .lit (.int .u8 0), .lit (.int .u8 0), .lit (.int .u8 0), .lit (.int .u8 0), .lit (.int .u8 0), .lit (.int .u8 0), .lit (.int .u8 0), .lit (.int .u8 0), .lit (.int .u8 0), .lit (.int .u8 0), .lit (.int .u8 0), .lit (.int .u8 0), .lit (.int .u8 0), .lit (.int .u8 0), .lit (.int .u8 0), .lit (.int .u8 0), .lit (.int .u8 0), .lit (.int .u8 0), .lit (.int .u8 0), .lit (.int .u8 0), .lit (.int .u8 0), .lit (.int .u8 0), .lit (.int .u8 0), .lit (.int .u8 0), .lit (.int .u8 0), .lit (.int .u8 0), .lit (.int .u8 0), .lit (.int .u8 0), .lit (.int .u8 0), .lit (.int .u8 0), .lit (.int .u8 0), .lit (.int .u8 0), .lit (.int .u8 0), .lit (.int .u8 0), .lit (.int .u8 0)]

/-- 'lookoutlaw46.ViewsExpand': WHATEVER THE INPUT: true; the input reads as it did. -/
def viewsExpandSpec : ChangeSpec := { name := "viewsExpand", fn := fun _ => fun
  | [d1, d2] => { results := [.lit (.bool true)], args := [d1, d2] }
  | _ => none }
def viewsExpandRow : OpenClaim := { program := "ytijfihbdcdkalaagreatdoor", sum := "0cb9672579dd531e76f715b4d38dba019476c72dc67e7a14ba51a9aa936ef0bd", func := "lookout/lookoutlaw46.ViewsExpand", spec := "viewsExpand", inPlace := ["internal/bytealg.IndexByteString"], unfollowed := true, recurses := true, named := ["strings.asciiSpace", "unicode.White_Space"], loops := true, apart := false, laid := [("unicode.White_Space", laid_unicode_White_Space), ("strings.asciiSpace", laid_strings_asciiSpace)] }
def ViewsExpandSaid : Prop := viewsExpandRow.holds Tryz.pinned (OpenSpec.ofChange viewsExpandSpec)

/-- ITS FALSE NEIGHBOUR: 'it returns false'. Refute it at one input. -/
def viewsExpandWrong : ChangeSpec := { name := "viewsExpand", fn := fun _ => fun
  | [d1, d2] => { results := [.lit (.bool false)], args := [d1, d2] }
  | _ => none }
def ViewsExpandWrongFalsely : Prop := viewsExpandRow.holds Tryz.pinned (OpenSpec.ofChange viewsExpandWrong)

/-- 'lookoutlaw46.ViewsSubstitutes': WHATEVER THE INPUT: true; the input reads as it did. -/
def viewsSubstitutesSpec : ChangeSpec := { name := "viewsSubstitutes", fn := fun _ => fun
  | [d1, d2] => { results := [.lit (.bool true)], args := [d1, d2] }
  | _ => none }
def viewsSubstitutesRow : OpenClaim := { program := "ytijfihbdcdkalaagreatdoor", sum := "0cb9672579dd531e76f715b4d38dba019476c72dc67e7a14ba51a9aa936ef0bd", func := "lookout/lookoutlaw46.ViewsSubstitutes", spec := "viewsSubstitutes", inPlace := ["internal/bytealg.IndexByteString"], unfollowed := true, recurses := true, named := ["strings.asciiSpace", "unicode.White_Space"], loops := true, apart := false, laid := [("unicode.White_Space", laid_unicode_White_Space), ("strings.asciiSpace", laid_strings_asciiSpace)] }
def ViewsSubstitutesSaid : Prop := viewsSubstitutesRow.holds Tryz.pinned (OpenSpec.ofChange viewsSubstitutesSpec)

/-- ITS FALSE NEIGHBOUR: 'it returns false'. Refute it at one input. -/
def viewsSubstitutesWrong : ChangeSpec := { name := "viewsSubstitutes", fn := fun _ => fun
  | [d1, d2] => { results := [.lit (.bool false)], args := [d1, d2] }
  | _ => none }
def ViewsSubstitutesWrongFalsely : Prop := viewsSubstitutesRow.holds Tryz.pinned (OpenSpec.ofChange viewsSubstitutesWrong)

/-- 'lookoutlaw46.ViewsExpanded': WHATEVER THE INPUT: true; the input reads as it did. -/
def viewsExpandedSpec : ChangeSpec := { name := "viewsExpanded", fn := fun _ => fun
  | [d1, d2] => { results := [.lit (.bool true)], args := [d1, d2] }
  | _ => none }
def viewsExpandedRow : OpenClaim := { program := "ytijfihbdcdkalaagreatdoor", sum := "0cb9672579dd531e76f715b4d38dba019476c72dc67e7a14ba51a9aa936ef0bd", func := "lookout/lookoutlaw46.ViewsExpanded", spec := "viewsExpanded", inPlace := ["internal/bytealg.IndexByteString"], unfollowed := true, recurses := true, named := ["strings.asciiSpace", "unicode.White_Space"], loops := true, apart := false, laid := [("unicode.White_Space", laid_unicode_White_Space), ("strings.asciiSpace", laid_strings_asciiSpace)] }
def ViewsExpandedSaid : Prop := viewsExpandedRow.holds Tryz.pinned (OpenSpec.ofChange viewsExpandedSpec)

/-- ITS FALSE NEIGHBOUR: 'it returns false'. Refute it at one input. -/
def viewsExpandedWrong : ChangeSpec := { name := "viewsExpanded", fn := fun _ => fun
  | [d1, d2] => { results := [.lit (.bool false)], args := [d1, d2] }
  | _ => none }
def ViewsExpandedWrongFalsely : Prop := viewsExpandedRow.holds Tryz.pinned (OpenSpec.ofChange viewsExpandedWrong)

/-- 'lookoutlaw46.ViewsOrders': WHATEVER THE INPUT: true; the input reads as it did. -/
def viewsOrdersSpec : ChangeSpec := { name := "viewsOrders", fn := fun _ => fun
  | [d] => { results := [.lit (.bool true)], args := [d] }
  | _ => none }
def viewsOrdersRow : OpenClaim := { program := "ytijfihbdcdkalaagreatdoor", sum := "0cb9672579dd531e76f715b4d38dba019476c72dc67e7a14ba51a9aa936ef0bd", func := "lookout/lookoutlaw46.ViewsOrders", spec := "viewsOrders", inPlace := ["internal/bytealg.IndexByteString"], unfollowed := true, recurses := true, named := ["strings.asciiSpace", "unicode.White_Space"], loops := true, apart := false, laid := [("unicode.White_Space", laid_unicode_White_Space), ("strings.asciiSpace", laid_strings_asciiSpace)] }
def ViewsOrdersSaid : Prop := viewsOrdersRow.holds Tryz.pinned (OpenSpec.ofChange viewsOrdersSpec)

/-- ITS FALSE NEIGHBOUR: 'it returns false'. Refute it at one input. -/
def viewsOrdersWrong : ChangeSpec := { name := "viewsOrders", fn := fun _ => fun
  | [d] => { results := [.lit (.bool false)], args := [d] }
  | _ => none }
def ViewsOrdersWrongFalsely : Prop := viewsOrdersRow.holds Tryz.pinned (OpenSpec.ofChange viewsOrdersWrong)

/-- 'lookoutlaw46.ViewsUses': WHATEVER THE INPUT: true; the input reads as it did. -/
def viewsUsesSpec : ChangeSpec := { name := "viewsUses", fn := fun _ => fun
  | [d1, d2] => { results := [.lit (.bool true)], args := [d1, d2] }
  | _ => none }
def viewsUsesRow : OpenClaim := { program := "ytijfihbdcdkalaagreatdoor", sum := "0cb9672579dd531e76f715b4d38dba019476c72dc67e7a14ba51a9aa936ef0bd", func := "lookout/lookoutlaw46.ViewsUses", spec := "viewsUses", inPlace := ["internal/bytealg.IndexByteString"], unfollowed := true, recurses := true, named := ["strings.asciiSpace", "unicode.White_Space"], loops := true, apart := false, laid := [("unicode.White_Space", laid_unicode_White_Space), ("strings.asciiSpace", laid_strings_asciiSpace)] }
def ViewsUsesSaid : Prop := viewsUsesRow.holds Tryz.pinned (OpenSpec.ofChange viewsUsesSpec)

/-- ITS FALSE NEIGHBOUR: 'it returns false'. Refute it at one input. -/
def viewsUsesWrong : ChangeSpec := { name := "viewsUses", fn := fun _ => fun
  | [d1, d2] => { results := [.lit (.bool false)], args := [d1, d2] }
  | _ => none }
def ViewsUsesWrongFalsely : Prop := viewsUsesRow.holds Tryz.pinned (OpenSpec.ofChange viewsUsesWrong)

/-- 'lookoutlaw46.ViewsCheck': WHATEVER THE INPUT: true; the input reads as it did. -/
def viewsCheckSpec : ChangeSpec := { name := "viewsCheck", fn := fun _ => fun
  | [d1, d2] => { results := [.lit (.bool true)], args := [d1, d2] }
  | _ => none }
def viewsCheckRow : OpenClaim := { program := "ytijfihbdcdkalaagreatdoor", sum := "0cb9672579dd531e76f715b4d38dba019476c72dc67e7a14ba51a9aa936ef0bd", func := "lookout/lookoutlaw46.ViewsCheck", spec := "viewsCheck", inPlace := ["internal/bytealg.IndexByteString", "internal/bytealg.abigen_runtime_cmpstring", "slices.overlaps[lookout/api.View]"], unfollowed := true, recurses := true, named := ["strings.asciiSpace", "unicode.White_Space"], loops := true, apart := false, laid := [("unicode.White_Space", laid_unicode_White_Space), ("strings.asciiSpace", laid_strings_asciiSpace)] }
def ViewsCheckSaid : Prop := viewsCheckRow.holds Tryz.pinned (OpenSpec.ofChange viewsCheckSpec)

/-- ITS FALSE NEIGHBOUR: 'it returns false'. Refute it at one input. -/
def viewsCheckWrong : ChangeSpec := { name := "viewsCheck", fn := fun _ => fun
  | [d1, d2] => { results := [.lit (.bool false)], args := [d1, d2] }
  | _ => none }
def ViewsCheckWrongFalsely : Prop := viewsCheckRow.holds Tryz.pinned (OpenSpec.ofChange viewsCheckWrong)

/-- 'lookoutlaw46.ViewsSets': WHATEVER THE INPUT: true; the input reads as it did. -/
def viewsSetsSpec : ChangeSpec := { name := "viewsSets", fn := fun _ => fun
  | [d1, d2, d3] => { results := [.lit (.bool true)], args := [d1, d2, d3] }
  | _ => none }
def viewsSetsRow : OpenClaim := { program := "ytijfihbdcdkalaagreatdoor", sum := "0cb9672579dd531e76f715b4d38dba019476c72dc67e7a14ba51a9aa936ef0bd", func := "lookout/lookoutlaw46.ViewsSets", spec := "viewsSets", inPlace := ["internal/bytealg.IndexByteString", "internal/bytealg.abigen_runtime_cmpstring", "slices.overlaps[lookout/api.View]"], unfollowed := true, recurses := true, named := ["strings.asciiSpace", "unicode.White_Space"], loops := true, apart := false, laid := [("unicode.White_Space", laid_unicode_White_Space), ("strings.asciiSpace", laid_strings_asciiSpace)] }
def ViewsSetsSaid : Prop := viewsSetsRow.holds Tryz.pinned (OpenSpec.ofChange viewsSetsSpec)

/-- ITS FALSE NEIGHBOUR: 'it returns false'. Refute it at one input. -/
def viewsSetsWrong : ChangeSpec := { name := "viewsSets", fn := fun _ => fun
  | [d1, d2, d3] => { results := [.lit (.bool false)], args := [d1, d2, d3] }
  | _ => none }
def ViewsSetsWrongFalsely : Prop := viewsSetsRow.holds Tryz.pinned (OpenSpec.ofChange viewsSetsWrong)

/-- 'lookoutlaw58.ExplainMore': WHATEVER THE INPUT: true; the input reads as it did. -/
def explainMoreSpec : ChangeSpec := { name := "explainMore", fn := fun _ => fun
  | [d1, d2, d3, d4, d5] => { results := [.lit (.bool true)], args := [d1, d2, d3, d4, d5] }
  | _ => none }
def explainMoreRow : OpenClaim := { program := "ytijfihbdcdkalaagreatdoor", sum := "0cb9672579dd531e76f715b4d38dba019476c72dc67e7a14ba51a9aa936ef0bd", func := "lookout/lookoutlaw58.ExplainMore", spec := "explainMore", inPlace := ["internal/bytealg.IndexByteString"], unfollowed := true, recurses := true, named := ["strings.asciiSpace", "unicode.White_Space"], loops := true, apart := false, laid := [("unicode.White_Space", laid_unicode_White_Space), ("strings.asciiSpace", laid_strings_asciiSpace)] }
def ExplainMoreSaid : Prop := explainMoreRow.holds Tryz.pinned (OpenSpec.ofChange explainMoreSpec)

/-- ITS FALSE NEIGHBOUR: 'it returns false'. Refute it at one input. -/
def explainMoreWrong : ChangeSpec := { name := "explainMore", fn := fun _ => fun
  | [d1, d2, d3, d4, d5] => { results := [.lit (.bool false)], args := [d1, d2, d3, d4, d5] }
  | _ => none }
def ExplainMoreWrongFalsely : Prop := explainMoreRow.holds Tryz.pinned (OpenSpec.ofChange explainMoreWrong)

/-- 'lookoutlaw58.ExplainUses': WHATEVER THE INPUT: true; the input reads as it did. -/
def explainUsesSpec : ChangeSpec := { name := "explainUses", fn := fun _ => fun
  | [d1, d2, d3, d4, d5] => { results := [.lit (.bool true)], args := [d1, d2, d3, d4, d5] }
  | _ => none }
def explainUsesRow : OpenClaim := { program := "ytijfihbdcdkalaagreatdoor", sum := "0cb9672579dd531e76f715b4d38dba019476c72dc67e7a14ba51a9aa936ef0bd", func := "lookout/lookoutlaw58.ExplainUses", spec := "explainUses", inPlace := ["internal/bytealg.IndexByteString"], unfollowed := true, recurses := true, named := ["strings.asciiSpace", "unicode.White_Space"], loops := true, apart := false, laid := [("unicode.White_Space", laid_unicode_White_Space), ("strings.asciiSpace", laid_strings_asciiSpace)] }
def ExplainUsesSaid : Prop := explainUsesRow.holds Tryz.pinned (OpenSpec.ofChange explainUsesSpec)

/-- ITS FALSE NEIGHBOUR: 'it returns false'. Refute it at one input. -/
def explainUsesWrong : ChangeSpec := { name := "explainUses", fn := fun _ => fun
  | [d1, d2, d3, d4, d5] => { results := [.lit (.bool false)], args := [d1, d2, d3, d4, d5] }
  | _ => none }
def ExplainUsesWrongFalsely : Prop := explainUsesRow.holds Tryz.pinned (OpenSpec.ofChange explainUsesWrong)

/- THE SECOND FORM. 'bulk': how many values and letters a reading holds, each counted each time it is reached (what is shared counts as often as it is met; a slice's spare places count too). A statement '..UptoSaid' is the law's where the arguments, and the package variables that the reading takes, are together of bulk at most 1048576: NARROWER than '..Said'. Prove '..Said' where nothing that the law and all that it calls make is longer than what came in: it says more and counts as full. Else prove '..UptoSaid'. A law counts once. -/
mutual
def uptoBulk {H : Type} : DataW H → Nat
  | .lit (.string bytes) => bytes.length + 1
  | .lit _ => 1
  | .nil => 1
  | .ptr d => uptoBulk d + 1
  | .slice elems spare => uptoBulkAll elems + uptoBulkAll spare + 1
  | .agg parts => uptoBulkAll parts + 1
  | .iface _ d => uptoBulk d + 1
  | .map entries => uptoBulkEntries entries + 1
  | .held _ => 1
def uptoBulkAll {H : Type} : List (DataW H) → Nat
  | [] => 0
  | d :: r => uptoBulk d + uptoBulkAll r
def uptoBulkEntries {H : Type} : List (Lit × DataW H) → Nat
  | [] => 0
  | x :: r => uptoBulkEntry x + uptoBulkEntries r
def uptoBulkEntry {H : Type} : Lit × DataW H → Nat
  | (.string bytes, d) => bytes.length + uptoBulk d + 1
  | (_, d) => uptoBulk d + 1
 end
def uptoSmall : (H : Type) → List (DataW H) → Bool := fun _ ds => decide (uptoBulkAll ds ≤ 1048576)
def OpenSpec.upto (s : _root_.Go.ChangeSpec) : _root_.Go.OpenSpec := { _root_.Go.OpenSpec.ofChange s with cond := some uptoSmall }

/-- 'lookoutlaw46.ViewsExpand', WHERE WHAT IT READS IS OF BULK AT MOST 1048576: true; the input reads as it did. -/
def viewsExpandUptoRow : OpenClaim := { program := "ytijfihbdcdkalaagreatdoor", sum := "0cb9672579dd531e76f715b4d38dba019476c72dc67e7a14ba51a9aa936ef0bd", func := "lookout/lookoutlaw46.ViewsExpand", spec := "viewsExpand", inPlace := ["internal/bytealg.IndexByteString"], unfollowed := true, recurses := true, named := ["strings.asciiSpace", "unicode.White_Space"], loops := true, apart := false, laid := [("unicode.White_Space", laid_unicode_White_Space), ("strings.asciiSpace", laid_strings_asciiSpace)], narrowed := true }
def ViewsExpandUptoSaid : Prop := viewsExpandUptoRow.holds Tryz.pinned (OpenSpec.upto viewsExpandSpec)

/-- 'lookoutlaw46.ViewsSubstitutes', WHERE WHAT IT READS IS OF BULK AT MOST 1048576: true; the input reads as it did. -/
def viewsSubstitutesUptoRow : OpenClaim := { program := "ytijfihbdcdkalaagreatdoor", sum := "0cb9672579dd531e76f715b4d38dba019476c72dc67e7a14ba51a9aa936ef0bd", func := "lookout/lookoutlaw46.ViewsSubstitutes", spec := "viewsSubstitutes", inPlace := ["internal/bytealg.IndexByteString"], unfollowed := true, recurses := true, named := ["strings.asciiSpace", "unicode.White_Space"], loops := true, apart := false, laid := [("unicode.White_Space", laid_unicode_White_Space), ("strings.asciiSpace", laid_strings_asciiSpace)], narrowed := true }
def ViewsSubstitutesUptoSaid : Prop := viewsSubstitutesUptoRow.holds Tryz.pinned (OpenSpec.upto viewsSubstitutesSpec)

/-- 'lookoutlaw46.ViewsExpanded', WHERE WHAT IT READS IS OF BULK AT MOST 1048576: true; the input reads as it did. -/
def viewsExpandedUptoRow : OpenClaim := { program := "ytijfihbdcdkalaagreatdoor", sum := "0cb9672579dd531e76f715b4d38dba019476c72dc67e7a14ba51a9aa936ef0bd", func := "lookout/lookoutlaw46.ViewsExpanded", spec := "viewsExpanded", inPlace := ["internal/bytealg.IndexByteString"], unfollowed := true, recurses := true, named := ["strings.asciiSpace", "unicode.White_Space"], loops := true, apart := false, laid := [("unicode.White_Space", laid_unicode_White_Space), ("strings.asciiSpace", laid_strings_asciiSpace)], narrowed := true }
def ViewsExpandedUptoSaid : Prop := viewsExpandedUptoRow.holds Tryz.pinned (OpenSpec.upto viewsExpandedSpec)

/-- 'lookoutlaw46.ViewsOrders', WHERE WHAT IT READS IS OF BULK AT MOST 1048576: true; the input reads as it did. -/
def viewsOrdersUptoRow : OpenClaim := { program := "ytijfihbdcdkalaagreatdoor", sum := "0cb9672579dd531e76f715b4d38dba019476c72dc67e7a14ba51a9aa936ef0bd", func := "lookout/lookoutlaw46.ViewsOrders", spec := "viewsOrders", inPlace := ["internal/bytealg.IndexByteString"], unfollowed := true, recurses := true, named := ["strings.asciiSpace", "unicode.White_Space"], loops := true, apart := false, laid := [("unicode.White_Space", laid_unicode_White_Space), ("strings.asciiSpace", laid_strings_asciiSpace)], narrowed := true }
def ViewsOrdersUptoSaid : Prop := viewsOrdersUptoRow.holds Tryz.pinned (OpenSpec.upto viewsOrdersSpec)

/-- 'lookoutlaw46.ViewsUses', WHERE WHAT IT READS IS OF BULK AT MOST 1048576: true; the input reads as it did. -/
def viewsUsesUptoRow : OpenClaim := { program := "ytijfihbdcdkalaagreatdoor", sum := "0cb9672579dd531e76f715b4d38dba019476c72dc67e7a14ba51a9aa936ef0bd", func := "lookout/lookoutlaw46.ViewsUses", spec := "viewsUses", inPlace := ["internal/bytealg.IndexByteString"], unfollowed := true, recurses := true, named := ["strings.asciiSpace", "unicode.White_Space"], loops := true, apart := false, laid := [("unicode.White_Space", laid_unicode_White_Space), ("strings.asciiSpace", laid_strings_asciiSpace)], narrowed := true }
def ViewsUsesUptoSaid : Prop := viewsUsesUptoRow.holds Tryz.pinned (OpenSpec.upto viewsUsesSpec)

/-- 'lookoutlaw46.ViewsCheck', WHERE WHAT IT READS IS OF BULK AT MOST 1048576: true; the input reads as it did. -/
def viewsCheckUptoRow : OpenClaim := { program := "ytijfihbdcdkalaagreatdoor", sum := "0cb9672579dd531e76f715b4d38dba019476c72dc67e7a14ba51a9aa936ef0bd", func := "lookout/lookoutlaw46.ViewsCheck", spec := "viewsCheck", inPlace := ["internal/bytealg.IndexByteString", "internal/bytealg.abigen_runtime_cmpstring", "slices.overlaps[lookout/api.View]"], unfollowed := true, recurses := true, named := ["strings.asciiSpace", "unicode.White_Space"], loops := true, apart := false, laid := [("unicode.White_Space", laid_unicode_White_Space), ("strings.asciiSpace", laid_strings_asciiSpace)], narrowed := true }
def ViewsCheckUptoSaid : Prop := viewsCheckUptoRow.holds Tryz.pinned (OpenSpec.upto viewsCheckSpec)

/-- 'lookoutlaw46.ViewsSets', WHERE WHAT IT READS IS OF BULK AT MOST 1048576: true; the input reads as it did. -/
def viewsSetsUptoRow : OpenClaim := { program := "ytijfihbdcdkalaagreatdoor", sum := "0cb9672579dd531e76f715b4d38dba019476c72dc67e7a14ba51a9aa936ef0bd", func := "lookout/lookoutlaw46.ViewsSets", spec := "viewsSets", inPlace := ["internal/bytealg.IndexByteString", "internal/bytealg.abigen_runtime_cmpstring", "slices.overlaps[lookout/api.View]"], unfollowed := true, recurses := true, named := ["strings.asciiSpace", "unicode.White_Space"], loops := true, apart := false, laid := [("unicode.White_Space", laid_unicode_White_Space), ("strings.asciiSpace", laid_strings_asciiSpace)], narrowed := true }
def ViewsSetsUptoSaid : Prop := viewsSetsUptoRow.holds Tryz.pinned (OpenSpec.upto viewsSetsSpec)

/-- 'lookoutlaw58.ExplainMore', WHERE WHAT IT READS IS OF BULK AT MOST 1048576: true; the input reads as it did. -/
def explainMoreUptoRow : OpenClaim := { program := "ytijfihbdcdkalaagreatdoor", sum := "0cb9672579dd531e76f715b4d38dba019476c72dc67e7a14ba51a9aa936ef0bd", func := "lookout/lookoutlaw58.ExplainMore", spec := "explainMore", inPlace := ["internal/bytealg.IndexByteString"], unfollowed := true, recurses := true, named := ["strings.asciiSpace", "unicode.White_Space"], loops := true, apart := false, laid := [("unicode.White_Space", laid_unicode_White_Space), ("strings.asciiSpace", laid_strings_asciiSpace)], narrowed := true }
def ExplainMoreUptoSaid : Prop := explainMoreUptoRow.holds Tryz.pinned (OpenSpec.upto explainMoreSpec)

/-- 'lookoutlaw58.ExplainUses', WHERE WHAT IT READS IS OF BULK AT MOST 1048576: true; the input reads as it did. -/
def explainUsesUptoRow : OpenClaim := { program := "ytijfihbdcdkalaagreatdoor", sum := "0cb9672579dd531e76f715b4d38dba019476c72dc67e7a14ba51a9aa936ef0bd", func := "lookout/lookoutlaw58.ExplainUses", spec := "explainUses", inPlace := ["internal/bytealg.IndexByteString"], unfollowed := true, recurses := true, named := ["strings.asciiSpace", "unicode.White_Space"], loops := true, apart := false, laid := [("unicode.White_Space", laid_unicode_White_Space), ("strings.asciiSpace", laid_strings_asciiSpace)], narrowed := true }
def ExplainUsesUptoSaid : Prop := explainUsesUptoRow.holds Tryz.pinned (OpenSpec.upto explainUsesSpec)

end Rows
end Go.Proofs.YtijfihbdcdkalaaGreatDoor
