/-
  NARROWER THAN 'FOR EVERY INPUT', by the rows' own cells (each row's printed sentence says how): LogpipeTerms: laid · LogpipeKeeps: laid · LogpipeSound: laid · LogpipeComposes: laid · LogpipeFilters: laid · LogpipeRun: laid.
  DERIVED. THE GIVEN ROWS OF THIS SEAT. 6 by the template 'for every input the law returns true; each argument reads behind the call as it read before'; 0 by the template 'total and deterministic' (their statements: YtmohgegpcfkooaaGreatDoorTotals.lean).
  GIVEN WITH THE SEED: the statements are not yours to turn. If you find one false, say at which input.
  Laid BY PROGRAM, IN A SANDBOX (cutbox-rows.mjs): the forced cells as the released guide's own fill.sh prints them over the translation 61890a27ea7a34e8… (all of the seat's roots in one cut). By AI agents, Wed Nov 11 2026. No macro, syntax, notation, axiom, sorry.
-/
import Derived.Test.YtmohgegpcfkooaaGreatDoorChecked
import GoSem.PinnedTables
import GoSem.Claim
import GoSem.ClaimJoined
import GoSem.ClaimMapViews
import Derived.JoinedTies
import Derived.KernelRfl
namespace Go.Proofs.YtmohgegpcfkooaaGreatDoor
/- THE CELL 'sum', in the pinned program and in every row, IS THE sha256 OF THE DUMP (.gsa) THAT YtmohgegpcfkooaaGreatDoorProg.lean LOADS. Nothing in Lean hashes anything: it is a label: what it is worth is what the hold of that sum in a sandbox is worth. -/
noncomputable def Tryz.pinned : Pinned := { name := "ytmohgegpcfkooaagreatdoor", sum := "61890a27ea7a34e8f26f35e422afa71a3582938bb4cf3b5de62ac9471cb6fbdc", checked := Tryz.checked }
namespace Rows
def none {H : Type} : Left H := { results := [], args := [] }

/- WHAT THE LISTED PACKAGE-LEVEL VARIABLES READ AS WHEN THE CALL BEGINS. Each datum BY PROGRAM (the guide's laid-datum.mjs) off the statement by which the dump's own 'gosem.cut.vars' lays the variable. In a bare row this is a premise. The card (YtmohgegpcfkooaaGreatDoorCards.lean) ties it to the program's text. -/
def laid_unicode_utf8_acceptRanges {H : Type} : DataW H := .agg [.agg [.lit (.int .u8 128), .lit (.int .u8 191)], .agg [.lit (.int .u8 160), .lit (.int .u8 191)], .agg [.lit (.int .u8 128), .lit (.int .u8 159)], .agg [.lit (.int .u8 144), .lit (.int .u8 191)], .agg [.lit (.int .u8 128), .lit (.int .u8 143)], .agg [.lit (.int .u8 0), .lit (.int .u8 0)], .agg [.lit (.int .u8 0), .lit (.int .u8 0)], .agg [.lit (.int .u8 0), .lit (.int .u8 0)], .agg [.lit (.int .u8 0), .lit (.int .u8 0)], .agg [.lit (.int .u8 0), .lit (.int .u8 0)], .agg [.lit (.int .u8 0), .lit (.int .u8 0)], .agg [.lit (.int .u8 0), .lit (.int .u8 0)], .agg [.lit (.int .u8 0), .lit (.int .u8 0)], .agg [.lit (.int .u8 0), .lit (.int .u8 0)], .agg [.lit (.int .u8 0), .lit (.int .u8 0)], .agg [.lit (.int .u8 0), .lit (.int .u8 0)]]
/-- One of Go's own tables, pinned by name: the form's constant. -/
def laid_unicode_utf8_first : DataW Unit := Go.Pinned.utf8First
def laid_math_bits_deBruijn32tab {H : Type} : DataW H := .agg [.lit (.int .u8 0), .lit (.int .u8 1), .lit (.int .u8 28), .lit (.int .u8 2), .lit (.int .u8 29), .lit (.int .u8 14), .lit (.int .u8 24), .lit (.int .u8 3), .lit (.int .u8 30), .lit (.int .u8 22), .lit (.int .u8 20), .lit (.int .u8 15), .lit (.int .u8 25), .lit (.int .u8 17), .lit (.int .u8 4), .lit (.int .u8 8), .lit (.int .u8 31), .lit (.int .u8 27), .lit (.int .u8 13), .lit (.int .u8 23), .lit (.int .u8 21), .lit (.int .u8 19), .lit (.int .u8 16), .lit (.int .u8 7), .lit (.int .u8 26), .lit (.int .u8 12), .lit (.int .u8 18), .lit (.int .u8 6), .lit (.int .u8 11), .lit (.int .u8 5), .lit (.int .u8 10), .lit (.int .u8 9)]
def laid_math_bits_deBruijn64tab {H : Type} : DataW H := .agg [.lit (.int .u8 0), .lit (.int .u8 1), .lit (.int .u8 56), .lit (.int .u8 2), .lit (.int .u8 57), .lit (.int .u8 49), .lit (.int .u8 28), .lit (.int .u8 3), .lit (.int .u8 61), .lit (.int .u8 58), .lit (.int .u8 42), .lit (.int .u8 50), .lit (.int .u8 38), .lit (.int .u8 29), .lit (.int .u8 17), .lit (.int .u8 4), .lit (.int .u8 62), .lit (.int .u8 47), .lit (.int .u8 59), .lit (.int .u8 36), .lit (.int .u8 45), .lit (.int .u8 43), .lit (.int .u8 51), .lit (.int .u8 22), .lit (.int .u8 53), .lit (.int .u8 39), .lit (.int .u8 33), .lit (.int .u8 30), .lit (.int .u8 24), .lit (.int .u8 18), .lit (.int .u8 12), .lit (.int .u8 5), .lit (.int .u8 63), .lit (.int .u8 55), .lit (.int .u8 48), .lit (.int .u8 27), .lit (.int .u8 60), .lit (.int .u8 41), .lit (.int .u8 37), .lit (.int .u8 16), .lit (.int .u8 46), .lit (.int .u8 35), .lit (.int .u8 44), .lit (.int .u8 21), .lit (.int .u8 52), .lit (.int .u8 32), .lit (.int .u8 23), .lit (.int .u8 11), .lit (.int .u8 54), .lit (.int .u8 26), .lit (.int .u8 40), .lit (.int .u8 15), .lit (.int .u8 34), .lit (.int .u8 20), .lit (.int .u8 31), .lit (.int .u8 10), .lit (.int .u8 25), .lit (.int .u8 14), .lit (.int .u8 19), .lit (.int .u8 9), .lit (.int .u8 13), .lit (.int .u8 8), .lit (.int .u8 7), .lit (.int .u8 6)]
def laid_internal_strconv_uint64pow10 {H : Type} : DataW H := .agg [.lit (.int .u64 1), .lit (.int .u64 10), .lit (.int .u64 100), .lit (.int .u64 1000), .lit (.int .u64 10000), .lit (.int .u64 100000), .lit (.int .u64 1000000), .lit (.int .u64 10000000), .lit (.int .u64 100000000), .lit (.int .u64 1000000000), .lit (.int .u64 10000000000), .lit (.int .u64 100000000000), .lit (.int .u64 1000000000000), .lit (.int .u64 10000000000000), .lit (.int .u64 100000000000000), .lit (.int .u64 1000000000000000), .lit (.int .u64 10000000000000000), .lit (.int .u64 100000000000000000), .lit (.int .u64 1000000000000000000), .lit (.int .u64 10000000000000000000)]
def laid_strconv_ErrRange {H : Type} : DataW H := .iface "*errors.errorString" (.ptr (.agg [.lit (.string [118, 97, 108, 117, 101, 32, 111, 117, 116, 32, 111, 102, 32, 114, 97, 110, 103, 101])]))
def laid_strconv_ErrSyntax {H : Type} : DataW H := .iface "*errors.errorString" (.ptr (.agg [.lit (.string [105, 110, 118, 97, 108, 105, 100, 32, 115, 121, 110, 116, 97, 120])]))

/-- 'lookoutlaw37.LogpipeTerms': WHATEVER THE INPUT: true; the input reads as it did. -/
def logpipeTermsSpec : ChangeSpec := { name := "logpipeTerms", fn := fun _ => fun
  | [d] => { results := [.lit (.bool true)], args := [d] }
  | _ => none }
def logpipeTermsRow : OpenClaim := { program := "ytmohgegpcfkooaagreatdoor", sum := "61890a27ea7a34e8f26f35e422afa71a3582938bb4cf3b5de62ac9471cb6fbdc", func := "lookout/lookoutlaw37.LogpipeTerms", spec := "logpipeTerms", inPlace := ["internal/bytealg.IndexByteString", "internal/bytealg.IndexString", "slices.overlaps[lookout/api.Label]"], unfollowed := true, recurses := true, named := ["internal/bytealg.MaxLen", "unicode/utf8.first", "unicode/utf8.acceptRanges"], apart := false, laid := [("unicode/utf8.acceptRanges", laid_unicode_utf8_acceptRanges), ("unicode/utf8.first", laid_unicode_utf8_first)] }
def LogpipeTermsSaid : Prop := logpipeTermsRow.holds Tryz.pinned (OpenSpec.ofChange logpipeTermsSpec)

/-- ITS FALSE NEIGHBOUR: 'it returns false'. Refute it at one input. -/
def logpipeTermsWrong : ChangeSpec := { name := "logpipeTerms", fn := fun _ => fun
  | [d] => { results := [.lit (.bool false)], args := [d] }
  | _ => none }
def LogpipeTermsWrongFalsely : Prop := logpipeTermsRow.holds Tryz.pinned (OpenSpec.ofChange logpipeTermsWrong)

/-- 'lookoutlaw37.LogpipeKeeps': WHATEVER THE INPUT: true; the input reads as it did. -/
def logpipeKeepsSpec : ChangeSpec := { name := "logpipeKeeps", fn := fun _ => fun
  | [d1, d2] => { results := [.lit (.bool true)], args := [d1, d2] }
  | _ => none }
def logpipeKeepsRow : OpenClaim := { program := "ytmohgegpcfkooaagreatdoor", sum := "61890a27ea7a34e8f26f35e422afa71a3582938bb4cf3b5de62ac9471cb6fbdc", func := "lookout/lookoutlaw37.LogpipeKeeps", spec := "logpipeKeeps", inPlace := ["internal/bytealg.IndexByteString", "internal/bytealg.IndexString", "slices.overlaps[lookout/api.Label]"], unfollowed := true, recurses := true, named := ["internal/bytealg.MaxLen", "unicode/utf8.first", "unicode/utf8.acceptRanges"], apart := false, laid := [("unicode/utf8.acceptRanges", laid_unicode_utf8_acceptRanges), ("unicode/utf8.first", laid_unicode_utf8_first)] }
def LogpipeKeepsSaid : Prop := logpipeKeepsRow.holds Tryz.pinned (OpenSpec.ofChange logpipeKeepsSpec)

/-- ITS FALSE NEIGHBOUR: 'it returns false'. Refute it at one input. -/
def logpipeKeepsWrong : ChangeSpec := { name := "logpipeKeeps", fn := fun _ => fun
  | [d1, d2] => { results := [.lit (.bool false)], args := [d1, d2] }
  | _ => none }
def LogpipeKeepsWrongFalsely : Prop := logpipeKeepsRow.holds Tryz.pinned (OpenSpec.ofChange logpipeKeepsWrong)

/-- 'lookoutlaw37.LogpipeSound': WHATEVER THE INPUT: true; the input reads as it did. -/
def logpipeSoundSpec : ChangeSpec := { name := "logpipeSound", fn := fun _ => fun
  | [d1, d2] => { results := [.lit (.bool true)], args := [d1, d2] }
  | _ => none }
def logpipeSoundRow : OpenClaim := { program := "ytmohgegpcfkooaagreatdoor", sum := "61890a27ea7a34e8f26f35e422afa71a3582938bb4cf3b5de62ac9471cb6fbdc", func := "lookout/lookoutlaw37.LogpipeSound", spec := "logpipeSound", inPlace := ["internal/bytealg.IndexByteString", "internal/bytealg.IndexString", "slices.overlaps[lookout/api.Label]"], unfollowed := true, recurses := true, named := ["internal/bytealg.MaxLen", "unicode/utf8.first", "unicode/utf8.acceptRanges"], apart := false, laid := [("unicode/utf8.acceptRanges", laid_unicode_utf8_acceptRanges), ("unicode/utf8.first", laid_unicode_utf8_first)] }
def LogpipeSoundSaid : Prop := logpipeSoundRow.holds Tryz.pinned (OpenSpec.ofChange logpipeSoundSpec)

/-- ITS FALSE NEIGHBOUR: 'it returns false'. Refute it at one input. -/
def logpipeSoundWrong : ChangeSpec := { name := "logpipeSound", fn := fun _ => fun
  | [d1, d2] => { results := [.lit (.bool false)], args := [d1, d2] }
  | _ => none }
def LogpipeSoundWrongFalsely : Prop := logpipeSoundRow.holds Tryz.pinned (OpenSpec.ofChange logpipeSoundWrong)

/-- 'lookoutlaw37.LogpipeComposes': WHATEVER THE INPUT: true; the input reads as it did. -/
def logpipeComposesSpec : ChangeSpec := { name := "logpipeComposes", fn := fun _ => fun
  | [d1, d2, d3] => { results := [.lit (.bool true)], args := [d1, d2, d3] }
  | _ => none }
def logpipeComposesRow : OpenClaim := { program := "ytmohgegpcfkooaagreatdoor", sum := "61890a27ea7a34e8f26f35e422afa71a3582938bb4cf3b5de62ac9471cb6fbdc", func := "lookout/lookoutlaw37.LogpipeComposes", spec := "logpipeComposes", inPlace := ["internal/bytealg.IndexByteString", "internal/bytealg.IndexString", "slices.overlaps[lookout/api.Label]"], unfollowed := true, recurses := true, named := ["internal/bytealg.MaxLen", "unicode/utf8.first", "unicode/utf8.acceptRanges"], apart := false, laid := [("unicode/utf8.acceptRanges", laid_unicode_utf8_acceptRanges), ("unicode/utf8.first", laid_unicode_utf8_first)] }
def LogpipeComposesSaid : Prop := logpipeComposesRow.holds Tryz.pinned (OpenSpec.ofChange logpipeComposesSpec)

/-- ITS FALSE NEIGHBOUR: 'it returns false'. Refute it at one input. -/
def logpipeComposesWrong : ChangeSpec := { name := "logpipeComposes", fn := fun _ => fun
  | [d1, d2, d3] => { results := [.lit (.bool false)], args := [d1, d2, d3] }
  | _ => none }
def LogpipeComposesWrongFalsely : Prop := logpipeComposesRow.holds Tryz.pinned (OpenSpec.ofChange logpipeComposesWrong)

/-- 'lookoutlaw37.LogpipeFilters': WHATEVER THE INPUT: true; the input reads as it did. -/
def logpipeFiltersSpec : ChangeSpec := { name := "logpipeFilters", fn := fun _ => fun
  | [d1, d2] => { results := [.lit (.bool true)], args := [d1, d2] }
  | _ => none }
def logpipeFiltersRow : OpenClaim := { program := "ytmohgegpcfkooaagreatdoor", sum := "61890a27ea7a34e8f26f35e422afa71a3582938bb4cf3b5de62ac9471cb6fbdc", func := "lookout/lookoutlaw37.LogpipeFilters", spec := "logpipeFilters", inPlace := ["internal/bytealg.IndexByteString", "internal/bytealg.IndexString", "slices.overlaps[lookout/api.Label]"], unfollowed := true, recurses := true, named := ["internal/bytealg.MaxLen", "unicode/utf8.first", "unicode/utf8.acceptRanges"], apart := false, laid := [("unicode/utf8.acceptRanges", laid_unicode_utf8_acceptRanges), ("unicode/utf8.first", laid_unicode_utf8_first)] }
def LogpipeFiltersSaid : Prop := logpipeFiltersRow.holds Tryz.pinned (OpenSpec.ofChange logpipeFiltersSpec)

/-- ITS FALSE NEIGHBOUR: 'it returns false'. Refute it at one input. -/
def logpipeFiltersWrong : ChangeSpec := { name := "logpipeFilters", fn := fun _ => fun
  | [d1, d2] => { results := [.lit (.bool false)], args := [d1, d2] }
  | _ => none }
def LogpipeFiltersWrongFalsely : Prop := logpipeFiltersRow.holds Tryz.pinned (OpenSpec.ofChange logpipeFiltersWrong)

/-- 'lookoutlaw37.LogpipeRun': WHATEVER THE INPUT: true; the input reads as it did. -/
def logpipeRunSpec : ChangeSpec := { name := "logpipeRun", fn := fun _ => fun
  | [d1, d2, d3] => { results := [.lit (.bool true)], args := [d1, d2, d3] }
  | _ => none }
def logpipeRunRow : OpenClaim := { program := "ytmohgegpcfkooaagreatdoor", sum := "61890a27ea7a34e8f26f35e422afa71a3582938bb4cf3b5de62ac9471cb6fbdc", func := "lookout/lookoutlaw37.LogpipeRun", spec := "logpipeRun", inPlace := ["internal/bytealg.IndexByteString", "internal/bytealg.IndexString", "slices.overlaps[lookout/api.Label]"], unfollowed := true, recurses := true, named := ["internal/bytealg.MaxLen", "unicode/utf8.first", "unicode/utf8.acceptRanges", "strconv.ErrSyntax", "strconv.ErrRange", "internal/strconv.uint64pow10", "math/bits.deBruijn32tab", "math/bits.deBruijn64tab"], apart := false, laid := [("math/bits.deBruijn32tab", laid_math_bits_deBruijn32tab), ("math/bits.deBruijn64tab", laid_math_bits_deBruijn64tab), ("internal/strconv.uint64pow10", laid_internal_strconv_uint64pow10), ("unicode/utf8.acceptRanges", laid_unicode_utf8_acceptRanges), ("strconv.ErrRange", laid_strconv_ErrRange), ("strconv.ErrSyntax", laid_strconv_ErrSyntax), ("unicode/utf8.first", laid_unicode_utf8_first)] }
def LogpipeRunSaid : Prop := logpipeRunRow.holds Tryz.pinned (OpenSpec.ofChange logpipeRunSpec)

/-- ITS FALSE NEIGHBOUR: 'it returns false'. Refute it at one input. -/
def logpipeRunWrong : ChangeSpec := { name := "logpipeRun", fn := fun _ => fun
  | [d1, d2, d3] => { results := [.lit (.bool false)], args := [d1, d2, d3] }
  | _ => none }
def LogpipeRunWrongFalsely : Prop := logpipeRunRow.holds Tryz.pinned (OpenSpec.ofChange logpipeRunWrong)

/- THE SECOND FORM. 'bulk': how many values and letters a reading holds, each counted each time it is reached (what is shared counts as often as it is met; a slice's spare places count too). A statement '..UptoSaid' is the law's where the arguments, and the package variables that the reading takes, are together of bulk at most 1048576: NARROWER than '..Said'. Prove '..Said' where nothing that the law and all that it calls make is longer than what came in: it says more and counts as full. Else prove '..UptoSaid'. A law counts once. -/
mutual
def uptoBulk {H : Type} : DataW H → Nat
  | .lit (.string bytes) => bytes.length + 1
  | .lit _ => 1
  | .nil => 1
  | .ptr d => uptoBulk d + 1
  | .slice elems spare => uptoBulkAll elems + uptoBulkAll spare + 1
  | .agg parts => uptoBulkAll parts + 1
  | .iface _ d => uptoBulk d + 1
  | .map entries => uptoBulkEntries entries + 1
  | .held _ => 1
def uptoBulkAll {H : Type} : List (DataW H) → Nat
  | [] => 0
  | d :: r => uptoBulk d + uptoBulkAll r
def uptoBulkEntries {H : Type} : List (Lit × DataW H) → Nat
  | [] => 0
  | x :: r => uptoBulkEntry x + uptoBulkEntries r
def uptoBulkEntry {H : Type} : Lit × DataW H → Nat
  | (.string bytes, d) => bytes.length + uptoBulk d + 1
  | (_, d) => uptoBulk d + 1
 end
def uptoSmall : (H : Type) → List (DataW H) → Bool := fun _ ds => decide (uptoBulkAll ds ≤ 1048576)
def OpenSpec.upto (s : _root_.Go.ChangeSpec) : _root_.Go.OpenSpec := { _root_.Go.OpenSpec.ofChange s with cond := some uptoSmall }

/-- 'lookoutlaw37.LogpipeTerms', WHERE WHAT IT READS IS OF BULK AT MOST 1048576: true; the input reads as it did. -/
def logpipeTermsUptoRow : OpenClaim := { program := "ytmohgegpcfkooaagreatdoor", sum := "61890a27ea7a34e8f26f35e422afa71a3582938bb4cf3b5de62ac9471cb6fbdc", func := "lookout/lookoutlaw37.LogpipeTerms", spec := "logpipeTerms", inPlace := ["internal/bytealg.IndexByteString", "internal/bytealg.IndexString", "slices.overlaps[lookout/api.Label]"], unfollowed := true, recurses := true, named := ["internal/bytealg.MaxLen", "unicode/utf8.first", "unicode/utf8.acceptRanges"], apart := false, laid := [("unicode/utf8.acceptRanges", laid_unicode_utf8_acceptRanges), ("unicode/utf8.first", laid_unicode_utf8_first)], narrowed := true }
def LogpipeTermsUptoSaid : Prop := logpipeTermsUptoRow.holds Tryz.pinned (OpenSpec.upto logpipeTermsSpec)

/-- 'lookoutlaw37.LogpipeKeeps', WHERE WHAT IT READS IS OF BULK AT MOST 1048576: true; the input reads as it did. -/
def logpipeKeepsUptoRow : OpenClaim := { program := "ytmohgegpcfkooaagreatdoor", sum := "61890a27ea7a34e8f26f35e422afa71a3582938bb4cf3b5de62ac9471cb6fbdc", func := "lookout/lookoutlaw37.LogpipeKeeps", spec := "logpipeKeeps", inPlace := ["internal/bytealg.IndexByteString", "internal/bytealg.IndexString", "slices.overlaps[lookout/api.Label]"], unfollowed := true, recurses := true, named := ["internal/bytealg.MaxLen", "unicode/utf8.first", "unicode/utf8.acceptRanges"], apart := false, laid := [("unicode/utf8.acceptRanges", laid_unicode_utf8_acceptRanges), ("unicode/utf8.first", laid_unicode_utf8_first)], narrowed := true }
def LogpipeKeepsUptoSaid : Prop := logpipeKeepsUptoRow.holds Tryz.pinned (OpenSpec.upto logpipeKeepsSpec)

/-- 'lookoutlaw37.LogpipeSound', WHERE WHAT IT READS IS OF BULK AT MOST 1048576: true; the input reads as it did. -/
def logpipeSoundUptoRow : OpenClaim := { program := "ytmohgegpcfkooaagreatdoor", sum := "61890a27ea7a34e8f26f35e422afa71a3582938bb4cf3b5de62ac9471cb6fbdc", func := "lookout/lookoutlaw37.LogpipeSound", spec := "logpipeSound", inPlace := ["internal/bytealg.IndexByteString", "internal/bytealg.IndexString", "slices.overlaps[lookout/api.Label]"], unfollowed := true, recurses := true, named := ["internal/bytealg.MaxLen", "unicode/utf8.first", "unicode/utf8.acceptRanges"], apart := false, laid := [("unicode/utf8.acceptRanges", laid_unicode_utf8_acceptRanges), ("unicode/utf8.first", laid_unicode_utf8_first)], narrowed := true }
def LogpipeSoundUptoSaid : Prop := logpipeSoundUptoRow.holds Tryz.pinned (OpenSpec.upto logpipeSoundSpec)

/-- 'lookoutlaw37.LogpipeComposes', WHERE WHAT IT READS IS OF BULK AT MOST 1048576: true; the input reads as it did. -/
def logpipeComposesUptoRow : OpenClaim := { program := "ytmohgegpcfkooaagreatdoor", sum := "61890a27ea7a34e8f26f35e422afa71a3582938bb4cf3b5de62ac9471cb6fbdc", func := "lookout/lookoutlaw37.LogpipeComposes", spec := "logpipeComposes", inPlace := ["internal/bytealg.IndexByteString", "internal/bytealg.IndexString", "slices.overlaps[lookout/api.Label]"], unfollowed := true, recurses := true, named := ["internal/bytealg.MaxLen", "unicode/utf8.first", "unicode/utf8.acceptRanges"], apart := false, laid := [("unicode/utf8.acceptRanges", laid_unicode_utf8_acceptRanges), ("unicode/utf8.first", laid_unicode_utf8_first)], narrowed := true }
def LogpipeComposesUptoSaid : Prop := logpipeComposesUptoRow.holds Tryz.pinned (OpenSpec.upto logpipeComposesSpec)

/-- 'lookoutlaw37.LogpipeFilters', WHERE WHAT IT READS IS OF BULK AT MOST 1048576: true; the input reads as it did. -/
def logpipeFiltersUptoRow : OpenClaim := { program := "ytmohgegpcfkooaagreatdoor", sum := "61890a27ea7a34e8f26f35e422afa71a3582938bb4cf3b5de62ac9471cb6fbdc", func := "lookout/lookoutlaw37.LogpipeFilters", spec := "logpipeFilters", inPlace := ["internal/bytealg.IndexByteString", "internal/bytealg.IndexString", "slices.overlaps[lookout/api.Label]"], unfollowed := true, recurses := true, named := ["internal/bytealg.MaxLen", "unicode/utf8.first", "unicode/utf8.acceptRanges"], apart := false, laid := [("unicode/utf8.acceptRanges", laid_unicode_utf8_acceptRanges), ("unicode/utf8.first", laid_unicode_utf8_first)], narrowed := true }
def LogpipeFiltersUptoSaid : Prop := logpipeFiltersUptoRow.holds Tryz.pinned (OpenSpec.upto logpipeFiltersSpec)

/-- 'lookoutlaw37.LogpipeRun', WHERE WHAT IT READS IS OF BULK AT MOST 1048576: true; the input reads as it did. -/
def logpipeRunUptoRow : OpenClaim := { program := "ytmohgegpcfkooaagreatdoor", sum := "61890a27ea7a34e8f26f35e422afa71a3582938bb4cf3b5de62ac9471cb6fbdc", func := "lookout/lookoutlaw37.LogpipeRun", spec := "logpipeRun", inPlace := ["internal/bytealg.IndexByteString", "internal/bytealg.IndexString", "slices.overlaps[lookout/api.Label]"], unfollowed := true, recurses := true, named := ["internal/bytealg.MaxLen", "unicode/utf8.first", "unicode/utf8.acceptRanges", "strconv.ErrSyntax", "strconv.ErrRange", "internal/strconv.uint64pow10", "math/bits.deBruijn32tab", "math/bits.deBruijn64tab"], apart := false, laid := [("math/bits.deBruijn32tab", laid_math_bits_deBruijn32tab), ("math/bits.deBruijn64tab", laid_math_bits_deBruijn64tab), ("internal/strconv.uint64pow10", laid_internal_strconv_uint64pow10), ("unicode/utf8.acceptRanges", laid_unicode_utf8_acceptRanges), ("strconv.ErrRange", laid_strconv_ErrRange), ("strconv.ErrSyntax", laid_strconv_ErrSyntax), ("unicode/utf8.first", laid_unicode_utf8_first)], narrowed := true }
def LogpipeRunUptoSaid : Prop := logpipeRunUptoRow.holds Tryz.pinned (OpenSpec.upto logpipeRunSpec)

end Rows
end Go.Proofs.YtmohgegpcfkooaaGreatDoor
