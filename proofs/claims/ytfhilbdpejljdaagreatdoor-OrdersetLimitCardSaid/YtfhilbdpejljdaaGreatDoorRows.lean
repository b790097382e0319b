/-
  NARROWER THAN 'FOR EVERY INPUT', by the rows' own cells (each row's printed sentence says how): OrdersetPairs: loops, laid · OrdersetMonotonicity: loops, laid · OrdersetMinimum: loops, laid · OrdersetLimit: loops, laid.
  DERIVED. THE GIVEN ROWS OF THIS SEAT. 4 by the template 'for every input the law returns true; each argument reads behind the call as it read before'; 0 by the template 'total and deterministic' (their statements: YtfhilbdpejljdaaGreatDoorTotals.lean).
  GIVEN WITH THE SEED: the statements are not yours to turn. If you find one false, say at which input.
  Laid BY PROGRAM, IN A SANDBOX (cutbox-rows.mjs): the forced cells as the released guide's own fill.sh prints them over the translation aea27e13db1a7e0a… (all of the seat's roots in one cut). By AI agents, Wed Nov 11 2026. No macro, syntax, notation, axiom, sorry.
-/
import Derived.Test.YtfhilbdpejljdaaGreatDoorChecked
import GoSem.PinnedTables
import GoSem.Claim
import GoSem.ClaimJoined
import GoSem.ClaimMapViews
import Derived.JoinedTies
import Derived.KernelRfl
namespace Go.Proofs.YtfhilbdpejljdaaGreatDoor
/- THE CELL 'sum', in the pinned program and in every row, IS THE sha256 OF THE DUMP (.gsa) THAT YtfhilbdpejljdaaGreatDoorProg.lean LOADS. Nothing in Lean hashes anything: it is a label: what it is worth is what the hold of that sum in a sandbox is worth. -/
noncomputable def Tryz.pinned : Pinned := { name := "ytfhilbdpejljdaagreatdoor", sum := "aea27e13db1a7e0aab459bea70ec3e94befecd60f6b3ebc16b721035717b3511", checked := Tryz.checked }
namespace Rows
def none {H : Type} : Left H := { results := [], args := [] }

/- WHAT THE LISTED PACKAGE-LEVEL VARIABLES READ AS WHEN THE CALL BEGINS. Each datum BY PROGRAM (the guide's laid-datum.mjs) off the statement by which the dump's own 'gosem.cut.vars' lays the variable. In a bare row this is a premise. The card (YtfhilbdpejljdaaGreatDoorCards.lean) ties it to the program's text. -/
def laid_unicode_utf8_acceptRanges {H : Type} : DataW H := .agg [.agg [.lit (.int .u8 128), .lit (.int .u8 191)], .agg [.lit (.int .u8 160), .lit (.int .u8 191)], .agg [.lit (.int .u8 128), .lit (.int .u8 159)], .agg [.lit (.int .u8 144), .lit (.int .u8 191)], .agg [.lit (.int .u8 128), .lit (.int .u8 143)], .agg [.lit (.int .u8 0), .lit (.int .u8 0)], .agg [.lit (.int .u8 0), .lit (.int .u8 0)], .agg [.lit (.int .u8 0), .lit (.int .u8 0)], .agg [.lit (.int .u8 0), .lit (.int .u8 0)], .agg [.lit (.int .u8 0), .lit (.int .u8 0)], .agg [.lit (.int .u8 0), .lit (.int .u8 0)], .agg [.lit (.int .u8 0), .lit (.int .u8 0)], .agg [.lit (.int .u8 0), .lit (.int .u8 0)], .agg [.lit (.int .u8 0), .lit (.int .u8 0)], .agg [.lit (.int .u8 0), .lit (.int .u8 0)], .agg [.lit (.int .u8 0), .lit (.int .u8 0)]]
def laid_pandect_unit_names {H : Type} : DataW H := .agg [.lit (.string [98, 111, 111, 107]), .lit (.string [112, 97, 114, 116]), .lit (.string [115, 101, 99, 116, 105, 111, 110]), .lit (.string [112, 97, 114, 97, 103, 114, 97, 112, 104]), .lit (.string [116, 97, 98, 108, 101]), .lit (.string [114, 111, 119]), .lit (.string [99, 101, 108, 108]), .lit (.string [110, 111, 116, 101])]
def laid_pandect_unit_below {H : Type} : DataW H := .agg [.slice [.lit (.int .i64 1), .lit (.int .i64 2)] [], .slice [.lit (.int .i64 2)] [], .slice [.lit (.int .i64 3), .lit (.int .i64 4), .lit (.int .i64 7)] [], .slice [.lit (.int .i64 3), .lit (.int .i64 4), .lit (.int .i64 7)] [], .slice [.lit (.int .i64 5)] [], .slice [.lit (.int .i64 6)] [], .nil, .nil]
def laid_pandect_syntax_order {H : Type} : DataW H := .iface "func table" (.agg [.iface "func" (.lit (.string [112, 97, 110, 100, 101, 99, 116, 47, 115, 121, 110, 116, 97, 120, 46, 111, 114, 100, 101, 114, 36, 49])), .iface "func" (.lit (.string [112, 97, 110, 100, 101, 99, 116, 47, 115, 121, 110, 116, 97, 120, 46, 111, 114, 100, 101, 114, 36, 50]))])
/-- One of Go's own tables, pinned by name: the form's constant. -/
def laid_unicode_utf8_first : DataW Unit := Go.Pinned.utf8First

/-- 'pandectlaw38.OrdersetPairs': WHATEVER THE INPUT: true; the input reads as it did. -/
def ordersetPairsSpec : ChangeSpec := { name := "ordersetPairs", fn := fun _ => fun
  | [d1, d2, d3] => { results := [.lit (.bool true)], args := [d1, d2, d3] }
  | _ => none }
def ordersetPairsRow : OpenClaim := { program := "ytfhilbdpejljdaagreatdoor", sum := "aea27e13db1a7e0aab459bea70ec3e94befecd60f6b3ebc16b721035717b3511", func := "pandect/pandectlaw38.OrdersetPairs", spec := "ordersetPairs", inPlace := ["slices.overlaps[pandect/api.Unit]", "internal/abi.NoEscape", "internal/bytealg.MakeNoZero", "internal/bytealg.IndexByteString", "internal/bytealg.IndexString"], unfollowed := true, recurses := true, named := ["pandect/unit.below", "pandect/syntax.order", "pandect/unit.names", "unicode/utf8.first", "unicode/utf8.acceptRanges", "internal/bytealg.MaxLen"], loops := true, plainKeys := false, apart := false, laid := [("unicode/utf8.acceptRanges", laid_unicode_utf8_acceptRanges), ("pandect/unit.names", laid_pandect_unit_names), ("pandect/unit.below", laid_pandect_unit_below), ("pandect/syntax.order", laid_pandect_syntax_order), ("unicode/utf8.first", laid_unicode_utf8_first)] }
def OrdersetPairsSaid : Prop := ordersetPairsRow.holds Tryz.pinned (OpenSpec.ofChange ordersetPairsSpec)

/-- ITS FALSE NEIGHBOUR: 'it returns false'. Refute it at one input. -/
def ordersetPairsWrong : ChangeSpec := { name := "ordersetPairs", fn := fun _ => fun
  | [d1, d2, d3] => { results := [.lit (.bool false)], args := [d1, d2, d3] }
  | _ => none }
def OrdersetPairsWrongFalsely : Prop := ordersetPairsRow.holds Tryz.pinned (OpenSpec.ofChange ordersetPairsWrong)

/-- 'pandectlaw38.OrdersetMonotonicity': WHATEVER THE INPUT: true; the input reads as it did. -/
def ordersetMonotonicitySpec : ChangeSpec := { name := "ordersetMonotonicity", fn := fun _ => fun
  | [d1, d2, d3, d4] => { results := [.lit (.bool true)], args := [d1, d2, d3, d4] }
  | _ => none }
def ordersetMonotonicityRow : OpenClaim := { program := "ytfhilbdpejljdaagreatdoor", sum := "aea27e13db1a7e0aab459bea70ec3e94befecd60f6b3ebc16b721035717b3511", func := "pandect/pandectlaw38.OrdersetMonotonicity", spec := "ordersetMonotonicity", inPlace := ["slices.overlaps[pandect/api.Unit]", "internal/abi.NoEscape", "internal/bytealg.MakeNoZero", "internal/bytealg.IndexByteString", "internal/bytealg.IndexString"], unfollowed := true, recurses := true, named := ["pandect/unit.below", "pandect/syntax.order", "pandect/unit.names", "unicode/utf8.first", "unicode/utf8.acceptRanges", "internal/bytealg.MaxLen"], loops := true, plainKeys := false, apart := false, laid := [("unicode/utf8.acceptRanges", laid_unicode_utf8_acceptRanges), ("pandect/unit.names", laid_pandect_unit_names), ("pandect/unit.below", laid_pandect_unit_below), ("pandect/syntax.order", laid_pandect_syntax_order), ("unicode/utf8.first", laid_unicode_utf8_first)] }
def OrdersetMonotonicitySaid : Prop := ordersetMonotonicityRow.holds Tryz.pinned (OpenSpec.ofChange ordersetMonotonicitySpec)

/-- ITS FALSE NEIGHBOUR: 'it returns false'. Refute it at one input. -/
def ordersetMonotonicityWrong : ChangeSpec := { name := "ordersetMonotonicity", fn := fun _ => fun
  | [d1, d2, d3, d4] => { results := [.lit (.bool false)], args := [d1, d2, d3, d4] }
  | _ => none }
def OrdersetMonotonicityWrongFalsely : Prop := ordersetMonotonicityRow.holds Tryz.pinned (OpenSpec.ofChange ordersetMonotonicityWrong)

/-- 'pandectlaw38.OrdersetMinimum': WHATEVER THE INPUT: true; the input reads as it did. -/
def ordersetMinimumSpec : ChangeSpec := { name := "ordersetMinimum", fn := fun _ => fun
  | [d1, d2] => { results := [.lit (.bool true)], args := [d1, d2] }
  | _ => none }
def ordersetMinimumRow : OpenClaim := { program := "ytfhilbdpejljdaagreatdoor", sum := "aea27e13db1a7e0aab459bea70ec3e94befecd60f6b3ebc16b721035717b3511", func := "pandect/pandectlaw38.OrdersetMinimum", spec := "ordersetMinimum", inPlace := ["slices.overlaps[pandect/api.Unit]", "internal/abi.NoEscape", "internal/bytealg.MakeNoZero", "internal/bytealg.IndexByteString", "internal/bytealg.IndexString"], unfollowed := true, recurses := true, named := ["pandect/unit.below", "pandect/syntax.order", "pandect/unit.names", "unicode/utf8.first", "unicode/utf8.acceptRanges", "internal/bytealg.MaxLen"], loops := true, plainKeys := false, apart := false, laid := [("unicode/utf8.acceptRanges", laid_unicode_utf8_acceptRanges), ("pandect/unit.names", laid_pandect_unit_names), ("pandect/unit.below", laid_pandect_unit_below), ("pandect/syntax.order", laid_pandect_syntax_order), ("unicode/utf8.first", laid_unicode_utf8_first)] }
def OrdersetMinimumSaid : Prop := ordersetMinimumRow.holds Tryz.pinned (OpenSpec.ofChange ordersetMinimumSpec)

/-- ITS FALSE NEIGHBOUR: 'it returns false'. Refute it at one input. -/
def ordersetMinimumWrong : ChangeSpec := { name := "ordersetMinimum", fn := fun _ => fun
  | [d1, d2] => { results := [.lit (.bool false)], args := [d1, d2] }
  | _ => none }
def OrdersetMinimumWrongFalsely : Prop := ordersetMinimumRow.holds Tryz.pinned (OpenSpec.ofChange ordersetMinimumWrong)

/-- 'pandectlaw38.OrdersetLimit': WHATEVER THE INPUT: true; the input reads as it did. -/
def ordersetLimitSpec : ChangeSpec := { name := "ordersetLimit", fn := fun _ => fun
  | [d1, d2, d3, d4] => { results := [.lit (.bool true)], args := [d1, d2, d3, d4] }
  | _ => none }
def ordersetLimitRow : OpenClaim := { program := "ytfhilbdpejljdaagreatdoor", sum := "aea27e13db1a7e0aab459bea70ec3e94befecd60f6b3ebc16b721035717b3511", func := "pandect/pandectlaw38.OrdersetLimit", spec := "ordersetLimit", inPlace := ["slices.overlaps[pandect/api.Unit]", "internal/abi.NoEscape", "internal/bytealg.MakeNoZero", "internal/bytealg.IndexByteString", "internal/bytealg.IndexString"], unfollowed := true, recurses := true, named := ["pandect/unit.below", "pandect/syntax.order", "pandect/unit.names", "unicode/utf8.first", "unicode/utf8.acceptRanges", "internal/bytealg.MaxLen"], loops := true, plainKeys := false, apart := false, laid := [("unicode/utf8.acceptRanges", laid_unicode_utf8_acceptRanges), ("pandect/unit.names", laid_pandect_unit_names), ("pandect/unit.below", laid_pandect_unit_below), ("pandect/syntax.order", laid_pandect_syntax_order), ("unicode/utf8.first", laid_unicode_utf8_first)] }
def OrdersetLimitSaid : Prop := ordersetLimitRow.holds Tryz.pinned (OpenSpec.ofChange ordersetLimitSpec)

/-- ITS FALSE NEIGHBOUR: 'it returns false'. Refute it at one input. -/
def ordersetLimitWrong : ChangeSpec := { name := "ordersetLimit", fn := fun _ => fun
  | [d1, d2, d3, d4] => { results := [.lit (.bool false)], args := [d1, d2, d3, d4] }
  | _ => none }
def OrdersetLimitWrongFalsely : Prop := ordersetLimitRow.holds Tryz.pinned (OpenSpec.ofChange ordersetLimitWrong)

/- THE SECOND FORM. 'bulk': how many values and letters a reading holds, each counted each time it is reached (what is shared counts as often as it is met; a slice's spare places count too). A statement '..UptoSaid' is the law's where the arguments, and the package variables that the reading takes, are together of bulk at most 1048576: NARROWER than '..Said'. Prove '..Said' where nothing that the law and all that it calls make is longer than what came in: it says more and counts as full. Else prove '..UptoSaid'. A law counts once. -/
mutual
def uptoBulk {H : Type} : DataW H → Nat
  | .lit (.string bytes) => bytes.length + 1
  | .lit _ => 1
  | .nil => 1
  | .ptr d => uptoBulk d + 1
  | .slice elems spare => uptoBulkAll elems + uptoBulkAll spare + 1
  | .agg parts => uptoBulkAll parts + 1
  | .iface _ d => uptoBulk d + 1
  | .map entries => uptoBulkEntries entries + 1
  | .held _ => 1
def uptoBulkAll {H : Type} : List (DataW H) → Nat
  | [] => 0
  | d :: r => uptoBulk d + uptoBulkAll r
def uptoBulkEntries {H : Type} : List (Lit × DataW H) → Nat
  | [] => 0
  | x :: r => uptoBulkEntry x + uptoBulkEntries r
def uptoBulkEntry {H : Type} : Lit × DataW H → Nat
  | (.string bytes, d) => bytes.length + uptoBulk d + 1
  | (_, d) => uptoBulk d + 1
 end
def uptoSmall : (H : Type) → List (DataW H) → Bool := fun _ ds => decide (uptoBulkAll ds ≤ 1048576)
def OpenSpec.upto (s : _root_.Go.ChangeSpec) : _root_.Go.OpenSpec := { _root_.Go.OpenSpec.ofChange s with cond := some uptoSmall }

/-- 'pandectlaw38.OrdersetPairs', WHERE WHAT IT READS IS OF BULK AT MOST 1048576: true; the input reads as it did. -/
def ordersetPairsUptoRow : OpenClaim := { program := "ytfhilbdpejljdaagreatdoor", sum := "aea27e13db1a7e0aab459bea70ec3e94befecd60f6b3ebc16b721035717b3511", func := "pandect/pandectlaw38.OrdersetPairs", spec := "ordersetPairs", inPlace := ["slices.overlaps[pandect/api.Unit]", "internal/abi.NoEscape", "internal/bytealg.MakeNoZero", "internal/bytealg.IndexByteString", "internal/bytealg.IndexString"], unfollowed := true, recurses := true, named := ["pandect/unit.below", "pandect/syntax.order", "pandect/unit.names", "unicode/utf8.first", "unicode/utf8.acceptRanges", "internal/bytealg.MaxLen"], loops := true, plainKeys := false, apart := false, laid := [("unicode/utf8.acceptRanges", laid_unicode_utf8_acceptRanges), ("pandect/unit.names", laid_pandect_unit_names), ("pandect/unit.below", laid_pandect_unit_below), ("pandect/syntax.order", laid_pandect_syntax_order), ("unicode/utf8.first", laid_unicode_utf8_first)], narrowed := true }
def OrdersetPairsUptoSaid : Prop := ordersetPairsUptoRow.holds Tryz.pinned (OpenSpec.upto ordersetPairsSpec)

/-- 'pandectlaw38.OrdersetMonotonicity', WHERE WHAT IT READS IS OF BULK AT MOST 1048576: true; the input reads as it did. -/
def ordersetMonotonicityUptoRow : OpenClaim := { program := "ytfhilbdpejljdaagreatdoor", sum := "aea27e13db1a7e0aab459bea70ec3e94befecd60f6b3ebc16b721035717b3511", func := "pandect/pandectlaw38.OrdersetMonotonicity", spec := "ordersetMonotonicity", inPlace := ["slices.overlaps[pandect/api.Unit]", "internal/abi.NoEscape", "internal/bytealg.MakeNoZero", "internal/bytealg.IndexByteString", "internal/bytealg.IndexString"], unfollowed := true, recurses := true, named := ["pandect/unit.below", "pandect/syntax.order", "pandect/unit.names", "unicode/utf8.first", "unicode/utf8.acceptRanges", "internal/bytealg.MaxLen"], loops := true, plainKeys := false, apart := false, laid := [("unicode/utf8.acceptRanges", laid_unicode_utf8_acceptRanges), ("pandect/unit.names", laid_pandect_unit_names), ("pandect/unit.below", laid_pandect_unit_below), ("pandect/syntax.order", laid_pandect_syntax_order), ("unicode/utf8.first", laid_unicode_utf8_first)], narrowed := true }
def OrdersetMonotonicityUptoSaid : Prop := ordersetMonotonicityUptoRow.holds Tryz.pinned (OpenSpec.upto ordersetMonotonicitySpec)

/-- 'pandectlaw38.OrdersetMinimum', WHERE WHAT IT READS IS OF BULK AT MOST 1048576: true; the input reads as it did. -/
def ordersetMinimumUptoRow : OpenClaim := { program := "ytfhilbdpejljdaagreatdoor", sum := "aea27e13db1a7e0aab459bea70ec3e94befecd60f6b3ebc16b721035717b3511", func := "pandect/pandectlaw38.OrdersetMinimum", spec := "ordersetMinimum", inPlace := ["slices.overlaps[pandect/api.Unit]", "internal/abi.NoEscape", "internal/bytealg.MakeNoZero", "internal/bytealg.IndexByteString", "internal/bytealg.IndexString"], unfollowed := true, recurses := true, named := ["pandect/unit.below", "pandect/syntax.order", "pandect/unit.names", "unicode/utf8.first", "unicode/utf8.acceptRanges", "internal/bytealg.MaxLen"], loops := true, plainKeys := false, apart := false, laid := [("unicode/utf8.acceptRanges", laid_unicode_utf8_acceptRanges), ("pandect/unit.names", laid_pandect_unit_names), ("pandect/unit.below", laid_pandect_unit_below), ("pandect/syntax.order", laid_pandect_syntax_order), ("unicode/utf8.first", laid_unicode_utf8_first)], narrowed := true }
def OrdersetMinimumUptoSaid : Prop := ordersetMinimumUptoRow.holds Tryz.pinned (OpenSpec.upto ordersetMinimumSpec)

/-- 'pandectlaw38.OrdersetLimit', WHERE WHAT IT READS IS OF BULK AT MOST 1048576: true; the input reads as it did. -/
def ordersetLimitUptoRow : OpenClaim := { program := "ytfhilbdpejljdaagreatdoor", sum := "aea27e13db1a7e0aab459bea70ec3e94befecd60f6b3ebc16b721035717b3511", func := "pandect/pandectlaw38.OrdersetLimit", spec := "ordersetLimit", inPlace := ["slices.overlaps[pandect/api.Unit]", "internal/abi.NoEscape", "internal/bytealg.MakeNoZero", "internal/bytealg.IndexByteString", "internal/bytealg.IndexString"], unfollowed := true, recurses := true, named := ["pandect/unit.below", "pandect/syntax.order", "pandect/unit.names", "unicode/utf8.first", "unicode/utf8.acceptRanges", "internal/bytealg.MaxLen"], loops := true, plainKeys := false, apart := false, laid := [("unicode/utf8.acceptRanges", laid_unicode_utf8_acceptRanges), ("pandect/unit.names", laid_pandect_unit_names), ("pandect/unit.below", laid_pandect_unit_below), ("pandect/syntax.order", laid_pandect_syntax_order), ("unicode/utf8.first", laid_unicode_utf8_first)], narrowed := true }
def OrdersetLimitUptoSaid : Prop := ordersetLimitUptoRow.holds Tryz.pinned (OpenSpec.upto ordersetLimitSpec)

end Rows
end Go.Proofs.YtfhilbdpejljdaaGreatDoor
