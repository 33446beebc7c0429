/-
  NARROWER THAN 'FOR EVERY INPUT', by the rows' own cells (each row's printed sentence says how): CodecDecode: laid · CodecBack: laid · CodecNormal: laid · CodecAscii: laid · CodecTable: laid · CodecEncode: laid · StreamOpen: laid · StreamCanon: laid · StreamAll: laid · StreamSame: laid · StreamRoom: laid · StreamHeld: laid.
  DERIVED. THE GIVEN ROWS OF THIS SEAT. 12 by the template 'for every input the law returns true; each argument reads behind the call as it read before'; 0 by the template 'total and deterministic' (their statements: YtebgjabalnffdaaGreatDoorTotals.lean).
  GIVEN WITH THE SEED: the statements are not yours to turn. If you find one false, say at which input.
  Laid BY PROGRAM, IN A SANDBOX (cutbox-rows.mjs): the forced cells as the released guide's own fill.sh prints them over the translation 9e3ef6ccce1e811b… (all of the seat's roots in one cut). By AI agents, Wed Nov 11 2026. No macro, syntax, notation, axiom, sorry.
-/
import Derived.Test.YtebgjabalnffdaaGreatDoorChecked
import GoSem.PinnedTables
import GoSem.Claim
import GoSem.ClaimJoined
import GoSem.ClaimMapViews
import Derived.JoinedTies
import Derived.KernelRfl
namespace Go.Proofs.YtebgjabalnffdaaGreatDoor
/- THE CELL 'sum', in the pinned program and in every row, IS THE sha256 OF THE DUMP (.gsa) THAT YtebgjabalnffdaaGreatDoorProg.lean LOADS. Nothing in Lean hashes anything: it is a label: what it is worth is what the hold of that sum in a sandbox is worth. -/
noncomputable def Tryz.pinned : Pinned := { name := "ytebgjabalnffdaagreatdoor", sum := "9e3ef6ccce1e811bb22cd99bb335431360c515738f761d24b33615116bcb14f9", checked := Tryz.checked }
namespace Rows
def none {H : Type} : Left H := { results := [], args := [] }

/- WHAT THE LISTED PACKAGE-LEVEL VARIABLES READ AS WHEN THE CALL BEGINS. Each datum BY PROGRAM (the guide's laid-datum.mjs) off the statement by which the dump's own 'gosem.cut.vars' lays the variable. In a bare row this is a premise. The card (YtebgjabalnffdaaGreatDoorCards.lean) ties it to the program's text. -/
def laid_unicode_utf8_acceptRanges {H : Type} : DataW H := .agg [.agg [.lit (.int .u8 128), .lit (.int .u8 191)], .agg [.lit (.int .u8 160), .lit (.int .u8 191)], .agg [.lit (.int .u8 128), .lit (.int .u8 159)], .agg [.lit (.int .u8 144), .lit (.int .u8 191)], .agg [.lit (.int .u8 128), .lit (.int .u8 143)], .agg [.lit (.int .u8 0), .lit (.int .u8 0)], .agg [.lit (.int .u8 0), .lit (.int .u8 0)], .agg [.lit (.int .u8 0), .lit (.int .u8 0)], .agg [.lit (.int .u8 0), .lit (.int .u8 0)], .agg [.lit (.int .u8 0), .lit (.int .u8 0)], .agg [.lit (.int .u8 0), .lit (.int .u8 0)], .agg [.lit (.int .u8 0), .lit (.int .u8 0)], .agg [.lit (.int .u8 0), .lit (.int .u8 0)], .agg [.lit (.int .u8 0), .lit (.int .u8 0)], .agg [.lit (.int .u8 0), .lit (.int .u8 0)], .agg [.lit (.int .u8 0), .lit (.int .u8 0)]]
/-- One of Go's own tables, pinned by name: the form's constant. -/
def laid_unicode_CaseRanges : DataW Unit := Go.Pinned.caseRanges
/-- One of Go's own tables, pinned by name: the form's constant. -/
def laid_unicode_utf8_first : DataW Unit := Go.Pinned.utf8First

/-- 'lontarlaw19.CodecDecode': WHATEVER THE INPUT: true; the input reads as it did. -/
def codecDecodeSpec : ChangeSpec := { name := "codecDecode", fn := fun _ => fun
  | [d1, d2] => { results := [.lit (.bool true)], args := [d1, d2] }
  | _ => none }
def codecDecodeRow : OpenClaim := { program := "ytebgjabalnffdaagreatdoor", sum := "9e3ef6ccce1e811bb22cd99bb335431360c515738f761d24b33615116bcb14f9", func := "lontar/lontarlaw19.CodecDecode", spec := "codecDecode", inPlace := ["internal/abi.NoEscape", "internal/bytealg.MakeNoZero"], unfollowed := true, recurses := true, named := ["unicode/utf8.first", "unicode/utf8.acceptRanges", "unicode.CaseRanges"], apart := false, laid := [("unicode/utf8.acceptRanges", laid_unicode_utf8_acceptRanges), ("unicode.CaseRanges", laid_unicode_CaseRanges), ("unicode/utf8.first", laid_unicode_utf8_first)] }
def CodecDecodeSaid : Prop := codecDecodeRow.holds Tryz.pinned (OpenSpec.ofChange codecDecodeSpec)

/-- ITS FALSE NEIGHBOUR: 'it returns false'. Refute it at one input. -/
def codecDecodeWrong : ChangeSpec := { name := "codecDecode", fn := fun _ => fun
  | [d1, d2] => { results := [.lit (.bool false)], args := [d1, d2] }
  | _ => none }
def CodecDecodeWrongFalsely : Prop := codecDecodeRow.holds Tryz.pinned (OpenSpec.ofChange codecDecodeWrong)

/-- 'lontarlaw19.CodecBack': WHATEVER THE INPUT: true; the input reads as it did. -/
def codecBackSpec : ChangeSpec := { name := "codecBack", fn := fun _ => fun
  | [d1, d2, d3] => { results := [.lit (.bool true)], args := [d1, d2, d3] }
  | _ => none }
def codecBackRow : OpenClaim := { program := "ytebgjabalnffdaagreatdoor", sum := "9e3ef6ccce1e811bb22cd99bb335431360c515738f761d24b33615116bcb14f9", func := "lontar/lontarlaw19.CodecBack", spec := "codecBack", inPlace := ["internal/abi.NoEscape", "internal/bytealg.MakeNoZero"], unfollowed := true, recurses := true, named := ["unicode/utf8.first", "unicode/utf8.acceptRanges", "unicode.CaseRanges"], apart := false, laid := [("unicode/utf8.acceptRanges", laid_unicode_utf8_acceptRanges), ("unicode.CaseRanges", laid_unicode_CaseRanges), ("unicode/utf8.first", laid_unicode_utf8_first)] }
def CodecBackSaid : Prop := codecBackRow.holds Tryz.pinned (OpenSpec.ofChange codecBackSpec)

/-- ITS FALSE NEIGHBOUR: 'it returns false'. Refute it at one input. -/
def codecBackWrong : ChangeSpec := { name := "codecBack", fn := fun _ => fun
  | [d1, d2, d3] => { results := [.lit (.bool false)], args := [d1, d2, d3] }
  | _ => none }
def CodecBackWrongFalsely : Prop := codecBackRow.holds Tryz.pinned (OpenSpec.ofChange codecBackWrong)

/-- 'lontarlaw19.CodecNormal': WHATEVER THE INPUT: true; the input reads as it did. -/
def codecNormalSpec : ChangeSpec := { name := "codecNormal", fn := fun _ => fun
  | [d1, d2] => { results := [.lit (.bool true)], args := [d1, d2] }
  | _ => none }
def codecNormalRow : OpenClaim := { program := "ytebgjabalnffdaagreatdoor", sum := "9e3ef6ccce1e811bb22cd99bb335431360c515738f761d24b33615116bcb14f9", func := "lontar/lontarlaw19.CodecNormal", spec := "codecNormal", inPlace := ["internal/abi.NoEscape", "internal/bytealg.MakeNoZero"], unfollowed := true, recurses := true, named := ["unicode/utf8.first", "unicode/utf8.acceptRanges", "unicode.CaseRanges"], apart := false, laid := [("unicode/utf8.acceptRanges", laid_unicode_utf8_acceptRanges), ("unicode.CaseRanges", laid_unicode_CaseRanges), ("unicode/utf8.first", laid_unicode_utf8_first)] }
def CodecNormalSaid : Prop := codecNormalRow.holds Tryz.pinned (OpenSpec.ofChange codecNormalSpec)

/-- ITS FALSE NEIGHBOUR: 'it returns false'. Refute it at one input. -/
def codecNormalWrong : ChangeSpec := { name := "codecNormal", fn := fun _ => fun
  | [d1, d2] => { results := [.lit (.bool false)], args := [d1, d2] }
  | _ => none }
def CodecNormalWrongFalsely : Prop := codecNormalRow.holds Tryz.pinned (OpenSpec.ofChange codecNormalWrong)

/-- 'lontarlaw19.CodecAscii': WHATEVER THE INPUT: true; the input reads as it did. -/
def codecAsciiSpec : ChangeSpec := { name := "codecAscii", fn := fun _ => fun
  | [d1, d2] => { results := [.lit (.bool true)], args := [d1, d2] }
  | _ => none }
def codecAsciiRow : OpenClaim := { program := "ytebgjabalnffdaagreatdoor", sum := "9e3ef6ccce1e811bb22cd99bb335431360c515738f761d24b33615116bcb14f9", func := "lontar/lontarlaw19.CodecAscii", spec := "codecAscii", inPlace := ["internal/abi.NoEscape", "internal/bytealg.MakeNoZero"], unfollowed := true, recurses := true, named := ["unicode/utf8.first", "unicode/utf8.acceptRanges", "unicode.CaseRanges"], apart := false, laid := [("unicode/utf8.acceptRanges", laid_unicode_utf8_acceptRanges), ("unicode.CaseRanges", laid_unicode_CaseRanges), ("unicode/utf8.first", laid_unicode_utf8_first)] }
def CodecAsciiSaid : Prop := codecAsciiRow.holds Tryz.pinned (OpenSpec.ofChange codecAsciiSpec)

/-- ITS FALSE NEIGHBOUR: 'it returns false'. Refute it at one input. -/
def codecAsciiWrong : ChangeSpec := { name := "codecAscii", fn := fun _ => fun
  | [d1, d2] => { results := [.lit (.bool false)], args := [d1, d2] }
  | _ => none }
def CodecAsciiWrongFalsely : Prop := codecAsciiRow.holds Tryz.pinned (OpenSpec.ofChange codecAsciiWrong)

/-- 'lontarlaw19.CodecTable': WHATEVER THE INPUT: true; the input reads as it did. -/
def codecTableSpec : ChangeSpec := { name := "codecTable", fn := fun _ => fun
  | [d1, d2] => { results := [.lit (.bool true)], args := [d1, d2] }
  | _ => none }
def codecTableRow : OpenClaim := { program := "ytebgjabalnffdaagreatdoor", sum := "9e3ef6ccce1e811bb22cd99bb335431360c515738f761d24b33615116bcb14f9", func := "lontar/lontarlaw19.CodecTable", spec := "codecTable", inPlace := ["internal/abi.NoEscape", "internal/bytealg.MakeNoZero"], unfollowed := true, recurses := true, named := ["unicode/utf8.first", "unicode/utf8.acceptRanges", "unicode.CaseRanges"], apart := false, laid := [("unicode/utf8.acceptRanges", laid_unicode_utf8_acceptRanges), ("unicode.CaseRanges", laid_unicode_CaseRanges), ("unicode/utf8.first", laid_unicode_utf8_first)] }
def CodecTableSaid : Prop := codecTableRow.holds Tryz.pinned (OpenSpec.ofChange codecTableSpec)

/-- ITS FALSE NEIGHBOUR: 'it returns false'. Refute it at one input. -/
def codecTableWrong : ChangeSpec := { name := "codecTable", fn := fun _ => fun
  | [d1, d2] => { results := [.lit (.bool false)], args := [d1, d2] }
  | _ => none }
def CodecTableWrongFalsely : Prop := codecTableRow.holds Tryz.pinned (OpenSpec.ofChange codecTableWrong)

/-- 'lontarlaw19.CodecEncode': WHATEVER THE INPUT: true; the input reads as it did. -/
def codecEncodeSpec : ChangeSpec := { name := "codecEncode", fn := fun _ => fun
  | [d1, d2, d3] => { results := [.lit (.bool true)], args := [d1, d2, d3] }
  | _ => none }
def codecEncodeRow : OpenClaim := { program := "ytebgjabalnffdaagreatdoor", sum := "9e3ef6ccce1e811bb22cd99bb335431360c515738f761d24b33615116bcb14f9", func := "lontar/lontarlaw19.CodecEncode", spec := "codecEncode", inPlace := ["internal/abi.NoEscape", "internal/bytealg.MakeNoZero"], unfollowed := true, recurses := true, named := ["unicode/utf8.first", "unicode/utf8.acceptRanges", "unicode.CaseRanges"], apart := false, laid := [("unicode/utf8.acceptRanges", laid_unicode_utf8_acceptRanges), ("unicode.CaseRanges", laid_unicode_CaseRanges), ("unicode/utf8.first", laid_unicode_utf8_first)] }
def CodecEncodeSaid : Prop := codecEncodeRow.holds Tryz.pinned (OpenSpec.ofChange codecEncodeSpec)

/-- ITS FALSE NEIGHBOUR: 'it returns false'. Refute it at one input. -/
def codecEncodeWrong : ChangeSpec := { name := "codecEncode", fn := fun _ => fun
  | [d1, d2, d3] => { results := [.lit (.bool false)], args := [d1, d2, d3] }
  | _ => none }
def CodecEncodeWrongFalsely : Prop := codecEncodeRow.holds Tryz.pinned (OpenSpec.ofChange codecEncodeWrong)

/-- 'lontarlaw20.StreamOpen': WHATEVER THE INPUT: true; the input reads as it did. -/
def streamOpenSpec : ChangeSpec := { name := "streamOpen", fn := fun _ => fun
  | [d1, d2, d3, d4] => { results := [.lit (.bool true)], args := [d1, d2, d3, d4] }
  | _ => none }
def streamOpenRow : OpenClaim := { program := "ytebgjabalnffdaagreatdoor", sum := "9e3ef6ccce1e811bb22cd99bb335431360c515738f761d24b33615116bcb14f9", func := "lontar/lontarlaw20.StreamOpen", spec := "streamOpen", inPlace := ["internal/abi.NoEscape", "internal/bytealg.MakeNoZero"], unfollowed := true, recurses := true, named := ["unicode/utf8.first", "unicode/utf8.acceptRanges", "unicode.CaseRanges"], apart := false, laid := [("unicode/utf8.acceptRanges", laid_unicode_utf8_acceptRanges), ("unicode.CaseRanges", laid_unicode_CaseRanges), ("unicode/utf8.first", laid_unicode_utf8_first)] }
def StreamOpenSaid : Prop := streamOpenRow.holds Tryz.pinned (OpenSpec.ofChange streamOpenSpec)

/-- ITS FALSE NEIGHBOUR: 'it returns false'. Refute it at one input. -/
def streamOpenWrong : ChangeSpec := { name := "streamOpen", fn := fun _ => fun
  | [d1, d2, d3, d4] => { results := [.lit (.bool false)], args := [d1, d2, d3, d4] }
  | _ => none }
def StreamOpenWrongFalsely : Prop := streamOpenRow.holds Tryz.pinned (OpenSpec.ofChange streamOpenWrong)

/-- 'lontarlaw20.StreamCanon': WHATEVER THE INPUT: true; the input reads as it did. -/
def streamCanonSpec : ChangeSpec := { name := "streamCanon", fn := fun _ => fun
  | [d1, d2] => { results := [.lit (.bool true)], args := [d1, d2] }
  | _ => none }
def streamCanonRow : OpenClaim := { program := "ytebgjabalnffdaagreatdoor", sum := "9e3ef6ccce1e811bb22cd99bb335431360c515738f761d24b33615116bcb14f9", func := "lontar/lontarlaw20.StreamCanon", spec := "streamCanon", inPlace := ["internal/abi.NoEscape", "internal/bytealg.MakeNoZero"], unfollowed := true, recurses := true, named := ["unicode/utf8.first", "unicode/utf8.acceptRanges", "unicode.CaseRanges"], apart := false, laid := [("unicode/utf8.acceptRanges", laid_unicode_utf8_acceptRanges), ("unicode.CaseRanges", laid_unicode_CaseRanges), ("unicode/utf8.first", laid_unicode_utf8_first)] }
def StreamCanonSaid : Prop := streamCanonRow.holds Tryz.pinned (OpenSpec.ofChange streamCanonSpec)

/-- ITS FALSE NEIGHBOUR: 'it returns false'. Refute it at one input. -/
def streamCanonWrong : ChangeSpec := { name := "streamCanon", fn := fun _ => fun
  | [d1, d2] => { results := [.lit (.bool false)], args := [d1, d2] }
  | _ => none }
def StreamCanonWrongFalsely : Prop := streamCanonRow.holds Tryz.pinned (OpenSpec.ofChange streamCanonWrong)

/-- 'lontarlaw20.StreamAll': WHATEVER THE INPUT: true; the input reads as it did. -/
def streamAllSpec : ChangeSpec := { name := "streamAll", fn := fun _ => fun
  | [d1, d2, d3, d4] => { results := [.lit (.bool true)], args := [d1, d2, d3, d4] }
  | _ => none }
def streamAllRow : OpenClaim := { program := "ytebgjabalnffdaagreatdoor", sum := "9e3ef6ccce1e811bb22cd99bb335431360c515738f761d24b33615116bcb14f9", func := "lontar/lontarlaw20.StreamAll", spec := "streamAll", inPlace := ["internal/abi.NoEscape", "internal/bytealg.MakeNoZero"], unfollowed := true, recurses := true, named := ["unicode/utf8.first", "unicode/utf8.acceptRanges", "unicode.CaseRanges"], apart := false, laid := [("unicode/utf8.acceptRanges", laid_unicode_utf8_acceptRanges), ("unicode.CaseRanges", laid_unicode_CaseRanges), ("unicode/utf8.first", laid_unicode_utf8_first)] }
def StreamAllSaid : Prop := streamAllRow.holds Tryz.pinned (OpenSpec.ofChange streamAllSpec)

/-- ITS FALSE NEIGHBOUR: 'it returns false'. Refute it at one input. -/
def streamAllWrong : ChangeSpec := { name := "streamAll", fn := fun _ => fun
  | [d1, d2, d3, d4] => { results := [.lit (.bool false)], args := [d1, d2, d3, d4] }
  | _ => none }
def StreamAllWrongFalsely : Prop := streamAllRow.holds Tryz.pinned (OpenSpec.ofChange streamAllWrong)

/-- 'lontarlaw20.StreamSame': WHATEVER THE INPUT: true; the input reads as it did. -/
def streamSameSpec : ChangeSpec := { name := "streamSame", fn := fun _ => fun
  | [d1, d2] => { results := [.lit (.bool true)], args := [d1, d2] }
  | _ => none }
def streamSameRow : OpenClaim := { program := "ytebgjabalnffdaagreatdoor", sum := "9e3ef6ccce1e811bb22cd99bb335431360c515738f761d24b33615116bcb14f9", func := "lontar/lontarlaw20.StreamSame", spec := "streamSame", inPlace := ["internal/abi.NoEscape", "internal/bytealg.MakeNoZero"], unfollowed := true, recurses := true, named := ["unicode/utf8.first", "unicode/utf8.acceptRanges", "unicode.CaseRanges"], apart := false, laid := [("unicode/utf8.acceptRanges", laid_unicode_utf8_acceptRanges), ("unicode.CaseRanges", laid_unicode_CaseRanges), ("unicode/utf8.first", laid_unicode_utf8_first)] }
def StreamSameSaid : Prop := streamSameRow.holds Tryz.pinned (OpenSpec.ofChange streamSameSpec)

/-- ITS FALSE NEIGHBOUR: 'it returns false'. Refute it at one input. -/
def streamSameWrong : ChangeSpec := { name := "streamSame", fn := fun _ => fun
  | [d1, d2] => { results := [.lit (.bool false)], args := [d1, d2] }
  | _ => none }
def StreamSameWrongFalsely : Prop := streamSameRow.holds Tryz.pinned (OpenSpec.ofChange streamSameWrong)

/-- 'lontarlaw20.StreamRoom': WHATEVER THE INPUT: true; the input reads as it did. -/
def streamRoomSpec : ChangeSpec := { name := "streamRoom", fn := fun _ => fun
  | [d1, d2, d3] => { results := [.lit (.bool true)], args := [d1, d2, d3] }
  | _ => none }
def streamRoomRow : OpenClaim := { program := "ytebgjabalnffdaagreatdoor", sum := "9e3ef6ccce1e811bb22cd99bb335431360c515738f761d24b33615116bcb14f9", func := "lontar/lontarlaw20.StreamRoom", spec := "streamRoom", inPlace := ["internal/abi.NoEscape", "internal/bytealg.MakeNoZero"], unfollowed := true, recurses := true, named := ["unicode/utf8.first", "unicode/utf8.acceptRanges", "unicode.CaseRanges"], apart := false, laid := [("unicode/utf8.acceptRanges", laid_unicode_utf8_acceptRanges), ("unicode.CaseRanges", laid_unicode_CaseRanges), ("unicode/utf8.first", laid_unicode_utf8_first)] }
def StreamRoomSaid : Prop := streamRoomRow.holds Tryz.pinned (OpenSpec.ofChange streamRoomSpec)

/-- ITS FALSE NEIGHBOUR: 'it returns false'. Refute it at one input. -/
def streamRoomWrong : ChangeSpec := { name := "streamRoom", fn := fun _ => fun
  | [d1, d2, d3] => { results := [.lit (.bool false)], args := [d1, d2, d3] }
  | _ => none }
def StreamRoomWrongFalsely : Prop := streamRoomRow.holds Tryz.pinned (OpenSpec.ofChange streamRoomWrong)

/-- 'lontarlaw20.StreamHeld': WHATEVER THE INPUT: true; the input reads as it did. -/
def streamHeldSpec : ChangeSpec := { name := "streamHeld", fn := fun _ => fun
  | [d1, d2, d3, d4] => { results := [.lit (.bool true)], args := [d1, d2, d3, d4] }
  | _ => none }
def streamHeldRow : OpenClaim := { program := "ytebgjabalnffdaagreatdoor", sum := "9e3ef6ccce1e811bb22cd99bb335431360c515738f761d24b33615116bcb14f9", func := "lontar/lontarlaw20.StreamHeld", spec := "streamHeld", inPlace := ["internal/abi.NoEscape", "internal/bytealg.MakeNoZero"], unfollowed := true, recurses := true, named := ["unicode/utf8.first", "unicode/utf8.acceptRanges", "unicode.CaseRanges"], apart := false, laid := [("unicode/utf8.acceptRanges", laid_unicode_utf8_acceptRanges), ("unicode.CaseRanges", laid_unicode_CaseRanges), ("unicode/utf8.first", laid_unicode_utf8_first)] }
def StreamHeldSaid : Prop := streamHeldRow.holds Tryz.pinned (OpenSpec.ofChange streamHeldSpec)

/-- ITS FALSE NEIGHBOUR: 'it returns false'. Refute it at one input. -/
def streamHeldWrong : ChangeSpec := { name := "streamHeld", fn := fun _ => fun
  | [d1, d2, d3, d4] => { results := [.lit (.bool false)], args := [d1, d2, d3, d4] }
  | _ => none }
def StreamHeldWrongFalsely : Prop := streamHeldRow.holds Tryz.pinned (OpenSpec.ofChange streamHeldWrong)

/- THE SECOND FORM. 'bulk': how many values and letters a reading holds, each counted each time it is reached (what is shared counts as often as it is met; a slice's spare places count too). A statement '..UptoSaid' is the law's where the arguments, and the package variables that the reading takes, are together of bulk at most 1048576: NARROWER than '..Said'. Prove '..Said' where nothing that the law and all that it calls make is longer than what came in: it says more and counts as full. Else prove '..UptoSaid'. A law counts once. -/
mutual
def uptoBulk {H : Type} : DataW H → Nat
  | .lit (.string bytes) => bytes.length + 1
  | .lit _ => 1
  | .nil => 1
  | .ptr d => uptoBulk d + 1
  | .slice elems spare => uptoBulkAll elems + uptoBulkAll spare + 1
  | .agg parts => uptoBulkAll parts + 1
  | .iface _ d => uptoBulk d + 1
  | .map entries => uptoBulkEntries entries + 1
  | .held _ => 1
def uptoBulkAll {H : Type} : List (DataW H) → Nat
  | [] => 0
  | d :: r => uptoBulk d + uptoBulkAll r
def uptoBulkEntries {H : Type} : List (Lit × DataW H) → Nat
  | [] => 0
  | x :: r => uptoBulkEntry x + uptoBulkEntries r
def uptoBulkEntry {H : Type} : Lit × DataW H → Nat
  | (.string bytes, d) => bytes.length + uptoBulk d + 1
  | (_, d) => uptoBulk d + 1
 end
def uptoSmall : (H : Type) → List (DataW H) → Bool := fun _ ds => decide (uptoBulkAll ds ≤ 1048576)
def OpenSpec.upto (s : _root_.Go.ChangeSpec) : _root_.Go.OpenSpec := { _root_.Go.OpenSpec.ofChange s with cond := some uptoSmall }

/-- 'lontarlaw19.CodecDecode', WHERE WHAT IT READS IS OF BULK AT MOST 1048576: true; the input reads as it did. -/
def codecDecodeUptoRow : OpenClaim := { program := "ytebgjabalnffdaagreatdoor", sum := "9e3ef6ccce1e811bb22cd99bb335431360c515738f761d24b33615116bcb14f9", func := "lontar/lontarlaw19.CodecDecode", spec := "codecDecode", inPlace := ["internal/abi.NoEscape", "internal/bytealg.MakeNoZero"], unfollowed := true, recurses := true, named := ["unicode/utf8.first", "unicode/utf8.acceptRanges", "unicode.CaseRanges"], apart := false, laid := [("unicode/utf8.acceptRanges", laid_unicode_utf8_acceptRanges), ("unicode.CaseRanges", laid_unicode_CaseRanges), ("unicode/utf8.first", laid_unicode_utf8_first)], narrowed := true }
def CodecDecodeUptoSaid : Prop := codecDecodeUptoRow.holds Tryz.pinned (OpenSpec.upto codecDecodeSpec)

/-- 'lontarlaw19.CodecBack', WHERE WHAT IT READS IS OF BULK AT MOST 1048576: true; the input reads as it did. -/
def codecBackUptoRow : OpenClaim := { program := "ytebgjabalnffdaagreatdoor", sum := "9e3ef6ccce1e811bb22cd99bb335431360c515738f761d24b33615116bcb14f9", func := "lontar/lontarlaw19.CodecBack", spec := "codecBack", inPlace := ["internal/abi.NoEscape", "internal/bytealg.MakeNoZero"], unfollowed := true, recurses := true, named := ["unicode/utf8.first", "unicode/utf8.acceptRanges", "unicode.CaseRanges"], apart := false, laid := [("unicode/utf8.acceptRanges", laid_unicode_utf8_acceptRanges), ("unicode.CaseRanges", laid_unicode_CaseRanges), ("unicode/utf8.first", laid_unicode_utf8_first)], narrowed := true }
def CodecBackUptoSaid : Prop := codecBackUptoRow.holds Tryz.pinned (OpenSpec.upto codecBackSpec)

/-- 'lontarlaw19.CodecNormal', WHERE WHAT IT READS IS OF BULK AT MOST 1048576: true; the input reads as it did. -/
def codecNormalUptoRow : OpenClaim := { program := "ytebgjabalnffdaagreatdoor", sum := "9e3ef6ccce1e811bb22cd99bb335431360c515738f761d24b33615116bcb14f9", func := "lontar/lontarlaw19.CodecNormal", spec := "codecNormal", inPlace := ["internal/abi.NoEscape", "internal/bytealg.MakeNoZero"], unfollowed := true, recurses := true, named := ["unicode/utf8.first", "unicode/utf8.acceptRanges", "unicode.CaseRanges"], apart := false, laid := [("unicode/utf8.acceptRanges", laid_unicode_utf8_acceptRanges), ("unicode.CaseRanges", laid_unicode_CaseRanges), ("unicode/utf8.first", laid_unicode_utf8_first)], narrowed := true }
def CodecNormalUptoSaid : Prop := codecNormalUptoRow.holds Tryz.pinned (OpenSpec.upto codecNormalSpec)

/-- 'lontarlaw19.CodecAscii', WHERE WHAT IT READS IS OF BULK AT MOST 1048576: true; the input reads as it did. -/
def codecAsciiUptoRow : OpenClaim := { program := "ytebgjabalnffdaagreatdoor", sum := "9e3ef6ccce1e811bb22cd99bb335431360c515738f761d24b33615116bcb14f9", func := "lontar/lontarlaw19.CodecAscii", spec := "codecAscii", inPlace := ["internal/abi.NoEscape", "internal/bytealg.MakeNoZero"], unfollowed := true, recurses := true, named := ["unicode/utf8.first", "unicode/utf8.acceptRanges", "unicode.CaseRanges"], apart := false, laid := [("unicode/utf8.acceptRanges", laid_unicode_utf8_acceptRanges), ("unicode.CaseRanges", laid_unicode_CaseRanges), ("unicode/utf8.first", laid_unicode_utf8_first)], narrowed := true }
def CodecAsciiUptoSaid : Prop := codecAsciiUptoRow.holds Tryz.pinned (OpenSpec.upto codecAsciiSpec)

/-- 'lontarlaw19.CodecTable', WHERE WHAT IT READS IS OF BULK AT MOST 1048576: true; the input reads as it did. -/
def codecTableUptoRow : OpenClaim := { program := "ytebgjabalnffdaagreatdoor", sum := "9e3ef6ccce1e811bb22cd99bb335431360c515738f761d24b33615116bcb14f9", func := "lontar/lontarlaw19.CodecTable", spec := "codecTable", inPlace := ["internal/abi.NoEscape", "internal/bytealg.MakeNoZero"], unfollowed := true, recurses := true, named := ["unicode/utf8.first", "unicode/utf8.acceptRanges", "unicode.CaseRanges"], apart := false, laid := [("unicode/utf8.acceptRanges", laid_unicode_utf8_acceptRanges), ("unicode.CaseRanges", laid_unicode_CaseRanges), ("unicode/utf8.first", laid_unicode_utf8_first)], narrowed := true }
def CodecTableUptoSaid : Prop := codecTableUptoRow.holds Tryz.pinned (OpenSpec.upto codecTableSpec)

/-- 'lontarlaw19.CodecEncode', WHERE WHAT IT READS IS OF BULK AT MOST 1048576: true; the input reads as it did. -/
def codecEncodeUptoRow : OpenClaim := { program := "ytebgjabalnffdaagreatdoor", sum := "9e3ef6ccce1e811bb22cd99bb335431360c515738f761d24b33615116bcb14f9", func := "lontar/lontarlaw19.CodecEncode", spec := "codecEncode", inPlace := ["internal/abi.NoEscape", "internal/bytealg.MakeNoZero"], unfollowed := true, recurses := true, named := ["unicode/utf8.first", "unicode/utf8.acceptRanges", "unicode.CaseRanges"], apart := false, laid := [("unicode/utf8.acceptRanges", laid_unicode_utf8_acceptRanges), ("unicode.CaseRanges", laid_unicode_CaseRanges), ("unicode/utf8.first", laid_unicode_utf8_first)], narrowed := true }
def CodecEncodeUptoSaid : Prop := codecEncodeUptoRow.holds Tryz.pinned (OpenSpec.upto codecEncodeSpec)

/-- 'lontarlaw20.StreamOpen', WHERE WHAT IT READS IS OF BULK AT MOST 1048576: true; the input reads as it did. -/
def streamOpenUptoRow : OpenClaim := { program := "ytebgjabalnffdaagreatdoor", sum := "9e3ef6ccce1e811bb22cd99bb335431360c515738f761d24b33615116bcb14f9", func := "lontar/lontarlaw20.StreamOpen", spec := "streamOpen", inPlace := ["internal/abi.NoEscape", "internal/bytealg.MakeNoZero"], unfollowed := true, recurses := true, named := ["unicode/utf8.first", "unicode/utf8.acceptRanges", "unicode.CaseRanges"], apart := false, laid := [("unicode/utf8.acceptRanges", laid_unicode_utf8_acceptRanges), ("unicode.CaseRanges", laid_unicode_CaseRanges), ("unicode/utf8.first", laid_unicode_utf8_first)], narrowed := true }
def StreamOpenUptoSaid : Prop := streamOpenUptoRow.holds Tryz.pinned (OpenSpec.upto streamOpenSpec)

/-- 'lontarlaw20.StreamCanon', WHERE WHAT IT READS IS OF BULK AT MOST 1048576: true; the input reads as it did. -/
def streamCanonUptoRow : OpenClaim := { program := "ytebgjabalnffdaagreatdoor", sum := "9e3ef6ccce1e811bb22cd99bb335431360c515738f761d24b33615116bcb14f9", func := "lontar/lontarlaw20.StreamCanon", spec := "streamCanon", inPlace := ["internal/abi.NoEscape", "internal/bytealg.MakeNoZero"], unfollowed := true, recurses := true, named := ["unicode/utf8.first", "unicode/utf8.acceptRanges", "unicode.CaseRanges"], apart := false, laid := [("unicode/utf8.acceptRanges", laid_unicode_utf8_acceptRanges), ("unicode.CaseRanges", laid_unicode_CaseRanges), ("unicode/utf8.first", laid_unicode_utf8_first)], narrowed := true }
def StreamCanonUptoSaid : Prop := streamCanonUptoRow.holds Tryz.pinned (OpenSpec.upto streamCanonSpec)

/-- 'lontarlaw20.StreamAll', WHERE WHAT IT READS IS OF BULK AT MOST 1048576: true; the input reads as it did. -/
def streamAllUptoRow : OpenClaim := { program := "ytebgjabalnffdaagreatdoor", sum := "9e3ef6ccce1e811bb22cd99bb335431360c515738f761d24b33615116bcb14f9", func := "lontar/lontarlaw20.StreamAll", spec := "streamAll", inPlace := ["internal/abi.NoEscape", "internal/bytealg.MakeNoZero"], unfollowed := true, recurses := true, named := ["unicode/utf8.first", "unicode/utf8.acceptRanges", "unicode.CaseRanges"], apart := false, laid := [("unicode/utf8.acceptRanges", laid_unicode_utf8_acceptRanges), ("unicode.CaseRanges", laid_unicode_CaseRanges), ("unicode/utf8.first", laid_unicode_utf8_first)], narrowed := true }
def StreamAllUptoSaid : Prop := streamAllUptoRow.holds Tryz.pinned (OpenSpec.upto streamAllSpec)

/-- 'lontarlaw20.StreamSame', WHERE WHAT IT READS IS OF BULK AT MOST 1048576: true; the input reads as it did. -/
def streamSameUptoRow : OpenClaim := { program := "ytebgjabalnffdaagreatdoor", sum := "9e3ef6ccce1e811bb22cd99bb335431360c515738f761d24b33615116bcb14f9", func := "lontar/lontarlaw20.StreamSame", spec := "streamSame", inPlace := ["internal/abi.NoEscape", "internal/bytealg.MakeNoZero"], unfollowed := true, recurses := true, named := ["unicode/utf8.first", "unicode/utf8.acceptRanges", "unicode.CaseRanges"], apart := false, laid := [("unicode/utf8.acceptRanges", laid_unicode_utf8_acceptRanges), ("unicode.CaseRanges", laid_unicode_CaseRanges), ("unicode/utf8.first", laid_unicode_utf8_first)], narrowed := true }
def StreamSameUptoSaid : Prop := streamSameUptoRow.holds Tryz.pinned (OpenSpec.upto streamSameSpec)

/-- 'lontarlaw20.StreamRoom', WHERE WHAT IT READS IS OF BULK AT MOST 1048576: true; the input reads as it did. -/
def streamRoomUptoRow : OpenClaim := { program := "ytebgjabalnffdaagreatdoor", sum := "9e3ef6ccce1e811bb22cd99bb335431360c515738f761d24b33615116bcb14f9", func := "lontar/lontarlaw20.StreamRoom", spec := "streamRoom", inPlace := ["internal/abi.NoEscape", "internal/bytealg.MakeNoZero"], unfollowed := true, recurses := true, named := ["unicode/utf8.first", "unicode/utf8.acceptRanges", "unicode.CaseRanges"], apart := false, laid := [("unicode/utf8.acceptRanges", laid_unicode_utf8_acceptRanges), ("unicode.CaseRanges", laid_unicode_CaseRanges), ("unicode/utf8.first", laid_unicode_utf8_first)], narrowed := true }
def StreamRoomUptoSaid : Prop := streamRoomUptoRow.holds Tryz.pinned (OpenSpec.upto streamRoomSpec)

/-- 'lontarlaw20.StreamHeld', WHERE WHAT IT READS IS OF BULK AT MOST 1048576: true; the input reads as it did. -/
def streamHeldUptoRow : OpenClaim := { program := "ytebgjabalnffdaagreatdoor", sum := "9e3ef6ccce1e811bb22cd99bb335431360c515738f761d24b33615116bcb14f9", func := "lontar/lontarlaw20.StreamHeld", spec := "streamHeld", inPlace := ["internal/abi.NoEscape", "internal/bytealg.MakeNoZero"], unfollowed := true, recurses := true, named := ["unicode/utf8.first", "unicode/utf8.acceptRanges", "unicode.CaseRanges"], apart := false, laid := [("unicode/utf8.acceptRanges", laid_unicode_utf8_acceptRanges), ("unicode.CaseRanges", laid_unicode_CaseRanges), ("unicode/utf8.first", laid_unicode_utf8_first)], narrowed := true }
def StreamHeldUptoSaid : Prop := streamHeldUptoRow.holds Tryz.pinned (OpenSpec.upto streamHeldSpec)

end Rows
end Go.Proofs.YtebgjabalnffdaaGreatDoor
