/-
  NARROWER THAN 'FOR EVERY INPUT', by the rows' own cells (each row's printed sentence says how): TextCodes: laid · TextLays: laid · TextWraps: laid · TextJoined: laid · RasterDraws: laid · RasterParts: laid · RasterMoved: laid · RasterPixels: laid.
  DERIVED. THE GIVEN ROWS OF THIS SEAT. 8 by the template 'for every input the law returns true; each argument reads behind the call as it read before'; 0 by the template 'total and deterministic' (their statements: YtbnnfmncipdlpaaDoorTotals.lean).
  GIVEN WITH THE SEED: the statements are not yours to turn. If you find one false, say at which input.
  Laid BY PROGRAM, IN A SANDBOX (cutbox-rows.mjs): the forced cells as the released guide's own fill.sh prints them over the translation 548c692ffd7cd25b… (all of the seat's roots in one cut). By AI agents, Wed Nov 11 2026. No macro, syntax, notation, axiom, sorry.
-/
import Derived.Test.YtbnnfmncipdlpaaDoorChecked
import GoSem.PinnedTables
import GoSem.Claim
import GoSem.ClaimJoined
import GoSem.ClaimMapViews
import Derived.JoinedTies
import Derived.KernelRfl
namespace Go.Proofs.YtbnnfmncipdlpaaDoor
/- THE CELL 'sum', in the pinned program and in every row, IS THE sha256 OF THE DUMP (.gsa) THAT YtbnnfmncipdlpaaDoorProg.lean LOADS. Nothing in Lean hashes anything: it is a label: what it is worth is what the hold of that sum in a sandbox is worth. -/
noncomputable def Tryd.pinned : Pinned := { name := "ytbnnfmncipdlpaadoor", sum := "548c692ffd7cd25b2eb2295e9c46732117bb71335757f7e6341c25ba8fb7661a", checked := Tryd.checked }
namespace Rows
def none {H : Type} : Left H := { results := [], args := [] }

/- WHAT THE LISTED PACKAGE-LEVEL VARIABLES READ AS WHEN THE CALL BEGINS. Each datum BY PROGRAM (the guide's laid-datum.mjs) off the statement by which the dump's own 'gosem.cut.vars' lays the variable. In a bare row this is a premise. The card (YtbnnfmncipdlpaaDoorCards.lean) ties it to the program's text. -/
def laid_unicode_utf8_acceptRanges {H : Type} : DataW H := .agg [.agg [.lit (.int .u8 128), .lit (.int .u8 191)], .agg [.lit (.int .u8 160), .lit (.int .u8 191)], .agg [.lit (.int .u8 128), .lit (.int .u8 159)], .agg [.lit (.int .u8 144), .lit (.int .u8 191)], .agg [.lit (.int .u8 128), .lit (.int .u8 143)], .agg [.lit (.int .u8 0), .lit (.int .u8 0)], .agg [.lit (.int .u8 0), .lit (.int .u8 0)], .agg [.lit (.int .u8 0), .lit (.int .u8 0)], .agg [.lit (.int .u8 0), .lit (.int .u8 0)], .agg [.lit (.int .u8 0), .lit (.int .u8 0)], .agg [.lit (.int .u8 0), .lit (.int .u8 0)], .agg [.lit (.int .u8 0), .lit (.int .u8 0)], .agg [.lit (.int .u8 0), .lit (.int .u8 0)], .agg [.lit (.int .u8 0), .lit (.int .u8 0)], .agg [.lit (.int .u8 0), .lit (.int .u8 0)], .agg [.lit (.int .u8 0), .lit (.int .u8 0)]]
/-- One of Go's own tables, pinned by name: the form's constant. -/
def laid_unicode_utf8_first : DataW Unit := Go.Pinned.utf8First
def laid_math_bits_deBruijn64tab {H : Type} : DataW H := .agg [.lit (.int .u8 0), .lit (.int .u8 1), .lit (.int .u8 56), .lit (.int .u8 2), .lit (.int .u8 57), .lit (.int .u8 49), .lit (.int .u8 28), .lit (.int .u8 3), .lit (.int .u8 61), .lit (.int .u8 58), .lit (.int .u8 42), .lit (.int .u8 50), .lit (.int .u8 38), .lit (.int .u8 29), .lit (.int .u8 17), .lit (.int .u8 4), .lit (.int .u8 62), .lit (.int .u8 47), .lit (.int .u8 59), .lit (.int .u8 36), .lit (.int .u8 45), .lit (.int .u8 43), .lit (.int .u8 51), .lit (.int .u8 22), .lit (.int .u8 53), .lit (.int .u8 39), .lit (.int .u8 33), .lit (.int .u8 30), .lit (.int .u8 24), .lit (.int .u8 18), .lit (.int .u8 12), .lit (.int .u8 5), .lit (.int .u8 63), .lit (.int .u8 55), .lit (.int .u8 48), .lit (.int .u8 27), .lit (.int .u8 60), .lit (.int .u8 41), .lit (.int .u8 37), .lit (.int .u8 16), .lit (.int .u8 46), .lit (.int .u8 35), .lit (.int .u8 44), .lit (.int .u8 21), .lit (.int .u8 52), .lit (.int .u8 32), .lit (.int .u8 23), .lit (.int .u8 11), .lit (.int .u8 54), .lit (.int .u8 26), .lit (.int .u8 40), .lit (.int .u8 15), .lit (.int .u8 34), .lit (.int .u8 20), .lit (.int .u8 31), .lit (.int .u8 10), .lit (.int .u8 25), .lit (.int .u8 14), .lit (.int .u8 19), .lit (.int .u8 9), .lit (.int .u8 13), .lit (.int .u8 8), .lit (.int .u8 7), .lit (.int .u8 6)]

/-- 'pochoirlaw33.TextCodes': WHATEVER THE INPUT: true; the input reads as it did. -/
def textCodesSpec : ChangeSpec := { name := "textCodes", fn := fun _ => fun
  | [d1, d2] => { results := [.lit (.bool true)], args := [d1, d2] }
  | _ => none }
def textCodesRow : OpenClaim := { program := "ytbnnfmncipdlpaadoor", sum := "548c692ffd7cd25b2eb2295e9c46732117bb71335757f7e6341c25ba8fb7661a", func := "pochoir/pochoirlaw33.TextCodes", spec := "textCodes", inPlace := ["internal/bytealg.IndexByteString", "internal/bytealg.IndexString", "internal/abi.NoEscape"], unfollowed := true, recurses := true, named := ["unicode/utf8.first", "unicode/utf8.acceptRanges", "internal/bytealg.MaxLen"], apart := false, laid := [("unicode/utf8.acceptRanges", laid_unicode_utf8_acceptRanges), ("unicode/utf8.first", laid_unicode_utf8_first)] }
def TextCodesSaid : Prop := textCodesRow.holds Tryd.pinned (OpenSpec.ofChange textCodesSpec)

/-- ITS FALSE NEIGHBOUR: 'it returns false'. Refute it at one input. -/
def textCodesWrong : ChangeSpec := { name := "textCodes", fn := fun _ => fun
  | [d1, d2] => { results := [.lit (.bool false)], args := [d1, d2] }
  | _ => none }
def TextCodesWrongFalsely : Prop := textCodesRow.holds Tryd.pinned (OpenSpec.ofChange textCodesWrong)

/-- 'pochoirlaw33.TextLays': WHATEVER THE INPUT: true; the input reads as it did. -/
def textLaysSpec : ChangeSpec := { name := "textLays", fn := fun _ => fun
  | [d1, d2] => { results := [.lit (.bool true)], args := [d1, d2] }
  | _ => none }
def textLaysRow : OpenClaim := { program := "ytbnnfmncipdlpaadoor", sum := "548c692ffd7cd25b2eb2295e9c46732117bb71335757f7e6341c25ba8fb7661a", func := "pochoir/pochoirlaw33.TextLays", spec := "textLays", inPlace := ["internal/bytealg.IndexByteString", "internal/bytealg.IndexString", "internal/abi.NoEscape"], unfollowed := true, recurses := true, named := ["unicode/utf8.first", "unicode/utf8.acceptRanges", "internal/bytealg.MaxLen"], apart := false, laid := [("unicode/utf8.acceptRanges", laid_unicode_utf8_acceptRanges), ("unicode/utf8.first", laid_unicode_utf8_first)] }
def TextLaysSaid : Prop := textLaysRow.holds Tryd.pinned (OpenSpec.ofChange textLaysSpec)

/-- ITS FALSE NEIGHBOUR: 'it returns false'. Refute it at one input. -/
def textLaysWrong : ChangeSpec := { name := "textLays", fn := fun _ => fun
  | [d1, d2] => { results := [.lit (.bool false)], args := [d1, d2] }
  | _ => none }
def TextLaysWrongFalsely : Prop := textLaysRow.holds Tryd.pinned (OpenSpec.ofChange textLaysWrong)

/-- 'pochoirlaw33.TextWraps': WHATEVER THE INPUT: true; the input reads as it did. -/
def textWrapsSpec : ChangeSpec := { name := "textWraps", fn := fun _ => fun
  | [d1, d2, d3] => { results := [.lit (.bool true)], args := [d1, d2, d3] }
  | _ => none }
def textWrapsRow : OpenClaim := { program := "ytbnnfmncipdlpaadoor", sum := "548c692ffd7cd25b2eb2295e9c46732117bb71335757f7e6341c25ba8fb7661a", func := "pochoir/pochoirlaw33.TextWraps", spec := "textWraps", inPlace := ["internal/bytealg.IndexByteString", "internal/bytealg.IndexString", "internal/abi.NoEscape"], unfollowed := true, recurses := true, named := ["unicode/utf8.first", "unicode/utf8.acceptRanges", "internal/bytealg.MaxLen"], apart := false, laid := [("unicode/utf8.acceptRanges", laid_unicode_utf8_acceptRanges), ("unicode/utf8.first", laid_unicode_utf8_first)] }
def TextWrapsSaid : Prop := textWrapsRow.holds Tryd.pinned (OpenSpec.ofChange textWrapsSpec)

/-- ITS FALSE NEIGHBOUR: 'it returns false'. Refute it at one input. -/
def textWrapsWrong : ChangeSpec := { name := "textWraps", fn := fun _ => fun
  | [d1, d2, d3] => { results := [.lit (.bool false)], args := [d1, d2, d3] }
  | _ => none }
def TextWrapsWrongFalsely : Prop := textWrapsRow.holds Tryd.pinned (OpenSpec.ofChange textWrapsWrong)

/-- 'pochoirlaw33.TextJoined': WHATEVER THE INPUT: true; the input reads as it did. -/
def textJoinedSpec : ChangeSpec := { name := "textJoined", fn := fun _ => fun
  | [d1, d2, d3] => { results := [.lit (.bool true)], args := [d1, d2, d3] }
  | _ => none }
def textJoinedRow : OpenClaim := { program := "ytbnnfmncipdlpaadoor", sum := "548c692ffd7cd25b2eb2295e9c46732117bb71335757f7e6341c25ba8fb7661a", func := "pochoir/pochoirlaw33.TextJoined", spec := "textJoined", inPlace := ["internal/bytealg.IndexByteString", "internal/bytealg.IndexString", "internal/abi.NoEscape"], unfollowed := true, recurses := true, named := ["unicode/utf8.first", "unicode/utf8.acceptRanges", "internal/bytealg.MaxLen"], apart := false, laid := [("unicode/utf8.acceptRanges", laid_unicode_utf8_acceptRanges), ("unicode/utf8.first", laid_unicode_utf8_first)] }
def TextJoinedSaid : Prop := textJoinedRow.holds Tryd.pinned (OpenSpec.ofChange textJoinedSpec)

/-- ITS FALSE NEIGHBOUR: 'it returns false'. Refute it at one input. -/
def textJoinedWrong : ChangeSpec := { name := "textJoined", fn := fun _ => fun
  | [d1, d2, d3] => { results := [.lit (.bool false)], args := [d1, d2, d3] }
  | _ => none }
def TextJoinedWrongFalsely : Prop := textJoinedRow.holds Tryd.pinned (OpenSpec.ofChange textJoinedWrong)

/-- 'pochoirlaw34.RasterDraws': WHATEVER THE INPUT: true; the input reads as it did. -/
def rasterDrawsSpec : ChangeSpec := { name := "rasterDraws", fn := fun _ => fun
  | [d1, d2, d3] => { results := [.lit (.bool true)], args := [d1, d2, d3] }
  | _ => none }
def rasterDrawsRow : OpenClaim := { program := "ytbnnfmncipdlpaadoor", sum := "548c692ffd7cd25b2eb2295e9c46732117bb71335757f7e6341c25ba8fb7661a", func := "pochoir/pochoirlaw34.RasterDraws", spec := "rasterDraws", inPlace := ["math/bits.Sub64"], named := ["math/bits.deBruijn64tab", "math/bits.divideError", "math/bits.overflowError"], apart := false, laid := [("math/bits.deBruijn64tab", laid_math_bits_deBruijn64tab)] }
def RasterDrawsSaid : Prop := rasterDrawsRow.holds Tryd.pinned (OpenSpec.ofChange rasterDrawsSpec)

/-- ITS FALSE NEIGHBOUR: 'it returns false'. Refute it at one input. -/
def rasterDrawsWrong : ChangeSpec := { name := "rasterDraws", fn := fun _ => fun
  | [d1, d2, d3] => { results := [.lit (.bool false)], args := [d1, d2, d3] }
  | _ => none }
def RasterDrawsWrongFalsely : Prop := rasterDrawsRow.holds Tryd.pinned (OpenSpec.ofChange rasterDrawsWrong)

/-- 'pochoirlaw34.RasterParts': WHATEVER THE INPUT: true; the input reads as it did. -/
def rasterPartsSpec : ChangeSpec := { name := "rasterParts", fn := fun _ => fun
  | [d1, d2, d3] => { results := [.lit (.bool true)], args := [d1, d2, d3] }
  | _ => none }
def rasterPartsRow : OpenClaim := { program := "ytbnnfmncipdlpaadoor", sum := "548c692ffd7cd25b2eb2295e9c46732117bb71335757f7e6341c25ba8fb7661a", func := "pochoir/pochoirlaw34.RasterParts", spec := "rasterParts", inPlace := ["math/bits.Sub64"], named := ["math/bits.deBruijn64tab", "math/bits.divideError", "math/bits.overflowError"], apart := false, laid := [("math/bits.deBruijn64tab", laid_math_bits_deBruijn64tab)] }
def RasterPartsSaid : Prop := rasterPartsRow.holds Tryd.pinned (OpenSpec.ofChange rasterPartsSpec)

/-- ITS FALSE NEIGHBOUR: 'it returns false'. Refute it at one input. -/
def rasterPartsWrong : ChangeSpec := { name := "rasterParts", fn := fun _ => fun
  | [d1, d2, d3] => { results := [.lit (.bool false)], args := [d1, d2, d3] }
  | _ => none }
def RasterPartsWrongFalsely : Prop := rasterPartsRow.holds Tryd.pinned (OpenSpec.ofChange rasterPartsWrong)

/-- 'pochoirlaw34.RasterMoved': WHATEVER THE INPUT: true; the input reads as it did. -/
def rasterMovedSpec : ChangeSpec := { name := "rasterMoved", fn := fun _ => fun
  | [d1, d2, d3] => { results := [.lit (.bool true)], args := [d1, d2, d3] }
  | _ => none }
def rasterMovedRow : OpenClaim := { program := "ytbnnfmncipdlpaadoor", sum := "548c692ffd7cd25b2eb2295e9c46732117bb71335757f7e6341c25ba8fb7661a", func := "pochoir/pochoirlaw34.RasterMoved", spec := "rasterMoved", inPlace := ["math/bits.Sub64"], named := ["math/bits.deBruijn64tab", "math/bits.divideError", "math/bits.overflowError"], apart := false, laid := [("math/bits.deBruijn64tab", laid_math_bits_deBruijn64tab)] }
def RasterMovedSaid : Prop := rasterMovedRow.holds Tryd.pinned (OpenSpec.ofChange rasterMovedSpec)

/-- ITS FALSE NEIGHBOUR: 'it returns false'. Refute it at one input. -/
def rasterMovedWrong : ChangeSpec := { name := "rasterMoved", fn := fun _ => fun
  | [d1, d2, d3] => { results := [.lit (.bool false)], args := [d1, d2, d3] }
  | _ => none }
def RasterMovedWrongFalsely : Prop := rasterMovedRow.holds Tryd.pinned (OpenSpec.ofChange rasterMovedWrong)

/-- 'pochoirlaw34.RasterPixels': WHATEVER THE INPUT: true; the input reads as it did. -/
def rasterPixelsSpec : ChangeSpec := { name := "rasterPixels", fn := fun _ => fun
  | [d1, d2, d3] => { results := [.lit (.bool true)], args := [d1, d2, d3] }
  | _ => none }
def rasterPixelsRow : OpenClaim := { program := "ytbnnfmncipdlpaadoor", sum := "548c692ffd7cd25b2eb2295e9c46732117bb71335757f7e6341c25ba8fb7661a", func := "pochoir/pochoirlaw34.RasterPixels", spec := "rasterPixels", inPlace := ["math/bits.Sub64"], named := ["math/bits.deBruijn64tab", "math/bits.divideError", "math/bits.overflowError"], apart := false, laid := [("math/bits.deBruijn64tab", laid_math_bits_deBruijn64tab)] }
def RasterPixelsSaid : Prop := rasterPixelsRow.holds Tryd.pinned (OpenSpec.ofChange rasterPixelsSpec)

/-- ITS FALSE NEIGHBOUR: 'it returns false'. Refute it at one input. -/
def rasterPixelsWrong : ChangeSpec := { name := "rasterPixels", fn := fun _ => fun
  | [d1, d2, d3] => { results := [.lit (.bool false)], args := [d1, d2, d3] }
  | _ => none }
def RasterPixelsWrongFalsely : Prop := rasterPixelsRow.holds Tryd.pinned (OpenSpec.ofChange rasterPixelsWrong)

/- THE SECOND FORM. 'bulk': how many values and letters a reading holds, each counted each time it is reached (what is shared counts as often as it is met; a slice's spare places count too). A statement '..UptoSaid' is the law's where the arguments, and the package variables that the reading takes, are together of bulk at most 1048576: NARROWER than '..Said'. Prove '..Said' where nothing that the law and all that it calls make is longer than what came in: it says more and counts as full. Else prove '..UptoSaid'. A law counts once. -/
mutual
def uptoBulk {H : Type} : DataW H → Nat
  | .lit (.string bytes) => bytes.length + 1
  | .lit _ => 1
  | .nil => 1
  | .ptr d => uptoBulk d + 1
  | .slice elems spare => uptoBulkAll elems + uptoBulkAll spare + 1
  | .agg parts => uptoBulkAll parts + 1
  | .iface _ d => uptoBulk d + 1
  | .map entries => uptoBulkEntries entries + 1
  | .held _ => 1
def uptoBulkAll {H : Type} : List (DataW H) → Nat
  | [] => 0
  | d :: r => uptoBulk d + uptoBulkAll r
def uptoBulkEntries {H : Type} : List (Lit × DataW H) → Nat
  | [] => 0
  | x :: r => uptoBulkEntry x + uptoBulkEntries r
def uptoBulkEntry {H : Type} : Lit × DataW H → Nat
  | (.string bytes, d) => bytes.length + uptoBulk d + 1
  | (_, d) => uptoBulk d + 1
 end
def uptoSmall : (H : Type) → List (DataW H) → Bool := fun _ ds => decide (uptoBulkAll ds ≤ 1048576)
def OpenSpec.upto (s : _root_.Go.ChangeSpec) : _root_.Go.OpenSpec := { _root_.Go.OpenSpec.ofChange s with cond := some uptoSmall }

/-- 'pochoirlaw33.TextCodes', WHERE WHAT IT READS IS OF BULK AT MOST 1048576: true; the input reads as it did. -/
def textCodesUptoRow : OpenClaim := { program := "ytbnnfmncipdlpaadoor", sum := "548c692ffd7cd25b2eb2295e9c46732117bb71335757f7e6341c25ba8fb7661a", func := "pochoir/pochoirlaw33.TextCodes", spec := "textCodes", inPlace := ["internal/bytealg.IndexByteString", "internal/bytealg.IndexString", "internal/abi.NoEscape"], unfollowed := true, recurses := true, named := ["unicode/utf8.first", "unicode/utf8.acceptRanges", "internal/bytealg.MaxLen"], apart := false, laid := [("unicode/utf8.acceptRanges", laid_unicode_utf8_acceptRanges), ("unicode/utf8.first", laid_unicode_utf8_first)], narrowed := true }
def TextCodesUptoSaid : Prop := textCodesUptoRow.holds Tryd.pinned (OpenSpec.upto textCodesSpec)

/-- 'pochoirlaw33.TextLays', WHERE WHAT IT READS IS OF BULK AT MOST 1048576: true; the input reads as it did. -/
def textLaysUptoRow : OpenClaim := { program := "ytbnnfmncipdlpaadoor", sum := "548c692ffd7cd25b2eb2295e9c46732117bb71335757f7e6341c25ba8fb7661a", func := "pochoir/pochoirlaw33.TextLays", spec := "textLays", inPlace := ["internal/bytealg.IndexByteString", "internal/bytealg.IndexString", "internal/abi.NoEscape"], unfollowed := true, recurses := true, named := ["unicode/utf8.first", "unicode/utf8.acceptRanges", "internal/bytealg.MaxLen"], apart := false, laid := [("unicode/utf8.acceptRanges", laid_unicode_utf8_acceptRanges), ("unicode/utf8.first", laid_unicode_utf8_first)], narrowed := true }
def TextLaysUptoSaid : Prop := textLaysUptoRow.holds Tryd.pinned (OpenSpec.upto textLaysSpec)

/-- 'pochoirlaw33.TextWraps', WHERE WHAT IT READS IS OF BULK AT MOST 1048576: true; the input reads as it did. -/
def textWrapsUptoRow : OpenClaim := { program := "ytbnnfmncipdlpaadoor", sum := "548c692ffd7cd25b2eb2295e9c46732117bb71335757f7e6341c25ba8fb7661a", func := "pochoir/pochoirlaw33.TextWraps", spec := "textWraps", inPlace := ["internal/bytealg.IndexByteString", "internal/bytealg.IndexString", "internal/abi.NoEscape"], unfollowed := true, recurses := true, named := ["unicode/utf8.first", "unicode/utf8.acceptRanges", "internal/bytealg.MaxLen"], apart := false, laid := [("unicode/utf8.acceptRanges", laid_unicode_utf8_acceptRanges), ("unicode/utf8.first", laid_unicode_utf8_first)], narrowed := true }
def TextWrapsUptoSaid : Prop := textWrapsUptoRow.holds Tryd.pinned (OpenSpec.upto textWrapsSpec)

/-- 'pochoirlaw33.TextJoined', WHERE WHAT IT READS IS OF BULK AT MOST 1048576: true; the input reads as it did. -/
def textJoinedUptoRow : OpenClaim := { program := "ytbnnfmncipdlpaadoor", sum := "548c692ffd7cd25b2eb2295e9c46732117bb71335757f7e6341c25ba8fb7661a", func := "pochoir/pochoirlaw33.TextJoined", spec := "textJoined", inPlace := ["internal/bytealg.IndexByteString", "internal/bytealg.IndexString", "internal/abi.NoEscape"], unfollowed := true, recurses := true, named := ["unicode/utf8.first", "unicode/utf8.acceptRanges", "internal/bytealg.MaxLen"], apart := false, laid := [("unicode/utf8.acceptRanges", laid_unicode_utf8_acceptRanges), ("unicode/utf8.first", laid_unicode_utf8_first)], narrowed := true }
def TextJoinedUptoSaid : Prop := textJoinedUptoRow.holds Tryd.pinned (OpenSpec.upto textJoinedSpec)

/-- 'pochoirlaw34.RasterDraws', WHERE WHAT IT READS IS OF BULK AT MOST 1048576: true; the input reads as it did. -/
def rasterDrawsUptoRow : OpenClaim := { program := "ytbnnfmncipdlpaadoor", sum := "548c692ffd7cd25b2eb2295e9c46732117bb71335757f7e6341c25ba8fb7661a", func := "pochoir/pochoirlaw34.RasterDraws", spec := "rasterDraws", inPlace := ["math/bits.Sub64"], named := ["math/bits.deBruijn64tab", "math/bits.divideError", "math/bits.overflowError"], apart := false, laid := [("math/bits.deBruijn64tab", laid_math_bits_deBruijn64tab)], narrowed := true }
def RasterDrawsUptoSaid : Prop := rasterDrawsUptoRow.holds Tryd.pinned (OpenSpec.upto rasterDrawsSpec)

/-- 'pochoirlaw34.RasterParts', WHERE WHAT IT READS IS OF BULK AT MOST 1048576: true; the input reads as it did. -/
def rasterPartsUptoRow : OpenClaim := { program := "ytbnnfmncipdlpaadoor", sum := "548c692ffd7cd25b2eb2295e9c46732117bb71335757f7e6341c25ba8fb7661a", func := "pochoir/pochoirlaw34.RasterParts", spec := "rasterParts", inPlace := ["math/bits.Sub64"], named := ["math/bits.deBruijn64tab", "math/bits.divideError", "math/bits.overflowError"], apart := false, laid := [("math/bits.deBruijn64tab", laid_math_bits_deBruijn64tab)], narrowed := true }
def RasterPartsUptoSaid : Prop := rasterPartsUptoRow.holds Tryd.pinned (OpenSpec.upto rasterPartsSpec)

/-- 'pochoirlaw34.RasterMoved', WHERE WHAT IT READS IS OF BULK AT MOST 1048576: true; the input reads as it did. -/
def rasterMovedUptoRow : OpenClaim := { program := "ytbnnfmncipdlpaadoor", sum := "548c692ffd7cd25b2eb2295e9c46732117bb71335757f7e6341c25ba8fb7661a", func := "pochoir/pochoirlaw34.RasterMoved", spec := "rasterMoved", inPlace := ["math/bits.Sub64"], named := ["math/bits.deBruijn64tab", "math/bits.divideError", "math/bits.overflowError"], apart := false, laid := [("math/bits.deBruijn64tab", laid_math_bits_deBruijn64tab)], narrowed := true }
def RasterMovedUptoSaid : Prop := rasterMovedUptoRow.holds Tryd.pinned (OpenSpec.upto rasterMovedSpec)

/-- 'pochoirlaw34.RasterPixels', WHERE WHAT IT READS IS OF BULK AT MOST 1048576: true; the input reads as it did. -/
def rasterPixelsUptoRow : OpenClaim := { program := "ytbnnfmncipdlpaadoor", sum := "548c692ffd7cd25b2eb2295e9c46732117bb71335757f7e6341c25ba8fb7661a", func := "pochoir/pochoirlaw34.RasterPixels", spec := "rasterPixels", inPlace := ["math/bits.Sub64"], named := ["math/bits.deBruijn64tab", "math/bits.divideError", "math/bits.overflowError"], apart := false, laid := [("math/bits.deBruijn64tab", laid_math_bits_deBruijn64tab)], narrowed := true }
def RasterPixelsUptoSaid : Prop := rasterPixelsUptoRow.holds Tryd.pinned (OpenSpec.upto rasterPixelsSpec)

end Rows
end Go.Proofs.YtbnnfmncipdlpaaDoor
