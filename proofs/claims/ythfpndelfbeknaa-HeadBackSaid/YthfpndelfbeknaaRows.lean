/-
  No cell of these rows narrows 'for every input' (looked for: loops, veiled, ifaces, maps, wideKeys, modest, calm, conditions, laid).
  DERIVED. THE GIVEN ROWS OF THIS SEAT. 11 by the template 'for every input the law returns true; each argument reads behind the call as it read before'; 0 by the template 'total and deterministic' (their statements: YthfpndelfbeknaaTotals.lean).
  GIVEN WITH THE SEED: the statements are not yours to turn. If you find one false, say at which input.
  Laid BY PROGRAM, IN A SANDBOX (cutbox-rows.mjs): the forced cells as the released guide's own fill.sh prints them over the translation 7061100d76604382… (all of the seat's roots in one cut). By AI agents, Wed Nov 11 2026. No macro, syntax, notation, axiom, sorry.
-/
import Derived.Test.YthfpndelfbeknaaChecked
import GoSem.Claim
import GoSem.ClaimJoined
import GoSem.ClaimMapViews
import Derived.JoinedTies
import Derived.KernelRfl
namespace Go.Proofs.Ythfpndelfbeknaa
/- THE CELL 'sum', in the pinned program and in every row, IS THE sha256 OF THE DUMP (.gsa) THAT YthfpndelfbeknaaProg.lean LOADS. Nothing in Lean hashes anything: it is a label: what it is worth is what the hold of that sum in a sandbox is worth. -/
noncomputable def Try.pinned : Pinned := { name := "ythfpndelfbeknaa", sum := "7061100d76604382f82e606af44b3540996eebc8dfc3edddd7a556ce6a5fd061", checked := Try.checked }
namespace Rows
def none {H : Type} : Left H := { results := [], args := [] }

/-- 'pochoirlaw39.ChordAsks': WHATEVER THE INPUT: true; the input reads as it did. -/
def chordAsksSpec : ChangeSpec := { name := "chordAsks", fn := fun _ => fun
  | [d1, d2, d3] => { results := [.lit (.bool true)], args := [d1, d2, d3] }
  | _ => none }
def chordAsksRow : OpenClaim := { program := "ythfpndelfbeknaa", sum := "7061100d76604382f82e606af44b3540996eebc8dfc3edddd7a556ce6a5fd061", func := "pochoir/pochoirlaw39.ChordAsks", spec := "chordAsks", recurses := true, apart := false }
def ChordAsksSaid : Prop := chordAsksRow.holds Try.pinned (OpenSpec.ofChange chordAsksSpec)

/-- ITS FALSE NEIGHBOUR: 'it returns false'. Refute it at one input. -/
def chordAsksWrong : ChangeSpec := { name := "chordAsks", fn := fun _ => fun
  | [d1, d2, d3] => { results := [.lit (.bool false)], args := [d1, d2, d3] }
  | _ => none }
def ChordAsksWrongFalsely : Prop := chordAsksRow.holds Try.pinned (OpenSpec.ofChange chordAsksWrong)

/-- 'pochoirlaw39.ChordHalves': WHATEVER THE INPUT: true; the input reads as it did. -/
def chordHalvesSpec : ChangeSpec := { name := "chordHalves", fn := fun _ => fun
  | [d1, d2, d3] => { results := [.lit (.bool true)], args := [d1, d2, d3] }
  | _ => none }
def chordHalvesRow : OpenClaim := { program := "ythfpndelfbeknaa", sum := "7061100d76604382f82e606af44b3540996eebc8dfc3edddd7a556ce6a5fd061", func := "pochoir/pochoirlaw39.ChordHalves", spec := "chordHalves", recurses := true, apart := false }
def ChordHalvesSaid : Prop := chordHalvesRow.holds Try.pinned (OpenSpec.ofChange chordHalvesSpec)

/-- ITS FALSE NEIGHBOUR: 'it returns false'. Refute it at one input. -/
def chordHalvesWrong : ChangeSpec := { name := "chordHalves", fn := fun _ => fun
  | [d1, d2, d3] => { results := [.lit (.bool false)], args := [d1, d2, d3] }
  | _ => none }
def ChordHalvesWrongFalsely : Prop := chordHalvesRow.holds Try.pinned (OpenSpec.ofChange chordHalvesWrong)

/-- 'pochoirlaw39.ChordNear': WHATEVER THE INPUT: true; the input reads as it did. -/
def chordNearSpec : ChangeSpec := { name := "chordNear", fn := fun _ => fun
  | [d1, d2] => { results := [.lit (.bool true)], args := [d1, d2] }
  | _ => none }
def chordNearRow : OpenClaim := { program := "ythfpndelfbeknaa", sum := "7061100d76604382f82e606af44b3540996eebc8dfc3edddd7a556ce6a5fd061", func := "pochoir/pochoirlaw39.ChordNear", spec := "chordNear", recurses := true, apart := false }
def ChordNearSaid : Prop := chordNearRow.holds Try.pinned (OpenSpec.ofChange chordNearSpec)

/-- ITS FALSE NEIGHBOUR: 'it returns false'. Refute it at one input. -/
def chordNearWrong : ChangeSpec := { name := "chordNear", fn := fun _ => fun
  | [d1, d2] => { results := [.lit (.bool false)], args := [d1, d2] }
  | _ => none }
def ChordNearWrongFalsely : Prop := chordNearRow.holds Try.pinned (OpenSpec.ofChange chordNearWrong)

/-- 'pochoirlaw25.CellOf': WHATEVER THE INPUT: true; the input reads as it did. -/
def cellOfSpec : ChangeSpec := { name := "cellOf", fn := fun _ => fun
  | [d1, d2, d3] => { results := [.lit (.bool true)], args := [d1, d2, d3] }
  | _ => none }
def cellOfRow : OpenClaim := { program := "ythfpndelfbeknaa", sum := "7061100d76604382f82e606af44b3540996eebc8dfc3edddd7a556ce6a5fd061", func := "pochoir/pochoirlaw25.CellOf", spec := "cellOf", apart := false }
def CellOfSaid : Prop := cellOfRow.holds Try.pinned (OpenSpec.ofChange cellOfSpec)

/-- ITS FALSE NEIGHBOUR: 'it returns false'. Refute it at one input. -/
def cellOfWrong : ChangeSpec := { name := "cellOf", fn := fun _ => fun
  | [d1, d2, d3] => { results := [.lit (.bool false)], args := [d1, d2, d3] }
  | _ => none }
def CellOfWrongFalsely : Prop := cellOfRow.holds Try.pinned (OpenSpec.ofChange cellOfWrong)

/-- 'pochoirlaw25.CellGrows': WHATEVER THE INPUT: true; the input reads as it did. -/
def cellGrowsSpec : ChangeSpec := { name := "cellGrows", fn := fun _ => fun
  | [d1, d2, d3] => { results := [.lit (.bool true)], args := [d1, d2, d3] }
  | _ => none }
def cellGrowsRow : OpenClaim := { program := "ythfpndelfbeknaa", sum := "7061100d76604382f82e606af44b3540996eebc8dfc3edddd7a556ce6a5fd061", func := "pochoir/pochoirlaw25.CellGrows", spec := "cellGrows", apart := false }
def CellGrowsSaid : Prop := cellGrowsRow.holds Try.pinned (OpenSpec.ofChange cellGrowsSpec)

/-- ITS FALSE NEIGHBOUR: 'it returns false'. Refute it at one input. -/
def cellGrowsWrong : ChangeSpec := { name := "cellGrows", fn := fun _ => fun
  | [d1, d2, d3] => { results := [.lit (.bool false)], args := [d1, d2, d3] }
  | _ => none }
def CellGrowsWrongFalsely : Prop := cellGrowsRow.holds Try.pinned (OpenSpec.ofChange cellGrowsWrong)

/-- 'pochoirlaw25.CellMiddles': WHATEVER THE INPUT: true; the input reads as it did. -/
def cellMiddlesSpec : ChangeSpec := { name := "cellMiddles", fn := fun _ => fun
  | [d1, d2, d3] => { results := [.lit (.bool true)], args := [d1, d2, d3] }
  | _ => none }
def cellMiddlesRow : OpenClaim := { program := "ythfpndelfbeknaa", sum := "7061100d76604382f82e606af44b3540996eebc8dfc3edddd7a556ce6a5fd061", func := "pochoir/pochoirlaw25.CellMiddles", spec := "cellMiddles", unfollowed := true, recurses := true, apart := false }
def CellMiddlesSaid : Prop := cellMiddlesRow.holds Try.pinned (OpenSpec.ofChange cellMiddlesSpec)

/-- ITS FALSE NEIGHBOUR: 'it returns false'. Refute it at one input. -/
def cellMiddlesWrong : ChangeSpec := { name := "cellMiddles", fn := fun _ => fun
  | [d1, d2, d3] => { results := [.lit (.bool false)], args := [d1, d2, d3] }
  | _ => none }
def CellMiddlesWrongFalsely : Prop := cellMiddlesRow.holds Try.pinned (OpenSpec.ofChange cellMiddlesWrong)

/-- 'pochoirlaw11.MetricReads': WHATEVER THE INPUT: true; the input reads as it did. -/
def metricReadsSpec : ChangeSpec := { name := "metricReads", fn := fun _ => fun
  | [d1, d2, d3] => { results := [.lit (.bool true)], args := [d1, d2, d3] }
  | _ => none }
def metricReadsRow : OpenClaim := { program := "ythfpndelfbeknaa", sum := "7061100d76604382f82e606af44b3540996eebc8dfc3edddd7a556ce6a5fd061", func := "pochoir/pochoirlaw11.MetricReads", spec := "metricReads", inPlace := ["internal/abi.NoEscape"], apart := false }
def MetricReadsSaid : Prop := metricReadsRow.holds Try.pinned (OpenSpec.ofChange metricReadsSpec)

/-- ITS FALSE NEIGHBOUR: 'it returns false'. Refute it at one input. -/
def metricReadsWrong : ChangeSpec := { name := "metricReads", fn := fun _ => fun
  | [d1, d2, d3] => { results := [.lit (.bool false)], args := [d1, d2, d3] }
  | _ => none }
def MetricReadsWrongFalsely : Prop := metricReadsRow.holds Try.pinned (OpenSpec.ofChange metricReadsWrong)

/-- 'pochoirlaw11.MetricWidths': WHATEVER THE INPUT: true; the input reads as it did. -/
def metricWidthsSpec : ChangeSpec := { name := "metricWidths", fn := fun _ => fun
  | [d1, d2] => { results := [.lit (.bool true)], args := [d1, d2] }
  | _ => none }
def metricWidthsRow : OpenClaim := { program := "ythfpndelfbeknaa", sum := "7061100d76604382f82e606af44b3540996eebc8dfc3edddd7a556ce6a5fd061", func := "pochoir/pochoirlaw11.MetricWidths", spec := "metricWidths", inPlace := ["internal/abi.NoEscape"], apart := false }
def MetricWidthsSaid : Prop := metricWidthsRow.holds Try.pinned (OpenSpec.ofChange metricWidthsSpec)

/-- ITS FALSE NEIGHBOUR: 'it returns false'. Refute it at one input. -/
def metricWidthsWrong : ChangeSpec := { name := "metricWidths", fn := fun _ => fun
  | [d1, d2] => { results := [.lit (.bool false)], args := [d1, d2] }
  | _ => none }
def MetricWidthsWrongFalsely : Prop := metricWidthsRow.holds Try.pinned (OpenSpec.ofChange metricWidthsWrong)

/-- 'pochoirlaw10.HeadBack': WHATEVER THE INPUT: true; the input reads as it did. -/
def headBackSpec : ChangeSpec := { name := "headBack", fn := fun _ => fun
  | [d] => { results := [.lit (.bool true)], args := [d] }
  | _ => none }
def headBackRow : OpenClaim := { program := "ythfpndelfbeknaa", sum := "7061100d76604382f82e606af44b3540996eebc8dfc3edddd7a556ce6a5fd061", func := "pochoir/pochoirlaw10.HeadBack", spec := "headBack", apart := false }
def HeadBackSaid : Prop := headBackRow.holds Try.pinned (OpenSpec.ofChange headBackSpec)

/-- ITS FALSE NEIGHBOUR: 'it returns false'. Refute it at one input. -/
def headBackWrong : ChangeSpec := { name := "headBack", fn := fun _ => fun
  | [d] => { results := [.lit (.bool false)], args := [d] }
  | _ => none }
def HeadBackWrongFalsely : Prop := headBackRow.holds Try.pinned (OpenSpec.ofChange headBackWrong)

/-- 'pochoirlaw10.HeadAny': WHATEVER THE INPUT: true; the input reads as it did. -/
def headAnySpec : ChangeSpec := { name := "headAny", fn := fun _ => fun
  | [d] => { results := [.lit (.bool true)], args := [d] }
  | _ => none }
def headAnyRow : OpenClaim := { program := "ythfpndelfbeknaa", sum := "7061100d76604382f82e606af44b3540996eebc8dfc3edddd7a556ce6a5fd061", func := "pochoir/pochoirlaw10.HeadAny", spec := "headAny", apart := false }
def HeadAnySaid : Prop := headAnyRow.holds Try.pinned (OpenSpec.ofChange headAnySpec)

/-- ITS FALSE NEIGHBOUR: 'it returns false'. Refute it at one input. -/
def headAnyWrong : ChangeSpec := { name := "headAny", fn := fun _ => fun
  | [d] => { results := [.lit (.bool false)], args := [d] }
  | _ => none }
def HeadAnyWrongFalsely : Prop := headAnyRow.holds Try.pinned (OpenSpec.ofChange headAnyWrong)

/-- 'pochoirlaw11.MetricPlaces': WHATEVER THE INPUT: true; the input reads as it did. -/
def metricPlacesSpec : ChangeSpec := { name := "metricPlaces", fn := fun _ => fun
  | [d1, d2] => { results := [.lit (.bool true)], args := [d1, d2] }
  | _ => none }
def metricPlacesRow : OpenClaim := { program := "ythfpndelfbeknaa", sum := "7061100d76604382f82e606af44b3540996eebc8dfc3edddd7a556ce6a5fd061", func := "pochoir/pochoirlaw11.MetricPlaces", spec := "metricPlaces", inPlace := ["internal/abi.NoEscape"], apart := false }
def MetricPlacesSaid : Prop := metricPlacesRow.holds Try.pinned (OpenSpec.ofChange metricPlacesSpec)

/-- ITS FALSE NEIGHBOUR: 'it returns false'. Refute it at one input. -/
def metricPlacesWrong : ChangeSpec := { name := "metricPlaces", fn := fun _ => fun
  | [d1, d2] => { results := [.lit (.bool false)], args := [d1, d2] }
  | _ => none }
def MetricPlacesWrongFalsely : Prop := metricPlacesRow.holds Try.pinned (OpenSpec.ofChange metricPlacesWrong)

/- THE SECOND FORM. 'bulk': how many values and letters a reading holds, each counted each time it is reached (what is shared counts as often as it is met; a slice's spare places count too). A statement '..UptoSaid' is the law's where the arguments, and the package variables that the reading takes, are together of bulk at most 1048576: NARROWER than '..Said'. Prove '..Said' where nothing that the law and all that it calls make is longer than what came in: it says more and counts as full. Else prove '..UptoSaid'. A law counts once. -/
mutual
def uptoBulk {H : Type} : DataW H → Nat
  | .lit (.string bytes) => bytes.length + 1
  | .lit _ => 1
  | .nil => 1
  | .ptr d => uptoBulk d + 1
  | .slice elems spare => uptoBulkAll elems + uptoBulkAll spare + 1
  | .agg parts => uptoBulkAll parts + 1
  | .iface _ d => uptoBulk d + 1
  | .map entries => uptoBulkEntries entries + 1
  | .held _ => 1
def uptoBulkAll {H : Type} : List (DataW H) → Nat
  | [] => 0
  | d :: r => uptoBulk d + uptoBulkAll r
def uptoBulkEntries {H : Type} : List (Lit × DataW H) → Nat
  | [] => 0
  | x :: r => uptoBulkEntry x + uptoBulkEntries r
def uptoBulkEntry {H : Type} : Lit × DataW H → Nat
  | (.string bytes, d) => bytes.length + uptoBulk d + 1
  | (_, d) => uptoBulk d + 1
 end
def uptoSmall : (H : Type) → List (DataW H) → Bool := fun _ ds => decide (uptoBulkAll ds ≤ 1048576)
def OpenSpec.upto (s : _root_.Go.ChangeSpec) : _root_.Go.OpenSpec := { _root_.Go.OpenSpec.ofChange s with cond := some uptoSmall }

/-- 'pochoirlaw39.ChordAsks', WHERE WHAT IT READS IS OF BULK AT MOST 1048576: true; the input reads as it did. -/
def chordAsksUptoRow : OpenClaim := { program := "ythfpndelfbeknaa", sum := "7061100d76604382f82e606af44b3540996eebc8dfc3edddd7a556ce6a5fd061", func := "pochoir/pochoirlaw39.ChordAsks", spec := "chordAsks", recurses := true, apart := false, narrowed := true }
def ChordAsksUptoSaid : Prop := chordAsksUptoRow.holds Try.pinned (OpenSpec.upto chordAsksSpec)

/-- 'pochoirlaw39.ChordHalves', WHERE WHAT IT READS IS OF BULK AT MOST 1048576: true; the input reads as it did. -/
def chordHalvesUptoRow : OpenClaim := { program := "ythfpndelfbeknaa", sum := "7061100d76604382f82e606af44b3540996eebc8dfc3edddd7a556ce6a5fd061", func := "pochoir/pochoirlaw39.ChordHalves", spec := "chordHalves", recurses := true, apart := false, narrowed := true }
def ChordHalvesUptoSaid : Prop := chordHalvesUptoRow.holds Try.pinned (OpenSpec.upto chordHalvesSpec)

/-- 'pochoirlaw39.ChordNear', WHERE WHAT IT READS IS OF BULK AT MOST 1048576: true; the input reads as it did. -/
def chordNearUptoRow : OpenClaim := { program := "ythfpndelfbeknaa", sum := "7061100d76604382f82e606af44b3540996eebc8dfc3edddd7a556ce6a5fd061", func := "pochoir/pochoirlaw39.ChordNear", spec := "chordNear", recurses := true, apart := false, narrowed := true }
def ChordNearUptoSaid : Prop := chordNearUptoRow.holds Try.pinned (OpenSpec.upto chordNearSpec)

/-- 'pochoirlaw25.CellOf', WHERE WHAT IT READS IS OF BULK AT MOST 1048576: true; the input reads as it did. -/
def cellOfUptoRow : OpenClaim := { program := "ythfpndelfbeknaa", sum := "7061100d76604382f82e606af44b3540996eebc8dfc3edddd7a556ce6a5fd061", func := "pochoir/pochoirlaw25.CellOf", spec := "cellOf", apart := false, narrowed := true }
def CellOfUptoSaid : Prop := cellOfUptoRow.holds Try.pinned (OpenSpec.upto cellOfSpec)

/-- 'pochoirlaw25.CellGrows', WHERE WHAT IT READS IS OF BULK AT MOST 1048576: true; the input reads as it did. -/
def cellGrowsUptoRow : OpenClaim := { program := "ythfpndelfbeknaa", sum := "7061100d76604382f82e606af44b3540996eebc8dfc3edddd7a556ce6a5fd061", func := "pochoir/pochoirlaw25.CellGrows", spec := "cellGrows", apart := false, narrowed := true }
def CellGrowsUptoSaid : Prop := cellGrowsUptoRow.holds Try.pinned (OpenSpec.upto cellGrowsSpec)

/-- 'pochoirlaw25.CellMiddles', WHERE WHAT IT READS IS OF BULK AT MOST 1048576: true; the input reads as it did. -/
def cellMiddlesUptoRow : OpenClaim := { program := "ythfpndelfbeknaa", sum := "7061100d76604382f82e606af44b3540996eebc8dfc3edddd7a556ce6a5fd061", func := "pochoir/pochoirlaw25.CellMiddles", spec := "cellMiddles", unfollowed := true, recurses := true, apart := false, narrowed := true }
def CellMiddlesUptoSaid : Prop := cellMiddlesUptoRow.holds Try.pinned (OpenSpec.upto cellMiddlesSpec)

/-- 'pochoirlaw11.MetricReads', WHERE WHAT IT READS IS OF BULK AT MOST 1048576: true; the input reads as it did. -/
def metricReadsUptoRow : OpenClaim := { program := "ythfpndelfbeknaa", sum := "7061100d76604382f82e606af44b3540996eebc8dfc3edddd7a556ce6a5fd061", func := "pochoir/pochoirlaw11.MetricReads", spec := "metricReads", inPlace := ["internal/abi.NoEscape"], apart := false, narrowed := true }
def MetricReadsUptoSaid : Prop := metricReadsUptoRow.holds Try.pinned (OpenSpec.upto metricReadsSpec)

/-- 'pochoirlaw11.MetricWidths', WHERE WHAT IT READS IS OF BULK AT MOST 1048576: true; the input reads as it did. -/
def metricWidthsUptoRow : OpenClaim := { program := "ythfpndelfbeknaa", sum := "7061100d76604382f82e606af44b3540996eebc8dfc3edddd7a556ce6a5fd061", func := "pochoir/pochoirlaw11.MetricWidths", spec := "metricWidths", inPlace := ["internal/abi.NoEscape"], apart := false, narrowed := true }
def MetricWidthsUptoSaid : Prop := metricWidthsUptoRow.holds Try.pinned (OpenSpec.upto metricWidthsSpec)

/-- 'pochoirlaw10.HeadBack', WHERE WHAT IT READS IS OF BULK AT MOST 1048576: true; the input reads as it did. -/
def headBackUptoRow : OpenClaim := { program := "ythfpndelfbeknaa", sum := "7061100d76604382f82e606af44b3540996eebc8dfc3edddd7a556ce6a5fd061", func := "pochoir/pochoirlaw10.HeadBack", spec := "headBack", apart := false, narrowed := true }
def HeadBackUptoSaid : Prop := headBackUptoRow.holds Try.pinned (OpenSpec.upto headBackSpec)

/-- 'pochoirlaw10.HeadAny', WHERE WHAT IT READS IS OF BULK AT MOST 1048576: true; the input reads as it did. -/
def headAnyUptoRow : OpenClaim := { program := "ythfpndelfbeknaa", sum := "7061100d76604382f82e606af44b3540996eebc8dfc3edddd7a556ce6a5fd061", func := "pochoir/pochoirlaw10.HeadAny", spec := "headAny", apart := false, narrowed := true }
def HeadAnyUptoSaid : Prop := headAnyUptoRow.holds Try.pinned (OpenSpec.upto headAnySpec)

/-- 'pochoirlaw11.MetricPlaces', WHERE WHAT IT READS IS OF BULK AT MOST 1048576: true; the input reads as it did. -/
def metricPlacesUptoRow : OpenClaim := { program := "ythfpndelfbeknaa", sum := "7061100d76604382f82e606af44b3540996eebc8dfc3edddd7a556ce6a5fd061", func := "pochoir/pochoirlaw11.MetricPlaces", spec := "metricPlaces", inPlace := ["internal/abi.NoEscape"], apart := false, narrowed := true }
def MetricPlacesUptoSaid : Prop := metricPlacesUptoRow.holds Try.pinned (OpenSpec.upto metricPlacesSpec)

end Rows
end Go.Proofs.Ythfpndelfbeknaa
