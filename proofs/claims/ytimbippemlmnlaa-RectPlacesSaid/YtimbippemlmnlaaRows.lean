/-
  No cell of these rows narrows 'for every input' (looked for: loops, veiled, ifaces, maps, wideKeys, modest, calm, conditions, laid).
  DERIVED. THE GIVEN ROWS OF THIS SEAT. 11 by the template 'for every input the law returns true; each argument reads behind the call as it read before'; 0 by the template 'total and deterministic' (their statements: YtimbippemlmnlaaTotals.lean).
  GIVEN WITH THE SEED: the statements are not yours to turn. If you find one false, say at which input.
  Laid BY PROGRAM, IN A SANDBOX (cutbox-rows.mjs): the forced cells as the released guide's own fill.sh prints them over the translation 8fe450b5ca463551… (all of the seat's roots in one cut). By AI agents, Wed Nov 11 2026. No macro, syntax, notation, axiom, sorry.
-/
import Derived.Test.YtimbippemlmnlaaChecked
import GoSem.Claim
import GoSem.ClaimJoined
import GoSem.ClaimMapViews
import Derived.JoinedTies
import Derived.KernelRfl
namespace Go.Proofs.Ytimbippemlmnlaa
/- THE CELL 'sum', in the pinned program and in every row, IS THE sha256 OF THE DUMP (.gsa) THAT YtimbippemlmnlaaProg.lean LOADS. Nothing in Lean hashes anything: it is a label: what it is worth is what the hold of that sum in a sandbox is worth. -/
noncomputable def Try.pinned : Pinned := { name := "ytimbippemlmnlaa", sum := "8fe450b5ca4635512f75c8b4eb6af00a85fd8f93460254ce623cb338da53046a", checked := Try.checked }
namespace Rows
def none {H : Type} : Left H := { results := [], args := [] }

/-- 'pochoirlaw27.FixMedians': WHATEVER THE INPUT: true; the input reads as it did. -/
def fixMediansSpec : ChangeSpec := { name := "fixMedians", fn := fun _ => fun
  | [d1, d2, d3] => { results := [.lit (.bool true)], args := [d1, d2, d3] }
  | _ => none }
def fixMediansRow : OpenClaim := { program := "ytimbippemlmnlaa", sum := "8fe450b5ca4635512f75c8b4eb6af00a85fd8f93460254ce623cb338da53046a", func := "pochoir/pochoirlaw27.FixMedians", spec := "fixMedians", apart := false }
def FixMediansSaid : Prop := fixMediansRow.holds Try.pinned (OpenSpec.ofChange fixMediansSpec)

/-- ITS FALSE NEIGHBOUR: 'it returns false'. Refute it at one input. -/
def fixMediansWrong : ChangeSpec := { name := "fixMedians", fn := fun _ => fun
  | [d1, d2, d3] => { results := [.lit (.bool false)], args := [d1, d2, d3] }
  | _ => none }
def FixMediansWrongFalsely : Prop := fixMediansRow.holds Try.pinned (OpenSpec.ofChange fixMediansWrong)

/-- 'pochoirlaw27.FixAll': WHATEVER THE INPUT: true; the input reads as it did. -/
def fixAllSpec : ChangeSpec := { name := "fixAll", fn := fun _ => fun
  | [d1, d2] => { results := [.lit (.bool true)], args := [d1, d2] }
  | _ => none }
def fixAllRow : OpenClaim := { program := "ytimbippemlmnlaa", sum := "8fe450b5ca4635512f75c8b4eb6af00a85fd8f93460254ce623cb338da53046a", func := "pochoir/pochoirlaw27.FixAll", spec := "fixAll", apart := false }
def FixAllSaid : Prop := fixAllRow.holds Try.pinned (OpenSpec.ofChange fixAllSpec)

/-- ITS FALSE NEIGHBOUR: 'it returns false'. Refute it at one input. -/
def fixAllWrong : ChangeSpec := { name := "fixAll", fn := fun _ => fun
  | [d1, d2] => { results := [.lit (.bool false)], args := [d1, d2] }
  | _ => none }
def FixAllWrongFalsely : Prop := fixAllRow.holds Try.pinned (OpenSpec.ofChange fixAllWrong)

/-- 'pochoirlaw27.FixLimits': WHATEVER THE INPUT: true; the input reads as it did. -/
def fixLimitsSpec : ChangeSpec := { name := "fixLimits", fn := fun _ => fun
  | [d1, d2, d3] => { results := [.lit (.bool true)], args := [d1, d2, d3] }
  | _ => none }
def fixLimitsRow : OpenClaim := { program := "ytimbippemlmnlaa", sum := "8fe450b5ca4635512f75c8b4eb6af00a85fd8f93460254ce623cb338da53046a", func := "pochoir/pochoirlaw27.FixLimits", spec := "fixLimits", apart := false }
def FixLimitsSaid : Prop := fixLimitsRow.holds Try.pinned (OpenSpec.ofChange fixLimitsSpec)

/-- ITS FALSE NEIGHBOUR: 'it returns false'. Refute it at one input. -/
def fixLimitsWrong : ChangeSpec := { name := "fixLimits", fn := fun _ => fun
  | [d1, d2, d3] => { results := [.lit (.bool false)], args := [d1, d2, d3] }
  | _ => none }
def FixLimitsWrongFalsely : Prop := fixLimitsRow.holds Try.pinned (OpenSpec.ofChange fixLimitsWrong)

/-- 'pochoirlaw08.SumCrcs': WHATEVER THE INPUT: true; the input reads as it did. -/
def sumCrcsSpec : ChangeSpec := { name := "sumCrcs", fn := fun _ => fun
  | [d] => { results := [.lit (.bool true)], args := [d] }
  | _ => none }
def sumCrcsRow : OpenClaim := { program := "ytimbippemlmnlaa", sum := "8fe450b5ca4635512f75c8b4eb6af00a85fd8f93460254ce623cb338da53046a", func := "pochoir/pochoirlaw08.SumCrcs", spec := "sumCrcs", apart := false }
def SumCrcsSaid : Prop := sumCrcsRow.holds Try.pinned (OpenSpec.ofChange sumCrcsSpec)

/-- ITS FALSE NEIGHBOUR: 'it returns false'. Refute it at one input. -/
def sumCrcsWrong : ChangeSpec := { name := "sumCrcs", fn := fun _ => fun
  | [d] => { results := [.lit (.bool false)], args := [d] }
  | _ => none }
def SumCrcsWrongFalsely : Prop := sumCrcsRow.holds Try.pinned (OpenSpec.ofChange sumCrcsWrong)

/-- 'pochoirlaw08.SumTurned': WHATEVER THE INPUT: true; the input reads as it did. -/
def sumTurnedSpec : ChangeSpec := { name := "sumTurned", fn := fun _ => fun
  | [d1, d2, d3] => { results := [.lit (.bool true)], args := [d1, d2, d3] }
  | _ => none }
def sumTurnedRow : OpenClaim := { program := "ytimbippemlmnlaa", sum := "8fe450b5ca4635512f75c8b4eb6af00a85fd8f93460254ce623cb338da53046a", func := "pochoir/pochoirlaw08.SumTurned", spec := "sumTurned", apart := false }
def SumTurnedSaid : Prop := sumTurnedRow.holds Try.pinned (OpenSpec.ofChange sumTurnedSpec)

/-- ITS FALSE NEIGHBOUR: 'it returns false'. Refute it at one input. -/
def sumTurnedWrong : ChangeSpec := { name := "sumTurned", fn := fun _ => fun
  | [d1, d2, d3] => { results := [.lit (.bool false)], args := [d1, d2, d3] }
  | _ => none }
def SumTurnedWrongFalsely : Prop := sumTurnedRow.holds Try.pinned (OpenSpec.ofChange sumTurnedWrong)

/-- 'pochoirlaw07.OctetNumbers': WHATEVER THE INPUT: true; the input reads as it did. -/
def octetNumbersSpec : ChangeSpec := { name := "octetNumbers", fn := fun _ => fun
  | [d1, d2, d3] => { results := [.lit (.bool true)], args := [d1, d2, d3] }
  | _ => none }
def octetNumbersRow : OpenClaim := { program := "ytimbippemlmnlaa", sum := "8fe450b5ca4635512f75c8b4eb6af00a85fd8f93460254ce623cb338da53046a", func := "pochoir/pochoirlaw07.OctetNumbers", spec := "octetNumbers", apart := false }
def OctetNumbersSaid : Prop := octetNumbersRow.holds Try.pinned (OpenSpec.ofChange octetNumbersSpec)

/-- ITS FALSE NEIGHBOUR: 'it returns false'. Refute it at one input. -/
def octetNumbersWrong : ChangeSpec := { name := "octetNumbers", fn := fun _ => fun
  | [d1, d2, d3] => { results := [.lit (.bool false)], args := [d1, d2, d3] }
  | _ => none }
def OctetNumbersWrongFalsely : Prop := octetNumbersRow.holds Try.pinned (OpenSpec.ofChange octetNumbersWrong)

/-- 'pochoirlaw07.OctetReads': WHATEVER THE INPUT: true; the input reads as it did. -/
def octetReadsSpec : ChangeSpec := { name := "octetReads", fn := fun _ => fun
  | [d1, d2] => { results := [.lit (.bool true)], args := [d1, d2] }
  | _ => none }
def octetReadsRow : OpenClaim := { program := "ytimbippemlmnlaa", sum := "8fe450b5ca4635512f75c8b4eb6af00a85fd8f93460254ce623cb338da53046a", func := "pochoir/pochoirlaw07.OctetReads", spec := "octetReads", apart := false }
def OctetReadsSaid : Prop := octetReadsRow.holds Try.pinned (OpenSpec.ofChange octetReadsSpec)

/-- ITS FALSE NEIGHBOUR: 'it returns false'. Refute it at one input. -/
def octetReadsWrong : ChangeSpec := { name := "octetReads", fn := fun _ => fun
  | [d1, d2] => { results := [.lit (.bool false)], args := [d1, d2] }
  | _ => none }
def OctetReadsWrongFalsely : Prop := octetReadsRow.holds Try.pinned (OpenSpec.ofChange octetReadsWrong)

/-- 'pochoirlaw08.SumJoins': WHATEVER THE INPUT: true; the input reads as it did. -/
def sumJoinsSpec : ChangeSpec := { name := "sumJoins", fn := fun _ => fun
  | [d1, d2, d3] => { results := [.lit (.bool true)], args := [d1, d2, d3] }
  | _ => none }
def sumJoinsRow : OpenClaim := { program := "ytimbippemlmnlaa", sum := "8fe450b5ca4635512f75c8b4eb6af00a85fd8f93460254ce623cb338da53046a", func := "pochoir/pochoirlaw08.SumJoins", spec := "sumJoins", apart := false }
def SumJoinsSaid : Prop := sumJoinsRow.holds Try.pinned (OpenSpec.ofChange sumJoinsSpec)

/-- ITS FALSE NEIGHBOUR: 'it returns false'. Refute it at one input. -/
def sumJoinsWrong : ChangeSpec := { name := "sumJoins", fn := fun _ => fun
  | [d1, d2, d3] => { results := [.lit (.bool false)], args := [d1, d2, d3] }
  | _ => none }
def SumJoinsWrongFalsely : Prop := sumJoinsRow.holds Try.pinned (OpenSpec.ofChange sumJoinsWrong)

/-- 'pochoirlaw28.RectTwo': WHATEVER THE INPUT: true; the input reads as it did. -/
def rectTwoSpec : ChangeSpec := { name := "rectTwo", fn := fun _ => fun
  | [d1, d2] => { results := [.lit (.bool true)], args := [d1, d2] }
  | _ => none }
def rectTwoRow : OpenClaim := { program := "ytimbippemlmnlaa", sum := "8fe450b5ca4635512f75c8b4eb6af00a85fd8f93460254ce623cb338da53046a", func := "pochoir/pochoirlaw28.RectTwo", spec := "rectTwo", unfollowed := true, recurses := true, apart := false }
def RectTwoSaid : Prop := rectTwoRow.holds Try.pinned (OpenSpec.ofChange rectTwoSpec)

/-- ITS FALSE NEIGHBOUR: 'it returns false'. Refute it at one input. -/
def rectTwoWrong : ChangeSpec := { name := "rectTwo", fn := fun _ => fun
  | [d1, d2] => { results := [.lit (.bool false)], args := [d1, d2] }
  | _ => none }
def RectTwoWrongFalsely : Prop := rectTwoRow.holds Try.pinned (OpenSpec.ofChange rectTwoWrong)

/-- 'pochoirlaw28.RectLists': WHATEVER THE INPUT: true; the input reads as it did. -/
def rectListsSpec : ChangeSpec := { name := "rectLists", fn := fun _ => fun
  | [d1, d2] => { results := [.lit (.bool true)], args := [d1, d2] }
  | _ => none }
def rectListsRow : OpenClaim := { program := "ytimbippemlmnlaa", sum := "8fe450b5ca4635512f75c8b4eb6af00a85fd8f93460254ce623cb338da53046a", func := "pochoir/pochoirlaw28.RectLists", spec := "rectLists", unfollowed := true, recurses := true, apart := false }
def RectListsSaid : Prop := rectListsRow.holds Try.pinned (OpenSpec.ofChange rectListsSpec)

/-- ITS FALSE NEIGHBOUR: 'it returns false'. Refute it at one input. -/
def rectListsWrong : ChangeSpec := { name := "rectLists", fn := fun _ => fun
  | [d1, d2] => { results := [.lit (.bool false)], args := [d1, d2] }
  | _ => none }
def RectListsWrongFalsely : Prop := rectListsRow.holds Try.pinned (OpenSpec.ofChange rectListsWrong)

/-- 'pochoirlaw28.RectPlaces': WHATEVER THE INPUT: true; the input reads as it did. -/
def rectPlacesSpec : ChangeSpec := { name := "rectPlaces", fn := fun _ => fun
  | [d1, d2, d3] => { results := [.lit (.bool true)], args := [d1, d2, d3] }
  | _ => none }
def rectPlacesRow : OpenClaim := { program := "ytimbippemlmnlaa", sum := "8fe450b5ca4635512f75c8b4eb6af00a85fd8f93460254ce623cb338da53046a", func := "pochoir/pochoirlaw28.RectPlaces", spec := "rectPlaces", unfollowed := true, recurses := true, apart := false }
def RectPlacesSaid : Prop := rectPlacesRow.holds Try.pinned (OpenSpec.ofChange rectPlacesSpec)

/-- ITS FALSE NEIGHBOUR: 'it returns false'. Refute it at one input. -/
def rectPlacesWrong : ChangeSpec := { name := "rectPlaces", fn := fun _ => fun
  | [d1, d2, d3] => { results := [.lit (.bool false)], args := [d1, d2, d3] }
  | _ => none }
def RectPlacesWrongFalsely : Prop := rectPlacesRow.holds Try.pinned (OpenSpec.ofChange rectPlacesWrong)

/- THE SECOND FORM. 'bulk': how many values and letters a reading holds, each counted each time it is reached (what is shared counts as often as it is met; a slice's spare places count too). A statement '..UptoSaid' is the law's where the arguments, and the package variables that the reading takes, are together of bulk at most 1048576: NARROWER than '..Said'. Prove '..Said' where nothing that the law and all that it calls make is longer than what came in: it says more and counts as full. Else prove '..UptoSaid'. A law counts once. -/
mutual
def uptoBulk {H : Type} : DataW H → Nat
  | .lit (.string bytes) => bytes.length + 1
  | .lit _ => 1
  | .nil => 1
  | .ptr d => uptoBulk d + 1
  | .slice elems spare => uptoBulkAll elems + uptoBulkAll spare + 1
  | .agg parts => uptoBulkAll parts + 1
  | .iface _ d => uptoBulk d + 1
  | .map entries => uptoBulkEntries entries + 1
  | .held _ => 1
def uptoBulkAll {H : Type} : List (DataW H) → Nat
  | [] => 0
  | d :: r => uptoBulk d + uptoBulkAll r
def uptoBulkEntries {H : Type} : List (Lit × DataW H) → Nat
  | [] => 0
  | x :: r => uptoBulkEntry x + uptoBulkEntries r
def uptoBulkEntry {H : Type} : Lit × DataW H → Nat
  | (.string bytes, d) => bytes.length + uptoBulk d + 1
  | (_, d) => uptoBulk d + 1
 end
def uptoSmall : (H : Type) → List (DataW H) → Bool := fun _ ds => decide (uptoBulkAll ds ≤ 1048576)
def OpenSpec.upto (s : _root_.Go.ChangeSpec) : _root_.Go.OpenSpec := { _root_.Go.OpenSpec.ofChange s with cond := some uptoSmall }

/-- 'pochoirlaw27.FixMedians', WHERE WHAT IT READS IS OF BULK AT MOST 1048576: true; the input reads as it did. -/
def fixMediansUptoRow : OpenClaim := { program := "ytimbippemlmnlaa", sum := "8fe450b5ca4635512f75c8b4eb6af00a85fd8f93460254ce623cb338da53046a", func := "pochoir/pochoirlaw27.FixMedians", spec := "fixMedians", apart := false, narrowed := true }
def FixMediansUptoSaid : Prop := fixMediansUptoRow.holds Try.pinned (OpenSpec.upto fixMediansSpec)

/-- 'pochoirlaw27.FixAll', WHERE WHAT IT READS IS OF BULK AT MOST 1048576: true; the input reads as it did. -/
def fixAllUptoRow : OpenClaim := { program := "ytimbippemlmnlaa", sum := "8fe450b5ca4635512f75c8b4eb6af00a85fd8f93460254ce623cb338da53046a", func := "pochoir/pochoirlaw27.FixAll", spec := "fixAll", apart := false, narrowed := true }
def FixAllUptoSaid : Prop := fixAllUptoRow.holds Try.pinned (OpenSpec.upto fixAllSpec)

/-- 'pochoirlaw27.FixLimits', WHERE WHAT IT READS IS OF BULK AT MOST 1048576: true; the input reads as it did. -/
def fixLimitsUptoRow : OpenClaim := { program := "ytimbippemlmnlaa", sum := "8fe450b5ca4635512f75c8b4eb6af00a85fd8f93460254ce623cb338da53046a", func := "pochoir/pochoirlaw27.FixLimits", spec := "fixLimits", apart := false, narrowed := true }
def FixLimitsUptoSaid : Prop := fixLimitsUptoRow.holds Try.pinned (OpenSpec.upto fixLimitsSpec)

/-- 'pochoirlaw08.SumCrcs', WHERE WHAT IT READS IS OF BULK AT MOST 1048576: true; the input reads as it did. -/
def sumCrcsUptoRow : OpenClaim := { program := "ytimbippemlmnlaa", sum := "8fe450b5ca4635512f75c8b4eb6af00a85fd8f93460254ce623cb338da53046a", func := "pochoir/pochoirlaw08.SumCrcs", spec := "sumCrcs", apart := false, narrowed := true }
def SumCrcsUptoSaid : Prop := sumCrcsUptoRow.holds Try.pinned (OpenSpec.upto sumCrcsSpec)

/-- 'pochoirlaw08.SumTurned', WHERE WHAT IT READS IS OF BULK AT MOST 1048576: true; the input reads as it did. -/
def sumTurnedUptoRow : OpenClaim := { program := "ytimbippemlmnlaa", sum := "8fe450b5ca4635512f75c8b4eb6af00a85fd8f93460254ce623cb338da53046a", func := "pochoir/pochoirlaw08.SumTurned", spec := "sumTurned", apart := false, narrowed := true }
def SumTurnedUptoSaid : Prop := sumTurnedUptoRow.holds Try.pinned (OpenSpec.upto sumTurnedSpec)

/-- 'pochoirlaw07.OctetNumbers', WHERE WHAT IT READS IS OF BULK AT MOST 1048576: true; the input reads as it did. -/
def octetNumbersUptoRow : OpenClaim := { program := "ytimbippemlmnlaa", sum := "8fe450b5ca4635512f75c8b4eb6af00a85fd8f93460254ce623cb338da53046a", func := "pochoir/pochoirlaw07.OctetNumbers", spec := "octetNumbers", apart := false, narrowed := true }
def OctetNumbersUptoSaid : Prop := octetNumbersUptoRow.holds Try.pinned (OpenSpec.upto octetNumbersSpec)

/-- 'pochoirlaw07.OctetReads', WHERE WHAT IT READS IS OF BULK AT MOST 1048576: true; the input reads as it did. -/
def octetReadsUptoRow : OpenClaim := { program := "ytimbippemlmnlaa", sum := "8fe450b5ca4635512f75c8b4eb6af00a85fd8f93460254ce623cb338da53046a", func := "pochoir/pochoirlaw07.OctetReads", spec := "octetReads", apart := false, narrowed := true }
def OctetReadsUptoSaid : Prop := octetReadsUptoRow.holds Try.pinned (OpenSpec.upto octetReadsSpec)

/-- 'pochoirlaw08.SumJoins', WHERE WHAT IT READS IS OF BULK AT MOST 1048576: true; the input reads as it did. -/
def sumJoinsUptoRow : OpenClaim := { program := "ytimbippemlmnlaa", sum := "8fe450b5ca4635512f75c8b4eb6af00a85fd8f93460254ce623cb338da53046a", func := "pochoir/pochoirlaw08.SumJoins", spec := "sumJoins", apart := false, narrowed := true }
def SumJoinsUptoSaid : Prop := sumJoinsUptoRow.holds Try.pinned (OpenSpec.upto sumJoinsSpec)

/-- 'pochoirlaw28.RectTwo', WHERE WHAT IT READS IS OF BULK AT MOST 1048576: true; the input reads as it did. -/
def rectTwoUptoRow : OpenClaim := { program := "ytimbippemlmnlaa", sum := "8fe450b5ca4635512f75c8b4eb6af00a85fd8f93460254ce623cb338da53046a", func := "pochoir/pochoirlaw28.RectTwo", spec := "rectTwo", unfollowed := true, recurses := true, apart := false, narrowed := true }
def RectTwoUptoSaid : Prop := rectTwoUptoRow.holds Try.pinned (OpenSpec.upto rectTwoSpec)

/-- 'pochoirlaw28.RectLists', WHERE WHAT IT READS IS OF BULK AT MOST 1048576: true; the input reads as it did. -/
def rectListsUptoRow : OpenClaim := { program := "ytimbippemlmnlaa", sum := "8fe450b5ca4635512f75c8b4eb6af00a85fd8f93460254ce623cb338da53046a", func := "pochoir/pochoirlaw28.RectLists", spec := "rectLists", unfollowed := true, recurses := true, apart := false, narrowed := true }
def RectListsUptoSaid : Prop := rectListsUptoRow.holds Try.pinned (OpenSpec.upto rectListsSpec)

/-- 'pochoirlaw28.RectPlaces', WHERE WHAT IT READS IS OF BULK AT MOST 1048576: true; the input reads as it did. -/
def rectPlacesUptoRow : OpenClaim := { program := "ytimbippemlmnlaa", sum := "8fe450b5ca4635512f75c8b4eb6af00a85fd8f93460254ce623cb338da53046a", func := "pochoir/pochoirlaw28.RectPlaces", spec := "rectPlaces", unfollowed := true, recurses := true, apart := false, narrowed := true }
def RectPlacesUptoSaid : Prop := rectPlacesUptoRow.holds Try.pinned (OpenSpec.upto rectPlacesSpec)

end Rows
end Go.Proofs.Ytimbippemlmnlaa
