/-
  No cell of these rows narrows 'for every input' (looked for: loops, veiled, ifaces, maps, wideKeys, modest, calm, conditions, laid).
  DERIVED. THE GIVEN ROWS OF THIS SEAT. 10 by the template 'for every input the law returns true; each argument reads behind the call as it read before'; 0 by the template 'total and deterministic' (their statements: YtkcbjeenoafbkaaTotals.lean).
  GIVEN WITH THE SEED: the statements are not yours to turn. If you find one false, say at which input.
  Laid BY PROGRAM, IN A SANDBOX (cutbox-rows.mjs): the forced cells as the released guide's own fill.sh prints them over the translation 1b0eb56e023bcc02… (all of the seat's roots in one cut). By AI agents, Wed Nov 11 2026. No macro, syntax, notation, axiom, sorry.
-/
import Derived.Test.YtkcbjeenoafbkaaChecked
import GoSem.Claim
import GoSem.ClaimJoined
import GoSem.ClaimMapViews
import Derived.JoinedTies
import Derived.KernelRfl
namespace Go.Proofs.Ytkcbjeenoafbkaa
/- THE CELL 'sum', in the pinned program and in every row, IS THE sha256 OF THE DUMP (.gsa) THAT YtkcbjeenoafbkaaProg.lean LOADS. Nothing in Lean hashes anything: it is a label: what it is worth is what the hold of that sum in a sandbox is worth. -/
noncomputable def Try.pinned : Pinned := { name := "ytkcbjeenoafbkaa", sum := "1b0eb56e023bcc02a444e5c9711e6814123fd75b4d73b5c765d9a55aa998bef0", checked := Try.checked }
namespace Rows
def none {H : Type} : Left H := { results := [], args := [] }

/-- 'pochoirlaw16.EdgeMakes': WHATEVER THE INPUT: true; the input reads as it did. -/
def edgeMakesSpec : ChangeSpec := { name := "edgeMakes", fn := fun _ => fun
  | [d1, d2] => { results := [.lit (.bool true)], args := [d1, d2] }
  | _ => none }
def edgeMakesRow : OpenClaim := { program := "ytkcbjeenoafbkaa", sum := "1b0eb56e023bcc02a444e5c9711e6814123fd75b4d73b5c765d9a55aa998bef0", func := "pochoir/pochoirlaw16.EdgeMakes", spec := "edgeMakes", plainKeys := false, apart := false }
def EdgeMakesSaid : Prop := edgeMakesRow.holds Try.pinned (OpenSpec.ofChange edgeMakesSpec)

/-- ITS FALSE NEIGHBOUR: 'it returns false'. Refute it at one input. -/
def edgeMakesWrong : ChangeSpec := { name := "edgeMakes", fn := fun _ => fun
  | [d1, d2] => { results := [.lit (.bool false)], args := [d1, d2] }
  | _ => none }
def EdgeMakesWrongFalsely : Prop := edgeMakesRow.holds Try.pinned (OpenSpec.ofChange edgeMakesWrong)

/-- 'pochoirlaw16.EdgeAsks': WHATEVER THE INPUT: true; the input reads as it did. -/
def edgeAsksSpec : ChangeSpec := { name := "edgeAsks", fn := fun _ => fun
  | [d] => { results := [.lit (.bool true)], args := [d] }
  | _ => none }
def edgeAsksRow : OpenClaim := { program := "ytkcbjeenoafbkaa", sum := "1b0eb56e023bcc02a444e5c9711e6814123fd75b4d73b5c765d9a55aa998bef0", func := "pochoir/pochoirlaw16.EdgeAsks", spec := "edgeAsks", plainKeys := false, apart := false }
def EdgeAsksSaid : Prop := edgeAsksRow.holds Try.pinned (OpenSpec.ofChange edgeAsksSpec)

/-- ITS FALSE NEIGHBOUR: 'it returns false'. Refute it at one input. -/
def edgeAsksWrong : ChangeSpec := { name := "edgeAsks", fn := fun _ => fun
  | [d] => { results := [.lit (.bool false)], args := [d] }
  | _ => none }
def EdgeAsksWrongFalsely : Prop := edgeAsksRow.holds Try.pinned (OpenSpec.ofChange edgeAsksWrong)

/-- 'pochoirlaw16.EdgeTurned': WHATEVER THE INPUT: true; the input reads as it did. -/
def edgeTurnedSpec : ChangeSpec := { name := "edgeTurned", fn := fun _ => fun
  | [d1, d2] => { results := [.lit (.bool true)], args := [d1, d2] }
  | _ => none }
def edgeTurnedRow : OpenClaim := { program := "ytkcbjeenoafbkaa", sum := "1b0eb56e023bcc02a444e5c9711e6814123fd75b4d73b5c765d9a55aa998bef0", func := "pochoir/pochoirlaw16.EdgeTurned", spec := "edgeTurned", plainKeys := false, apart := false }
def EdgeTurnedSaid : Prop := edgeTurnedRow.holds Try.pinned (OpenSpec.ofChange edgeTurnedSpec)

/-- ITS FALSE NEIGHBOUR: 'it returns false'. Refute it at one input. -/
def edgeTurnedWrong : ChangeSpec := { name := "edgeTurned", fn := fun _ => fun
  | [d1, d2] => { results := [.lit (.bool false)], args := [d1, d2] }
  | _ => none }
def EdgeTurnedWrongFalsely : Prop := edgeTurnedRow.holds Try.pinned (OpenSpec.ofChange edgeTurnedWrong)

/-- 'pochoirlaw42.PatchDiffs': WHATEVER THE INPUT: true; the input reads as it did. -/
def patchDiffsSpec : ChangeSpec := { name := "patchDiffs", fn := fun _ => fun
  | [d1, d2] => { results := [.lit (.bool true)], args := [d1, d2] }
  | _ => none }
def patchDiffsRow : OpenClaim := { program := "ytkcbjeenoafbkaa", sum := "1b0eb56e023bcc02a444e5c9711e6814123fd75b4d73b5c765d9a55aa998bef0", func := "pochoir/pochoirlaw42.PatchDiffs", spec := "patchDiffs", inPlace := ["internal/abi.NoEscape"], plainKeys := false, apart := false }
def PatchDiffsSaid : Prop := patchDiffsRow.holds Try.pinned (OpenSpec.ofChange patchDiffsSpec)

/-- ITS FALSE NEIGHBOUR: 'it returns false'. Refute it at one input. -/
def patchDiffsWrong : ChangeSpec := { name := "patchDiffs", fn := fun _ => fun
  | [d1, d2] => { results := [.lit (.bool false)], args := [d1, d2] }
  | _ => none }
def PatchDiffsWrongFalsely : Prop := patchDiffsRow.holds Try.pinned (OpenSpec.ofChange patchDiffsWrong)

/-- 'pochoirlaw42.PatchApplies': WHATEVER THE INPUT: true; the input reads as it did. -/
def patchAppliesSpec : ChangeSpec := { name := "patchApplies", fn := fun _ => fun
  | [d1, d2, d3] => { results := [.lit (.bool true)], args := [d1, d2, d3] }
  | _ => none }
def patchAppliesRow : OpenClaim := { program := "ytkcbjeenoafbkaa", sum := "1b0eb56e023bcc02a444e5c9711e6814123fd75b4d73b5c765d9a55aa998bef0", func := "pochoir/pochoirlaw42.PatchApplies", spec := "patchApplies", inPlace := ["internal/abi.NoEscape"], plainKeys := false, apart := false }
def PatchAppliesSaid : Prop := patchAppliesRow.holds Try.pinned (OpenSpec.ofChange patchAppliesSpec)

/-- ITS FALSE NEIGHBOUR: 'it returns false'. Refute it at one input. -/
def patchAppliesWrong : ChangeSpec := { name := "patchApplies", fn := fun _ => fun
  | [d1, d2, d3] => { results := [.lit (.bool false)], args := [d1, d2, d3] }
  | _ => none }
def PatchAppliesWrongFalsely : Prop := patchAppliesRow.holds Try.pinned (OpenSpec.ofChange patchAppliesWrong)

/-- 'pochoirlaw42.PatchTurned': WHATEVER THE INPUT: true; the input reads as it did. -/
def patchTurnedSpec : ChangeSpec := { name := "patchTurned", fn := fun _ => fun
  | [d1, d2, d3] => { results := [.lit (.bool true)], args := [d1, d2, d3] }
  | _ => none }
def patchTurnedRow : OpenClaim := { program := "ytkcbjeenoafbkaa", sum := "1b0eb56e023bcc02a444e5c9711e6814123fd75b4d73b5c765d9a55aa998bef0", func := "pochoir/pochoirlaw42.PatchTurned", spec := "patchTurned", inPlace := ["internal/abi.NoEscape"], plainKeys := false, apart := false }
def PatchTurnedSaid : Prop := patchTurnedRow.holds Try.pinned (OpenSpec.ofChange patchTurnedSpec)

/-- ITS FALSE NEIGHBOUR: 'it returns false'. Refute it at one input. -/
def patchTurnedWrong : ChangeSpec := { name := "patchTurned", fn := fun _ => fun
  | [d1, d2, d3] => { results := [.lit (.bool false)], args := [d1, d2, d3] }
  | _ => none }
def PatchTurnedWrongFalsely : Prop := patchTurnedRow.holds Try.pinned (OpenSpec.ofChange patchTurnedWrong)

/-- 'pochoirlaw29.PackLays': WHATEVER THE INPUT: true; the input reads as it did. -/
def packLaysSpec : ChangeSpec := { name := "packLays", fn := fun _ => fun
  | [d1, d2, d3] => { results := [.lit (.bool true)], args := [d1, d2, d3] }
  | _ => none }
def packLaysRow : OpenClaim := { program := "ytkcbjeenoafbkaa", sum := "1b0eb56e023bcc02a444e5c9711e6814123fd75b4d73b5c765d9a55aa998bef0", func := "pochoir/pochoirlaw29.PackLays", spec := "packLays", unfollowed := true, recurses := true, plainKeys := false, apart := false }
def PackLaysSaid : Prop := packLaysRow.holds Try.pinned (OpenSpec.ofChange packLaysSpec)

/-- ITS FALSE NEIGHBOUR: 'it returns false'. Refute it at one input. -/
def packLaysWrong : ChangeSpec := { name := "packLays", fn := fun _ => fun
  | [d1, d2, d3] => { results := [.lit (.bool false)], args := [d1, d2, d3] }
  | _ => none }
def PackLaysWrongFalsely : Prop := packLaysRow.holds Try.pinned (OpenSpec.ofChange packLaysWrong)

/-- 'pochoirlaw29.PackChecks': WHATEVER THE INPUT: true; the input reads as it did. -/
def packChecksSpec : ChangeSpec := { name := "packChecks", fn := fun _ => fun
  | [d1, d2, d3] => { results := [.lit (.bool true)], args := [d1, d2, d3] }
  | _ => none }
def packChecksRow : OpenClaim := { program := "ytkcbjeenoafbkaa", sum := "1b0eb56e023bcc02a444e5c9711e6814123fd75b4d73b5c765d9a55aa998bef0", func := "pochoir/pochoirlaw29.PackChecks", spec := "packChecks", unfollowed := true, recurses := true, plainKeys := false, apart := false }
def PackChecksSaid : Prop := packChecksRow.holds Try.pinned (OpenSpec.ofChange packChecksSpec)

/-- ITS FALSE NEIGHBOUR: 'it returns false'. Refute it at one input. -/
def packChecksWrong : ChangeSpec := { name := "packChecks", fn := fun _ => fun
  | [d1, d2, d3] => { results := [.lit (.bool false)], args := [d1, d2, d3] }
  | _ => none }
def PackChecksWrongFalsely : Prop := packChecksRow.holds Try.pinned (OpenSpec.ofChange packChecksWrong)

/-- 'pochoirlaw29.PackApart': WHATEVER THE INPUT: true; the input reads as it did. -/
def packApartSpec : ChangeSpec := { name := "packApart", fn := fun _ => fun
  | [d1, d2, d3] => { results := [.lit (.bool true)], args := [d1, d2, d3] }
  | _ => none }
def packApartRow : OpenClaim := { program := "ytkcbjeenoafbkaa", sum := "1b0eb56e023bcc02a444e5c9711e6814123fd75b4d73b5c765d9a55aa998bef0", func := "pochoir/pochoirlaw29.PackApart", spec := "packApart", unfollowed := true, recurses := true, plainKeys := false, apart := false }
def PackApartSaid : Prop := packApartRow.holds Try.pinned (OpenSpec.ofChange packApartSpec)

/-- ITS FALSE NEIGHBOUR: 'it returns false'. Refute it at one input. -/
def packApartWrong : ChangeSpec := { name := "packApart", fn := fun _ => fun
  | [d1, d2, d3] => { results := [.lit (.bool false)], args := [d1, d2, d3] }
  | _ => none }
def PackApartWrongFalsely : Prop := packApartRow.holds Try.pinned (OpenSpec.ofChange packApartWrong)

/-- 'pochoirlaw29.PackHeads': WHATEVER THE INPUT: true; the input reads as it did. -/
def packHeadsSpec : ChangeSpec := { name := "packHeads", fn := fun _ => fun
  | [d1, d2, d3] => { results := [.lit (.bool true)], args := [d1, d2, d3] }
  | _ => none }
def packHeadsRow : OpenClaim := { program := "ytkcbjeenoafbkaa", sum := "1b0eb56e023bcc02a444e5c9711e6814123fd75b4d73b5c765d9a55aa998bef0", func := "pochoir/pochoirlaw29.PackHeads", spec := "packHeads", unfollowed := true, recurses := true, plainKeys := false, apart := false }
def PackHeadsSaid : Prop := packHeadsRow.holds Try.pinned (OpenSpec.ofChange packHeadsSpec)

/-- ITS FALSE NEIGHBOUR: 'it returns false'. Refute it at one input. -/
def packHeadsWrong : ChangeSpec := { name := "packHeads", fn := fun _ => fun
  | [d1, d2, d3] => { results := [.lit (.bool false)], args := [d1, d2, d3] }
  | _ => none }
def PackHeadsWrongFalsely : Prop := packHeadsRow.holds Try.pinned (OpenSpec.ofChange packHeadsWrong)

/- THE SECOND FORM. 'bulk': how many values and letters a reading holds, each counted each time it is reached (what is shared counts as often as it is met; a slice's spare places count too). A statement '..UptoSaid' is the law's where the arguments, and the package variables that the reading takes, are together of bulk at most 1048576: NARROWER than '..Said'. Prove '..Said' where nothing that the law and all that it calls make is longer than what came in: it says more and counts as full. Else prove '..UptoSaid'. A law counts once. -/
mutual
def uptoBulk {H : Type} : DataW H → Nat
  | .lit (.string bytes) => bytes.length + 1
  | .lit _ => 1
  | .nil => 1
  | .ptr d => uptoBulk d + 1
  | .slice elems spare => uptoBulkAll elems + uptoBulkAll spare + 1
  | .agg parts => uptoBulkAll parts + 1
  | .iface _ d => uptoBulk d + 1
  | .map entries => uptoBulkEntries entries + 1
  | .held _ => 1
def uptoBulkAll {H : Type} : List (DataW H) → Nat
  | [] => 0
  | d :: r => uptoBulk d + uptoBulkAll r
def uptoBulkEntries {H : Type} : List (Lit × DataW H) → Nat
  | [] => 0
  | x :: r => uptoBulkEntry x + uptoBulkEntries r
def uptoBulkEntry {H : Type} : Lit × DataW H → Nat
  | (.string bytes, d) => bytes.length + uptoBulk d + 1
  | (_, d) => uptoBulk d + 1
 end
def uptoSmall : (H : Type) → List (DataW H) → Bool := fun _ ds => decide (uptoBulkAll ds ≤ 1048576)
def OpenSpec.upto (s : _root_.Go.ChangeSpec) : _root_.Go.OpenSpec := { _root_.Go.OpenSpec.ofChange s with cond := some uptoSmall }

/-- 'pochoirlaw16.EdgeMakes', WHERE WHAT IT READS IS OF BULK AT MOST 1048576: true; the input reads as it did. -/
def edgeMakesUptoRow : OpenClaim := { program := "ytkcbjeenoafbkaa", sum := "1b0eb56e023bcc02a444e5c9711e6814123fd75b4d73b5c765d9a55aa998bef0", func := "pochoir/pochoirlaw16.EdgeMakes", spec := "edgeMakes", plainKeys := false, apart := false, narrowed := true }
def EdgeMakesUptoSaid : Prop := edgeMakesUptoRow.holds Try.pinned (OpenSpec.upto edgeMakesSpec)

/-- 'pochoirlaw16.EdgeAsks', WHERE WHAT IT READS IS OF BULK AT MOST 1048576: true; the input reads as it did. -/
def edgeAsksUptoRow : OpenClaim := { program := "ytkcbjeenoafbkaa", sum := "1b0eb56e023bcc02a444e5c9711e6814123fd75b4d73b5c765d9a55aa998bef0", func := "pochoir/pochoirlaw16.EdgeAsks", spec := "edgeAsks", plainKeys := false, apart := false, narrowed := true }
def EdgeAsksUptoSaid : Prop := edgeAsksUptoRow.holds Try.pinned (OpenSpec.upto edgeAsksSpec)

/-- 'pochoirlaw16.EdgeTurned', WHERE WHAT IT READS IS OF BULK AT MOST 1048576: true; the input reads as it did. -/
def edgeTurnedUptoRow : OpenClaim := { program := "ytkcbjeenoafbkaa", sum := "1b0eb56e023bcc02a444e5c9711e6814123fd75b4d73b5c765d9a55aa998bef0", func := "pochoir/pochoirlaw16.EdgeTurned", spec := "edgeTurned", plainKeys := false, apart := false, narrowed := true }
def EdgeTurnedUptoSaid : Prop := edgeTurnedUptoRow.holds Try.pinned (OpenSpec.upto edgeTurnedSpec)

/-- 'pochoirlaw42.PatchDiffs', WHERE WHAT IT READS IS OF BULK AT MOST 1048576: true; the input reads as it did. -/
def patchDiffsUptoRow : OpenClaim := { program := "ytkcbjeenoafbkaa", sum := "1b0eb56e023bcc02a444e5c9711e6814123fd75b4d73b5c765d9a55aa998bef0", func := "pochoir/pochoirlaw42.PatchDiffs", spec := "patchDiffs", inPlace := ["internal/abi.NoEscape"], plainKeys := false, apart := false, narrowed := true }
def PatchDiffsUptoSaid : Prop := patchDiffsUptoRow.holds Try.pinned (OpenSpec.upto patchDiffsSpec)

/-- 'pochoirlaw42.PatchApplies', WHERE WHAT IT READS IS OF BULK AT MOST 1048576: true; the input reads as it did. -/
def patchAppliesUptoRow : OpenClaim := { program := "ytkcbjeenoafbkaa", sum := "1b0eb56e023bcc02a444e5c9711e6814123fd75b4d73b5c765d9a55aa998bef0", func := "pochoir/pochoirlaw42.PatchApplies", spec := "patchApplies", inPlace := ["internal/abi.NoEscape"], plainKeys := false, apart := false, narrowed := true }
def PatchAppliesUptoSaid : Prop := patchAppliesUptoRow.holds Try.pinned (OpenSpec.upto patchAppliesSpec)

/-- 'pochoirlaw42.PatchTurned', WHERE WHAT IT READS IS OF BULK AT MOST 1048576: true; the input reads as it did. -/
def patchTurnedUptoRow : OpenClaim := { program := "ytkcbjeenoafbkaa", sum := "1b0eb56e023bcc02a444e5c9711e6814123fd75b4d73b5c765d9a55aa998bef0", func := "pochoir/pochoirlaw42.PatchTurned", spec := "patchTurned", inPlace := ["internal/abi.NoEscape"], plainKeys := false, apart := false, narrowed := true }
def PatchTurnedUptoSaid : Prop := patchTurnedUptoRow.holds Try.pinned (OpenSpec.upto patchTurnedSpec)

/-- 'pochoirlaw29.PackLays', WHERE WHAT IT READS IS OF BULK AT MOST 1048576: true; the input reads as it did. -/
def packLaysUptoRow : OpenClaim := { program := "ytkcbjeenoafbkaa", sum := "1b0eb56e023bcc02a444e5c9711e6814123fd75b4d73b5c765d9a55aa998bef0", func := "pochoir/pochoirlaw29.PackLays", spec := "packLays", unfollowed := true, recurses := true, plainKeys := false, apart := false, narrowed := true }
def PackLaysUptoSaid : Prop := packLaysUptoRow.holds Try.pinned (OpenSpec.upto packLaysSpec)

/-- 'pochoirlaw29.PackChecks', WHERE WHAT IT READS IS OF BULK AT MOST 1048576: true; the input reads as it did. -/
def packChecksUptoRow : OpenClaim := { program := "ytkcbjeenoafbkaa", sum := "1b0eb56e023bcc02a444e5c9711e6814123fd75b4d73b5c765d9a55aa998bef0", func := "pochoir/pochoirlaw29.PackChecks", spec := "packChecks", unfollowed := true, recurses := true, plainKeys := false, apart := false, narrowed := true }
def PackChecksUptoSaid : Prop := packChecksUptoRow.holds Try.pinned (OpenSpec.upto packChecksSpec)

/-- 'pochoirlaw29.PackApart', WHERE WHAT IT READS IS OF BULK AT MOST 1048576: true; the input reads as it did. -/
def packApartUptoRow : OpenClaim := { program := "ytkcbjeenoafbkaa", sum := "1b0eb56e023bcc02a444e5c9711e6814123fd75b4d73b5c765d9a55aa998bef0", func := "pochoir/pochoirlaw29.PackApart", spec := "packApart", unfollowed := true, recurses := true, plainKeys := false, apart := false, narrowed := true }
def PackApartUptoSaid : Prop := packApartUptoRow.holds Try.pinned (OpenSpec.upto packApartSpec)

/-- 'pochoirlaw29.PackHeads', WHERE WHAT IT READS IS OF BULK AT MOST 1048576: true; the input reads as it did. -/
def packHeadsUptoRow : OpenClaim := { program := "ytkcbjeenoafbkaa", sum := "1b0eb56e023bcc02a444e5c9711e6814123fd75b4d73b5c765d9a55aa998bef0", func := "pochoir/pochoirlaw29.PackHeads", spec := "packHeads", unfollowed := true, recurses := true, plainKeys := false, apart := false, narrowed := true }
def PackHeadsUptoSaid : Prop := packHeadsUptoRow.holds Try.pinned (OpenSpec.upto packHeadsSpec)

end Rows
end Go.Proofs.Ytkcbjeenoafbkaa
