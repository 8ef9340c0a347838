/-
  DERIVED. GIVEN WITH THE SEED: THE CARDS: each row of YtppkggodpihfiaaDoorRows.lean that lists a variable, with what it lists TIED to the program's text (the seventh form; the later family's looks); each row that meets fmt, with fmt's text TOLD by the authors' own Lean function (tested against real Go, not proved from fmt's source: count such statements apart). THE CARD IS WHAT COUNTS. Prove the row's statement (the work); the ties are given (YtppkggodpihfiaaDoorTie.lean); close each card by the builder's one call (the guide's Derived/Test/ToyasCard.lean, 'card_holds'). Laid BY PROGRAM, IN A SANDBOX (cutbox-door.mjs). By AI agents, Wed Nov 11 2026. No macro, syntax, notation, axiom, sorry.
-/
import Derived.Test.YtppkggodpihfiaaDoorRows
import GoSem.ClaimSeven
namespace Go.Proofs.YtppkggodpihfiaaDoor
namespace Rows

/-- THE TIED CARD OF 'pochoirlaw32.SampleAt'. -/
def sampleAtCard : Claim7 := { stood := { row := sampleAtRow, standIns := [], harness := (true, "6d2d13b8f62c8d3ca8e87a4fc2a13c40194ff057fa1ba37ebd29d05f0150fe12"), looks := false }, kinds := [], alts := [], laidByText := true, laidKinds := [.data], laidTests := true, laidLooks := .later }
def SampleAtCardSaid : Prop := Claim7.holds Tryd.pinned (.plain (OpenSpec.ofChange sampleAtSpec)) sampleAtCard

/-- THE TIED CARD OF 'pochoirlaw32.SampleCovers'. -/
def sampleCoversCard : Claim7 := { stood := { row := sampleCoversRow, standIns := [], harness := (true, "6d2d13b8f62c8d3ca8e87a4fc2a13c40194ff057fa1ba37ebd29d05f0150fe12"), looks := false }, kinds := [], alts := [], laidByText := true, laidKinds := [.data], laidTests := true, laidLooks := .later }
def SampleCoversCardSaid : Prop := Claim7.holds Tryd.pinned (.plain (OpenSpec.ofChange sampleCoversSpec)) sampleCoversCard

/-- THE TIED CARD OF 'pochoirlaw32.SampleBetween'. -/
def sampleBetweenCard : Claim7 := { stood := { row := sampleBetweenRow, standIns := [], harness := (true, "6d2d13b8f62c8d3ca8e87a4fc2a13c40194ff057fa1ba37ebd29d05f0150fe12"), looks := false }, kinds := [], alts := [], laidByText := true, laidKinds := [.data], laidTests := true, laidLooks := .later }
def SampleBetweenCardSaid : Prop := Claim7.holds Tryd.pinned (.plain (OpenSpec.ofChange sampleBetweenSpec)) sampleBetweenCard

/-- THE SECOND FORM's CARD OF 'pochoirlaw32.SampleAt'. -/
def sampleAtUptoCard : Claim7 := { stood := { row := sampleAtUptoRow, standIns := [], harness := (true, "6d2d13b8f62c8d3ca8e87a4fc2a13c40194ff057fa1ba37ebd29d05f0150fe12"), looks := false }, kinds := [], alts := [], laidByText := true, laidKinds := [.data], laidTests := true, laidLooks := .later }
def SampleAtUptoCardSaid : Prop := Claim7.holds Tryd.pinned (.plain (OpenSpec.upto sampleAtSpec)) sampleAtUptoCard

/-- THE SECOND FORM's CARD OF 'pochoirlaw32.SampleCovers'. -/
def sampleCoversUptoCard : Claim7 := { stood := { row := sampleCoversUptoRow, standIns := [], harness := (true, "6d2d13b8f62c8d3ca8e87a4fc2a13c40194ff057fa1ba37ebd29d05f0150fe12"), looks := false }, kinds := [], alts := [], laidByText := true, laidKinds := [.data], laidTests := true, laidLooks := .later }
def SampleCoversUptoCardSaid : Prop := Claim7.holds Tryd.pinned (.plain (OpenSpec.upto sampleCoversSpec)) sampleCoversUptoCard

/-- THE SECOND FORM's CARD OF 'pochoirlaw32.SampleBetween'. -/
def sampleBetweenUptoCard : Claim7 := { stood := { row := sampleBetweenUptoRow, standIns := [], harness := (true, "6d2d13b8f62c8d3ca8e87a4fc2a13c40194ff057fa1ba37ebd29d05f0150fe12"), looks := false }, kinds := [], alts := [], laidByText := true, laidKinds := [.data], laidTests := true, laidLooks := .later }
def SampleBetweenUptoCardSaid : Prop := Claim7.holds Tryd.pinned (.plain (OpenSpec.upto sampleBetweenSpec)) sampleBetweenUptoCard
end Rows
end Go.Proofs.YtppkggodpihfiaaDoor
