/-
  DERIVED. GIVEN WITH THE SEED: THE CARDS: each row of YtbnnfmncipdlpaaDoorRows.lean that lists a variable, with what it lists TIED to the program's text (the seventh form; the later family's looks); each row that meets fmt, with fmt's text TOLD by the authors' own Lean function (tested against real Go, not proved from fmt's source: count such statements apart). THE CARD IS WHAT COUNTS. Prove the row's statement (the work); the ties are given (YtbnnfmncipdlpaaDoorTie.lean); close each card by the builder's one call (the guide's Derived/Test/ToyasCard.lean, 'card_holds'). Laid BY PROGRAM, IN A SANDBOX (cutbox-door.mjs). By AI agents, Wed Nov 11 2026. No macro, syntax, notation, axiom, sorry.
-/
import Derived.Test.YtbnnfmncipdlpaaDoorRows
import GoSem.ClaimSeven
namespace Go.Proofs.YtbnnfmncipdlpaaDoor
namespace Rows

/-- THE TIED CARD OF 'pochoirlaw33.TextCodes'. -/
def textCodesCard : Claim7 := { stood := { row := textCodesRow, standIns := [], harness := (true, "671d6f262474ed90f6b00bf4cf96be4fcdd2e3faac7c55255a9f0faafa34ff12"), looks := false }, kinds := [], alts := [], laidByText := true, laidKinds := [.data, .pinned], laidTests := true, laidLooks := .later }
def TextCodesCardSaid : Prop := Claim7.holds Tryd.pinned (.plain (OpenSpec.ofChange textCodesSpec)) textCodesCard

/-- THE TIED CARD OF 'pochoirlaw33.TextLays'. -/
def textLaysCard : Claim7 := { stood := { row := textLaysRow, standIns := [], harness := (true, "671d6f262474ed90f6b00bf4cf96be4fcdd2e3faac7c55255a9f0faafa34ff12"), looks := false }, kinds := [], alts := [], laidByText := true, laidKinds := [.data, .pinned], laidTests := true, laidLooks := .later }
def TextLaysCardSaid : Prop := Claim7.holds Tryd.pinned (.plain (OpenSpec.ofChange textLaysSpec)) textLaysCard

/-- THE TIED CARD OF 'pochoirlaw33.TextWraps'. -/
def textWrapsCard : Claim7 := { stood := { row := textWrapsRow, standIns := [], harness := (true, "671d6f262474ed90f6b00bf4cf96be4fcdd2e3faac7c55255a9f0faafa34ff12"), looks := false }, kinds := [], alts := [], laidByText := true, laidKinds := [.data, .pinned], laidTests := true, laidLooks := .later }
def TextWrapsCardSaid : Prop := Claim7.holds Tryd.pinned (.plain (OpenSpec.ofChange textWrapsSpec)) textWrapsCard

/-- THE TIED CARD OF 'pochoirlaw33.TextJoined'. -/
def textJoinedCard : Claim7 := { stood := { row := textJoinedRow, standIns := [], harness := (true, "671d6f262474ed90f6b00bf4cf96be4fcdd2e3faac7c55255a9f0faafa34ff12"), looks := false }, kinds := [], alts := [], laidByText := true, laidKinds := [.data, .pinned], laidTests := true, laidLooks := .later }
def TextJoinedCardSaid : Prop := Claim7.holds Tryd.pinned (.plain (OpenSpec.ofChange textJoinedSpec)) textJoinedCard

/-- THE TIED CARD OF 'pochoirlaw34.RasterDraws'. -/
def rasterDrawsCard : Claim7 := { stood := { row := rasterDrawsRow, standIns := [], harness := (true, "671d6f262474ed90f6b00bf4cf96be4fcdd2e3faac7c55255a9f0faafa34ff12"), looks := false }, kinds := [], alts := [], laidByText := true, laidKinds := [.data], laidTests := true, laidLooks := .later }
def RasterDrawsCardSaid : Prop := Claim7.holds Tryd.pinned (.plain (OpenSpec.ofChange rasterDrawsSpec)) rasterDrawsCard

/-- THE TIED CARD OF 'pochoirlaw34.RasterParts'. -/
def rasterPartsCard : Claim7 := { stood := { row := rasterPartsRow, standIns := [], harness := (true, "671d6f262474ed90f6b00bf4cf96be4fcdd2e3faac7c55255a9f0faafa34ff12"), looks := false }, kinds := [], alts := [], laidByText := true, laidKinds := [.data], laidTests := true, laidLooks := .later }
def RasterPartsCardSaid : Prop := Claim7.holds Tryd.pinned (.plain (OpenSpec.ofChange rasterPartsSpec)) rasterPartsCard

/-- THE TIED CARD OF 'pochoirlaw34.RasterMoved'. -/
def rasterMovedCard : Claim7 := { stood := { row := rasterMovedRow, standIns := [], harness := (true, "671d6f262474ed90f6b00bf4cf96be4fcdd2e3faac7c55255a9f0faafa34ff12"), looks := false }, kinds := [], alts := [], laidByText := true, laidKinds := [.data], laidTests := true, laidLooks := .later }
def RasterMovedCardSaid : Prop := Claim7.holds Tryd.pinned (.plain (OpenSpec.ofChange rasterMovedSpec)) rasterMovedCard

/-- THE TIED CARD OF 'pochoirlaw34.RasterPixels'. -/
def rasterPixelsCard : Claim7 := { stood := { row := rasterPixelsRow, standIns := [], harness := (true, "671d6f262474ed90f6b00bf4cf96be4fcdd2e3faac7c55255a9f0faafa34ff12"), looks := false }, kinds := [], alts := [], laidByText := true, laidKinds := [.data], laidTests := true, laidLooks := .later }
def RasterPixelsCardSaid : Prop := Claim7.holds Tryd.pinned (.plain (OpenSpec.ofChange rasterPixelsSpec)) rasterPixelsCard

/-- THE SECOND FORM's CARD OF 'pochoirlaw33.TextCodes'. -/
def textCodesUptoCard : Claim7 := { stood := { row := textCodesUptoRow, standIns := [], harness := (true, "671d6f262474ed90f6b00bf4cf96be4fcdd2e3faac7c55255a9f0faafa34ff12"), looks := false }, kinds := [], alts := [], laidByText := true, laidKinds := [.data, .pinned], laidTests := true, laidLooks := .later }
def TextCodesUptoCardSaid : Prop := Claim7.holds Tryd.pinned (.plain (OpenSpec.upto textCodesSpec)) textCodesUptoCard

/-- THE SECOND FORM's CARD OF 'pochoirlaw33.TextLays'. -/
def textLaysUptoCard : Claim7 := { stood := { row := textLaysUptoRow, standIns := [], harness := (true, "671d6f262474ed90f6b00bf4cf96be4fcdd2e3faac7c55255a9f0faafa34ff12"), looks := false }, kinds := [], alts := [], laidByText := true, laidKinds := [.data, .pinned], laidTests := true, laidLooks := .later }
def TextLaysUptoCardSaid : Prop := Claim7.holds Tryd.pinned (.plain (OpenSpec.upto textLaysSpec)) textLaysUptoCard

/-- THE SECOND FORM's CARD OF 'pochoirlaw33.TextWraps'. -/
def textWrapsUptoCard : Claim7 := { stood := { row := textWrapsUptoRow, standIns := [], harness := (true, "671d6f262474ed90f6b00bf4cf96be4fcdd2e3faac7c55255a9f0faafa34ff12"), looks := false }, kinds := [], alts := [], laidByText := true, laidKinds := [.data, .pinned], laidTests := true, laidLooks := .later }
def TextWrapsUptoCardSaid : Prop := Claim7.holds Tryd.pinned (.plain (OpenSpec.upto textWrapsSpec)) textWrapsUptoCard

/-- THE SECOND FORM's CARD OF 'pochoirlaw33.TextJoined'. -/
def textJoinedUptoCard : Claim7 := { stood := { row := textJoinedUptoRow, standIns := [], harness := (true, "671d6f262474ed90f6b00bf4cf96be4fcdd2e3faac7c55255a9f0faafa34ff12"), looks := false }, kinds := [], alts := [], laidByText := true, laidKinds := [.data, .pinned], laidTests := true, laidLooks := .later }
def TextJoinedUptoCardSaid : Prop := Claim7.holds Tryd.pinned (.plain (OpenSpec.upto textJoinedSpec)) textJoinedUptoCard

/-- THE SECOND FORM's CARD OF 'pochoirlaw34.RasterDraws'. -/
def rasterDrawsUptoCard : Claim7 := { stood := { row := rasterDrawsUptoRow, standIns := [], harness := (true, "671d6f262474ed90f6b00bf4cf96be4fcdd2e3faac7c55255a9f0faafa34ff12"), looks := false }, kinds := [], alts := [], laidByText := true, laidKinds := [.data], laidTests := true, laidLooks := .later }
def RasterDrawsUptoCardSaid : Prop := Claim7.holds Tryd.pinned (.plain (OpenSpec.upto rasterDrawsSpec)) rasterDrawsUptoCard

/-- THE SECOND FORM's CARD OF 'pochoirlaw34.RasterParts'. -/
def rasterPartsUptoCard : Claim7 := { stood := { row := rasterPartsUptoRow, standIns := [], harness := (true, "671d6f262474ed90f6b00bf4cf96be4fcdd2e3faac7c55255a9f0faafa34ff12"), looks := false }, kinds := [], alts := [], laidByText := true, laidKinds := [.data], laidTests := true, laidLooks := .later }
def RasterPartsUptoCardSaid : Prop := Claim7.holds Tryd.pinned (.plain (OpenSpec.upto rasterPartsSpec)) rasterPartsUptoCard

/-- THE SECOND FORM's CARD OF 'pochoirlaw34.RasterMoved'. -/
def rasterMovedUptoCard : Claim7 := { stood := { row := rasterMovedUptoRow, standIns := [], harness := (true, "671d6f262474ed90f6b00bf4cf96be4fcdd2e3faac7c55255a9f0faafa34ff12"), looks := false }, kinds := [], alts := [], laidByText := true, laidKinds := [.data], laidTests := true, laidLooks := .later }
def RasterMovedUptoCardSaid : Prop := Claim7.holds Tryd.pinned (.plain (OpenSpec.upto rasterMovedSpec)) rasterMovedUptoCard

/-- THE SECOND FORM's CARD OF 'pochoirlaw34.RasterPixels'. -/
def rasterPixelsUptoCard : Claim7 := { stood := { row := rasterPixelsUptoRow, standIns := [], harness := (true, "671d6f262474ed90f6b00bf4cf96be4fcdd2e3faac7c55255a9f0faafa34ff12"), looks := false }, kinds := [], alts := [], laidByText := true, laidKinds := [.data], laidTests := true, laidLooks := .later }
def RasterPixelsUptoCardSaid : Prop := Claim7.holds Tryd.pinned (.plain (OpenSpec.upto rasterPixelsSpec)) rasterPixelsUptoCard
end Rows
end Go.Proofs.YtbnnfmncipdlpaaDoor
