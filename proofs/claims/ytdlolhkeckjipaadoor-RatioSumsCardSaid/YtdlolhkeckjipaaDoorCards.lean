/-
  DERIVED. GIVEN WITH THE SEED: THE CARDS: each row of YtdlolhkeckjipaaDoorRows.lean that lists a variable, with what it lists TIED to the program's text (the seventh form; the later family's looks); each row that meets fmt, with fmt's text TOLD by the authors' own Lean function (tested against real Go, not proved from fmt's source: count such statements apart). THE CARD IS WHAT COUNTS. Prove the row's statement (the work); the ties are given (YtdlolhkeckjipaaDoorTie.lean); close each card by the builder's one call (the guide's Derived/Test/ToyasCard.lean, 'card_holds'). Laid BY PROGRAM, IN A SANDBOX (cutbox-door.mjs). By AI agents, Wed Nov 11 2026. No macro, syntax, notation, axiom, sorry.
-/
import Derived.Test.YtdlolhkeckjipaaDoorRows
import GoSem.ClaimSeven
namespace Go.Proofs.YtdlolhkeckjipaaDoor
namespace Rows

/-- THE TIED CARD OF 'pochoirlaw03.RatioNew'. -/
def ratioNewCard : Claim7 := { stood := { row := ratioNewRow, standIns := [], harness := (true, "d947eede01930fd1dd2d2c8dce3e776fe80fc0644b7dc41905d1d494215f26ef"), looks := false }, kinds := [], alts := [], laidByText := true, laidKinds := [.data, .data, .data], laidTests := true, laidLooks := .later }
def RatioNewCardSaid : Prop := Claim7.holds Tryd.pinned (.plain (OpenSpec.ofChange ratioNewSpec)) ratioNewCard

/-- THE TIED CARD OF 'pochoirlaw03.RatioOrder'. -/
def ratioOrderCard : Claim7 := { stood := { row := ratioOrderRow, standIns := [], harness := (true, "d947eede01930fd1dd2d2c8dce3e776fe80fc0644b7dc41905d1d494215f26ef"), looks := false }, kinds := [], alts := [], laidByText := true, laidKinds := [.data, .data, .data], laidTests := true, laidLooks := .later }
def RatioOrderCardSaid : Prop := Claim7.holds Tryd.pinned (.plain (OpenSpec.ofChange ratioOrderSpec)) ratioOrderCard

/-- THE TIED CARD OF 'pochoirlaw03.RatioSums'. -/
def ratioSumsCard : Claim7 := { stood := { row := ratioSumsRow, standIns := [], harness := (true, "d947eede01930fd1dd2d2c8dce3e776fe80fc0644b7dc41905d1d494215f26ef"), looks := false }, kinds := [], alts := [], laidByText := true, laidKinds := [.data, .data, .data], laidTests := true, laidLooks := .later }
def RatioSumsCardSaid : Prop := Claim7.holds Tryd.pinned (.plain (OpenSpec.ofChange ratioSumsSpec)) ratioSumsCard

/-- THE SECOND FORM's CARD OF 'pochoirlaw03.RatioNew'. -/
def ratioNewUptoCard : Claim7 := { stood := { row := ratioNewUptoRow, standIns := [], harness := (true, "d947eede01930fd1dd2d2c8dce3e776fe80fc0644b7dc41905d1d494215f26ef"), looks := false }, kinds := [], alts := [], laidByText := true, laidKinds := [.data, .data, .data], laidTests := true, laidLooks := .later }
def RatioNewUptoCardSaid : Prop := Claim7.holds Tryd.pinned (.plain (OpenSpec.upto ratioNewSpec)) ratioNewUptoCard

/-- THE SECOND FORM's CARD OF 'pochoirlaw03.RatioOrder'. -/
def ratioOrderUptoCard : Claim7 := { stood := { row := ratioOrderUptoRow, standIns := [], harness := (true, "d947eede01930fd1dd2d2c8dce3e776fe80fc0644b7dc41905d1d494215f26ef"), looks := false }, kinds := [], alts := [], laidByText := true, laidKinds := [.data, .data, .data], laidTests := true, laidLooks := .later }
def RatioOrderUptoCardSaid : Prop := Claim7.holds Tryd.pinned (.plain (OpenSpec.upto ratioOrderSpec)) ratioOrderUptoCard

/-- THE SECOND FORM's CARD OF 'pochoirlaw03.RatioSums'. -/
def ratioSumsUptoCard : Claim7 := { stood := { row := ratioSumsUptoRow, standIns := [], harness := (true, "d947eede01930fd1dd2d2c8dce3e776fe80fc0644b7dc41905d1d494215f26ef"), looks := false }, kinds := [], alts := [], laidByText := true, laidKinds := [.data, .data, .data], laidTests := true, laidLooks := .later }
def RatioSumsUptoCardSaid : Prop := Claim7.holds Tryd.pinned (.plain (OpenSpec.upto ratioSumsSpec)) ratioSumsUptoCard
end Rows
end Go.Proofs.YtdlolhkeckjipaaDoor
