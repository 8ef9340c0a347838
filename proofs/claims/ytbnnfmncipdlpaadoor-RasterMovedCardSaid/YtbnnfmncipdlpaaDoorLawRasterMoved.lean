/- RasterMoved: the row and its tied card. For every input at which the listed table reads as the program's text lays it, the law's function returns true and leaves its arguments as they were. -/
import Derived.Test.YtbnnfmncipdlpaaDoorC34o
import Derived.Test.YtbnnfmncipdlpaaDoorC34v
import Derived.Test.YtbnnfmncipdlpaaDoorRows
import Derived.Test.YtbnnfmncipdlpaaDoorCards
import Derived.Test.YtbnnfmncipdlpaaDoorTie
import Derived.Test.YtbnnfmncipdlpaaDoorDen38
import Derived.SevenTiedAt
set_option linter.unusedVariables false
set_option linter.unusedSimpArgs false
set_option maxRecDepth 100000
namespace Go.Proofs.YtbnnfmncipdlpaaDoor.rasterMoved
open Go Go.Den
theorem inMachine (xs : List AV) (h : ArgsAre [AtlT, ViewT, .slice PldT] xs) : ∃ H', call env 9 xs [] = some (.bool true, H') := by
  obtain ⟨v, r, rfl, h1, v2, r', rfl, h2, v3, r'', rfl, h3, rfl⟩ := h
  obtain ⟨a, vg, vp, vs, rfl, hs, n1, _⟩ := atl_arg h1
  obtain ⟨w, rfl⟩ := view_arg h2
  obtain ⟨l, hl, _, hm⟩ := slice_in (H := []) (g := Pld.cs) (ok := fun _ => True) h3 (by decide) (fun x hx => pld_in hx) (fun a => rfl)
  exact c9 hs (by unfold maxLen at n1; omega) w hl (by unfold maxLen at hm; omega)
theorem laidOut : laidOutB Tryd.prog = true := by kernel_rfl
theorem own : ownKnob Tryd.prog.godebug = none := by kernel_rfl
def tab (i : Nat) : List Int := (globs.map fun p => p.2.2).getD i []
theorem laidMet_tail {P : Program} {W : World} {x : String × DataW Unit} {rest : List (String × DataW Unit)} (h : laidMet P (x :: rest) W) : laidMet P rest W := by
  obtain ⟨ps, ⟨g', t', cs, fuel, p, q, hg', ht', hvar, hd, hr, rfl⟩, hn, hm⟩ := h
  exact ⟨q, hr, (List.nodup_append.1 hn).2.1, fun b off hb => hm b off (List.mem_append_right _ hb)⟩
/-- What the condition says of the tables. -/
theorem globOk (W : World) (h : laidMet Tryd.prog Rows.rasterMovedRow.laid W) : GlobOk W := by
  have h0 : laidMet Tryd.prog (("math/bits.deBruijn64tab", Lib.tabData .u8 (tab 0)) :: []) W := h
  have hT0 := Lib.tabIs_of_head (g := 3) (t := 199) (e := 5) (n := 64) (by kernel_rfl) (by kernel_rfl) (by kernel_rfl) (by kernel_rfl) (by kernel_rfl) (by kernel_rfl) h0
  intro p hp i hi
  have hp' : p = (3, .u8, tab 0) := by
    have : globs = [(3, .u8, tab 0)] := rfl
    rw [this] at hp
    simpa using hp
  rcases hp' with rfl
  · have hc := hT0.cell (g := 3) (by kernel_rfl) i hi
    have e : (tab 0).getD i 0 = (tab 0)[i] := by rw [List.getD, List.getElem?_eq_getElem hi]; rfl
    rw [e] at hc
    exact hc
/-- The settled world, with the tables as they are laid. -/
noncomputable def laidWorld (os : Os) : World :=
  let w0 := World.holding Tryd.prog os ⟨#[], #[], []⟩
  { w0 with heap := (w0.heap).modify 3 fun
      | .cells _ t frozen => .cells ((tab 0).map fun z => Value.int .u8 z).toArray t frozen
      | o => o }
theorem laid_met (os : Os) (args : Array Value) : laidMet Tryd.prog Rows.rasterMovedRow.laid ((laidWorld os).forCall (fun _ _ => 0) ⟨#[], args, []⟩).memory :=
  laidMet_of_run (ps := ((List.range 64).map fun i => .cell 3 i)) 8 (by kernel_rfl) (by kernel_rfl) (by kernel_rfl)
theorem lifted (os : Os) (started : os.Started) (H : Type) (enc : TypeId × Value → H) :
    ReturnsInHanded {} Tryd.checked os 9 .any (fun w args => (Rows.rasterMovedSpec.pre enc Tryd.prog Tryd.f9 Rows.rasterMovedRow.domain false w args ∧ laidMet Tryd.prog Rows.rasterMovedRow.laid w) ∧ sizedMet enc Tryd.prog Tryd.f9 (OpenSpec.ofChange Rows.rasterMovedSpec) false w args) (Rows.rasterMovedSpec.post enc Tryd.prog Tryd.f9 false true false false) :=
  law_ofL (C := Tryd.checked) (e := env) (sf := s9) (tb := 4) [AtlT, ViewT, .slice PldT] Rows.rasterMovedRow.laid own started (by kernel_rfl) Tryd.func9
    (ChangeSpec.witness_at (enc := enc) (C := Tryd.checked) (os := os) (X := fun w _ => laidMet Tryd.prog Rows.rasterMovedRow.laid w) false (laidWorld os) #[.agg #[.int .i64 0, .int .i64 0, .int .i64 0, .int .i64 0, .int .i64 0, .int .i64 0, .int .i64 0, .int .i64 0, .slice none 0 0, .slice none 0 0, .slice none 0 0], .agg #[.int .i64 0, .int .i64 0, .int .i64 0, .int .i64 0, .int .i64 0, .int .i64 0], .slice none 0 0] 8 rfl (by kernel_rfl) (by kernel_rfl) (by kernel_rfl) (by kernel_rfl) (by kernel_rfl) (laid_met os _))
    rfl (fun ds hd => by match ds, hd with | [a, b, c], _ => rfl) (fitsArgs_ok (by kernel_rfl)) (by kernel_rfl) laidOut (by kernel_rfl) Tryd.underlying4 envOk rfl rfl sound inMachine globOk
theorem over : Rows.rasterMovedRow.holds Tryd.pinned (OpenSpec.ofChange Rows.rasterMovedSpec) :=
  OpenClaim.holds_of_wide 9 Tryd.f9 rfl rfl rfl rfl rfl rfl rfl ⟨rfl, rfl, rfl, rfl, rfl⟩ rfl rfl rfl rfl rfl (by kernel_rfl) Tryd.func9 (by kernel_rfl)
    (of_decide_eq_true (by kernel_rfl)) (by unfold Func.isWrapper; first | (rw [if_pos (by decide +kernel)]; kernel_rfl) | (rw [if_neg (by decide +kernel)]; exact ⟨rfl, rfl⟩))
    (fun os started H enc _ => lifted os started H enc)
theorem card : Claim7.holds Tryd.pinned (.plain (OpenSpec.ofChange Rows.rasterMovedSpec)) Rows.rasterMovedCard :=
  Claim7.holds_tied_plain_at .later [] [.data] true (true, "671d6f262474ed90f6b00bf4cf96be4fcdd2e3faac7c55255a9f0faafa34ff12") false
    over (fun _ h => by cases h) (by kernel_rfl) (fun _ h => by cases h) rasterMoved_row_tie rfl ⟨rfl, rfl⟩ (by kernel_rfl) rfl
    (fun f fn hf hfn => by
      obtain rfl : f = 9 := Option.some.inj ((show Tryd.prog.funcNamed "pochoir/pochoirlaw34.RasterMoved" = some 9 by kernel_rfl).symm.trans hf) |>.symm
      obtain rfl : fn = Tryd.f9 := (Option.some.inj (Tryd.func9.symm.trans hfn)).symm
      exact ⟨by kernel_rfl, fun j t ht => by
        rw [show Tryd.f9.params = #[33, 55, 35] by kernel_rfl] at ht
        have hm : t ∈ [33, 55, 35] := by simpa using Array.mem_of_getElem? ht
        have hall : ([33, 55, 35].all fun u => !Tryd.prog.wantsStandIn u) = true := by kernel_rfl
        exact (show Tryd.prog.wantsStandIn t = false by simpa using List.all_eq_true.1 hall t hm)⟩)
    (by kernel_rfl)
end Go.Proofs.YtbnnfmncipdlpaaDoor.rasterMoved
namespace Go.Proofs.YtbnnfmncipdlpaaDoor
/-- The card, under a short name, for the claim. -/
theorem rasterMoved_holds : Rows.RasterMovedCardSaid := rasterMoved.card
#print axioms rasterMoved_holds
end Go.Proofs.YtbnnfmncipdlpaaDoor
