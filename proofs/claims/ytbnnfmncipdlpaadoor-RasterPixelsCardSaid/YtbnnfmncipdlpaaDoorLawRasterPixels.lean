/- RasterPixels: the row and its tied card. For every input at which the listed table reads as the program's text lays it, the law's function returns true and leaves its arguments as they were. -/
import Derived.Test.YtbnnfmncipdlpaaDoorC34f
import Derived.Test.YtbnnfmncipdlpaaDoorRows
import Derived.Test.YtbnnfmncipdlpaaDoorCards
import Derived.Test.YtbnnfmncipdlpaaDoorTie
import Derived.Test.YtbnnfmncipdlpaaDoorDen38
import Derived.SevenTiedAt
set_option linter.unusedVariables false
set_option linter.unusedSimpArgs false
set_option maxRecDepth 100000
namespace Go.Proofs.YtbnnfmncipdlpaaDoor.rasterPixels
open Go Go.Den
theorem inMachine (xs : List AV) (h : ArgsAre [AtlT, .agg [.int .i64, .int .i64, .int .i64, .int .i64, .int .i64, .int .i64], .agg [.int .i64, .int .i64, .int .i64, .int .i64, .int .i64]] xs) : ∃ H', call env 10 xs [] = some (.bool true, H') := by
  obtain ⟨v, r, rfl, h1, v2, r', rfl, h2, v3, r'', rfl, h3, rfl⟩ := h
  obtain ⟨a, vg, vp, vs, rfl, hs, n1, _⟩ := atl_arg h1
  obtain ⟨c, rfl, h⟩ := h2
  obtain ⟨c1, r, rfl, h1, h⟩ := has_cons h
  obtain ⟨c2, r, rfl, h2, h⟩ := has_cons h
  obtain ⟨c3, r, rfl, h3', h⟩ := has_cons h
  obtain ⟨c4, r, rfl, h4, h⟩ := has_cons h
  obtain ⟨c5, r, rfl, h5, h⟩ := has_cons h
  obtain ⟨c6, r, rfl, h6, h⟩ := has_cons h
  obtain rfl := has_nil h
  obtain ⟨x1, rfl, _⟩ := has_int h1
  obtain ⟨x2, rfl, _⟩ := has_int h2
  obtain ⟨x3, rfl, _⟩ := has_int h3'
  obtain ⟨x4, rfl, _⟩ := has_int h4
  obtain ⟨x5, rfl, _⟩ := has_int h5
  obtain ⟨x6, rfl, _⟩ := has_int h6
  obtain ⟨c, rfl, h⟩ := h3
  obtain ⟨c1, r, rfl, h1, h⟩ := has_cons h
  obtain ⟨c2, r, rfl, h2, h⟩ := has_cons h
  obtain ⟨c3, r, rfl, h3, h⟩ := has_cons h
  obtain ⟨c4, r, rfl, h4, h⟩ := has_cons h
  obtain ⟨c5, r, rfl, h5, h⟩ := has_cons h
  obtain rfl := has_nil h
  obtain ⟨y1, rfl, _⟩ := has_int h1
  obtain ⟨y2, rfl, _⟩ := has_int h2
  obtain ⟨y3, rfl, _⟩ := has_int h3
  obtain ⟨y4, rfl, _⟩ := has_int h4
  obtain ⟨y5, rfl, _⟩ := has_int h5
  exact c10 hs (by unfold maxLen at n1; omega) ⟨x1, x2, x3, x4, x5, x6⟩ y1 y2 y3 y4 y5
theorem laidOut : laidOutB Tryd.prog = true := by kernel_rfl
theorem own : ownKnob Tryd.prog.godebug = none := by kernel_rfl
def tab (i : Nat) : List Int := (globs.map fun p => p.2.2).getD i []
theorem laidMet_tail {P : Program} {W : World} {x : String × DataW Unit} {rest : List (String × DataW Unit)} (h : laidMet P (x :: rest) W) : laidMet P rest W := by
  obtain ⟨ps, ⟨g', t', cs, fuel, p, q, hg', ht', hvar, hd, hr, rfl⟩, hn, hm⟩ := h
  exact ⟨q, hr, (List.nodup_append.1 hn).2.1, fun b off hb => hm b off (List.mem_append_right _ hb)⟩
/-- What the condition says of the tables. -/
theorem globOk (W : World) (h : laidMet Tryd.prog Rows.rasterPixelsRow.laid W) : GlobOk W := by
  have h0 : laidMet Tryd.prog (("math/bits.deBruijn64tab", Lib.tabData .u8 (tab 0)) :: []) W := h
  have hT0 := Lib.tabIs_of_head (g := 3) (t := 199) (e := 5) (n := 64) (by kernel_rfl) (by kernel_rfl) (by kernel_rfl) (by kernel_rfl) (by kernel_rfl) (by kernel_rfl) h0
  intro p hp i hi
  have hp' : p = (3, .u8, tab 0) := by
    have : globs = [(3, .u8, tab 0)] := rfl
    rw [this] at hp
    simpa using hp
  rcases hp' with rfl
  · have hc := hT0.cell (g := 3) (by kernel_rfl) i hi
    have e : (tab 0).getD i 0 = (tab 0)[i] := by rw [List.getD, List.getElem?_eq_getElem hi]; rfl
    rw [e] at hc
    exact hc
/-- The settled world, with the tables as they are laid. -/
noncomputable def laidWorld (os : Os) : World :=
  let w0 := World.holding Tryd.prog os ⟨#[], #[], []⟩
  { w0 with heap := (w0.heap).modify 3 fun
      | .cells _ t frozen => .cells ((tab 0).map fun z => Value.int .u8 z).toArray t frozen
      | o => o }
theorem laid_met (os : Os) (args : Array Value) : laidMet Tryd.prog Rows.rasterPixelsRow.laid ((laidWorld os).forCall (fun _ _ => 0) ⟨#[], args, []⟩).memory :=
  laidMet_of_run (ps := ((List.range 64).map fun i => .cell 3 i)) 8 (by kernel_rfl) (by kernel_rfl) (by kernel_rfl)
theorem lifted (os : Os) (started : os.Started) (H : Type) (enc : TypeId × Value → H) :
    ReturnsInHanded {} Tryd.checked os 10 .any (fun w args => (Rows.rasterPixelsSpec.pre enc Tryd.prog Tryd.f10 Rows.rasterPixelsRow.domain false w args ∧ laidMet Tryd.prog Rows.rasterPixelsRow.laid w) ∧ sizedMet enc Tryd.prog Tryd.f10 (OpenSpec.ofChange Rows.rasterPixelsSpec) false w args) (Rows.rasterPixelsSpec.post enc Tryd.prog Tryd.f10 false true false false) :=
  law_ofL (C := Tryd.checked) (e := env) (sf := s10) (tb := 4) [AtlT, .agg [.int .i64, .int .i64, .int .i64, .int .i64, .int .i64, .int .i64], .agg [.int .i64, .int .i64, .int .i64, .int .i64, .int .i64]] Rows.rasterPixelsRow.laid own started (by kernel_rfl) Tryd.func10
    (ChangeSpec.witness_at (enc := enc) (C := Tryd.checked) (os := os) (X := fun w _ => laidMet Tryd.prog Rows.rasterPixelsRow.laid w) false (laidWorld os) #[.agg #[.int .i64 0, .int .i64 0, .int .i64 0, .int .i64 0, .int .i64 0, .int .i64 0, .int .i64 0, .int .i64 0, .slice none 0 0, .slice none 0 0, .slice none 0 0], .agg #[.int .i64 0, .int .i64 0, .int .i64 0, .int .i64 0, .int .i64 0, .int .i64 0], .agg #[.int .i64 0, .int .i64 0, .int .i64 0, .int .i64 0, .int .i64 0]] 8 rfl (by kernel_rfl) (by kernel_rfl) (by kernel_rfl) (by kernel_rfl) (by kernel_rfl) (laid_met os _))
    rfl (fun ds hd => by match ds, hd with | [a, b, c], _ => rfl) (fitsArgs_ok (by kernel_rfl)) (by kernel_rfl) laidOut (by kernel_rfl) Tryd.underlying4 envOk rfl rfl sound inMachine globOk
theorem over : Rows.rasterPixelsRow.holds Tryd.pinned (OpenSpec.ofChange Rows.rasterPixelsSpec) :=
  OpenClaim.holds_of_wide 10 Tryd.f10 rfl rfl rfl rfl rfl rfl rfl ⟨rfl, rfl, rfl, rfl, rfl⟩ rfl rfl rfl rfl rfl (by kernel_rfl) Tryd.func10 (by kernel_rfl)
    (of_decide_eq_true (by kernel_rfl)) (by unfold Func.isWrapper; first | (rw [if_pos (by decide +kernel)]; kernel_rfl) | (rw [if_neg (by decide +kernel)]; exact ⟨rfl, rfl⟩))
    (fun os started H enc _ => lifted os started H enc)
theorem card : Claim7.holds Tryd.pinned (.plain (OpenSpec.ofChange Rows.rasterPixelsSpec)) Rows.rasterPixelsCard :=
  Claim7.holds_tied_plain_at .later [] [.data] true (true, "671d6f262474ed90f6b00bf4cf96be4fcdd2e3faac7c55255a9f0faafa34ff12") false
    over (fun _ h => by cases h) (by kernel_rfl) (fun _ h => by cases h) rasterPixels_row_tie rfl ⟨rfl, rfl⟩ (by kernel_rfl) rfl
    (fun f fn hf hfn => by
      obtain rfl : f = 10 := Option.some.inj ((show Tryd.prog.funcNamed "pochoir/pochoirlaw34.RasterPixels" = some 10 by kernel_rfl).symm.trans hf) |>.symm
      obtain rfl : fn = Tryd.f10 := (Option.some.inj (Tryd.func10.symm.trans hfn)).symm
      exact ⟨by kernel_rfl, fun j t ht => by
        rw [show Tryd.f10.params = #[33, 55, 63] by kernel_rfl] at ht
        have hm : t ∈ [33, 55, 63] := by simpa using Array.mem_of_getElem? ht
        have hall : ([33, 55, 63].all fun u => !Tryd.prog.wantsStandIn u) = true := by kernel_rfl
        exact (show Tryd.prog.wantsStandIn t = false by simpa using List.all_eq_true.1 hall t hm)⟩)
    (by kernel_rfl)
end Go.Proofs.YtbnnfmncipdlpaaDoor.rasterPixels
namespace Go.Proofs.YtbnnfmncipdlpaaDoor
/-- The card, under a short name, for the claim. -/
theorem rasterPixels_holds : Rows.RasterPixelsCardSaid := rasterPixels.card
#print axioms rasterPixels_holds
end Go.Proofs.YtbnnfmncipdlpaaDoor
