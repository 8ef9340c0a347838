/- SampleBetween: the row and its tied card. For every input at which the listed table reads as the program's text lays it, the law's function returns true and leaves its arguments as they were. -/
import Derived.Test.YtppkggodpihfiaaDoorC32f
import Derived.Test.YtppkggodpihfiaaDoorRows
import Derived.Test.YtppkggodpihfiaaDoorCards
import Derived.Test.YtppkggodpihfiaaDoorTie
import Derived.Test.YtppkggodpihfiaaDoorDen38
import Derived.SevenTiedAt
set_option linter.unusedVariables false
set_option linter.unusedSimpArgs false
set_option maxRecDepth 100000
namespace Go.Proofs.YtppkggodpihfiaaDoor.sampleBetween
open Go Go.Den
theorem inMachine (xs : List AV) (h : ArgsAre [AtlT, .agg [.int .i64, .int .i64, .int .i64], .agg [.int .u8, .int .u8]] xs) : ∃ H', call env 5 xs [] = some (.bool true, H') := by
  obtain ⟨v, r, rfl, h1, v2, r', rfl, h2, v3, r3, rfl, h3, rfl⟩ := h
  obtain ⟨a, vg, vp, vs, rfl, hs, n1, _⟩ := atl_arg h1
  obtain ⟨c, rfl, h⟩ := h2
  obtain ⟨c1, r, rfl, h1, h⟩ := has_cons h
  obtain ⟨c2, r, rfl, h2, h⟩ := has_cons h
  obtain ⟨c3, r, rfl, h4, h⟩ := has_cons h
  obtain rfl := has_nil h
  obtain ⟨x1, rfl, _⟩ := has_int h1
  obtain ⟨x2, rfl, _⟩ := has_int h2
  obtain ⟨x3, rfl, _⟩ := has_int h4
  obtain ⟨c, rfl, h⟩ := h3
  obtain ⟨d1, r, rfl, h1, h⟩ := has_cons h
  obtain ⟨d2, r, rfl, h2, h⟩ := has_cons h
  obtain rfl := has_nil h
  obtain ⟨y1, rfl, w1⟩ := has_int h1
  obtain ⟨y2, rfl, w2⟩ := has_int h2
  have := wf_u8 w1
  have := wf_u8 w2
  exact c5 hs (by unfold maxLen at n1; omega) x1 x2 x3 y1 y2 (by omega)
theorem laidOut : laidOutB Tryd.prog = true := by kernel_rfl
theorem own : ownKnob Tryd.prog.godebug = none := by kernel_rfl
def tab : List Int := ((globs.map fun p => p.2.2).head?).getD []
/-- What the condition says of the table. -/
theorem globOk (W : World) (h : laidMet Tryd.prog Rows.sampleBetweenRow.laid W) : GlobOk W := by
  have h' : laidMet Tryd.prog (("math/bits.deBruijn64tab", Lib.tabData .u8 tab) :: []) W := h
  have hT := Lib.tabIs_of_head (g := 0) (t := 96) (e := 5) (n := 64) (by kernel_rfl) (by kernel_rfl) (by kernel_rfl) (by kernel_rfl) (by kernel_rfl) (by kernel_rfl) h'
  intro p hp i hi
  have hp' : p = (0, .u8, tab) := by
    have : globs = [(0, .u8, tab)] := rfl
    rw [this] at hp
    simpa using hp
  subst hp'
  have hc := hT.cell (g := 0) (by kernel_rfl) i hi
  have e : tab.getD i 0 = tab[i] := by rw [List.getD, List.getElem?_eq_getElem hi]; rfl
  rw [e] at hc
  exact hc
/-- The settled world, with the table as it is laid. -/
noncomputable def laidWorld (os : Os) : World :=
  let w0 := World.holding Tryd.prog os ⟨#[], #[], []⟩
  { w0 with heap := w0.heap.modify 0 fun
      | .cells _ t frozen => .cells (tab.map fun z => Value.int .u8 z).toArray t frozen
      | o => o }
theorem laid_met (os : Os) (args : Array Value) : laidMet Tryd.prog Rows.sampleBetweenRow.laid ((laidWorld os).forCall (fun _ _ => 0) ⟨#[], args, []⟩).memory :=
  laidMet_of_run (ps := (List.range 64).map fun i => .cell 0 i) 8 (by kernel_rfl) (by kernel_rfl) (by kernel_rfl)
theorem lifted (os : Os) (started : os.Started) (H : Type) (enc : TypeId × Value → H) :
    ReturnsInHanded {} Tryd.checked os 5 .any (fun w args => (Rows.sampleBetweenSpec.pre enc Tryd.prog Tryd.f5 Rows.sampleBetweenRow.domain false w args ∧ laidMet Tryd.prog Rows.sampleBetweenRow.laid w) ∧ sizedMet enc Tryd.prog Tryd.f5 (OpenSpec.ofChange Rows.sampleBetweenSpec) false w args) (Rows.sampleBetweenSpec.post enc Tryd.prog Tryd.f5 false true false false) :=
  law_ofL (C := Tryd.checked) (e := env) (sf := s5) (tb := 4) [AtlT, .agg [.int .i64, .int .i64, .int .i64], .agg [.int .u8, .int .u8]] Rows.sampleBetweenRow.laid own started (by kernel_rfl) Tryd.func5
    (ChangeSpec.witness_at (enc := enc) (C := Tryd.checked) (os := os) (X := fun w _ => laidMet Tryd.prog Rows.sampleBetweenRow.laid w) false (laidWorld os) #[.agg #[.int .i64 0, .int .i64 0, .int .i64 0, .int .i64 0, .int .i64 0, .int .i64 0, .int .i64 0, .int .i64 0, .slice none 0 0, .slice none 0 0, .slice none 0 0], .agg #[.int .i64 0, .int .i64 0, .int .i64 0], .agg #[.int .u8 0, .int .u8 0]] 8 rfl (by kernel_rfl) (by kernel_rfl) (by kernel_rfl) (by kernel_rfl) (by kernel_rfl) (laid_met os _))
    rfl (fun ds hd => by match ds, hd with | [a, b, c], _ => rfl) (fitsArgs_ok (by kernel_rfl)) (by kernel_rfl) laidOut (by kernel_rfl) Tryd.underlying4 envOk rfl rfl sound inMachine globOk
theorem over : Rows.sampleBetweenRow.holds Tryd.pinned (OpenSpec.ofChange Rows.sampleBetweenSpec) :=
  OpenClaim.holds_of_wide 5 Tryd.f5 rfl rfl rfl rfl rfl rfl rfl ⟨rfl, rfl, rfl, rfl, rfl⟩ rfl rfl rfl rfl rfl (by kernel_rfl) Tryd.func5 (by kernel_rfl)
    (of_decide_eq_true (by kernel_rfl)) (by unfold Func.isWrapper; first | (rw [if_pos (by decide +kernel)]; kernel_rfl) | (rw [if_neg (by decide +kernel)]; exact ⟨rfl, rfl⟩))
    (fun os started H enc _ => lifted os started H enc)
theorem card : Claim7.holds Tryd.pinned (.plain (OpenSpec.ofChange Rows.sampleBetweenSpec)) Rows.sampleBetweenCard :=
  Claim7.holds_tied_plain_at .later [] [.data] true (true, "6d2d13b8f62c8d3ca8e87a4fc2a13c40194ff057fa1ba37ebd29d05f0150fe12") false
    over (fun _ h => by cases h) (by kernel_rfl) (fun _ h => by cases h) sampleBetween_row_tie rfl ⟨rfl, rfl⟩ (by kernel_rfl) rfl
    (fun f fn hf hfn => by
      obtain rfl : f = 5 := Option.some.inj ((show Tryd.prog.funcNamed "pochoir/pochoirlaw32.SampleBetween" = some 5 by kernel_rfl).symm.trans hf) |>.symm
      obtain rfl : fn = Tryd.f5 := (Option.some.inj (Tryd.func5.symm.trans hfn)).symm
      exact ⟨by kernel_rfl, fun j t ht => by
        rw [show Tryd.f5.params = #[28, 29, 48] by kernel_rfl] at ht
        have hm : t ∈ [28, 29, 48] := by simpa using Array.mem_of_getElem? ht
        have hall : ([28, 29, 48].all fun u => !Tryd.prog.wantsStandIn u) = true := by kernel_rfl
        exact (show Tryd.prog.wantsStandIn t = false by simpa using List.all_eq_true.1 hall t hm)⟩)
    (by kernel_rfl)
end Go.Proofs.YtppkggodpihfiaaDoor.sampleBetween
namespace Go.Proofs.YtppkggodpihfiaaDoor
/-- The card, under a short name, for the claim. -/
theorem sampleBetween_holds : Rows.SampleBetweenCardSaid := sampleBetween.card
#print axioms sampleBetween_holds
end Go.Proofs.YtppkggodpihfiaaDoor
