/- SampleCovers: the row and its tied card. For every input at which the listed table reads as the program's text lays it, the law's function returns true and leaves its arguments as they were. -/
import Derived.Test.YtppkggodpihfiaaDoorC32m
import Derived.Test.YtppkggodpihfiaaDoorRows
import Derived.Test.YtppkggodpihfiaaDoorCards
import Derived.Test.YtppkggodpihfiaaDoorTie
import Derived.Test.YtppkggodpihfiaaDoorDen38
import Derived.SevenTiedAt
set_option linter.unusedVariables false
set_option linter.unusedSimpArgs false
set_option maxRecDepth 100000
namespace Go.Proofs.YtppkggodpihfiaaDoor.sampleCovers
open Go Go.Den
theorem inMachine (xs : List AV) (h : ArgsAre [.agg [.int .i64, .int .i64], .int .i64, .agg [.int .i64, .int .i64]] xs) : ∃ H', call env 4 xs [] = some (.bool true, H') := by
  obtain ⟨v, r, rfl, h1, v2, r', rfl, h2, v3, r'', rfl, h3, rfl⟩ := h
  obtain ⟨c, rfl, h⟩ := h1
  obtain ⟨c1, r, rfl, h1, h⟩ := has_cons h
  obtain ⟨c2, r, rfl, h1', h⟩ := has_cons h
  obtain rfl := has_nil h
  obtain ⟨x1, rfl, _⟩ := has_int h1
  obtain ⟨x2, rfl, _⟩ := has_int h1'
  obtain ⟨x3, h2, hr⟩ := has_int h2
  obtain rfl : v2 = .int .i64 x3 := by injection h2
  obtain ⟨c, rfl, h⟩ := h3
  obtain ⟨c1, r, rfl, h1, h⟩ := has_cons h
  obtain ⟨c2, r, rfl, h2, h⟩ := has_cons h
  obtain rfl := has_nil h
  obtain ⟨x4, rfl, hn⟩ := has_int h1
  obtain ⟨x5, rfl, hd⟩ := has_int h2
  have ok : ∀ n : Int, (Lit.int .i64 n).wf = true → I64 n := fun n h => by have := wf_i64 h; unfold I64; omega
  exact c4 (m := x1) (m' := x2) (ok _ hr) (ok _ hn) (ok _ hd)
theorem laidOut : laidOutB Tryd.prog = true := by kernel_rfl
theorem own : ownKnob Tryd.prog.godebug = none := by kernel_rfl
def tab : List Int := ((globs.map fun p => p.2.2).head?).getD []
/-- What the condition says of the table. -/
theorem globOk (W : World) (h : laidMet Tryd.prog Rows.sampleCoversRow.laid W) : GlobOk W := by
  have h' : laidMet Tryd.prog (("math/bits.deBruijn64tab", Lib.tabData .u8 tab) :: []) W := h
  have hT := Lib.tabIs_of_head (g := 0) (t := 96) (e := 5) (n := 64) (by kernel_rfl) (by kernel_rfl) (by kernel_rfl) (by kernel_rfl) (by kernel_rfl) (by kernel_rfl) h'
  intro p hp i hi
  have hp' : p = (0, .u8, tab) := by
    have : globs = [(0, .u8, tab)] := rfl
    rw [this] at hp
    simpa using hp
  subst hp'
  have hc := hT.cell (g := 0) (by kernel_rfl) i hi
  have e : tab.getD i 0 = tab[i] := by rw [List.getD, List.getElem?_eq_getElem hi]; rfl
  rw [e] at hc
  exact hc
/-- The settled world, with the table as it is laid. -/
noncomputable def laidWorld (os : Os) : World :=
  let w0 := World.holding Tryd.prog os ⟨#[], #[], []⟩
  { w0 with heap := w0.heap.modify 0 fun
      | .cells _ t frozen => .cells (tab.map fun z => Value.int .u8 z).toArray t frozen
      | o => o }
theorem laid_met (os : Os) (args : Array Value) : laidMet Tryd.prog Rows.sampleCoversRow.laid ((laidWorld os).forCall (fun _ _ => 0) ⟨#[], args, []⟩).memory :=
  laidMet_of_run (ps := (List.range 64).map fun i => .cell 0 i) 8 (by kernel_rfl) (by kernel_rfl) (by kernel_rfl)
theorem lifted (os : Os) (started : os.Started) (H : Type) (enc : TypeId × Value → H) :
    ReturnsInHanded {} Tryd.checked os 4 .any (fun w args => (Rows.sampleCoversSpec.pre enc Tryd.prog Tryd.f4 Rows.sampleCoversRow.domain false w args ∧ laidMet Tryd.prog Rows.sampleCoversRow.laid w) ∧ sizedMet enc Tryd.prog Tryd.f4 (OpenSpec.ofChange Rows.sampleCoversSpec) false w args) (Rows.sampleCoversSpec.post enc Tryd.prog Tryd.f4 false true false false) :=
  law_ofL (C := Tryd.checked) (e := env) (sf := s4) (tb := 4) [.agg [.int .i64, .int .i64], .int .i64, .agg [.int .i64, .int .i64]] Rows.sampleCoversRow.laid own started (by kernel_rfl) Tryd.func4
    (ChangeSpec.witness_at (enc := enc) (C := Tryd.checked) (os := os) (X := fun w _ => laidMet Tryd.prog Rows.sampleCoversRow.laid w) false (laidWorld os) #[.agg #[.int .i64 0, .int .i64 0], .int .i64 0, .agg #[.int .i64 0, .int .i64 0]] 8 rfl (by kernel_rfl) (by kernel_rfl) (by kernel_rfl) (by kernel_rfl) (by kernel_rfl) (laid_met os _))
    rfl (fun ds hd => by match ds, hd with | [a, b, c], _ => rfl) (fitsArgs_ok (by kernel_rfl)) (by kernel_rfl) laidOut (by kernel_rfl) Tryd.underlying4 envOk rfl rfl sound inMachine globOk
theorem over : Rows.sampleCoversRow.holds Tryd.pinned (OpenSpec.ofChange Rows.sampleCoversSpec) :=
  OpenClaim.holds_of_wide 4 Tryd.f4 rfl rfl rfl rfl rfl rfl rfl ⟨rfl, rfl, rfl, rfl, rfl⟩ rfl rfl rfl rfl rfl (by kernel_rfl) Tryd.func4 (by kernel_rfl)
    (of_decide_eq_true (by kernel_rfl)) (by unfold Func.isWrapper; first | (rw [if_pos (by decide +kernel)]; kernel_rfl) | (rw [if_neg (by decide +kernel)]; exact ⟨rfl, rfl⟩))
    (fun os started H enc _ => lifted os started H enc)
theorem card : Claim7.holds Tryd.pinned (.plain (OpenSpec.ofChange Rows.sampleCoversSpec)) Rows.sampleCoversCard :=
  Claim7.holds_tied_plain_at .later [] [.data] true (true, "6d2d13b8f62c8d3ca8e87a4fc2a13c40194ff057fa1ba37ebd29d05f0150fe12") false
    over (fun _ h => by cases h) (by kernel_rfl) (fun _ h => by cases h) sampleCovers_row_tie rfl ⟨rfl, rfl⟩ (by kernel_rfl) rfl
    (fun f fn hf hfn => by
      obtain rfl : f = 4 := Option.some.inj ((show Tryd.prog.funcNamed "pochoir/pochoirlaw32.SampleCovers" = some 4 by kernel_rfl).symm.trans hf) |>.symm
      obtain rfl : fn = Tryd.f4 := (Option.some.inj (Tryd.func4.symm.trans hfn)).symm
      exact ⟨by kernel_rfl, fun j t ht => by
        rw [show Tryd.f4.params = #[40, 3, 42] by kernel_rfl] at ht
        have hm : t ∈ [40, 3, 42] := by simpa using Array.mem_of_getElem? ht
        have hall : ([40, 3, 42].all fun u => !Tryd.prog.wantsStandIn u) = true := by kernel_rfl
        exact (show Tryd.prog.wantsStandIn t = false by simpa using List.all_eq_true.1 hall t hm)⟩)
    (by kernel_rfl)
end Go.Proofs.YtppkggodpihfiaaDoor.sampleCovers
namespace Go.Proofs.YtppkggodpihfiaaDoor
/-- The card, under a short name, for the claim. -/
theorem sampleCovers_holds : Rows.SampleCoversCardSaid := sampleCovers.card
#print axioms sampleCovers_holds
end Go.Proofs.YtppkggodpihfiaaDoor
