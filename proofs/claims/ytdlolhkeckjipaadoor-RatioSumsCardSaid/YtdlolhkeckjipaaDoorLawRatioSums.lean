/- RatioSums: the row and its tied card. For every input at which the listed table reads as the program's text lays it, the law's function returns true and leaves its arguments as they were. -/
import Derived.Test.YtdlolhkeckjipaaDoorN03j
import Derived.Test.YtdlolhkeckjipaaDoorRows
import Derived.Test.YtdlolhkeckjipaaDoorCards
import Derived.Test.YtdlolhkeckjipaaDoorTie
import Derived.Test.YtdlolhkeckjipaaDoorDen38
import Derived.SevenTiedAt
set_option linter.unusedVariables false
set_option linter.unusedSimpArgs false
set_option maxRecDepth 100000
namespace Go.Proofs.YtdlolhkeckjipaaDoor.ratioSums
open Go Go.Den
theorem inMachine (xs : List AV) (h : ArgsAre [.agg [.int .i64, .int .i64], .agg [.int .i64, .int .i64]] xs) : ∃ H', call env 5 xs [] = some (.bool true, H') := by
  obtain ⟨v, r, rfl, h1, v2, r', rfl, h2, rfl⟩ := h
  obtain ⟨c, rfl, h⟩ := h1
  obtain ⟨c1, r, rfl, h1, h⟩ := has_cons h
  obtain ⟨c2, r, rfl, h1', h⟩ := has_cons h
  obtain rfl := has_nil h
  obtain ⟨x1, rfl, q1⟩ := has_int h1
  obtain ⟨x2, rfl, q2⟩ := has_int h1'
  obtain ⟨c, rfl, h⟩ := h2
  obtain ⟨c1, r, rfl, h1, h⟩ := has_cons h
  obtain ⟨c2, r, rfl, h1', h⟩ := has_cons h
  obtain rfl := has_nil h
  obtain ⟨x3, rfl, q3⟩ := has_int h1
  obtain ⟨x4, rfl, q4⟩ := has_int h1'
  have ok : ∀ n : Int, (Lit.int .i64 n).wf = true → I64 n := fun n h => by have := wf_i64 h; unfold I64; omega
  exact c5 (ok _ q1) (ok _ q2) (ok _ q3) (ok _ q4)
theorem laidOut : laidOutB Tryd.prog = true := by kernel_rfl
theorem own : ownKnob Tryd.prog.godebug = none := by kernel_rfl
def tab (i : Nat) : List Int := (globs.map fun p => p.2.2).getD i []
theorem laidMet_tail {P : Program} {W : World} {x : String × DataW Unit} {rest : List (String × DataW Unit)} (h : laidMet P (x :: rest) W) : laidMet P rest W := by
  obtain ⟨ps, ⟨g', t', cs, fuel, p, q, hg', ht', hvar, hd, hr, rfl⟩, hn, hm⟩ := h
  exact ⟨q, hr, (List.nodup_append.1 hn).2.1, fun b off hb => hm b off (List.mem_append_right _ hb)⟩
/-- What the condition says of the tables. -/
theorem globOk (W : World) (h : laidMet Tryd.prog Rows.ratioSumsRow.laid W) : GlobOk W := by
  have h0 : laidMet Tryd.prog (("math/bits.deBruijn32tab", Lib.tabData .u8 (tab 2)) :: ("math/bits.deBruijn64tab", Lib.tabData .u8 (tab 0)) :: ("internal/strconv.uint64pow10", Lib.tabData .u64 (tab 1)) :: []) W := h
  have hT0 := Lib.tabIs_of_head (g := 4) (t := 113) (e := 5) (n := 32) (by kernel_rfl) (by kernel_rfl) (by kernel_rfl) (by kernel_rfl) (by kernel_rfl) (by kernel_rfl) h0
  have h1 := laidMet_tail h0
  have hT1 := Lib.tabIs_of_head (g := 0) (t := 102) (e := 5) (n := 64) (by kernel_rfl) (by kernel_rfl) (by kernel_rfl) (by kernel_rfl) (by kernel_rfl) (by kernel_rfl) h1
  have h2 := laidMet_tail h1
  have hT2 := Lib.tabIs_of_head (g := 1) (t := 105) (e := 45) (n := 20) (by kernel_rfl) (by kernel_rfl) (by kernel_rfl) (by kernel_rfl) (by kernel_rfl) (by kernel_rfl) h2
  intro p hp i hi
  have hp' : p = (0, .u8, tab 0) ∨ p = (1, .u64, tab 1) ∨ p = (4, .u8, tab 2) := by
    have : globs = [(0, .u8, tab 0), (1, .u64, tab 1), (4, .u8, tab 2)] := rfl
    rw [this] at hp
    simpa using hp
  rcases hp' with rfl | rfl | rfl
  · have hc := hT1.cell (g := 0) (by kernel_rfl) i hi
    have e : (tab 0).getD i 0 = (tab 0)[i] := by rw [List.getD, List.getElem?_eq_getElem hi]; rfl
    rw [e] at hc
    exact hc
  · have hc := hT2.cell (g := 1) (by kernel_rfl) i hi
    have e : (tab 1).getD i 0 = (tab 1)[i] := by rw [List.getD, List.getElem?_eq_getElem hi]; rfl
    rw [e] at hc
    exact hc
  · have hc := hT0.cell (g := 4) (by kernel_rfl) i hi
    have e : (tab 2).getD i 0 = (tab 2)[i] := by rw [List.getD, List.getElem?_eq_getElem hi]; rfl
    rw [e] at hc
    exact hc
/-- The settled world, with the tables as they are laid. -/
noncomputable def laidWorld (os : Os) : World :=
  let w0 := World.holding Tryd.prog os ⟨#[], #[], []⟩
  { w0 with heap := (((w0.heap).modify 4 fun
      | .cells _ t frozen => .cells ((tab 2).map fun z => Value.int .u8 z).toArray t frozen
      | o => o).modify 0 fun
      | .cells _ t frozen => .cells ((tab 0).map fun z => Value.int .u8 z).toArray t frozen
      | o => o).modify 1 fun
      | .cells _ t frozen => .cells ((tab 1).map fun z => Value.int .u64 z).toArray t frozen
      | o => o }
theorem laid_met (os : Os) (args : Array Value) : laidMet Tryd.prog Rows.ratioSumsRow.laid ((laidWorld os).forCall (fun _ _ => 0) ⟨#[], args, []⟩).memory :=
  laidMet_of_run (ps := ((List.range 32).map fun i => .cell 4 i) ++ ((List.range 64).map fun i => .cell 0 i) ++ ((List.range 20).map fun i => .cell 1 i)) 8 (by kernel_rfl) (by kernel_rfl) (by kernel_rfl)
theorem lifted (os : Os) (started : os.Started) (H : Type) (enc : TypeId × Value → H) :
    ReturnsInHanded {} Tryd.checked os 5 .any (fun w args => (Rows.ratioSumsSpec.pre enc Tryd.prog Tryd.f5 Rows.ratioSumsRow.domain false w args ∧ laidMet Tryd.prog Rows.ratioSumsRow.laid w) ∧ sizedMet enc Tryd.prog Tryd.f5 (OpenSpec.ofChange Rows.ratioSumsSpec) false w args) (Rows.ratioSumsSpec.post enc Tryd.prog Tryd.f5 false true false false) :=
  law_ofL (C := Tryd.checked) (e := env) (sf := s5) (tb := 4) [.agg [.int .i64, .int .i64], .agg [.int .i64, .int .i64]] Rows.ratioSumsRow.laid own started (by kernel_rfl) Tryd.func5
    (ChangeSpec.witness_at (enc := enc) (C := Tryd.checked) (os := os) (X := fun w _ => laidMet Tryd.prog Rows.ratioSumsRow.laid w) false (laidWorld os) #[.agg #[.int .i64 0, .int .i64 0], .agg #[.int .i64 0, .int .i64 0]] 8 rfl (by kernel_rfl) (by kernel_rfl) (by kernel_rfl) (by kernel_rfl) (by kernel_rfl) (laid_met os _))
    rfl (fun ds hd => by match ds, hd with | [a, b], _ => rfl) (fitsArgs_ok (by kernel_rfl)) (by kernel_rfl) laidOut (by kernel_rfl) Tryd.underlying4 envOk rfl rfl sound inMachine globOk
theorem over : Rows.ratioSumsRow.holds Tryd.pinned (OpenSpec.ofChange Rows.ratioSumsSpec) :=
  OpenClaim.holds_of_wide 5 Tryd.f5 rfl rfl rfl rfl rfl rfl rfl ⟨rfl, rfl, rfl, rfl, rfl⟩ rfl rfl rfl rfl rfl (by kernel_rfl) Tryd.func5 (by kernel_rfl)
    (of_decide_eq_true (by kernel_rfl)) (by unfold Func.isWrapper; first | (rw [if_pos (by decide +kernel)]; kernel_rfl) | (rw [if_neg (by decide +kernel)]; exact ⟨rfl, rfl⟩))
    (fun os started H enc _ => lifted os started H enc)
theorem card : Claim7.holds Tryd.pinned (.plain (OpenSpec.ofChange Rows.ratioSumsSpec)) Rows.ratioSumsCard :=
  Claim7.holds_tied_plain_at .later [] [.data, .data, .data] true (true, "d947eede01930fd1dd2d2c8dce3e776fe80fc0644b7dc41905d1d494215f26ef") false
    over (fun _ h => by cases h) (by kernel_rfl) (fun _ h => by cases h) ratioSums_row_tie rfl ⟨rfl, rfl⟩ (by kernel_rfl) rfl
    (fun f fn hf hfn => by
      obtain rfl : f = 5 := Option.some.inj ((show Tryd.prog.funcNamed "pochoir/pochoirlaw03.RatioSums" = some 5 by kernel_rfl).symm.trans hf) |>.symm
      obtain rfl : fn = Tryd.f5 := (Option.some.inj (Tryd.func5.symm.trans hfn)).symm
      exact ⟨by kernel_rfl, fun j t ht => by
        rw [show Tryd.f5.params = #[24, 24] by kernel_rfl] at ht
        have hm : t ∈ [24, 24] := by simpa using Array.mem_of_getElem? ht
        have hall : ([24, 24].all fun u => !Tryd.prog.wantsStandIn u) = true := by kernel_rfl
        exact (show Tryd.prog.wantsStandIn t = false by simpa using List.all_eq_true.1 hall t hm)⟩)
    (by kernel_rfl)
end Go.Proofs.YtdlolhkeckjipaaDoor.ratioSums
namespace Go.Proofs.YtdlolhkeckjipaaDoor
/-- The card, under a short name, for the claim. -/
theorem ratioSums_holds : Rows.RatioSumsCardSaid := ratioSums.card
#print axioms ratioSums_holds
end Go.Proofs.YtdlolhkeckjipaaDoor
