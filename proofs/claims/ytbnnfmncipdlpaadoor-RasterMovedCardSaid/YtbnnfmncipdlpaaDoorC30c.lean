/- Chapter 30: atlases that may be. -/
import Derived.Test.YtbnnfmncipdlpaaDoorC30a
import Derived.Test.YtbnnfmncipdlpaaDoorC30b
set_option linter.unusedVariables false
set_option linter.unusedSimpArgs false
set_option maxRecDepth 100000
set_option maxHeartbeats 2000000
namespace Go.Proofs.YtbnnfmncipdlpaaDoor
open Go Go.Den
theorem slof_cell {α : Type} {H : Heap} {sz : Nat} {g : α → List AV} {v : AV} {l : List α} (h : SlOf H sz g v l) : v.cells = [v] ∧ v.one = true := by
  rcases h.kind with ⟨o, off, cap, row, h1, _⟩ | ⟨n, h1⟩ | ⟨h1, _⟩ <;> subst h1 <;> exact ⟨rfl, rfl⟩
structure Atl where
  em : Int
  px : Int
  rg : Int
  up : Int
  down : Int
  gap : Int
  w : Int
  h : Int
  gl : List Ent
  pr : List Pr
  pgs : List (List UInt8)
def StrC (l : List UInt8) : List AV := [.str (mkS l)]
def Atl.cs (a : Atl) (vg vp vs : AV) : List AV := [.int .i64 a.em, .int .i64 a.px, .int .i64 a.rg, .int .i64 a.up, .int .i64 a.down, .int .i64 a.gap, .int .i64 a.w, .int .i64 a.h, vg, vp, vs]
/-- The cells of an atlas, whose slices lie in a heap. -/
structure AtlOf (H : Heap) (a : Atl) (vg vp vs : AV) : Prop where
  gl : SlOf H 8 Ent.cs vg a.gl
  pr : SlOf H 2 Pr.cs vp a.pr
  pgs : SlOf H 1 StrC vs a.pgs
theorem AtlOf.app {H : Heap} {a : Atl} {vg vp vs : AV} (h : AtlOf H a vg vp vs) (X : Heap) : AtlOf (H ++ X) a vg vp vs := ⟨h.gl.app X, h.pr.app X, h.pgs.app X⟩
def NumOk (a : Atl) : Prop := 16 ≤ a.em ∧ a.em ≤ 16384 ∧ 1 ≤ a.px ∧ a.px ≤ 128 ∧ 1 ≤ a.rg ∧ a.rg ≤ 16 ∧ Short a.up ∧ Short a.down ∧ Short a.gap ∧ 1 ≤ a.w ∧ a.w ≤ 1024 ∧ 1 ≤ a.h ∧ a.h ≤ 1024 ∧ a.pgs.length ≤ 16 ∧ 1 ≤ a.gl.length ∧ a.gl.length ≤ 1024
instance (a : Atl) : Decidable (NumOk a) := by unfold NumOk; exact inferInstance
def MayA (a : Atl) : Prop := NumOk a ∧ (∀ s ∈ a.pgs, (s.length : Int) = 4 * a.w * a.h) ∧ (∀ e ∈ a.gl, OkE a.w a.h (a.pgs.length : Int) e) ∧ mayP a.pr (a.gl.length : Int) = true
instance (a : Atl) : Decidable (MayA a) := by unfold MayA; exact inferInstance
theorem c93 {H : Heap} {a : Atl} {vg vp vs : AV} (hs : AtlOf H a vg vp vs) : call env 93 [.agg (a.cs vg vp vs)] H = some (.bool (decide (NumOk a)), H) := by
  have z1 := slof_cell hs.gl
  have z2 := slof_cell hs.pr
  have z3 := slof_cell hs.pgs
  simp only [AV.cells, AV.one] at z1 z2 z3
  have l1 := hs.gl.lenOf
  have l3 := hs.pgs.lenOf
  obtain ⟨em, px, rg, up, down, gap, w, h, gl, pr, pgs⟩ := a
  simp only [Atl.cs] at *
  have hgen : ∀ n m : Nat, gl.length = n → pgs.length = m → call env 93 [.agg [.int .i64 em, .int .i64 px, .int .i64 rg, .int .i64 up, .int .i64 down, .int .i64 gap, .int .i64 w, .int .i64 h, vg, vp, vs]] H = some (.bool (decide (NumOk ⟨em, px, rg, up, down, gap, w, h, gl, pr, pgs⟩)), H) := by
    intro n m hn hm
    have hno : decide (NumOk ⟨em, px, rg, up, down, gap, w, h, gl, pr, pgs⟩) = decide ((16 ≤ em ∧ em ≤ 16384) ∧ (1 ≤ px ∧ px ≤ 128) ∧ (1 ≤ rg ∧ rg ≤ 16) ∧ Short up ∧ Short down ∧ Short gap ∧ (1 ≤ w ∧ w ≤ 1024) ∧ (1 ≤ h ∧ h ≤ 1024) ∧ (m : Int) ≤ 16 ∧ (1 ≤ (n : Int) ∧ (n : Int) ≤ 1024)) := by
      apply decide_eq_decide.2
      unfold NumOk
      simp only [hn, hm]
      constructor
      · rintro ⟨h1, h2, h3, h4, h5, h6, h7, h8, h9, h10, h11, h12, h13, h14, h15, h16⟩
        exact ⟨⟨h1, h2⟩, ⟨h3, h4⟩, ⟨h5, h6⟩, h7, h8, h9, ⟨h10, h11⟩, ⟨h12, h13⟩, by omega, by omega, by omega⟩
      · rintro ⟨⟨h1, h2⟩, ⟨h3, h4⟩, ⟨h5, h6⟩, h7, h8, h9, ⟨h10, h11⟩, ⟨h12, h13⟩, h14, h15, h16⟩
        exact ⟨h1, h2, h3, h4, h5, h6, h7, h8, h9, h10, h11, h12, h13, by omega, by omega, by omega⟩
    rw [hno]
    rw [hn] at l1
    rw [hm] at l3
    clear hno hn hm hs
    refine call_ends (fn := s93) rfl rfl (by simp [s93]) ?_
    have hh : True := trivial
    have hk : True := trivial
    have hj : True := trivial
    simp only [s93]
    repeat' (first
      | simp only [R1, R2, R3, R4, R5, R6, R7, R8, AV.flat, fillIn_nil, fillIn_cons, splice, AV.cells, AV.one, eqsOf, idx, SO.calls, List.reduceReplicate, Nat.reduceBEq, Nat.reduceLT, Nat.reduceAdd, Nat.reduceMul, Nat.reduceSub, Nat.reduceLeDiff, Nat.reduceEqDiff, ↓reduceIte, Int.reduceLT, Int.reduceEq, Int.reduceBNe, Int.reduceBEq, aeq, Int.reduceLE, Int.reduceNeg, Int.reduceMul, Int.reduceAdd, Int.reduceSub, Int.reduceToNat, Int.reducePow, hh, hk, hj, tidy_bool', c109, c110, z1, z2, z3, l1, l3]
      | simp (disch := omega) only [wrap_i64]
      | (simp only [gets_guard, gets_guardd, endsIf_any]; split <;> rename_i hk <;> (try simp only [Bool.not_eq_true] at hk) <;> (have hh := hk) <;> (have hj := hk) <;> (try simp only [Bool.not_eq_true', Bool.not_eq_false'] at hj) <;> (try simp only [decide_eq_true_eq, Bool.not_eq_true, decide_eq_false_iff_not, Bool.not_eq_true', Bool.not_eq_false', Bool.and_eq_true, Bool.or_eq_true, beq_iff_eq, bne_iff_ne, ne_eq] at hh)))
    all_goals grind
  exact hgen _ _ rfl rfl
end Go.Proofs.YtbnnfmncipdlpaaDoor
