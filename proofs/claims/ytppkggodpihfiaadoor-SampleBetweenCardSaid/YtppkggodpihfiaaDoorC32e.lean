/- Chapter 32: the law of samples. -/
import Derived.Test.YtppkggodpihfiaaDoorC32d
import Derived.Test.YtppkggodpihfiaaDoorC30i
set_option linter.unusedVariables false
set_option linter.unusedSimpArgs false
set_option maxRecDepth 100000
set_option maxHeartbeats 8000000
namespace Go.Den
section
variable {cl : CL} {t : List AV} {H : Heap} {d : Option Nat} {o : SO} {r : List SOp} {i : Nat} {m : List (Nat × Nat × Nat)}
/-- An operation with a guard that leaves be what is looked at. -/
def guardA (b : Bool) (o : SO) (ap : List (Option (Nat × Bool) × SX)) (cl : CL) (i : Nat) (m : List (Nat × Nat × Nat)) (d : Option Nat) (r : List SOp) (t : List AV) (H : Heap) : Option (List AV × Heap) :=
  if b = true then thenAllA cl i m ap (sop cl t H o) d r t H else opsd cl (i + 1) m r (put t d .undef) H
theorem opsd_ga {g p l} : opsd cl i m (⟨d, o, some g, none, p :: l⟩ :: r) t H = guardA (wants t (some g)) o (p :: l) cl i m d r t H := _root_.id rfl
theorem guardA_t {ap} : guardA true o ap cl i m d r t H = thenAllA cl i m ap (sop cl t H o) d r t H := _root_.id rfl
theorem guardA_f {ap} : guardA false o ap cl i m d r t H = opsd cl (i + 1) m r (put t d .undef) H := _root_.id rfl
end
end Go.Den
namespace Go.Proofs.YtppkggodpihfiaaDoor
open Go Go.Den
theorem at_four (a : Atl) (n x y : Int) : ∃ p0 p1 p2 p3 : Int, atC a n x y = [.int .i64 p0, .int .i64 p1, .int .i64 p2, .int .i64 p3] ∧ (0 ≤ p0 ∧ p0 ≤ 100000000) ∧ (0 ≤ p1 ∧ p1 ≤ 100000000) ∧ (0 ≤ p2 ∧ p2 ≤ 100000000) ∧ 0 ≤ p3 ∧ p3 ≤ 100000000 := by
  unfold atC
  by_cases hask : AskA a n
  · rw [if_pos hask]
    by_cases hin : InC (entA a n) x y
    · rw [if_pos hin]
      have ok := ent_ok hask hin.1
      generalize entA a n = e at *
      obtain ⟨_, h1, h2⟩ := hin
      have cx := cutI_ok (x := x) (n := e.c.w) (by omega) ok.w.1 (by omega)
      have cy := cutI_ok (x := y) (n := e.c.h) (by omega) ok.h.1 (by omega)
      have hb : ∀ c, 0 ≤ bilI a e x y c ∧ bilI a e x y c ≤ 100000000 := fun c => by
        have h3 := row_le a e.pg (e.x + cutI x e.c.w) (e.y + cutI y e.c.h) (u := x - 256 * cutI x e.c.w) (by omega) c
        have h4 := row_le a e.pg (e.x + cutI x e.c.w) (e.y + (cutI y e.c.h + 1)) (u := x - 256 * cutI x e.c.w) (by omega) c
        have := (mix_le h3 h4 (u := y - 256 * cutI y e.c.h) (by omega)).2.2
        unfold bilI
        omega
      exact ⟨_, _, _, _, rfl, hb 0, hb 1, hb 2, hb 3⟩
    · rw [if_neg hin]
      exact ⟨0, 0, 0, 0, rfl, by omega, by omega, by omega, by omega⟩
  · rw [if_neg hask]
    exact ⟨0, 0, 0, 0, rfl, by omega, by omega, by omega, by omega⟩
theorem c3 {a : Atl} {vg vp vs : AV} (hs : AtlOf [] a vg vp vs) (hp : a.pgs.length ≤ 9223372036854775807) (n x y : Int) : ∃ H', call env 3 [.agg (a.cs vg vp vs), .agg [.int .i64 n, .int .i64 x, .int .i64 y]] [] = some (.bool true, H') := by
  have z1 := slof_cell hs.gl
  have z2 := slof_cell hs.pr
  have z3 := slof_cell hs.pgs
  simp only [AV.cells, AV.one] at z1 z2 z3
  suffices h : ∃ r, call env 3 [.agg (a.cs vg vp vs), .agg [.int .i64 n, .int .i64 x, .int .i64 y]] [] = some r ∧ r.1 = .bool true by
    obtain ⟨⟨a, b⟩, h1, rfl⟩ := h
    exact ⟨b, h1⟩
  refine call_endsE (fn := s3) rfl rfl (by simp [s3]) fun W hW => ?_
  have fin : ∀ X : Heap, W (tidy [] (.bool true) X) := fun X => hW _ (by rw [tidy_law])
  have hsX := fun X => hs.app X
  simp only [List.nil_append] at hsX
  have eF := fun X => c7 (hsX X) hp
  by_cases hf : FewA a
  rotate_left
  · rw [decide_eq_false hf] at eF
    simp only [Atl.cs] at eF ⊢
    simp only [s3, R1, R2, R3, R4, R5, R6, R7, R8, AV.flat, fillIn_nil, fillIn_cons, splice, AV.cells, AV.one, eqsOf, idx, SO.calls, List.reduceReplicate, Nat.reduceBEq, Nat.reduceLT, Nat.reduceAdd, Nat.reduceMul, Nat.reduceSub, Nat.reduceLeDiff, Nat.reduceEqDiff, ↓reduceIte, Int.reduceLT, Int.reduceEq, Int.reduceBNe, Int.reduceBEq, aeq, Int.reduceLE, Int.reduceNeg, Int.reduceMul, Int.reduceAdd, Int.reduceSub, Int.reduceToNat, Int.reducePow, w6, z1, z2, z3, eF, leftE_ret, got_some]
    first | exact fin [] | exact fin _
  rw [decide_eq_true hf] at eF
  have f1 := hf.1
  have f2 := hf.2.2.1
  have f3 := hf.2.2.2
  have e1 := fun X => c8 (hsX X) (by omega) (fun s h => by have := f1 s h; omega) n x y
  have e2 := fun X => c9 (hsX X) (by omega) (by omega) (fun s h => by have := f1 s h; omega) n x y
  obtain ⟨p0, p1, p2, p3, hat, b0, b1, b2, b3⟩ := at_four a n x y
  rw [hat] at e1 e2
  generalize atE a n x y = E at *
  have e3 := fun H => c10 p0 p1 p2 p3 H
  have e4 := fun H => c11 p0 b1 b2 b3 H
  have c0 : aeqs [1, 1, 1, 1] [.int .i64 p0, .int .i64 p1, .int .i64 p2, .int .i64 p3] [.int .i64 p0, .int .i64 p1, .int .i64 p2, .int .i64 p3] = some true := by simp [aeqs]
  have c1 : ∀ z : Int, (z == z) = true := fun z => by simp
  simp only [Atl.cs] at eF e1 e2 ⊢
  simp only [s3, R1, R2, R3, R4, R5, R6, R7, R8, AV.flat, fillIn_nil, fillIn_cons, splice, AV.cells, AV.one, eqsOf, idx, SO.calls, List.reduceReplicate, Nat.reduceBEq, Nat.reduceLT, Nat.reduceAdd, Nat.reduceMul, Nat.reduceSub, Nat.reduceLeDiff, Nat.reduceEqDiff, ↓reduceIte, Int.reduceLT, Int.reduceEq, Int.reduceBNe, Int.reduceBEq, aeq, Int.reduceLE, Int.reduceNeg, Int.reduceMul, Int.reduceAdd, Int.reduceSub, Int.reduceToNat, Int.reducePow, w6, z1, z2, z3, eF, e1, e2, e3, e4, c0, c1, opsd_ga, guardA_t, guardA_f, veil_un, shun_un, leftE_ret, got_some]
  first | exact fin [] | exact fin _
end Go.Proofs.YtppkggodpihfiaaDoor
