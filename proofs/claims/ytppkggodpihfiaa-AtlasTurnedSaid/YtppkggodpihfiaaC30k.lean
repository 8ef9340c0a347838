/- Chapter 30: the beginning of an atlas; how many bytes. -/
import Derived.Test.YtppkggodpihfiaaC30j
set_option linter.unusedVariables false
set_option linter.unusedSimpArgs false
set_option maxRecDepth 100000
set_option maxHeartbeats 2000000
namespace Go.Proofs.Ytppkggodpihfiaa
open Go Go.Den
/-- What an atlas begins with. -/
def hdA (p : List UInt8) : Atl := ⟨(n2 p 6 : Nat), (n2 p 8 : Nat), (n2 p 10 : Nat), sg16 (n2 p 12), sg16 (n2 p 14), sg16 (n2 p 16), (n2 p 18 : Nat), (n2 p 20 : Nat), [], [], []⟩
def cntC (p : List UInt8) : List AV := [.int .i64 (n2 p 22 : Nat), .int .i64 (n2 p 24 : Nat), .int .i64 (n4 p 26 : Nat)]
theorem c63 {B : Nat → Heap} {o : Nat} {p : List UInt8} {N : Nat} (h : RdrE 146 B o p N) (hp : p.length ≤ 1000000) (hl : 34 ≤ p.length) :
    call env 63 [.ptr o 0] (B 6) = some (.tup [.agg ((hdA p).cs .nils .nils .nils), .agg (cntC p)], B 30) := by
  have hB := fam h.len
  have e1 : ∀ X, call env 89 [.ptr o 0] (B 6 ++ X) = some (.int .i64 (n2 p 6 : Nat), B 8 ++ X) := fun X => r_u16 (h.app X) hp (a := 6) (by omega)
  have e2 : ∀ X, call env 89 [.ptr o 0] (B 8 ++ X) = some (.int .i64 (n2 p 8 : Nat), B 10 ++ X) := fun X => r_u16 (h.app X) hp (a := 8) (by omega)
  have e3 : ∀ X, call env 89 [.ptr o 0] (B 10 ++ X) = some (.int .i64 (n2 p 10 : Nat), B 12 ++ X) := fun X => r_u16 (h.app X) hp (a := 10) (by omega)
  have e4 : ∀ X, call env 90 [.ptr o 0] (B 12 ++ X) = some (.int .i64 (sg16 (n2 p 12)), B 14 ++ X) := fun X => r_i16 (h.app X) hp (a := 12) (by omega)
  have e5 : ∀ X, call env 90 [.ptr o 0] (B 14 ++ X) = some (.int .i64 (sg16 (n2 p 14)), B 16 ++ X) := fun X => r_i16 (h.app X) hp (a := 14) (by omega)
  have e6 : ∀ X, call env 90 [.ptr o 0] (B 16 ++ X) = some (.int .i64 (sg16 (n2 p 16)), B 18 ++ X) := fun X => r_i16 (h.app X) hp (a := 16) (by omega)
  have e7 : ∀ X, call env 89 [.ptr o 0] (B 18 ++ X) = some (.int .i64 (n2 p 18 : Nat), B 20 ++ X) := fun X => r_u16 (h.app X) hp (a := 18) (by omega)
  have e8 : ∀ X, call env 89 [.ptr o 0] (B 20 ++ X) = some (.int .i64 (n2 p 20 : Nat), B 22 ++ X) := fun X => r_u16 (h.app X) hp (a := 20) (by omega)
  have e9 : ∀ X, call env 89 [.ptr o 0] (B 22 ++ X) = some (.int .i64 (n2 p 22 : Nat), B 24 ++ X) := fun X => r_u16 (h.app X) hp (a := 22) (by omega)
  have e10 : ∀ X, call env 89 [.ptr o 0] (B 24 ++ X) = some (.int .i64 (n2 p 24 : Nat), B 26 ++ X) := fun X => r_u16 (h.app X) hp (a := 24) (by omega)
  have e11 : ∀ X, call env 91 [.ptr o 0] (B 26 ++ X) = some (.int .u32 (n4 p 26 : Nat), B 30 ++ X) := fun X => r_U32 (h.app X) hp (a := 26) (by omega)
  have w := wrap_i64 (x := (n4 p 26 : Nat)) (by omega) (by have := n4_lt p 26; omega)
  have ti := fun X => @tidy_rd _ B o p N h 6 30 X [.agg ((hdA p).cs .nils .nils .nils), .agg (cntC p)] rfl
  simp only [hdA, Atl.cs, cntC] at ti ⊢
  refine call_ends (fn := s63) rfl rfl (by simp [s63]) ?_
  simp only [s63, R1, R2, R3, R4, R5, R6, R7, R8, AV.flat, fillIn_nil, fillIn_cons, splice, AV.cells, AV.one, eqsOf, idx, SO.calls, List.reduceReplicate, Nat.reduceBEq, Nat.reduceLT, Nat.reduceAdd, Nat.reduceMul, Nat.reduceSub, Nat.reduceLeDiff, Nat.reduceEqDiff, ↓reduceIte, Int.reduceLT, Int.reduceEq, Int.reduceBNe, Int.reduceBEq, aeq, Int.reduceLE, Int.reduceNeg, Int.reduceMul, Int.reduceAdd, Int.reduceSub, Int.reduceToNat, Int.reducePow, hB, e1, e2, e3, e4, e5, e6, e7, e8, e9, e10, e11, w, shun_un, veil_un, ti]
def sizeP (w h P G R : Nat) : Nat := 34 + 20 * G + 6 * R + 4 * w * h * P
theorem c64 (w h P G R : Nat) (hw : w ≤ 65535) (hh : h ≤ 65535) (hP : P ≤ 16) (hG : G ≤ 1024) (hR : R ≤ 4096) (H : Heap) :
    call env 64 [.agg [.int .i64 (P : Int), .int .i64 (G : Int), .int .i64 (R : Int)], .agg [.int .i64 (w : Int), .int .i64 (h : Int)]] H = some (.int .i64 (sizeP w h P G R : Nat), H) := by
  have m1 : w * h ≤ 65535 * 65535 := Nat.mul_le_mul hw hh
  have m2 : 4 * w * h = 4 * (w * h) := Nat.mul_assoc _ _ _
  have m3 : 4 * w * h * P ≤ 4 * (65535 * 65535) * 16 := Nat.mul_le_mul (by omega) hP
  have c1 : 4 * (w : Int) * (h : Int) = ((4 * w * h : Nat) : Int) := by push_cast; rfl
  have c2 : 4 * (w : Int) * (h : Int) * (P : Int) = ((4 * w * h * P : Nat) : Int) := by push_cast; rfl
  have w1 := wrap_i64 (x := 20 * (G : Int)) (by omega) (by omega)
  have w2 := wrap_i64 (x := 34 + 20 * (G : Int)) (by omega) (by omega)
  have w3 := wrap_i64 (x := 6 * (R : Int)) (by omega) (by omega)
  have w4 := wrap_i64 (x := 34 + 20 * (G : Int) + 6 * (R : Int)) (by omega) (by omega)
  have w5 := wrap_i64 (x := 4 * (w : Int)) (by omega) (by omega)
  have w6 := wrap_i64 (x := 4 * (w : Int) * (h : Int)) (by omega) (by omega)
  have w7 := wrap_i64 (x := 4 * (w : Int) * (h : Int) * (P : Int)) (by omega) (by omega)
  have w8 := wrap_i64 (x := 34 + 20 * (G : Int) + 6 * (R : Int) + 4 * (w : Int) * (h : Int) * (P : Int)) (by omega) (by omega)
  have hs : ((sizeP w h P G R : Nat) : Int) = 34 + 20 * (G : Int) + 6 * (R : Int) + 4 * (w : Int) * (h : Int) * (P : Int) := by rw [c2]; unfold sizeP; omega
  rw [hs]
  refine call_ends (fn := s64) rfl rfl (by simp [s64]) ?_
  simp only [s64, R1, R2, R3, R4, R5, R6, R7, R8, AV.flat, fillIn_nil, fillIn_cons, splice, AV.cells, AV.one, eqsOf, idx, SO.calls, List.reduceReplicate, Nat.reduceBEq, Nat.reduceLT, Nat.reduceAdd, Nat.reduceMul, Nat.reduceSub, Nat.reduceLeDiff, Nat.reduceEqDiff, ↓reduceIte, Int.reduceLT, Int.reduceEq, Int.reduceBNe, Int.reduceBEq, aeq, Int.reduceLE, Int.reduceNeg, Int.reduceMul, Int.reduceAdd, Int.reduceSub, Int.reduceToNat, Int.reducePow, w1, w2, w3, w4, w5, w6, w7, w8, tidy_int']
end Go.Proofs.Ytppkggodpihfiaa
